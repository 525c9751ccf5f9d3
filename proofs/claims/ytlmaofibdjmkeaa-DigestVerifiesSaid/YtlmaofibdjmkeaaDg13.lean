/- The reference of digest: Check, leaves, above. -/
import Derived.Test.YtlmaofibdjmkeaaDg11
namespace Go.Proofs.Ytlmaofibdjmkeaa
open Go.RowKit
attribute [local go_sem ↓] Go.wp_at_zero Go.wp_at_succ
theorem rCheck_any (k m x : ByteArray) (w : World) (hk : k.size ≤ 1000000000000) (hm : m.size ≤ 1000000000000) :
    Calls Try.prog 19 #[.string k, .string m, .string x] w fun e w' => e = .returned (.bool (decide (k.size ≠ 0 ∧ x.data.toList = markS k m))) ∧ Below w.heap.size w w' := by
  by_cases hk0 : k.size = 0
  · have hk1 : k = ⟨#[]⟩ := by
      apply ByteArray.ext
      exact Array.eq_empty_of_size_eq_zero hk0
    subst hk1
    go_enter Try.func19, Try.ntmps19
    go_wp2_with fail
    go_ret
    exact ⟨ret_bool (by rw [eq_comm, decide_eq_false_iff_not]; exact fun h => h.1 hk0), Below.refl _ _⟩
  · have t0 : k.toList.isEmpty = false := by
      rw [ByteArray.toList_eq, List.isEmpty_eq_false_iff]
      intro h
      have := congrArg List.length h
      rw [data_len] at this
      exact hk0 this
    have t1 : ¬ k.toList = [] := fun h => by rw [h] at t0; cases t0
    have hc := rMark_any k m w hk hm
    replace hk0 := hide hk0; replace hc := hide hc
    go_enter Try.func19, Try.ntmps19
    go_wp2_with fail
    refine (unhide hc).mono ?_
    rintro e w1 ⟨rfl, h1⟩
    obtain ⟨D, hD⟩ : ∃ D : ByteArray, (⟨(markS k m).toArray⟩ : ByteArray) = D := ⟨_, rfl⟩
    rw [hD]
    have heq : (x.toList == D.toList) = decide (k.size ≠ 0 ∧ x.data.toList = markS k m) := by
      rw [Bool.eq_iff_iff, beq_iff_eq, decide_eq_true_eq, ByteArray.toList_eq, ByteArray.toList_eq, ← hD]
      exact ⟨fun h => ⟨unhide hk0, by simpa using h⟩, fun h => by simpa using h.2⟩
    replace heq := hide heq; replace hD := hide hD
    go_wp2_with fail
    go_ret
    exact ⟨ret_bool (unhide heq), h1⟩
def digS (l : List (List UInt8)) : List Value := l.map fun d => vba ⟨d.toArray⟩
theorem digS_snoc (l : List (List UInt8)) (d : List UInt8) : digS (l ++ [d]) = digS l ++ [vba ⟨d.toArray⟩] := by simp [digS]
theorem one_new (w : World) (v : Value) {T : Nat} : ∀ (j : Nat) (u : Value), [v][j]? = some u → (w.alloc (Obj.cells #[v] T)).cell? ((⟨w.heap.size, 0, none⟩ : Addr).add j) = some u := by
  intro j u hj
  cases j with
  | zero => simp at hj; subst hj; rw [Addr.add_lit, cell_of_row _ _ _ _ _ _ (heap_alloc_new w _)]; rfl
  | succ j => simp at hj
theorem T_of : ∀ n : Fin 33, ∀ e : Fin 6, (e.val = 0 ∨ 2 ^ (e.val - 1) < n.val) → n.val ≤ 2 ^ e.val → 2 ^ e.val = Dg.T n.val := by decide +kernel
theorem e_of : ∀ n : Fin 33, ∀ e : Fin 6, 2 ^ e.val < n.val → e.val + 1 ≤ 5 := by decide +kernel
set_option maxRecDepth 100000 in
set_option maxHeartbeats 4000000 in
theorem rleaves_any (a : Option Addr) (len cap : Nat) (L : List ByteArray) (w : World) (hL : Lst Enc.str w (fun b => b < w.heap.size) a len L) (hlen : len ≤ 32) (hxs : ∀ x ∈ L, x.size ≤ 1000000000000) :
    Calls Try.prog 37 #[.slice a len cap] w fun e w' => (∃ v, e = .returned v ∧ w'.ownsRow w.heap.size 9 1 v (Dg.lev0 (L.map fun s => s.data.toList)).length (digS (Dg.lev0 (L.map fun s => s.data.toList)))) ∧ Below w.heap.size w w' := by
  obtain ⟨i1, hi, hz0, hz1, hz2⟩ := info_parts info_str
  have hL0 := hL.1
  replace hL := hide hL; replace hL0 := hide hL0; replace hxs := hide hxs
  replace hi := hide hi; replace hz0 := hide hz0; replace hz1 := hide hz1; replace hz2 := hide hz2
  go_enter Try.func37, Try.ntmps37
  go_wp2_with fail
  go_loopw [3, 4] (fun v3 v4 wr => ∃ k : Nat, k ≤ len ∧ v4 = .int .i64 (k : Int) ∧ wr.ownsRow w.heap.size 9 1 v3 k (digS (lvs L k 0)) ∧ Below w.heap.size w wr) (fun _ v _ => (len - intOf v).toNat)
  case atStart => exact ⟨0, by omega, rfl, World.ownsRow_nil _ _ _ _, Below.refl _ _⟩
  case round =>
    obtain ⟨k, hk, rfl, hown, hb⟩ := hrel
    by_cases hlt : k < len
    · obtain ⟨bb, off, x, rfl, hbb, hx, hxi, hc⟩ := lst_str ((unhide hL).under hb) hlt
      have hstep := lvs_step L k x hx
      have hlf := fun w => rLeaf_any x w (unhide hxs x (List.mem_of_getElem? hx))
      obtain ⟨D, hDD⟩ : ∃ D, leafB x = D := ⟨_, rfl⟩
      rw [hDD] at hstep hlf
      replace hlf := hide hlf; replace hstep := hide hstep; replace hDD := hide hDD
      clear hx hxi
      go_wp2_with fail
      refine (unhide hlf wr).mono ?_
      rintro e w2 ⟨rfl, hb2⟩
      have hown2 := own_below hown hb2
      have hbw := hb.trans (hb2.mono hb.size)
      have hz := hbw.size
      clear hb2 hown
      go_wp2_with (at_builtin; refine wpList_append_own _ rfl _ _ 28 rfl w.heap.size 9 i1 (.string ⟨#[]⟩) 1 16 Try.underlying28 (unhide hi) (unhide hz0) (unhide hz1) (unhide hz2) rfl (by decide) _ _ _ rfl (hown2.alloc _) ⟨w2.heap.size, 0, none⟩ 1 1 [.string ⟨D.toArray⟩] rfl rfl ?c1 ?c2 ?c3 ?c4 ?c5 ?_)
      case c1 => exact one_new _ _
      case c2 => intro u hu; simp at hu; subst hu; rfl
      case c3 => unfold maxLen; omega
      case c4 => omega
      case c5 => simp; omega
      intro v' w3 hown3 hg3 _
      have hb3 : Below w.heap.size w w3 := Below.grown (hbw.alloc hz (Obj.cells #[.string ⟨D.toArray⟩] 9)) hg3 (by simp; omega) (fun g hg => (hown2.lt g hg).1)
      clear hg3 hown2 hbw
      go_wp2_with fail
      go_roundw
      case rel => exact ⟨k + 1, by omega, by go_num, by rw [unhide hstep, digS_snoc]; exact hown3, hb3⟩
      case measure => simp [intOf]; omega
    · obtain rfl : k = len := by omega
      have hT := Dg.T_ge k (by omega)
      have hof := fun w => rOf_any ⟨#[118]⟩ w (by decide)
      replace hof := hide hof
      clear hlt
      go_wp2_with fail
      obtain ⟨wo, rfl⟩ : ∃ wo : World, wo = wr := ⟨_, rfl⟩
      go_loop [5] (fun v5 => ∃ e : Nat, e ≤ 5 ∧ v5 = .int .i64 ((2 ^ e : Nat) : Int) ∧ (e = 0 ∨ 2 ^ (e - 1) < k)) (fun v => (64 - intOf v).toNat)
      case atStart => exact ⟨0, by omega, rfl, Or.inl rfl⟩
      case round =>
        obtain ⟨e, he, rfl, hr⟩ := hrel
        have hpow : 2 ^ e ≤ 32 := Nat.pow_le_pow_right (n := 2) (by omega) he
        by_cases hlt : 2 ^ e < k
        · have he1 := e_of ⟨k, by omega⟩ ⟨e, by omega⟩ hlt
          have hn : 2 ^ (e + 1) = 2 * 2 ^ e := by rw [Nat.pow_succ]; omega
          have hp1 : 1 ≤ 2 ^ e := Nat.one_le_two_pow
          obtain ⟨N, hN⟩ : ∃ N, 2 ^ e = N := ⟨_, rfl⟩
          rw [hN] at hlt hn hpow hp1 ⊢
          replace hn := hide hn; replace hN := hide hN
          go_wp2_with fail
          go_round
          case rel => exact ⟨e + 1, by omega, by rw [unhide hn]; exact by go_num, Or.inr (by rw [Nat.add_sub_cancel, unhide hN]; exact hlt)⟩
          case measure => simp [intOf]; omega
        · have hTe := T_of ⟨k, by omega⟩ ⟨e, by omega⟩ hr (by simp only; omega)
          simp only at hTe
          rw [hTe] at hlt hpow ⊢
          obtain ⟨N, hN⟩ : ∃ N, Dg.T k = N := ⟨_, rfl⟩
          rw [hN] at hlt hpow hT ⊢
          clear hTe hr
          go_wp2_with fail
          obtain ⟨va, vc, rfl⟩ := own_shape hown
          go_loopw [3] (fun v3 wr => ∃ q : Nat, k ≤ q ∧ q ≤ N ∧ wr.ownsRow w.heap.size 9 1 v3 q (digS (lvs L k (q - k))) ∧ Below w.heap.size w wr) (fun v _ => N - lenOf v)
          case atStart => exact ⟨k, by omega, by omega, by rw [Nat.sub_self]; exact hown, hb⟩
          case round =>
            obtain ⟨q, hq1, hq2, hown, hb⟩ := hrel
            obtain ⟨va, vc, rfl⟩ := own_shape hown
            by_cases hqN : q = N
            · subst hqN
              have t1 : ¬ (q : Int) < (q : Int) := by omega
              go_wp2_with fail
              go_ret
              have hlev0 : lvs L k (q - k) = Dg.lev0 (L.map fun s => s.data.toList) := by
                rw [Dg.lev0, List.length_map, unhide hL0, hN, List.map_map]
                unfold lvs
                rw [List.take_of_length_le (by rw [unhide hL0]; exact Nat.le_refl _)]
                rfl
              have hll : (Dg.lev0 (L.map fun s => s.data.toList)).length = q := by rw [Dg.lev0_len _ (by rw [List.length_map, unhide hL0]; exact hlen), List.length_map, unhide hL0, hN]
              rw [hlev0] at hown
              exact ⟨⟨_, rfl, by rw [hll]; exact hown⟩, hb⟩
            · have hqlt : q < N := by omega
              have t1 : (q : Int) < (N : Int) := by omega
              have hmore := lvs_more L k (q - k)
              rw [show q - k + 1 = q + 1 - k by omega] at hmore
              obtain ⟨D, hDD⟩ : ∃ D, Dg.miss = D := ⟨_, rfl⟩
              have hof' : ∀ w, Calls Try.prog 13 #[.string ⟨#[118]⟩] w fun e w' => e = .returned (.string ⟨D.toArray⟩) ∧ Below w.heap.size w w' := fun w => by
                have := unhide hof w
                rw [← hDD]
                exact this
              rw [hDD] at hmore
              replace hmore := hide hmore; replace hof' := hide hof'; replace hDD := hide hDD
              go_wp2_with fail
              refine (unhide hof' _).mono ?_
              rintro e w2 ⟨rfl, hb2⟩
              have hown2 := own_below hown hb2
              have hbw := hb.trans (hb2.mono hb.size)
              have hz := hbw.size
              clear hb2 hown
              go_wp2_with (at_builtin; refine wpList_append_own _ rfl _ _ 28 rfl w.heap.size 9 i1 (.string ⟨#[]⟩) 1 16 Try.underlying28 (unhide hi) (unhide hz0) (unhide hz1) (unhide hz2) rfl (by decide) _ _ _ rfl (hown2.alloc _) ⟨w2.heap.size, 0, none⟩ 1 1 [.string ⟨D.toArray⟩] rfl rfl ?d1 ?d2 ?d3 ?d4 ?d5 ?_)
              case d1 => exact one_new _ _
              case d2 => intro u hu; simp at hu; subst hu; rfl
              case d3 => unfold maxLen; omega
              case d4 => omega
              case d5 => simp; omega
              intro v' w3 hown3 hg3 _
              have hb3 : Below w.heap.size w w3 := Below.grown (hbw.alloc hz (Obj.cells #[.string ⟨D.toArray⟩] 9)) hg3 (by simp; omega) (fun g hg => (hown2.lt g hg).1)
              obtain ⟨va', vc', rfl⟩ := own_shape hown3
              clear hg3 hown2 hbw
              go_wp2_with fail
              go_roundw
              case rel => exact ⟨q + 1, by omega, by omega, by rw [unhide hmore, digS_snoc]; exact hown3, hb3⟩
              case measure => simp [lenOf]; omega
end Go.Proofs.Ytlmaofibdjmkeaa
