/- The reference of digest: Root, neighbour, Prove. -/
import Derived.Test.YtlmaofibdjmkeaaDg14
namespace Go.Proofs.Ytlmaofibdjmkeaa
open Go.RowKit
attribute [local go_sem ↓] Go.wp_at_zero Go.wp_at_succ
theorem own_level {w : World} {base : Nat} {T : TypeId} {v : Value} {l : List (List UInt8)} (h : w.ownsRow base T 1 v l.length (digS l)) (hall : ∀ d ∈ l, d.length = 8) :
    ∃ a c, v = .slice a l.length c ∧ Lst Enc.str w (fun b => b < w.heap.size ∧ base ≤ b) a l.length (l.map mkS) := by
  rw [digS_vba] at h
  obtain ⟨a, c, hv, hl⟩ := lst_own_vba h (fun x hx => by
    obtain ⟨d, hd, rfl⟩ := List.mem_map.1 hx
    show d.toArray.size ≤ maxLen
    rw [List.size_toArray, hall d hd]
    decide)
  rw [List.length_map] at hv hl
  exact ⟨a, c, hv, hl⟩
theorem own_cap {w : World} {base : Nat} {T s : Nat} {v : Value} {n m : Nat} {xs : List Value} {a : Option Addr} {c : Nat} (h : w.ownsRow base T s v n xs) (hv : v = .slice a m c) : m ≤ c := by
  subst hv
  rcases h.2 with ⟨h1, _⟩ | ⟨g, cap, cur, h1, _, _, h2, _⟩
  · injection h1 with _ h3 h4
    omega
  · injection h1 with _ h3 h4
    omega
set_option maxRecDepth 100000 in
set_option maxHeartbeats 4000000 in
theorem rroot_any (a : Option Addr) (len cap : Nat) (L : List ByteArray) (w : World) (hL : Lst Enc.str w (fun b => b < w.heap.size) a len L) (hlen : len ≤ 32) (hxs : ∀ x ∈ L, x.size ≤ 1000000000000) :
    Calls Try.prog 26 #[.slice a len cap] w fun e w' => e = .returned (.string ⟨(Dg.top (L.map fun s => s.data.toList)).toArray⟩) ∧ Below w.heap.size w w' := by
  have hlv := rleaves_any a len cap L w hL hlen hxs
  obtain ⟨Lb, hLb⟩ : ∃ Lb, (L.map fun s => s.data.toList) = Lb := ⟨_, rfl⟩
  have hLl : Lb.length ≤ 32 := by rw [← hLb, List.length_map, hL.1]; exact hlen
  rw [hLb] at hlv ⊢
  replace hlv := hide hlv; replace hLb := hide hLb; replace hLl := hide hLl
  clear hL hxs
  go_enter Try.func26, Try.ntmps26
  go_wp2_with fail
  refine (unhide hlv).mono ?_
  rintro e w1 ⟨⟨v, rfl, hown⟩, h1⟩
  obtain ⟨pa, pc, rfl, hlst⟩ := own_level (l := Dg.lev0 Lb) hown (fun d hd => Dg.lev_all Lb 0 d hd)
  have hpos : 1 ≤ (Dg.lev0 Lb).length := by rw [Dg.lev0_len Lb (unhide hLl)]; exact (Dg.T_ge _ (unhide hLl)).2.1
  clear hown hlv
  obtain ⟨N0, hN0⟩ : ∃ N0, (Dg.lev0 Lb).length = N0 := ⟨_, rfl⟩
  rw [hN0] at hlst hpos ⊢
  replace hN0 := hide hN0
  go_wp2_with fail
  go_loopw [3] (fun v3 wr => ∃ (k n c : Nat) (a : Option Addr), (Dg.lev Lb k).length = n ∧ 1 ≤ n ∧ v3 = .slice a n c ∧ Lst Enc.str wr (fun b => b < wr.heap.size) a n ((Dg.lev Lb k).map mkS) ∧ Below w.heap.size w wr) (fun v _ => lenOf v)
  case atStart => exact ⟨0, N0, pc, pa, unhide hN0, hpos, rfl, hlst.wide (fun b h => h.1), h1⟩
  case round =>
    obtain ⟨k, n, c, a, hn, hpos, rfl, hl, hb⟩ := hrel
    have hn32 : n ≤ 32 := by rw [← hn, Dg.lev_len Lb (unhide hLl)]; exact Nat.le_trans (Nat.div_le_self _ _) (Dg.T_ge _ (unhide hLl)).2.2
    by_cases h1n : 1 < n
    · have t1 : (1 : Int) < (n : Int) := by omega
      have hab := rabove_any a n c (Dg.lev Lb k) wr hl hn32 (Dg.lev_all Lb k)
      have hnext : (Dg.lev Lb (k + 1)).length = n / 2 := by rw [Dg.lev, Dg.up_len, hn]
      rw [show Dg.up (Dg.lev Lb k) = Dg.lev Lb (k + 1) from rfl] at hab
      replace hab := hide hab; replace hn := hide hn; replace hl := hide hl; replace hnext := hide hnext
      go_wp2_with fail
      refine (unhide hab).mono ?_
      rintro e w2 ⟨⟨v, rfl, hown⟩, h2⟩
      obtain ⟨pa2, pc2, rfl, hlst2⟩ := own_level hown (Dg.lev_all Lb (k + 1))
      rw [unhide hnext] at hlst2 ⊢
      have hb2 := hb.trans (h2.mono hb.size)
      clear hown hab h2
      go_wp2_with fail
      go_roundw
      case rel => exact ⟨k + 1, n / 2, pc2, pa2, unhide hnext, by omega, rfl, hlst2.wide (fun b h => h.1), hb2⟩
      case measure => simp [lenOf]; omega
    · obtain rfl : n = 1 := by omega
      obtain ⟨bb, off, x, rfl, hbb, hx, hxi, hc⟩ := lst_str (k := 0) hl (by omega)
      have hk := Dg.dp_of Lb (unhide hLl) k hn
      have hxe : x = ⟨(Dg.top Lb).toArray⟩ := by
        rw [List.getElem?_map] at hx
        cases hq : (Dg.lev Lb k)[0]? with
        | none => rw [hq] at hx; cases hx
        | some d =>
          rw [hq] at hx
          injection hx with hx
          unfold Dg.top
          rw [← hk, hq, ← hx]
          rfl
      rw [Nat.add_zero] at hc
      subst hxe
      clear hx hk
      replace hn := hide hn
      go_wp2_with fail
      go_ret
      exact ⟨rfl, hb⟩
theorem nb_even : ∀ k : Fin 64, k.val % 2 = 0 → k.val ^^^ 1 = k.val + 1 := by decide +kernel
theorem nb_odd : ∀ k : Fin 64, ¬ k.val % 2 = 0 → (k.val ^^^ 1) + 1 = k.val := by decide +kernel
theorem neighbour_any (k : Nat) (w : World) (hk : k < 64) :
    Calls Try.prog 38 #[.int .i64 (k : Int)] w fun e w' => e = .returned (.int .i64 ((k ^^^ 1 : Nat) : Int)) ∧ Below w.heap.size w w' := by
  by_cases h : k % 2 = 0
  · have e := nb_even ⟨k, hk⟩ h
    simp only at e
    rw [e]
    have t1 : ((k : Int) % 2 == 0) = true := beq_iff_eq.2 (by omega)
    clear e
    go_enter Try.func38, Try.ntmps38
    go_wp2_with fail
    go_ret
    exact ⟨by go_num, Below.refl _ _⟩
  · have e := nb_odd ⟨k, hk⟩ h
    simp only at e
    have t1 : ((k : Int) % 2 == 0) = false := beq_eq_false_iff_ne.2 (by omega)
    obtain ⟨n, hn⟩ : ∃ n, k ^^^ 1 = n := ⟨_, rfl⟩
    rw [hn] at e ⊢
    clear hn
    go_enter Try.func38, Try.ntmps38
    go_wp2_with fail
    go_ret
    exact ⟨ret_int (by omega), Below.refl _ _⟩
set_option maxRecDepth 100000 in
set_option maxHeartbeats 4000000 in
theorem rprove_cap (a : Option Addr) (len cap : Nat) (L : List ByteArray) (i : Nat) (w : World) (hL : Lst Enc.str w (fun b => b < w.heap.size) a len L) (hlen : len ≤ 32) (hi : i < len) (hxs : ∀ x ∈ L, x.size ≤ 1000000000000) :
    Calls Try.prog 24 #[.slice a len cap, .int .i64 (i : Int)] w fun e w' => (∃ pa pc, e = .returned (.tuple #[.slice pa (Dg.prf (L.map fun s => s.data.toList) i).length pc, .bool true]) ∧ Lst Enc.str w' (fun b => b < w'.heap.size ∧ w.heap.size ≤ b) pa (Dg.prf (L.map fun s => s.data.toList) i).length (Dg.prf (L.map fun s => s.data.toList) i) ∧ (Dg.prf (L.map fun s => s.data.toList) i).length ≤ pc) ∧ Below w.heap.size w w' := by
  obtain ⟨i1, hi1, hz0, hz1, hz2⟩ := info_parts info_str
  replace hi1 := hide hi1; replace hz0 := hide hz0; replace hz1 := hide hz1; replace hz2 := hide hz2
  have hlv := fun w hL => rleaves_any a len cap L w hL hlen hxs
  obtain ⟨Lb, hLb⟩ : ∃ Lb, (L.map fun s => s.data.toList) = Lb := ⟨_, rfl⟩
  have hLn : Lb.length = len := by rw [← hLb, List.length_map, hL.1]
  have hLl : Lb.length ≤ 32 := by omega
  rw [hLb]
  replace hlv := hide hlv; replace hLb := hide hLb; replace hLl := hide hLl; replace hLn := hide hLn
  replace hL := hide hL
  clear hxs
  have t1 : ¬ (i : Int) < 0 := by omega
  have t2 : ¬ (len : Int) ≤ (i : Int) := by omega
  go_enter Try.func24, Try.ntmps24
  go_wp2_with fail
  refine (unhide hlv _ (unhide hL)).mono ?_
  rintro e w1 ⟨⟨v, rfl, hown⟩, h1⟩
  rw [unhide hLb] at hown
  obtain ⟨pa, pc, rfl, hlst⟩ := own_level (l := Dg.lev0 Lb) hown (fun d hd => Dg.lev_all Lb 0 d hd)
  have hpos : 1 ≤ (Dg.lev0 Lb).length := by rw [Dg.lev0_len Lb (unhide hLl)]; exact (Dg.T_ge _ (unhide hLl)).2.1
  clear hown hlv
  obtain ⟨N0, hN0⟩ : ∃ N0, (Dg.lev0 Lb).length = N0 := ⟨_, rfl⟩
  rw [hN0] at hlst hpos ⊢
  replace hN0 := hide hN0
  go_wp2_with fail
  go_loopw [1, 6, 7] (fun v1 v6 v7 wr => ∃ (k n c : Nat) (a : Option Addr), (Dg.lev Lb k).length = n ∧ 1 ≤ n ∧ v7 = .slice a n c ∧ Lst Enc.str wr (fun b => b < wr.heap.size ∧ v6.ownBlock ≠ some b) a n ((Dg.lev Lb k).map mkS) ∧ Below w.heap.size w wr ∧
      v1 = .int .i64 ((Dg.pf Lb i k).2 : Int) ∧ wr.ownsRow w.heap.size 9 1 v6 (Dg.pf Lb i k).1.length ((Dg.pf Lb i k).1.map vba)) (fun _ _ v _ => lenOf v)
  case atStart => exact ⟨0, N0, pc, pa, unhide hN0, hpos, rfl, hlst.wide (fun b h => ⟨h.1, fun e => by cases e⟩), h1, rfl, World.ownsRow_nil _ _ _ _⟩
  case round =>
    obtain ⟨k, n, c, a, hn, hpos, rfl, hl, hb, rfl, hown⟩ := hrel
    have hn32 : n ≤ 32 := by rw [← hn, Dg.lev_len Lb (unhide hLl)]; exact Nat.le_trans (Nat.div_le_self _ _) (Dg.T_ge _ (unhide hLl)).2.2
    have hpf := Dg.pf_lt Lb (unhide hLl) i (by rw [unhide hLn]; exact hi) k (by omega)
    rw [hn] at hpf
    obtain ⟨va, vc, rfl⟩ := own_shape hown
    by_cases h1n : 1 < n
    · have t1 : (1 : Int) < (n : Int) := by omega
      have hev : n % 2 = 0 := by
        have hp := Dg.T_pow Lb.length k
        rw [← Dg.lev_len Lb (unhide hLl) k, hn] at hp
        omega
      obtain ⟨q, hq⟩ : ∃ q, (Dg.pf Lb i k).2 = q := ⟨_, rfl⟩
      obtain ⟨Ps, hPs⟩ : ∃ Ps, (Dg.pf Lb i k).1 = Ps := ⟨_, rfl⟩
      have hPl := Dg.pf_many Lb i k
      have hk5 := Dg.k_le Lb (unhide hLl) k (by omega)
      have hnextp : Dg.pf Lb i (k + 1) = (Ps ++ [⟨((Dg.lev Lb k)[q ^^^ 1]?.getD []).toArray⟩], q / 2) := by
        rw [Dg.pf, if_pos (by omega), hPs, hq]
      rw [hPs] at hPl hown hl
      rw [hq] at hpf ⊢
      rw [hPs]
      have hy := Dg.xor_lt ⟨n, by omega⟩ ⟨q, by omega⟩ hev hpf
      simp only at hy
      have hnb := fun w => neighbour_any q w (by omega)
      obtain ⟨y, hyy⟩ : ∃ y, q ^^^ 1 = y := ⟨_, rfl⟩
      rw [hyy] at hy hnextp
      simp only [hyy] at hnb
      have hab := fun w hl => rabove_any a n c (Dg.lev Lb k) w hl hn32 (Dg.lev_all Lb k)
      have hnext : (Dg.lev Lb (k + 1)).length = n / 2 := by rw [Dg.lev, Dg.up_len, hn]
      simp only [show Dg.up (Dg.lev Lb k) = Dg.lev Lb (k + 1) from rfl] at hab
      replace hab := hide hab; replace hn := hide hn; replace hnext := hide hnext; replace hyy := hide hyy; replace hnb := hide hnb; replace hq := hide hq; replace hPs := hide hPs
      go_wp2_with fail
      refine (unhide hnb _).mono ?_
      rintro e w2 ⟨rfl, h2⟩
      replace hl := hl.same (w' := w2) (fun b hb => h2.block b hb.1)
      have h2s := h2.size
      have hb2 := hb.trans (h2.mono hb.size)
      have hown2 := own_below hown h2
      obtain ⟨bb, off, x, rfl, hbb, hx, hxi, hc⟩ := lst_str (k := y) hl (by omega)
      have hxe : x = ⟨((Dg.lev Lb k)[y]?.getD []).toArray⟩ := by
        rw [List.getElem?_map] at hx
        cases hq : (Dg.lev Lb k)[y]? with
        | none => rw [hq] at hx; cases hx
        | some d => rw [hq] at hx; injection hx with hx; rw [← hx]; rfl
      rw [← hxe] at hnextp
      replace hnextp := hide hnextp
      have hz := hb2.size
      clear hxe hx hown hnb h2 hb
      go_wp2_with (at_builtin; refine wpList_append_own _ rfl _ _ 28 rfl w.heap.size 9 i1 (.string ⟨#[]⟩) 1 16 Try.underlying28 (unhide hi1) (unhide hz0) (unhide hz1) (unhide hz2) rfl (by decide) _ _ _ rfl (hown2.alloc _) ⟨w2.heap.size, 0, none⟩ 1 1 [.string x] rfl rfl ?c1 ?c2 ?c3 ?c4 ?c5 ?_)
      case c1 => exact one_new _ _
      case c2 => intro u hu; simp at hu; subst hu; rfl
      case c3 => unfold maxLen; omega
      case c4 => omega
      case c5 => simp; omega
      intro v' w3 hown3 hg3 _
      have hbx := hb2.alloc hz (Obj.cells #[.string x] 9)
      have hb3 : Below w.heap.size w w3 := Below.grown hbx hg3 (by simp; omega) (fun g hg => (hown2.lt g hg).1)
      have hl3 : Lst Enc.str w3 (fun b => b < w3.heap.size) (some ⟨bb, off, none⟩) n ((Dg.lev Lb k).map mkS) := by
        refine (hl.same (w' := w3) (fun b hb => ?_)).wide (fun b hb => Nat.lt_of_lt_of_le hb.1 (Nat.le_trans h2s (Nat.le_trans (by simp) hg3.size)))
        have hlt : b < w2.heap.size := Nat.lt_of_lt_of_le hb.1 h2s
        exact (hg3.block b (by simp; omega) (fun e => hb.2 e.symm)).trans (Below.heap_alloc _ _ _ hlt)
      obtain ⟨va', vc', rfl⟩ := own_shape hown3
      clear hg3 hown2 hb2 hbx
      go_wp2_with fail
      refine (unhide hab _ hl3).mono ?_
      rintro e w4 ⟨⟨v, rfl, hown4⟩, h4⟩
      obtain ⟨pa2, pc2, rfl, hlst2⟩ := own_level hown4 (Dg.lev_all Lb (k + 1))
      rw [unhide hnext] at hlst2 ⊢
      have hb4 := hb3.trans (h4.mono hb3.size)
      have hownF := own_below hown3 h4
      replace hown3 := hide hown3
      clear hown4 hab h4 hl3
      go_wp2_with fail
      go_roundw
      case rel => exact ⟨k + 1, n / 2, pc2, pa2, unhide hnext, by omega, rfl, hlst2.wide (fun b h => ⟨h.1, fun e => by have := ((unhide hown3).lt b e).2; have := h.2; omega⟩), hb4, by rw [unhide hnextp]; exact by go_num, by rw [unhide hnextp]; simpa using hownF⟩
      case measure => simp [lenOf]; omega
    · obtain rfl : n = 1 := by omega
      have hk := Dg.dp_of Lb (unhide hLl) k hn
      have hPs : (Dg.pf Lb i k).1 = Dg.prf Lb i := by rw [hk]; rfl
      have hsz := Dg.pf_sizes Lb (unhide hLl) i (by rw [unhide hLn]; exact hi) k (by omega)
      rw [hPs] at hown hsz
      obtain ⟨pa2, pc2, hpe, hlst2⟩ := lst_own_vba hown (fun x hx => by rw [hsz x hx]; decide)
      have hcap := own_cap hown hpe
      rw [hPs, hpe]
      replace hlst2 := hide hlst2; replace hn := hide hn; replace hPs := hide hPs; replace hk := hide hk
      clear hown hpe hsz hpf
      go_wp2_with fail
      exact bodyPost_ret (results_tmp2 rfl _ _ _) rfl ⟨⟨_, _, rfl, unhide hlst2, hcap⟩, hb⟩
theorem rprove_any (a : Option Addr) (len cap : Nat) (L : List ByteArray) (i : Nat) (w : World) (hL : Lst Enc.str w (fun b => b < w.heap.size) a len L) (hlen : len ≤ 32) (hi : i < len) (hxs : ∀ x ∈ L, x.size ≤ 1000000000000) :
    Calls Try.prog 24 #[.slice a len cap, .int .i64 (i : Int)] w fun e w' => (∃ pa pc, e = .returned (.tuple #[.slice pa (Dg.prf (L.map fun s => s.data.toList) i).length pc, .bool true]) ∧ Lst Enc.str w' (fun b => b < w'.heap.size ∧ w.heap.size ≤ b) pa (Dg.prf (L.map fun s => s.data.toList) i).length (Dg.prf (L.map fun s => s.data.toList) i)) ∧ Below w.heap.size w w' :=
  (rprove_cap a len cap L i w hL hlen hi hxs).mono fun _ _ ⟨⟨pa, pc, h1, h2, _⟩, h3⟩ => ⟨⟨pa, pc, h1, h2⟩, h3⟩
end Go.Proofs.Ytlmaofibdjmkeaa
