/- The reference of digest: Up, Verify. -/
import Derived.Test.YtlmaofibdjmkeaaDg11
namespace Go.Proofs.Ytlmaofibdjmkeaa
open Go.RowKit
attribute [local go_sem ↓] Go.wp_at_zero Go.wp_at_succ
/-- what Up returns -/
def upS (d : List UInt8) (i : Int) (L : List ByteArray) : ByteArray × Bool :=
  if 0 ≤ i ∧ L.length ≤ 40 ∧ i < (2 : Int) ^ L.length ∧ ∀ x ∈ L, x.size = 8 then (⟨(Dg.cl d i.toNat L L.length).1.toArray⟩, true) else (⟨#[]⟩, false)
theorem upS_bad {d : List UInt8} {i : Int} {L : List ByteArray} (h : ¬ (0 ≤ i ∧ L.length ≤ 40 ∧ i < (2 : Int) ^ L.length ∧ ∀ x ∈ L, x.size = 8)) : upS d i L = (⟨#[]⟩, false) := if_neg h
set_option maxRecDepth 100000 in
set_option maxHeartbeats 4000000 in
theorem rUp_any (D0 : List UInt8) (i : Int) (a : Option Addr) (m cap : Nat) (L : List ByteArray) (w : World) (hL : Lst Enc.str w (fun b => b < w.heap.size) a m L) (hD8 : D0.length = 8) (hI : i < 9223372036854775808) :
    Calls Try.prog 29 #[.string ⟨D0.toArray⟩, .int .i64 i, .slice a m cap] w fun e w' => e = .returned (.tuple #[.string (upS D0 i L).1, .bool (upS D0 i L).2]) ∧ Below w.heap.size w w' := by
  have hLm := hL.1
  by_cases c1 : 0 ≤ i
  rotate_left
  · rw [upS_bad (fun h => c1 h.1)]
    clear hL hLm
    have t1 : i < 0 := by omega
    go_enter Try.func29, Try.ntmps29
    go_wp2_with fail
    exact bodyPost_ret (results_tmp2 rfl _ _ _) rfl ⟨rfl, Below.refl _ _⟩
  by_cases c2 : m ≤ 40
  rotate_left
  · rw [upS_bad (fun h => c2 (by omega))]
    clear hL hLm
    have t1 : ¬ i < 0 := by omega
    have t2 : (40 : Int) < (m : Int) := by omega
    go_enter Try.func29, Try.ntmps29
    go_wp2_with fail
    exact bodyPost_ret (results_tmp2 rfl _ _ _) rfl ⟨rfl, Below.refl _ _⟩
  have hpw := pow_wrap ⟨m, by omega⟩
  have hpf := pow_fits ⟨m, by omega⟩
  simp only at hpw hpf
  by_cases c3 : i < (2 : Int) ^ m
  rotate_left
  · rw [upS_bad (fun h => c3 (by rw [← hLm]; exact h.2.2.1))]
    clear hL hLm
    have t1 : ¬ i < 0 := by omega
    have t2 : ¬ (40 : Int) < (m : Int) := by omega
    have t3 : wrap64 ((2 : Int) ^ m) ≤ i := by rw [hpw]; omega
    clear hpw hpf c3
    go_enter Try.func29, Try.ntmps29
    go_wp2_with fail
    exact bodyPost_ret (results_tmp2 rfl _ _ _) rfl ⟨rfl, Below.refl _ _⟩
  obtain ⟨q, rfl⟩ := Int.eq_ofNat_of_zero_le c1
  have t1 : ¬ (q : Int) < 0 := by omega
  have t2 : ¬ (40 : Int) < (m : Int) := by omega
  have t3 : ¬ wrap64 ((2 : Int) ^ m) ≤ (q : Int) := by rw [hpw]; omega
  have hq : q ≤ 1099511627776 := by omega
  have hbad : (¬ ∀ x ∈ L, x.size = 8) → upS D0 q L = (⟨#[]⟩, false) := fun h => upS_bad (fun g => h g.2.2.2)
  have hgood : (∀ x ∈ L, x.size = 8) → upS D0 q L = (⟨(Dg.cl D0 q L m).1.toArray⟩, true) := fun h => by
    unfold upS
    rw [if_pos ⟨c1, by omega, by rw [hLm]; exact c3, h⟩, hLm]
    rfl
  obtain ⟨R, hR⟩ : ∃ R, upS D0 (q : Int) L = R := ⟨_, rfl⟩
  rw [hR] at hbad hgood ⊢
  clear hpw hpf c3 c1 hR
  replace hbad := hide hbad; replace hgood := hide hgood; replace hL := hide hL; replace hLm := hide hLm; replace hD8 := hide hD8
  go_enter Try.func29, Try.ntmps29
  go_wp2_with fail
  go_loopw [0, 1, 8] (fun v0 v1 v8 wr => ∃ k : Nat, k ≤ m ∧ v8 = .int .i64 (k : Int) ∧ v1 = .int .i64 ((Dg.cl D0 q L k).2 : Int) ∧ v0 = .string ⟨(Dg.cl D0 q L k).1.toArray⟩ ∧ (∀ x ∈ L.take k, x.size = 8) ∧ Below w.heap.size w wr) (fun _ _ v _ => (m - intOf v).toNat)
  case atStart => exact ⟨0, by omega, rfl, rfl, rfl, by simp, Below.refl _ _⟩
  case round =>
    obtain ⟨k, hk, rfl, rfl, rfl, hall, hb⟩ := hrel
    have hcl8 := Dg.cl_len D0 (unhide hD8) q L k
    have hbnd : (Dg.cl D0 q L k).2 ≤ 1099511627776 := Nat.le_trans (Dg.cl_le D0 q L k) hq
    by_cases hlt : k < m
    · obtain ⟨bb, off, x, rfl, hbb, hx, hxi, hc⟩ := lst_str ((unhide hL).under hb) hlt
      have hnext : Dg.cl D0 q L (k + 1) = (if (Dg.cl D0 q L k).2 % 2 = 0 then Dg.node (Dg.cl D0 q L k).1 x.data.toList else Dg.node x.data.toList (Dg.cl D0 q L k).1, (Dg.cl D0 q L k).2 / 2) := by rw [Dg.cl, hx]
      by_cases hx8 : x.size = 8
      rotate_left
      · have hRf := unhide hbad (fun h => hx8 (h x (List.mem_of_getElem? hx)))
        have t5 : ((x.size : Int) != 8) = true := bne_iff_ne.2 (by omega)
        clear hnext hx8 hbad hgood
        subst hRf
        go_wp2_with fail
        exact bodyPost_ret (results_tmp2 rfl _ _ _) rfl ⟨rfl, hb⟩
      have hall' : ∀ y ∈ L.take (k + 1), y.size = 8 := by
        intro y hy
        obtain ⟨hkl, hxe⟩ := List.getElem?_eq_some_iff.1 hx
        rw [List.take_succ_eq_append_getElem hkl] at hy
        rcases List.mem_append.1 hy with h | h
        · exact hall y h
        · simp at h; rw [h, hxe]; exact hx8
      obtain ⟨D, hD⟩ : ∃ D, (Dg.cl D0 q L k).1 = D := ⟨_, rfl⟩
      obtain ⟨y, hy⟩ : ∃ y, (Dg.cl D0 q L k).2 = y := ⟨_, rfl⟩
      rw [hD] at hcl8 hnext ⊢
      rw [hy] at hnext hbnd ⊢
      have hD1 : (⟨D.toArray⟩ : ByteArray).size = 8 := by rw [ba_size]; exact hcl8
      have t5 : ((x.size : Int) != 8) = false := by rw [hx8]; rfl
      replace hall' := hide hall'; replace hD := hide hD; replace hy := hide hy
      clear hall
      by_cases hp : y % 2 = 0
      · rw [if_pos hp] at hnext
        have t6 : ((y : Int) % 2 == 0) = true := beq_iff_eq.2 (by omega)
        have hof : ∀ T : ByteArray, T.data.toList = 110 :: (D ++ x.data.toList) → ∀ w, Calls Try.prog 13 #[.string T] w fun e w' => e = .returned (.string ⟨(Dg.node D x.data.toList).toArray⟩) ∧ Below w.heap.size w w' := fun T hT w => by
          have := rOf_any T w (by rw [← data_len, hT]; simp [maxLen, hcl8]; omega)
          rw [hT] at this
          exact this
        obtain ⟨N, hN⟩ : ∃ N, Dg.node D x.data.toList = N := ⟨_, rfl⟩
        rw [hN] at hof hnext
        replace hof := hide hof; replace hN := hide hN; replace hnext := hide hnext
        clear hx hcl8
        go_wp2_with fail
        refine (unhide hof _ ?hd _).mono ?_
        case hd => simp
        rintro e w3 ⟨rfl, hb3⟩
        have hbel := hb.trans (hb3.mono hb.size)
        clear hof hb3
        go_wp2_with fail
        go_roundw
        case rel => exact ⟨k + 1, by omega, by go_num, by rw [unhide hnext]; exact by go_num, by rw [unhide hnext], unhide hall', hbel⟩
        case measure => simp [intOf]; omega
      · rw [if_neg hp] at hnext
        have t6 : ((y : Int) % 2 == 0) = false := beq_eq_false_iff_ne.2 (by omega)
        have hof : ∀ T : ByteArray, T.data.toList = 110 :: (x.data.toList ++ D) → ∀ w, Calls Try.prog 13 #[.string T] w fun e w' => e = .returned (.string ⟨(Dg.node x.data.toList D).toArray⟩) ∧ Below w.heap.size w w' := fun T hT w => by
          have := rOf_any T w (by rw [← data_len, hT]; simp [maxLen, hcl8]; omega)
          rw [hT] at this
          exact this
        obtain ⟨N, hN⟩ : ∃ N, Dg.node x.data.toList D = N := ⟨_, rfl⟩
        rw [hN] at hof hnext
        replace hof := hide hof; replace hN := hide hN; replace hnext := hide hnext
        clear hx hcl8
        go_wp2_with fail
        refine (unhide hof _ ?hd _).mono ?_
        case hd => simp
        rintro e w3 ⟨rfl, hb3⟩
        have hbel := hb.trans (hb3.mono hb.size)
        clear hof hb3
        go_wp2_with fail
        go_roundw
        case rel => exact ⟨k + 1, by omega, by go_num, by rw [unhide hnext]; exact by go_num, by rw [unhide hnext], unhide hall', hbel⟩
        case measure => simp [intOf]; omega
    · obtain rfl : k = m := by omega
      have hg := unhide hgood (fun x hx => hall x (by rw [List.take_of_length_le (by rw [unhide hLm]; exact Nat.le_refl _)]; exact hx))
      obtain ⟨D, hD⟩ : ∃ D, (Dg.cl D0 q L k).1 = D := ⟨_, rfl⟩
      rw [hD] at hg ⊢
      clear hgood hbad hall hD hcl8
      subst hg
      go_wp2_with fail
      exact bodyPost_ret (results_tmp2 rfl _ _ _) rfl ⟨rfl, hb⟩
theorem upS_ver (r s : ByteArray) (i : Int) (L : List ByteArray) : ((upS (leafB s) i L).2 && decide ((upS (leafB s) i L).1 = r)) = verS r s i L := by
  unfold upS verS
  rw [Bool.eq_iff_iff, decide_eq_true_eq]
  split
  · rename_i h
    simp only [Bool.true_and, decide_eq_true_eq]
    constructor
    · rintro rfl
      refine ⟨h.1, h.2.1, h.2.2.1, ?_, h.2.2.2, by simp⟩
      rw [ba_size]
      exact Dg.cl_len _ (Dg.leaf_len _) _ _ _
    · rintro ⟨_, _, _, _, _, h6⟩
      apply ByteArray.ext
      apply Array.toList_inj.1
      rw [h6]
  · rename_i h
    simp only [Bool.false_and]
    constructor
    · intro h; cases h
    · rintro ⟨h1, h2, h3, _, h5, _⟩
      exact absurd ⟨h1, h2, h3, h5⟩ h
set_option maxHeartbeats 1000000 in
theorem rVerify_any (r s : ByteArray) (i : Int) (a : Option Addr) (m cap : Nat) (L : List ByteArray) (w : World) (hL : Lst Enc.str w (fun b => b < w.heap.size) a m L) (hs : s.size ≤ 1000000) (hI : i < 9223372036854775808) :
    Calls Try.prog 28 #[.string r, .string s, .int .i64 i, .slice a m cap] w fun e w' => e = .returned (.bool (verS r s i L)) ∧ Below w.heap.size w w' := by
  have hlf := fun w => rLeaf_any s w (by omega)
  have hup := fun w hL => rUp_any (leafB s) i a m cap L w hL (Dg.leaf_len _) hI
  rw [← upS_ver]
  obtain ⟨D, hD⟩ : ∃ D, leafB s = D := ⟨_, rfl⟩
  rw [hD] at hlf hup ⊢
  obtain ⟨U, hU⟩ : ∃ U, (upS D i L).1 = U := ⟨_, rfl⟩
  obtain ⟨B, hB⟩ : ∃ B, (upS D i L).2 = B := ⟨_, rfl⟩
  simp only [hU, hB] at hup ⊢
  have hdec := ba_dec U r
  replace hlf := hide hlf; replace hup := hide hup; replace hL := hide hL
  clear hU hB hD
  go_enter Try.func28, Try.ntmps28
  go_wp2_with fail
  refine (unhide hlf _).mono ?_
  rintro e w1 ⟨rfl, h1⟩
  go_wp2_with fail
  refine (unhide hup _ ((unhide hL).under h1)).mono ?_
  rintro e w2 ⟨rfl, h2⟩
  have hb := h1.trans (h2.mono h1.size)
  clear h1 h2 hup hlf
  cases B
  · go_wp2_with fail
    go_ret
    exact ⟨rfl, hb⟩
  · go_wp2_with fail
    go_ret
    exact ⟨ret_bool (by rw [Bool.true_and]), hb⟩
end Go.Proofs.Ytlmaofibdjmkeaa
