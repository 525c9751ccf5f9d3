/- DigestOne. -/
import Derived.Test.YtlmaofibdjmkeaaDg16
import Derived.Test.YtlmaofibdjmkeaaDg12
import Derived.Test.YtlmaofibdjmkeaaDgO
import Derived.Laws.BitsLemmas
namespace Go.Proofs.Ytlmaofibdjmkeaa
open Go.RowKit
attribute [local go_sem ↓] Go.wp_at_zero Go.wp_at_succ
theorem dig_set (pre l post : List UInt8) (k : Nat) (hk : k < l.length) (x : UInt8) (hx : l[k] ≠ x) : Dg.dig (pre ++ (l ++ post)) ≠ Dg.dig (pre ++ (l.set k x ++ post)) := by
  have e1 : l = l.take k ++ l[k] :: l.drop (k + 1) := by
    have := List.set_eq_take_append_cons_drop (l := l) (i := k) (a := l[k])
    rw [if_pos hk, List.set_getElem_self] at this
    exact this
  have e2 : l.set k x = l.take k ++ x :: l.drop (k + 1) := by rw [List.set_eq_take_append_cons_drop, if_pos hk]
  rw [e2]
  have := Dg.dig_one (pre ++ l.take k) (l.drop (k + 1) ++ post) l[k] x hx
  have e3 : pre ++ (l ++ post) = pre ++ l.take k ++ l[k] :: (l.drop (k + 1) ++ post) := by
    rw [List.append_assoc]
    congr 1
    conv => lhs; rw [e1]
    rw [List.append_assoc]
    rfl
  rw [e3, show pre ++ (l.take k ++ x :: l.drop (k + 1) ++ post) = pre ++ l.take k ++ x :: (l.drop (k + 1) ++ post) by simp]
  exact this
theorem bits_xor_u8 (a b : Nat) (ha : a < 256) (hb : b < 256) : bits .xor .u8 (a : Int) (b : Int) = ((a ^^^ b : Nat) : Int) := by
  have h := Nat.xor_lt_two_pow (n := 8) (x := a) (y := b) (by omega) (by omega)
  simp only [bits, BitVec.ofInt_natCast, BitVec.toNat_xor, BitVec.toNat_ofNat]
  rw [IntKind.wrap_u8, show IntKind.u8.bits = 8 from rfl, Nat.mod_eq_of_lt (a := a) (by omega), Nat.mod_eq_of_lt (a := b) (by omega)]
  omega
theorem xor_ne (a b : Nat) (hb : 1 ≤ b) : a ^^^ b ≠ a := by
  intro h
  have h2 := congrArg (fun x => a ^^^ x) h
  simp only [← Nat.xor_assoc, Nat.xor_self, Nat.zero_xor] at h2
  omega
theorem str_ne {D E : List UInt8} (h : D ≠ E) : (⟨D.toArray⟩ : ByteArray) ≠ ⟨E.toArray⟩ := fun e => h (ba_inj.1 e)
theorem str_bne {D E : ByteArray} (h : D ≠ E) : (D.toList == E.toList) = false := by rw [ba_dec]; exact decide_eq_false h
theorem top_one (s : ByteArray) : Dg.top [s.data.toList] = Dg.dig (108 :: s.data.toList) := rfl
set_option maxRecDepth 100000 in
set_option maxHeartbeats 4000000 in
theorem digestOne_any (s : ByteArray) (pi ci : Int) (w : World) (hs : s.size ≤ maxLen) (hpi : 0 ≤ pi ∧ pi ≤ 65535) (hci : 0 ≤ ci ∧ ci ≤ 255) :
    Calls Try.prog 5 #[.string s, .int .u16 pi, .int .u8 ci] w fun e w' => e = .returned (.bool true) ∧ Below w.heap.size w w' := by
  obtain ⟨p, rfl⟩ := Int.eq_ofNat_of_zero_le hpi.1
  obtain ⟨c, rfl⟩ := Int.eq_ofNat_of_zero_le hci.1
  have hp : p ≤ 65535 := by omega
  have hc : c ≤ 255 := by omega
  clear hpi hci
  have hsan := fun w => dsanity_any w
  have hca := fun w => dcut_any s w hs
  replace hsan := hide hsan; replace hca := hide hca
  go_enter Try.func5, Try.ntmps5
  go_wp2_with fail
  refine (unhide hsan _).mono ?_
  rintro e w1 ⟨rfl, h1⟩
  go_wp2_with fail
  refine (unhide hca _).mono ?_
  rintro e w2 ⟨⟨t, ht, rfl⟩, h2⟩
  have hB := h1.trans (h2.mono h1.size)
  have ht2 : t.size ≤ 200 := by omega
  clear h1 h2 ht
  by_cases hs0 : t.size = 0
  · have t1 : ((t.size : Int) == 0) = true := by rw [hs0]; rfl
    go_wp2_with fail
    go_ret
    exact ⟨rfl, hB⟩
  · have t1 : ((t.size : Int) == 0) = false := beq_eq_false_iff_ne.2 (by omega)
    obtain ⟨k, hk⟩ : ∃ k, p % t.size = k := ⟨_, rfl⟩
    have hkm : k < t.size := by rw [← hk]; exact Nat.mod_lt _ (by omega)
    have t2 : (p : Int) % (t.size : Int) = (k : Int) := by rw [← hk]; rfl
    have t2' : Int.tmod (p : Int) (t.size : Int) = (k : Int) := by rw [← hk]; rfl
    have hkl : k < t.data.toList.length := by rw [data_len]; exact hkm
    obtain ⟨b0, hb0⟩ : ∃ b0 : UInt8, t[k] = b0 := ⟨_, rfl⟩
    have hb0' : t.data.toList[k] = b0 := hb0
    obtain ⟨mx, hmx⟩ : ∃ mx : Nat, max c 1 = mx := ⟨_, rfl⟩
    have hmx1 : 1 ≤ mx ∧ mx < 256 := by omega
    have hb0l := b0.toNat_lt
    have hxor := bits_xor_u8 b0.toNat mx hb0l hmx1.2
    have hx8 := Nat.xor_lt_two_pow (n := 8) (x := b0.toNat) (y := mx) (by omega) (by omega)
    have hne := xor_ne b0.toNat mx hmx1.1
    obtain ⟨x, hx⟩ : ∃ x, b0.toNat ^^^ mx = x := ⟨_, rfl⟩
    rw [hx] at hxor hx8 hne
    have hbx : b0 ≠ UInt8.ofNat x := fun e => hne (by rw [e, UInt8.toNat_ofNat', Nat.mod_eq_of_lt hx8])
    have he := chg_eq t k x (by omega)
    rw [Nat.mod_eq_of_lt hkm] at he
    obtain ⟨R, hR⟩ : ∃ R, Dg.chg t k x = R := ⟨_, rfl⟩
    have hRs : R.size = t.size := by rw [← hR]; exact chg_size _ _ _
    have hRl : R.data.toList = t.data.toList.set k (UInt8.ofNat x) := by rw [← hR]; unfold Dg.chg; rw [Nat.mod_eq_of_lt hkm]
    rw [hR] at he
    have n1 : (⟨(Dg.dig t.data.toList).toArray⟩ : ByteArray) ≠ ⟨(Dg.dig R.data.toList).toArray⟩ := str_ne (by
      have := dig_set [] t.data.toList [] k hkl (UInt8.ofNat x) (by rw [hb0']; exact hbx)
      rw [List.append_nil, List.append_nil, List.nil_append, List.nil_append] at this
      rw [hRl]
      exact this)
    have n2 : (⟨(chainS ⟨#[97]⟩ t).toArray⟩ : ByteArray) ≠ ⟨(chainS ⟨#[97]⟩ R).toArray⟩ := str_ne (by
      have := dig_set (99 :: (Dg.b4 1 ++ [97])) t.data.toList [] k hkl (UInt8.ofNat x) (by rw [hb0']; exact hbx)
      rw [List.append_nil, List.append_nil] at this
      unfold chainS
      rw [hRl]
      exact this)
    have n3 : (⟨(markS ⟨#[97]⟩ t).toArray⟩ : ByteArray) ≠ ⟨(markS ⟨#[97]⟩ R).toArray⟩ := str_ne (by
      have := dig_set (109 :: (Dg.b4 1 ++ [97])) t.data.toList [97] k hkl (UInt8.ofNat x) (by rw [hb0']; exact hbx)
      unfold markS
      rw [hRl]
      exact this)
    have n4 : (⟨(Dg.top ([t].map fun s => s.data.toList)).toArray⟩ : ByteArray) ≠ ⟨(Dg.top ([R].map fun s => s.data.toList)).toArray⟩ := str_ne (by
      have := dig_set [108] t.data.toList [] k hkl (UInt8.ofNat x) (by rw [hb0']; exact hbx)
      rw [List.append_nil, List.append_nil] at this
      show Dg.top [t.data.toList] ≠ Dg.top [R.data.toList]
      rw [top_one, top_one, hRl]
      exact this)
    have c1 := fun w => dOf_any t w (by unfold maxLen; omega)
    have c2 := fun w => dOf_any R w (by unfold maxLen; omega)
    have c3 := fun w => dChain_any ⟨#[97]⟩ t w (by decide) (by omega)
    have c4 := fun w => dChain_any ⟨#[97]⟩ R w (by decide) (by omega)
    have c5 := fun w => dMark_any ⟨#[97]⟩ t w (by decide) (by omega)
    have c6 := fun w => dMark_any ⟨#[97]⟩ R w (by decide) (by omega)
    have c7 := fun w => root_lit [t] w (by intro y hy; simp at hy; subst hy; unfold maxLen; omega) (by simp)
    have c8 := fun w => root_lit [R] w (by intro y hy; simp at hy; subst hy; unfold maxLen; omega) (by simp)
    obtain ⟨P1, hP1⟩ : ∃ P : ByteArray, (⟨(Dg.dig t.data.toList).toArray⟩ : ByteArray) = P := ⟨_, rfl⟩
    obtain ⟨Q1, hQ1⟩ : ∃ Q : ByteArray, (⟨(Dg.dig R.data.toList).toArray⟩ : ByteArray) = Q := ⟨_, rfl⟩
    rw [hP1, hQ1] at n1
    rw [hP1] at c1
    rw [hQ1] at c2
    clear hP1 hQ1
    have m1 := str_bne n1
    clear n1
    obtain ⟨P2, hP2⟩ : ∃ P : ByteArray, (⟨(chainS ⟨#[97]⟩ t).toArray⟩ : ByteArray) = P := ⟨_, rfl⟩
    obtain ⟨Q2, hQ2⟩ : ∃ Q : ByteArray, (⟨(chainS ⟨#[97]⟩ R).toArray⟩ : ByteArray) = Q := ⟨_, rfl⟩
    rw [hP2, hQ2] at n2
    rw [hP2] at c3
    rw [hQ2] at c4
    clear hP2 hQ2
    have m2 := str_bne n2
    clear n2
    obtain ⟨P3, hP3⟩ : ∃ P : ByteArray, (⟨(markS ⟨#[97]⟩ t).toArray⟩ : ByteArray) = P := ⟨_, rfl⟩
    obtain ⟨Q3, hQ3⟩ : ∃ Q : ByteArray, (⟨(markS ⟨#[97]⟩ R).toArray⟩ : ByteArray) = Q := ⟨_, rfl⟩
    rw [hP3, hQ3] at n3
    rw [hP3] at c5
    rw [hQ3] at c6
    clear hP3 hQ3
    have m3 := str_bne n3
    clear n3
    obtain ⟨P4, hP4⟩ : ∃ P : ByteArray, (⟨(Dg.top ([t].map fun s => s.data.toList)).toArray⟩ : ByteArray) = P := ⟨_, rfl⟩
    obtain ⟨Q4, hQ4⟩ : ∃ Q : ByteArray, (⟨(Dg.top ([R].map fun s => s.data.toList)).toArray⟩ : ByteArray) = Q := ⟨_, rfl⟩
    rw [hP4, hQ4] at n4
    rw [hP4] at c7
    rw [hQ4] at c8
    clear hP4 hQ4
    have m4 := str_bne n4
    clear n4
    replace c1 := hide c1; replace c2 := hide c2; replace c3 := hide c3; replace c4 := hide c4; replace c5 := hide c5; replace c6 := hide c6; replace c7 := hide c7; replace c8 := hide c8
    replace m1 := hide m1; replace m2 := hide m2; replace m3 := hide m3; replace m4 := hide m4
    have hcv := fun (w : World) (b : Nat) h => conv1 w w b x hx8 h
    replace hcv := hide hcv; replace he := hide he; replace hR := hide hR; replace hRl := hide hRl; replace hRs := hide hRs; replace hk := hide hk; replace hx := hide hx; replace hb0' := hide hb0'; replace hbx := hide hbx; replace hne := hide hne; replace hB := hide hB
    obtain ⟨wo, hwo⟩ : ∃ wo, wo = w2 := ⟨_, rfl⟩
    rw [← hwo] at hB ⊢
    clear hwo
    go_wp2_with fail
    refine wp_region_frontG 17 (fun _ _ w' => Below wo.heap.size wo w') (fun wa wb => Below wa.heap.size wa wb)
      (fun i v w' => match i with
        | 0 => v = .string t
        | 1 => v = .int .i64 (k : Int)
        | 2 => v = .string (t.extract 0 k)
        | 3 => v = .string t
        | 4 => v = .int .i64 (k : Int)
        | 5 => v = .int .u8 (b0.toNat : Int)
        | 6 => v = .int .u8 (c : Int)
        | 7 => v = .int .u8 (mx : Int)
        | 8 => v = .int .u8 (x : Int)
        | 9 => ∃ b, v = .slice (some ⟨b, 0, none⟩) 1 1 ∧ w'.heap[b]? = some (.cells #[.int .u8 (x : Int)] 5 (0, 0))
        | 10 => v = .string ⟨#[UInt8.ofNat x]⟩
        | 11 => v = .string (t.extract 0 k ++ ⟨#[UInt8.ofNat x]⟩)
        | 12 => v = .string t
        | 13 => v = .int .i64 (k : Int)
        | 14 => v = .int .i64 ((k + 1 : Nat) : Int)
        | 15 => v = .string (t.extract (k + 1) t.size)
        | 16 => v = .string R
        | _ => True) (by rfl) (by kernel_rfl) ?_ ?_ ?_ ?_
    · exact (Below.refl _ _).drew
    · intro wa wb hR i v hv
      match i, hv with
      | 0, h => exact h
      | 1, h => exact h
      | 2, h => exact h
      | 3, h => exact h
      | 4, h => exact h
      | 5, h => exact h
      | 6, h => exact h
      | 7, h => exact h
      | 8, h => exact h
      | 9, h => obtain ⟨b, h1, h2⟩ := h; exact ⟨b, h1, (hR.block b (Array.getElem?_eq_some_iff.1 h2).1).trans h2⟩
      | 10, h => exact h
      | 11, h => exact h
      | 12, h => exact h
      | 13, h => exact h
      | 14, h => exact h
      | 15, h => exact h
      | 16, h => exact h
      | _ + 17, _ => trivial
    · intro i hi
      obtain rfl | rfl | rfl | rfl | rfl | rfl | rfl | rfl | rfl | rfl | rfl | rfl | rfl | rfl | rfl | rfl | rfl : i = 0 ∨ i = 1 ∨ i = 2 ∨ i = 3 ∨ i = 4 ∨ i = 5 ∨ i = 6 ∨ i = 7 ∨ i = 8 ∨ i = 9 ∨ i = 10 ∨ i = 11 ∨ i = 12 ∨ i = 13 ∨ i = 14 ∨ i = 15 ∨ i = 16 := by omega
      · refine FrontStep.of [] _ rfl (by kernel_rfl) ?_
        intro vs L wq hL hC hf
        simp only [putL, List.foldl_nil]
        go_wp2_with fail
        first | exact Below.refl _ _ | exact ⟨Below.refl _ _, by omega⟩
      · refine FrontStep.of [] _ rfl (by kernel_rfl) ?_
        intro vs L wq hL hC hf
        simp only [putL, List.foldl_nil]
        go_wp2_with fail
        first | exact Below.refl _ _ | exact ⟨Below.refl _ _, by omega⟩
      · refine FrontStep.of [0, 1] _ rfl (by kernel_rfl) ?_
        intro vs L wq hL hC hf
        simp only [putL, List.foldl_nil, List.foldl_cons, List.getElem?_cons_zero, List.getElem?_cons_succ]
        have e0 : vs 0 = _ := hf 0 (by simp)
        rw [e0]
        have e1 : vs 1 = _ := hf 1 (by simp)
        rw [e1]
        go_wp2_with fail
        first | exact Below.refl _ _ | exact ⟨Below.refl _ _, by omega⟩
      · refine FrontStep.of [] _ rfl (by kernel_rfl) ?_
        intro vs L wq hL hC hf
        simp only [putL, List.foldl_nil]
        go_wp2_with fail
        first | exact Below.refl _ _ | exact ⟨Below.refl _ _, by omega⟩
      · refine FrontStep.of [] _ rfl (by kernel_rfl) ?_
        intro vs L wq hL hC hf
        simp only [putL, List.foldl_nil]
        go_wp2_with fail
        first | exact Below.refl _ _ | exact ⟨Below.refl _ _, by omega⟩
      · refine FrontStep.of [3, 4] _ rfl (by kernel_rfl) ?_
        intro vs L wq hL hC hf
        simp only [putL, List.foldl_nil, List.foldl_cons, List.getElem?_cons_zero, List.getElem?_cons_succ]
        have e3 : vs 3 = _ := hf 3 (by simp)
        rw [e3]
        have e4 : vs 4 = _ := hf 4 (by simp)
        rw [e4]
        go_wp2_with fail
        first | exact Below.refl _ _ | exact ⟨Below.refl _ _, by omega⟩
      · refine FrontStep.of [] _ rfl (by kernel_rfl) ?_
        intro vs L wq hL hC hf
        simp only [putL, List.foldl_nil]
        go_wp2_with fail
        first | exact Below.refl _ _ | exact ⟨Below.refl _ _, by omega⟩
      · refine FrontStep.of [6] _ rfl (by kernel_rfl) ?_
        intro vs L wq hL hC hf
        simp only [putL, List.foldl_nil, List.foldl_cons, List.getElem?_cons_zero, List.getElem?_cons_succ]
        have e6 : vs 6 = _ := hf 6 (by simp)
        rw [e6]
        rcases Nat.le_total c 1 with hle | hle
        · have hm1 : mx = 1 := by omega
          have t5 : (c : Int) ≤ 1 := by omega
          go_wp2_with fail
          first | exact Below.refl _ _ | exact ⟨Below.refl _ _, by omega⟩
        · have hm1 : mx = c := by omega
          have t5 : (1 : Int) ≤ (c : Int) := by omega
          go_wp2_with fail
          first | exact Below.refl _ _ | exact ⟨Below.refl _ _, by omega⟩
      · refine FrontStep.of [5, 7] _ rfl (by kernel_rfl) ?_
        intro vs L wq hL hC hf
        simp only [putL, List.foldl_nil, List.foldl_cons, List.getElem?_cons_zero, List.getElem?_cons_succ]
        have e5 : vs 5 = _ := hf 5 (by simp)
        rw [e5]
        have e7 : vs 7 = _ := hf 7 (by simp)
        rw [e7]
        go_wp2_with fail
        first | exact Below.refl _ _ | exact ⟨Below.refl _ _, by omega⟩
      · refine FrontStep.of [8] _ rfl (by kernel_rfl) ?_
        intro vs L wq hL hC hf
        simp only [putL, List.foldl_nil, List.foldl_cons, List.getElem?_cons_zero, List.getElem?_cons_succ]
        have e8 : vs 8 = _ := hf 8 (by simp)
        rw [e8]
        go_wp2_with fail
        exact ⟨hC.alloc hC.size _, (Below.refl _ _).alloc (Nat.le_refl _) _, (Array.getElem?_eq_some_iff.1 (heap_alloc_new _ _)).2⟩
      · refine FrontStep.of [9] _ rfl (by kernel_rfl) ?_
        intro vs L wq hL hC hf
        simp only [putL, List.foldl_nil, List.foldl_cons, List.getElem?_cons_zero, List.getElem?_cons_succ]
        obtain ⟨b, e31, hb31⟩ := hf 9 (by simp)
        rw [e31]
        have hcq := unhide hcv wq b hb31
        go_wp2_with fail
        first | exact Below.refl _ _ | exact ⟨Below.refl _ _, by omega⟩
      · refine FrontStep.of [2, 10] _ rfl (by kernel_rfl) ?_
        intro vs L wq hL hC hf
        simp only [putL, List.foldl_nil, List.foldl_cons, List.getElem?_cons_zero, List.getElem?_cons_succ]
        have e2 : vs 2 = _ := hf 2 (by simp)
        rw [e2]
        have e10 : vs 10 = _ := hf 10 (by simp)
        rw [e10]
        have hz1 : (t.extract 0 k).size = k := by rw [ByteArray.size_extract]; omega
        have hz2 : (⟨#[UInt8.ofNat x]⟩ : ByteArray).size = 1 := rfl
        go_wp2_with fail
        first | exact Below.refl _ _ | exact ⟨Below.refl _ _, by omega⟩
      · refine FrontStep.of [] _ rfl (by kernel_rfl) ?_
        intro vs L wq hL hC hf
        simp only [putL, List.foldl_nil]
        go_wp2_with fail
        first | exact Below.refl _ _ | exact ⟨Below.refl _ _, by omega⟩
      · refine FrontStep.of [] _ rfl (by kernel_rfl) ?_
        intro vs L wq hL hC hf
        simp only [putL, List.foldl_nil]
        go_wp2_with fail
        first | exact Below.refl _ _ | exact ⟨Below.refl _ _, by omega⟩
      · refine FrontStep.of [13] _ rfl (by kernel_rfl) ?_
        intro vs L wq hL hC hf
        simp only [putL, List.foldl_nil, List.foldl_cons, List.getElem?_cons_zero, List.getElem?_cons_succ]
        have e13 : vs 13 = _ := hf 13 (by simp)
        rw [e13]
        go_wp2_with fail
        first | exact Below.refl _ _ | exact ⟨Below.refl _ _, by omega⟩
      · refine FrontStep.of [12, 14] _ rfl (by kernel_rfl) ?_
        intro vs L wq hL hC hf
        simp only [putL, List.foldl_nil, List.foldl_cons, List.getElem?_cons_zero, List.getElem?_cons_succ]
        have e12 : vs 12 = _ := hf 12 (by simp)
        rw [e12]
        have e14 : vs 14 = _ := hf 14 (by simp)
        rw [e14]
        go_wp2_with fail
        first | exact Below.refl _ _ | exact ⟨Below.refl _ _, by omega⟩
      · refine FrontStep.of [11, 15] _ rfl (by kernel_rfl) ?_
        intro vs L wq hL hC hf
        simp only [putL, List.foldl_nil, List.foldl_cons, List.getElem?_cons_zero, List.getElem?_cons_succ]
        have e11 : vs 11 = _ := hf 11 (by simp)
        rw [e11]
        have e15 : vs 15 = _ := hf 15 (by simp)
        rw [e15]
        have hz1 : (t.extract 0 k ++ ⟨#[UInt8.ofNat x]⟩).size = k + 1 := by rw [ByteArray.size_append, ByteArray.size_extract]; show _ + 1 = _; omega
        have hz2 : (t.extract (k + 1) t.size).size = t.size - (k + 1) := by rw [ByteArray.size_extract]; omega
        have he' := unhide he
        go_wp2_with fail
        first | exact Below.refl _ _ | exact ⟨Below.refl _ _, by omega⟩
    · intro vs L wq hL hC hf
      have e16 : vs 16 = _ := hf 16 (by omega)
      rw [putSome_all]
      simp only [putL, List.range, List.range.loop, List.foldl_nil, List.foldl_cons, List.getElem?_cons_zero, List.getElem?_cons_succ, List.drop_succ_cons, List.drop_zero]
      rw [e16]
      clear e16 hf hL
      have hb := (unhide hB).trans (hC.mono (unhide hB).size)
      clear hC
      replace hRs := unhide hRs
      go_simp
      go_wp2_with fail
      have m := unhide m1
      refine (unhide c1 _).mono ?_
      rintro e u0 ⟨rfl, g⟩
      replace hb := hb.trans (g.mono hb.size)
      clear g
      go_wp2_with fail
      refine (unhide c2 _).mono ?_
      rintro e u1 ⟨rfl, g⟩
      replace hb := hb.trans (g.mono hb.size)
      clear g
      go_wp2_with fail
      clear m
      have m := unhide m2
      refine (unhide c3 _).mono ?_
      rintro e u2 ⟨rfl, g⟩
      replace hb := hb.trans (g.mono hb.size)
      clear g
      go_wp2_with fail
      refine (unhide c4 _).mono ?_
      rintro e u3 ⟨rfl, g⟩
      replace hb := hb.trans (g.mono hb.size)
      clear g
      go_wp2_with fail
      clear m
      have m := unhide m3
      refine (unhide c5 _).mono ?_
      rintro e u4 ⟨rfl, g⟩
      replace hb := hb.trans (g.mono hb.size)
      clear g
      go_wp2_with fail
      refine (unhide c6 _).mono ?_
      rintro e u5 ⟨rfl, g⟩
      replace hb := hb.trans (g.mono hb.size)
      clear g
      go_wp2_with fail
      clear m
      have m := unhide m4
      refine (unhide c7 _).mono ?_
      rintro e u6 ⟨rfl, g⟩
      replace hb := hb.trans (g.mono hb.size)
      clear g
      go_wp2_with fail
      refine (unhide c8 _).mono ?_
      rintro e u7 ⟨rfl, g⟩
      replace hb := hb.trans (g.mono hb.size)
      clear g
      go_wp2_with fail
      go_ret
      exact ⟨rfl, hb⟩
end Go.Proofs.Ytlmaofibdjmkeaa
