/- digest.Check. -/
import Derived.Test.YtlmaofibdjmkeaaDg4
import Derived.Test.YtlmaofibdjmkeaaFrontG
namespace Go.Proofs.Ytlmaofibdjmkeaa
open Go.RowKit
attribute [local go_sem ↓] Go.wp_at_zero Go.wp_at_succ

set_option maxRecDepth 100000 in
set_option maxHeartbeats 40000000 in
theorem dCheck_any (k m x : ByteArray) (w : World) (hk : k.size ≤ 1000000000000) (hm : m.size ≤ 1000000000000) (hx : x.size ≤ 1000000000000) :
    Calls Try.prog 18 #[.string k, .string m, .string x] w fun e w' => e = .returned (.bool (decide (k.size ≠ 0 ∧ x.data.toList = markS k m))) ∧ Below w.heap.size w w' := by
  by_cases hk0 : k.size = 0
  · have hk1 : k = ⟨#[]⟩ := by
      apply ByteArray.ext
      exact Array.eq_empty_of_size_eq_zero hk0
    subst hk1
    go_enter Try.func18, Try.ntmps18
    go_wp2_with fail
    go_quiet (fail)
    go_wp2_with fail
    go_ret
    exact ⟨ret_bool (by rw [eq_comm, decide_eq_false_iff_not]; exact fun h => h.1 hk0), blw_drewN (Below.refl _ _) _⟩
  · have t0 : k.toList.isEmpty = false := by
      rw [ByteArray.toList_eq, List.isEmpty_eq_false_iff]
      intro h
      have := congrArg List.length h
      rw [data_len] at this
      exact hk0 this
    replace hk0 := hide hk0
    by_cases hx8 : x.size = 8
    · have hc : ∀ w, Calls Try.prog 35 #[.string k, .string m] w fun e w' => e = .returned (digV (markS k m)) ∧ Below w.heap.size w w' := fun w => marked_any k m w hk hm
      obtain ⟨X, hX⟩ : ∃ X, x.data.toList = X := ⟨_, rfl⟩
      have hXl : X.length = 8 := by rw [← hX, data_len, hx8]
      have hconv : ∀ w, (convert 9 32 (.string x)).run Try.prog w = .ok (.slice (some ⟨w.heap.size, 0, none⟩) 8 (grownCap w x.size 0 5)) (Lib.bytesWorld w 5 x) := fun w => by
        have := Lib.run_convert_string_bytes (P := Try.prog) w 9 32 5 x Try.underlying9 Try.underlying32 Try.underlying5
        rw [hx8] at this ⊢
        exact this
      have harr := fun w a c => arr_at w a 8 c (Nat.le_refl _)
      have hcell : ∀ (w : World) (j : Nat), j < 8 → (Lib.bytesWorld w 5 x).cell? ⟨w.heap.size, j, none⟩ = some (.int .u8 (X[j]?.getD 0).toNat) := fun w j hj => by
        have := Lib.bytesWorld_cell w 5 x j (by omega)
        rw [hX] at this
        simpa using this
      have hbs := fun w => Lib.bytesWorld_size w 5 x
      have heq := fun w => eqD hXl (markS_len k m) w
      have hbB := fun (B : Nat) (w : World) (h : B ≤ w.heap.size) => Joins.below_bytesWorld B w 5 x h
      replace hbB := hide hbB
      replace hc := hide hc
      replace hX := hide hX
      go_enter Try.func18, Try.ntmps18
      go_wp2_with fail
      refine wp_region_frontG 17 (fun _ _ w' => Below w.heap.size w w') (fun wa wb => Below wa.heap.size wa wb)
        (fun i v w' => match i with
          | 0 => v = .string k
          | 1 => v = .bool true
          | 2 => v = .bool true
          | 3 => v = .string x
          | 4 => v = .int .i64 8
          | 5 => v = .bool true
          | 6 => v = .bool true
          | 7 => v = .bool true
          | 8 => v = .string x
          | 9 => ∃ b cp, v = .slice (some ⟨b, 0, none⟩) 8 cp ∧ b < w'.heap.size ∧ ∀ j, j < 8 → w'.cell? ⟨b, j, none⟩ = some (.int .u8 (X[j]?.getD 0).toNat)
          | 10 => ∃ b, v = .pointer (some ⟨b, 0, none⟩) ∧ b < w'.heap.size ∧ ∀ j, j < 8 → w'.cell? ⟨b, j, none⟩ = some (.int .u8 (X[j]?.getD 0).toNat)
          | 11 => v = digV X
          | 12 => v = .string k
          | 13 => v = .string m
          | 14 => v = digV (markS k m)
          | 15 => v = .bool (decide (X = markS k m))
          | 16 => v = .bool (decide (X = markS k m))
          | _ => True) (by rfl) (by kernel_rfl) ?_ ?_ ?_ ?_
      · exact (Below.refl _ _).drew
      · intro wa wb hR i v hv
        match i, hv with
        | 0, h => exact h
        | 1, h => exact h
        | 2, h => exact h
        | 3, h => exact h
        | 4, h => exact h
        | 5, h => exact h
        | 6, h => exact h
        | 7, h => exact h
        | 8, h => exact h
        | 9, h => obtain ⟨b, cp, h1, h2, h3⟩ := h; exact ⟨b, cp, h1, Nat.lt_of_lt_of_le h2 hR.size, fun j hj => (hR.cell (p := ⟨b, j, none⟩) h2).trans (h3 j hj)⟩
        | 10, h => obtain ⟨b, h1, h2, h3⟩ := h; exact ⟨b, h1, Nat.lt_of_lt_of_le h2 hR.size, fun j hj => (hR.cell (p := ⟨b, j, none⟩) h2).trans (h3 j hj)⟩
        | 11, h => exact h
        | 12, h => exact h
        | 13, h => exact h
        | 14, h => exact h
        | 15, h => exact h
        | 16, h => exact h
        | _ + 17, _ => trivial
      · intro i hi
        obtain rfl | rfl | rfl | rfl | rfl | rfl | rfl | rfl | rfl | rfl | rfl | rfl | rfl | rfl | rfl | rfl | rfl : i = 0 ∨ i = 1 ∨ i = 2 ∨ i = 3 ∨ i = 4 ∨ i = 5 ∨ i = 6 ∨ i = 7 ∨ i = 8 ∨ i = 9 ∨ i = 10 ∨ i = 11 ∨ i = 12 ∨ i = 13 ∨ i = 14 ∨ i = 15 ∨ i = 16 := by omega
        · refine FrontStep.of [] _ rfl (by kernel_rfl) ?_
          intro vs L wq hL hC hf
          simp only [putL, List.foldl_nil]
          go_wp2_with fail
          first | exact Below.refl _ _ | (trace_state; sorry)
        · refine FrontStep.of [0] _ rfl (by kernel_rfl) ?_
          intro vs L wq hL hC hf
          simp only [putL, List.foldl_nil, List.foldl_cons, List.getElem?_cons_zero]
          have e0 : vs 0 = _ := hf 0 (by simp)
          rw [e0]
          go_wp2_with fail
          first | exact Below.refl _ _ | (trace_state; sorry)
        · refine FrontStep.of [1] _ rfl (by kernel_rfl) ?_
          intro vs L wq hL hC hf
          simp only [putL, List.foldl_nil, List.foldl_cons, List.getElem?_cons_zero, List.getElem?_cons_succ]
          have e1 : vs 1 = _ := hf 1 (by simp)
          rw [e1]
          go_wp2_with fail
          first | exact Below.refl _ _ | (trace_state; sorry)
        · refine FrontStep.of [2] _ rfl (by kernel_rfl) ?_
          intro vs L wq hL hC hf
          simp only [putL, List.foldl_nil, List.foldl_cons, List.getElem?_cons_zero, List.getElem?_cons_succ]
          have e2 : vs 2 = _ := hf 2 (by simp)
          rw [e2]
          go_wp2_with fail
          first | exact Below.refl _ _ | (trace_state; sorry)
        · refine FrontStep.of [2, 3] _ rfl (by kernel_rfl) ?_
          intro vs L wq hL hC hf
          simp only [putL, List.foldl_nil, List.foldl_cons, List.getElem?_cons_zero, List.getElem?_cons_succ]
          have e2 : vs 2 = _ := hf 2 (by simp)
          rw [e2]
          have e3 : vs 3 = _ := hf 3 (by simp)
          rw [e3]
          go_wp2_with fail
          first | exact Below.refl _ _ | (trace_state; sorry)
        · refine FrontStep.of [2, 4] _ rfl (by kernel_rfl) ?_
          intro vs L wq hL hC hf
          simp only [putL, List.foldl_nil, List.foldl_cons, List.getElem?_cons_zero, List.getElem?_cons_succ]
          have e2 : vs 2 = _ := hf 2 (by simp)
          rw [e2]
          have e4 : vs 4 = _ := hf 4 (by simp)
          rw [e4]
          go_wp2_with fail
          first | exact Below.refl _ _ | (trace_state; sorry)
        · refine FrontStep.of [2, 5] _ rfl (by kernel_rfl) ?_
          intro vs L wq hL hC hf
          simp only [putL, List.foldl_nil, List.foldl_cons, List.getElem?_cons_zero, List.getElem?_cons_succ]
          have e2 : vs 2 = _ := hf 2 (by simp)
          rw [e2]
          have e5 : vs 5 = _ := hf 5 (by simp)
          rw [e5]
          go_wp2_with fail
          first | exact Below.refl _ _ | (trace_state; sorry)
        · refine FrontStep.of [2, 6] _ rfl (by kernel_rfl) ?_
          intro vs L wq hL hC hf
          simp only [putL, List.foldl_nil, List.foldl_cons, List.getElem?_cons_zero, List.getElem?_cons_succ]
          have e2 : vs 2 = _ := hf 2 (by simp)
          rw [e2]
          have e6 : vs 6 = _ := hf 6 (by simp)
          rw [e6]
          go_wp2_with fail
          first | exact Below.refl _ _ | (trace_state; sorry)
        · refine FrontStep.of [7] _ rfl (by kernel_rfl) ?_
          intro vs L wq hL hC hf
          simp only [putL, List.foldl_nil, List.foldl_cons, List.getElem?_cons_zero, List.getElem?_cons_succ]
          have e7 : vs 7 = _ := hf 7 (by simp)
          rw [e7]
          go_wp2_with fail
          first | exact Below.refl _ _ | (trace_state; sorry)
        · refine FrontStep.of [7, 8] _ rfl (by kernel_rfl) ?_
          intro vs L wq hL hC hf
          simp only [putL, List.foldl_nil, List.foldl_cons, List.getElem?_cons_zero, List.getElem?_cons_succ]
          have e7 : vs 7 = _ := hf 7 (by simp)
          rw [e7]
          have e8 : vs 8 = _ := hf 8 (by simp)
          rw [e8]
          have hcv := hconv wq
          go_wp2_with fail
          exact ⟨hC.trans ((unhide hbB _ wq (Nat.le_refl _)).mono hC.size), unhide hbB _ wq (Nat.le_refl _), fun j hj => hcell wq j hj⟩
        · refine FrontStep.of [7, 9] _ rfl (by kernel_rfl) ?_
          intro vs L wq hL hC hf
          simp only [putL, List.foldl_nil, List.foldl_cons, List.getElem?_cons_zero, List.getElem?_cons_succ]
          have e7 : vs 7 = _ := hf 7 (by simp)
          rw [e7]
          obtain ⟨b, cp, h9, hbl, hbc⟩ := hf 9 (by simp)
          rw [h9]
          go_wp2_with fail
          exact ⟨Below.refl _ _, hbc⟩
        · refine FrontStep.of [7, 10] _ rfl (by kernel_rfl) ?_
          intro vs L wq hL hC hf
          simp only [putL, List.foldl_nil, List.foldl_cons, List.getElem?_cons_zero, List.getElem?_cons_succ]
          have e7 : vs 7 = _ := hf 7 (by simp)
          rw [e7]
          obtain ⟨b, h10, hbl, hbc⟩ := hf 10 (by simp)
          rw [h10]
          have c0 := hbc 0 (by omega)
          have c1 := hbc 1 (by omega)
          have c2 := hbc 2 (by omega)
          have c3 := hbc 3 (by omega)
          have c4 := hbc 4 (by omega)
          have c5 := hbc 5 (by omega)
          have c6 := hbc 6 (by omega)
          have c7 := hbc 7 (by omega)
          go_wp2_with fail
          first | exact Below.refl _ _ | (trace_state; sorry)
        · refine FrontStep.of [7] _ rfl (by kernel_rfl) ?_
          intro vs L wq hL hC hf
          simp only [putL, List.foldl_nil, List.foldl_cons, List.getElem?_cons_zero, List.getElem?_cons_succ]
          have e7 : vs 7 = _ := hf 7 (by simp)
          rw [e7]
          go_wp2_with fail
          first | exact Below.refl _ _ | (trace_state; sorry)
        · refine FrontStep.of [7] _ rfl (by kernel_rfl) ?_
          intro vs L wq hL hC hf
          simp only [putL, List.foldl_nil, List.foldl_cons, List.getElem?_cons_zero, List.getElem?_cons_succ]
          have e7 : vs 7 = _ := hf 7 (by simp)
          rw [e7]
          go_wp2_with fail
          first | exact Below.refl _ _ | (trace_state; sorry)
        · refine FrontStep.of [7, 12, 13] _ rfl (by kernel_rfl) ?_
          intro vs L wq hL hC hf
          simp only [putL, List.foldl_nil, List.foldl_cons, List.getElem?_cons_zero, List.getElem?_cons_succ]
          have e7 : vs 7 = _ := hf 7 (by simp)
          rw [e7]
          have e12 : vs 12 = _ := hf 12 (by simp)
          rw [e12]
          have e13 : vs 13 = _ := hf 13 (by simp)
          rw [e13]
          go_wp2_with fail
          refine (unhide hc wq).mono ?_
          rintro e w2 ⟨rfl, hb2⟩
          go_wp2_with fail
          exact hC.trans (hb2.mono hC.size)
        · refine FrontStep.of [7, 11, 14] _ rfl (by kernel_rfl) ?_
          intro vs L wq hL hC hf
          simp only [putL, List.foldl_nil, List.foldl_cons, List.getElem?_cons_zero, List.getElem?_cons_succ]
          have e7 : vs 7 = _ := hf 7 (by simp)
          rw [e7]
          have e11 : vs 11 = _ := hf 11 (by simp)
          rw [e11]
          have e14 : vs 14 = _ := hf 14 (by simp)
          rw [e14]
          have hq := heq wq
          go_wp2_with fail
          first | exact Below.refl _ _ | (trace_state; sorry)
        · refine FrontStep.of [7, 15] _ rfl (by kernel_rfl) ?_
          intro vs L wq hL hC hf
          simp only [putL, List.foldl_nil, List.foldl_cons, List.getElem?_cons_zero, List.getElem?_cons_succ]
          have e7 : vs 7 = _ := hf 7 (by simp)
          rw [e7]
          have e15 : vs 15 = _ := hf 15 (by simp)
          rw [e15]
          go_wp2_with fail
          first | exact Below.refl _ _ | (trace_state; sorry)
      · intro vs L wq hL hC hf
        have e16 : vs 16 = _ := hf 16 (by omega)
        rw [putSome_all]
        simp only [putL, List.range, List.range.loop, List.foldl_nil, List.foldl_cons, List.getElem?_cons_zero, List.getElem?_cons_succ, List.drop_succ_cons, List.drop_zero]
        rw [e16]
        go_wp2_with fail
        go_ret
        exact ⟨ret_bool (by rw [unhide hX, Bool.eq_iff_iff, decide_eq_true_eq, decide_eq_true_eq]; exact ⟨fun h => ⟨unhide hk0, h⟩, fun h => h.2⟩), hC⟩
    · have t1 : ((x.size : Int) == 8) = false := beq_eq_false_iff_ne.2 (by omega)
      have t2 : (x.size == 8) = false := beq_eq_false_iff_ne.2 hx8
      have hfin : decide (k.size ≠ 0 ∧ x.data.toList = markS k m) = false := by
        rw [decide_eq_false_iff_not]
        rintro ⟨_, h⟩
        have := congrArg List.length h
        rw [data_len, markS_len] at this
        exact hx8 this
      replace hfin := hide hfin
      replace hx8 := hide hx8
      go_enter Try.func18, Try.ntmps18
      go_wp2_with fail
      go_quiet (fail)
      go_wp2_with fail
      go_ret
      exact ⟨by rw [unhide hfin]; rfl, blw_drewN (Below.refl _ _) _⟩
end Go.Proofs.Ytlmaofibdjmkeaa
