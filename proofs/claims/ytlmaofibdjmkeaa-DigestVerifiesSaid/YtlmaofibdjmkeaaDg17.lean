/- DigestMarks. -/
import Derived.Test.YtlmaofibdjmkeaaDg16
import Derived.Test.YtlmaofibdjmkeaaDg12
namespace Go.Proofs.Ytlmaofibdjmkeaa
open Go.RowKit
attribute [local go_sem ↓] Go.wp_at_zero Go.wp_at_succ
abbrev EOther : Enc (ByteArray × (Int × Int)) := Enc.pair Enc.str (Enc.pair (Enc.num .u8 0 255) (Enc.num .u8 0 255))
theorem other_open {w : World} {S : Nat → Prop} {cs : Array Value} {y : ByteArray × (Int × Int)} (h : EOther.rep w S cs.toList y) :
    ∃ p c : Nat, p < 256 ∧ c < 256 ∧ y.1.size ≤ maxLen ∧ cs = #[.string y.1, .int .u8 (p : Int), .int .u8 (c : Int)] := by
  obtain ⟨a, b, h1, ⟨h2, h3⟩, c, d, h4, ⟨h5, h6, h7⟩, h8, h9, h10⟩ := h
  obtain ⟨p, hp⟩ := Int.eq_ofNat_of_zero_le h6
  obtain ⟨q, hq⟩ := Int.eq_ofNat_of_zero_le h9
  refine ⟨p, q, by omega, by omega, h3, ?_⟩
  apply Array.toList_inj.1
  rw [h1, h2, h4, h5, h8, hp, hq]
  rfl
set_option maxRecDepth 100000 in
set_option maxHeartbeats 4000000 in
theorem digestMarks_any (k m : ByteArray) (cs : Array Value) (y : ByteArray × (Int × Int)) (w : World) (hk : k.size ≤ maxLen) (hm : m.size ≤ maxLen) (hy : EOther.rep w (fun b => b < w.heap.size) cs.toList y) :
    Calls Try.prog 4 #[.string k, .string m, .agg cs] w fun e w' => e = .returned (.bool true) ∧ Below w.heap.size w w' := by
  obtain ⟨p, c, hp, hc, hyS, rfl⟩ := other_open hy
  clear hy
  obtain ⟨S, hS⟩ : ∃ S, y.1 = S := ⟨_, rfl⟩
  rw [hS] at hyS ⊢
  clear hS
  unfold maxLen at hyS
  have hsan := fun w => dsanity_any w
  have hca := fun w => dcut_any k w hk
  have hcb := fun w => dcut_any m w hm
  replace hsan := hide hsan; replace hca := hide hca; replace hcb := hide hcb
  obtain ⟨bx, hbx⟩ : ∃ bx, bx = w.heap.size := ⟨_, rfl⟩
  obtain ⟨wo, hwo⟩ : ∃ wo, wo = w.alloc (Obj.cells #[.string S, .int .u8 (p : Int), .int .u8 (c : Int)] 27) := ⟨_, rfl⟩
  have hrow : wo.heap[bx]? = some (.cells #[.string S, .int .u8 (p : Int), .int .u8 (c : Int)] 27 (0, 0)) := by rw [hwo, hbx]; exact heap_alloc_new w _
  have hb0 : Below w.heap.size w wo := by rw [hwo]; exact (Below.refl _ _).alloc (Nat.le_refl _) _
  have hbl : bx < wo.heap.size := (Array.getElem?_eq_some_iff.1 hrow).1
  replace hwo := hide hwo; replace hb0 := hide hb0; replace hrow := hide hrow; replace hbx := hide hbx
  go_enter Try.func4, Try.ntmps4
  go_wp2_with fail
  rw [← unhide hwo, ← unhide hbx]
  go_wp2_with fail
  refine (unhide hsan _).mono ?_
  rintro e w1 ⟨rfl, h1⟩
  go_wp2_with fail
  refine (unhide hca _).mono ?_
  rintro e w2 ⟨⟨t, ht, rfl⟩, h2⟩
  go_wp2_with fail
  refine (unhide hcb _).mono ?_
  rintro e w3 ⟨⟨u, hu, rfl⟩, h3⟩
  have hk2 : t.size ≤ 200 := by omega
  have hm2 : u.size ≤ 200 := by omega
  have hB := (h1.trans (h2.mono h1.size)).trans (h3.mono (h1.trans (h2.mono h1.size)).size)
  have r1 := fun w => rMark_any t u w (by omega) (by omega)
  obtain ⟨M, hM⟩ : ∃ M : ByteArray, (⟨(markS t u).toArray⟩ : ByteArray) = M := ⟨_, rfl⟩
  have hMs : M.size = 8 := by rw [← hM]; rfl
  rw [hM] at r1
  replace r1 := hide r1
  clear h1 h2 h3 ht hu
  go_wp2_with fail
  refine (unhide r1 _).mono ?_
  rintro e w4 ⟨rfl, h4⟩
  replace hB := hB.trans (h4.mono hB.size)
  clear h4
  have hrow4 := (hB.block bx hbl).trans (unhide hrow)
  have hc0 : w4.cell? ⟨bx, 0, none⟩ = some (.string S) := (cell_of_row _ _ 0 _ _ _ hrow4).trans rfl
  replace hrow4 := hide hrow4; replace hB := hide hB
  go_upto_region 4 with fail
  go_cut [9] (fun v9 wr => ∃ raw : ByteArray, v9 = .string raw ∧ raw.size ≤ 20 ∧ wr = w4)
  case first =>
    go_wp2_with fail
    all_goals
      go_meet
      refine ⟨_, rfl, ?_, rfl⟩
      first | omega | (simp only [ByteArray.size_extract]; omega)
  case rest =>
    obtain ⟨raw, rfl, hraw, e4⟩ := hcut
    subst e4
    obtain ⟨w4, hw4⟩ : ∃ w4, w4 = wc := ⟨_, rfl⟩
    rw [← hw4] at hc0 hrow4 hB ⊢
    clear hw4
    have hbl4 : bx < w4.heap.size := (Array.getElem?_eq_some_iff.1 (unhide hrow4)).1
    have hcA : w4.cell? ⟨bx, 1, none⟩ = some (.int .u8 (p : Int)) := (cell_of_row _ _ 1 _ _ _ (unhide hrow4)).trans rfl
    have hcB : w4.cell? ⟨bx, 2, none⟩ = some (.int .u8 (c : Int)) := (cell_of_row _ _ 2 _ _ _ (unhide hrow4)).trans rfl
    have d1 := fun w => change_any S M p c w hp hc (by rw [hMs]; decide)
    have d2 := fun w => rMark_any u t w (by omega) (by omega)
    have d3 := fun w => rMark_any raw u w (by omega) (by omega)
    obtain ⟨X1, hX1⟩ : ∃ X : ByteArray, Dg.chg M p c = X := ⟨_, rfl⟩
    have hX1s : X1.size = 8 := by rw [← hX1, chg_size, hMs]
    rw [hX1] at d1
    obtain ⟨X2, hX2⟩ : ∃ X : ByteArray, (⟨(markS u t).toArray⟩ : ByteArray) = X := ⟨_, rfl⟩
    have hX2s : X2.size = 8 := by rw [← hX2]; rfl
    rw [hX2] at d2
    obtain ⟨X3, hX3⟩ : ∃ X : ByteArray, (⟨(markS raw u).toArray⟩ : ByteArray) = X := ⟨_, rfl⟩
    have hX3s : X3.size = 8 := by rw [← hX3]; rfl
    rw [hX3] at d3
    replace d1 := hide d1; replace d2 := hide d2; replace d3 := hide d3
    clear hX1 hX2 hX3
    obtain ⟨q, hq⟩ : ∃ q, p % 8 = q := ⟨_, rfl⟩
    have hq8 : q < 8 := by omega
    have hqi : (p : Int) % 8 = (q : Int) := by omega
    have hqt : Int.tmod (p : Int) 8 = (q : Int) := by rw [← hq]; rfl
    obtain ⟨X4, hX4⟩ : ∃ X, M.extract 0 q = X := ⟨_, rfl⟩
    have hX4s : X4.size ≤ 8 := by rw [← hX4, ByteArray.size_extract]; omega
    replace hM := hide hM; replace hq := hide hq
    have hMi : (M.size : Int) = 8 := by omega
    go_wp2_with fail
    refine wp_region_frontG 22 (fun _ _ w' => Below w4.heap.size w4 w') (fun wa wb => Below wa.heap.size wa wb)
      (fun i v w' => match i with
        | 0 => v = .string M
        | 1 => v = .agg #[.string S, .int .u8 (p : Int), .int .u8 (c : Int)]
        | 2 => v = .string M
        | 3 => v = .string X1
        | 4 => v = .string raw
        | 5 => v = .string M
        | 6 => v = .pointer (some ⟨bx, 1, none⟩)
        | 7 => v = .int .u8 (p : Int)
        | 8 => v = .int .i64 (p : Int)
        | 9 => v = .string M
        | 10 => v = .int .i64 8
        | 11 => v = .int .i64 (q : Int)
        | 12 => v = .string X4
        | 13 => v = .string u
        | 14 => v = .string t
        | 15 => v = .string X2
        | 16 => v = .string raw
        | 17 => v = .string u
        | 18 => v = .string X3
        | 19 => ∃ b, v = .slice (some ⟨b, 0, none⟩) 6 6 ∧ w'.heap[b]? = some (.cells #[.string M, .string X1, .string raw, .string X4, .string X2, .string X3] 9 (0, 0))
        | 20 => v = .int .i64 6
        | 21 => v = .int .i64 0
        | _ => True) (by rfl) (by kernel_rfl) ?_ ?_ ?_ ?_
    · exact (Below.refl _ _).drew
    · intro wa wb hR i v hv
      match i, hv with
      | 0, h => exact h
      | 1, h => exact h
      | 2, h => exact h
      | 3, h => exact h
      | 4, h => exact h
      | 5, h => exact h
      | 6, h => exact h
      | 7, h => exact h
      | 8, h => exact h
      | 9, h => exact h
      | 10, h => exact h
      | 11, h => exact h
      | 12, h => exact h
      | 13, h => exact h
      | 14, h => exact h
      | 15, h => exact h
      | 16, h => exact h
      | 17, h => exact h
      | 18, h => exact h
      | 19, h => obtain ⟨b, h1, h2⟩ := h; exact ⟨b, h1, (hR.block b (Array.getElem?_eq_some_iff.1 h2).1).trans h2⟩
      | 20, h => exact h
      | 21, h => exact h
      | _ + 22, _ => trivial
    · intro i hi
      obtain rfl | rfl | rfl | rfl | rfl | rfl | rfl | rfl | rfl | rfl | rfl | rfl | rfl | rfl | rfl | rfl | rfl | rfl | rfl | rfl | rfl | rfl : i = 0 ∨ i = 1 ∨ i = 2 ∨ i = 3 ∨ i = 4 ∨ i = 5 ∨ i = 6 ∨ i = 7 ∨ i = 8 ∨ i = 9 ∨ i = 10 ∨ i = 11 ∨ i = 12 ∨ i = 13 ∨ i = 14 ∨ i = 15 ∨ i = 16 ∨ i = 17 ∨ i = 18 ∨ i = 19 ∨ i = 20 ∨ i = 21 := by omega
      · refine FrontStep.of [] _ rfl (by kernel_rfl) ?_
        intro vs L wq hL hC hf
        simp only [putL, List.foldl_nil]
        go_wp2_with fail
        first | exact Below.refl _ _ | exact ⟨Below.refl _ _, by omega⟩
      · refine FrontStep.of [] _ rfl (by kernel_rfl) ?_
        intro vs L wq hL hC hf
        simp only [putL, List.foldl_nil]
        have q0 := (hC.cell (p := ⟨bx, 0, none⟩) hbl4).trans hc0
        have q1 := (hC.cell (p := ⟨bx, 1, none⟩) hbl4).trans hcA
        have q2 := (hC.cell (p := ⟨bx, 2, none⟩) hbl4).trans hcB
        go_wp2_with fail
        first | exact Below.refl _ _ | exact ⟨Below.refl _ _, by omega⟩
      · refine FrontStep.of [] _ rfl (by kernel_rfl) ?_
        intro vs L wq hL hC hf
        simp only [putL, List.foldl_nil]
        go_wp2_with fail
        first | exact Below.refl _ _ | exact ⟨Below.refl _ _, by omega⟩
      · refine FrontStep.of [1, 2] _ rfl (by kernel_rfl) ?_
        intro vs L wq hL hC hf
        simp only [putL, List.foldl_nil, List.foldl_cons, List.getElem?_cons_zero, List.getElem?_cons_succ]
        have e1 : vs 1 = _ := hf 1 (by simp)
        rw [e1]
        have e2 : vs 2 = _ := hf 2 (by simp)
        rw [e2]
        go_wp2_with fail
        refine (unhide d1 _).mono ?_
        rintro e w5 ⟨rfl, hb5⟩
        go_wp2_with fail
        exact hC.trans (hb5.mono hC.size)
      · refine FrontStep.of [] _ rfl (by kernel_rfl) ?_
        intro vs L wq hL hC hf
        simp only [putL, List.foldl_nil]
        go_wp2_with fail
        first | exact Below.refl _ _ | exact ⟨Below.refl _ _, by omega⟩
      · refine FrontStep.of [] _ rfl (by kernel_rfl) ?_
        intro vs L wq hL hC hf
        simp only [putL, List.foldl_nil]
        go_wp2_with fail
        first | exact Below.refl _ _ | exact ⟨Below.refl _ _, by omega⟩
      · refine FrontStep.of [] _ rfl (by kernel_rfl) ?_
        intro vs L wq hL hC hf
        simp only [putL, List.foldl_nil]
        go_wp2_with fail
        first | exact Below.refl _ _ | exact ⟨Below.refl _ _, by omega⟩
      · refine FrontStep.of [6] _ rfl (by kernel_rfl) ?_
        intro vs L wq hL hC hf
        simp only [putL, List.foldl_nil, List.foldl_cons, List.getElem?_cons_zero, List.getElem?_cons_succ]
        have e6 : vs 6 = _ := hf 6 (by simp)
        rw [e6]
        have q1 := (hC.cell (p := ⟨bx, 1, none⟩) hbl4).trans hcA
        go_wp2_with fail
        first | exact Below.refl _ _ | exact ⟨Below.refl _ _, by omega⟩
      · refine FrontStep.of [7] _ rfl (by kernel_rfl) ?_
        intro vs L wq hL hC hf
        simp only [putL, List.foldl_nil, List.foldl_cons, List.getElem?_cons_zero, List.getElem?_cons_succ]
        have e7 : vs 7 = _ := hf 7 (by simp)
        rw [e7]
        go_wp2_with fail
        first | exact Below.refl _ _ | exact ⟨Below.refl _ _, by omega⟩
      · refine FrontStep.of [] _ rfl (by kernel_rfl) ?_
        intro vs L wq hL hC hf
        simp only [putL, List.foldl_nil]
        go_wp2_with fail
        first | exact Below.refl _ _ | exact ⟨Below.refl _ _, by omega⟩
      · refine FrontStep.of [9] _ rfl (by kernel_rfl) ?_
        intro vs L wq hL hC hf
        simp only [putL, List.foldl_nil, List.foldl_cons, List.getElem?_cons_zero, List.getElem?_cons_succ]
        have e9 : vs 9 = _ := hf 9 (by simp)
        rw [e9]
        go_wp2_with fail
        first | exact Below.refl _ _ | exact ⟨Below.refl _ _, by omega⟩
      · refine FrontStep.of [8, 10] _ rfl (by kernel_rfl) ?_
        intro vs L wq hL hC hf
        simp only [putL, List.foldl_nil, List.foldl_cons, List.getElem?_cons_zero, List.getElem?_cons_succ]
        have e8 : vs 8 = _ := hf 8 (by simp)
        rw [e8]
        have e10 : vs 10 = _ := hf 10 (by simp)
        rw [e10]
        go_wp2_with fail
        first | exact Below.refl _ _ | exact ⟨Below.refl _ _, by omega⟩
      · refine FrontStep.of [5, 11] _ rfl (by kernel_rfl) ?_
        intro vs L wq hL hC hf
        simp only [putL, List.foldl_nil, List.foldl_cons, List.getElem?_cons_zero, List.getElem?_cons_succ]
        have e5 : vs 5 = _ := hf 5 (by simp)
        rw [e5]
        have e11 : vs 11 = _ := hf 11 (by simp)
        rw [e11]
        have hX4' := hX4
        go_wp2_with fail
        first | exact Below.refl _ _ | exact ⟨Below.refl _ _, by omega⟩
      · refine FrontStep.of [] _ rfl (by kernel_rfl) ?_
        intro vs L wq hL hC hf
        simp only [putL, List.foldl_nil]
        go_wp2_with fail
        first | exact Below.refl _ _ | exact ⟨Below.refl _ _, by omega⟩
      · refine FrontStep.of [] _ rfl (by kernel_rfl) ?_
        intro vs L wq hL hC hf
        simp only [putL, List.foldl_nil]
        go_wp2_with fail
        first | exact Below.refl _ _ | exact ⟨Below.refl _ _, by omega⟩
      · refine FrontStep.of [3, 13, 14] _ rfl (by kernel_rfl) ?_
        intro vs L wq hL hC hf
        simp only [putL, List.foldl_nil, List.foldl_cons, List.getElem?_cons_zero, List.getElem?_cons_succ]
        have e3 : vs 3 = _ := hf 3 (by simp)
        rw [e3]
        have e13 : vs 13 = _ := hf 13 (by simp)
        rw [e13]
        have e14 : vs 14 = _ := hf 14 (by simp)
        rw [e14]
        go_wp2_with fail
        refine (unhide d2 _).mono ?_
        rintro e w5 ⟨rfl, hb5⟩
        go_wp2_with fail
        exact hC.trans (hb5.mono hC.size)
      · refine FrontStep.of [] _ rfl (by kernel_rfl) ?_
        intro vs L wq hL hC hf
        simp only [putL, List.foldl_nil]
        go_wp2_with fail
        first | exact Below.refl _ _ | exact ⟨Below.refl _ _, by omega⟩
      · refine FrontStep.of [] _ rfl (by kernel_rfl) ?_
        intro vs L wq hL hC hf
        simp only [putL, List.foldl_nil]
        go_wp2_with fail
        first | exact Below.refl _ _ | exact ⟨Below.refl _ _, by omega⟩
      · refine FrontStep.of [15, 16, 17] _ rfl (by kernel_rfl) ?_
        intro vs L wq hL hC hf
        simp only [putL, List.foldl_nil, List.foldl_cons, List.getElem?_cons_zero, List.getElem?_cons_succ]
        have e15 : vs 15 = _ := hf 15 (by simp)
        rw [e15]
        have e16 : vs 16 = _ := hf 16 (by simp)
        rw [e16]
        have e17 : vs 17 = _ := hf 17 (by simp)
        rw [e17]
        go_wp2_with fail
        refine (unhide d3 _).mono ?_
        rintro e w5 ⟨rfl, hb5⟩
        go_wp2_with fail
        exact hC.trans (hb5.mono hC.size)
      · refine FrontStep.of [0, 3, 4, 12, 15, 18] _ rfl (by kernel_rfl) ?_
        intro vs L wq hL hC hf
        simp only [putL, List.foldl_nil, List.foldl_cons, List.getElem?_cons_zero, List.getElem?_cons_succ]
        have e0 : vs 0 = _ := hf 0 (by simp)
        rw [e0]
        have e3 : vs 3 = _ := hf 3 (by simp)
        rw [e3]
        have e4 : vs 4 = _ := hf 4 (by simp)
        rw [e4]
        have e12 : vs 12 = _ := hf 12 (by simp)
        rw [e12]
        have e15 : vs 15 = _ := hf 15 (by simp)
        rw [e15]
        have e18 : vs 18 = _ := hf 18 (by simp)
        rw [e18]
        go_wp2_with fail
        exact ⟨hC.alloc hC.size _, (Below.refl _ _).alloc (Nat.le_refl _) _, (Array.getElem?_eq_some_iff.1 (heap_alloc_new _ _)).2⟩
      · refine FrontStep.of [19] _ rfl (by kernel_rfl) ?_
        intro vs L wq hL hC hf
        simp only [putL, List.foldl_nil, List.foldl_cons, List.getElem?_cons_zero, List.getElem?_cons_succ]
        obtain ⟨b, e46, hb46⟩ := hf 19 (by simp)
        rw [e46]
        go_wp2_with fail
        first | exact Below.refl _ _ | exact ⟨Below.refl _ _, by omega⟩
      · refine FrontStep.of [] _ rfl (by kernel_rfl) ?_
        intro vs L wq hL hC hf
        simp only [putL, List.foldl_nil]
        go_wp2_with fail
        first | exact Below.refl _ _ | exact ⟨Below.refl _ _, by omega⟩
    · intro vs L wq hL hC hf
      obtain ⟨b, e19, hb19⟩ := hf 19 (by omega)
      have e20 : vs 20 = _ := hf 20 (by omega)
      have e21 : vs 21 = _ := hf 21 (by omega)
      rw [putSome_all]
      simp only [putL, List.range, List.range.loop, List.foldl_nil, List.foldl_cons, List.getElem?_cons_zero, List.getElem?_cons_succ, List.drop_succ_cons, List.drop_zero]
      rw [e19, e20, e21]
      clear e19 e20 e21 hf hL
      have hBw := (unhide hB).trans (hC.mono (unhide hB).size)
      replace hb19 := hide hb19; replace hBw := hide hBw
      clear d1 d2 d3 hC
      go_simp
      have hbl9 : b < wq.heap.size := (Array.getElem?_eq_some_iff.1 (unhide hb19)).1
      have hck : ∀ x w, x.size ≤ 200 → Calls Try.prog 18 #[.string t, .string u, .string x] w fun e w' => e = .returned (.bool (decide (t.size ≠ 0 ∧ x.data.toList = markS t u))) ∧ Below w.heap.size w w' := fun x w hx => dCheck_any t u x w (by omega) (by omega) (by omega)
      have hrk : ∀ x w, Calls Try.prog 19 #[.string t, .string u, .string x] w fun e w' => e = .returned (.bool (decide (t.size ≠ 0 ∧ x.data.toList = markS t u))) ∧ Below w.heap.size w w' := fun x w => rCheck_any t u x w (by omega) (by omega)
      have hmk := fun w => dMark_any t u w (by omega) (by omega)
      rw [unhide hM] at hmk
      replace hck := hide hck; replace hrk := hide hrk; replace hmk := hide hmk
      go_wp2_with fail
      go_loopw [11, 48] (fun _ v48 wr => ∃ k : Nat, k ≤ 6 ∧ v48 = .int .i64 (k : Int) ∧ Below wq.heap.size wq wr) (fun _ v _ => (6 - intOf v).toNat)
      case atStart => exact ⟨0, by omega, rfl, Below.refl _ _⟩
      case round =>
        obtain ⟨k, hk, rfl, hb⟩ := hrel
        by_cases hlt : k < 6
        · have hrow9 := (hb.block b hbl9).trans (unhide hb19)
          obtain ⟨x, hx, hxs⟩ : ∃ x : ByteArray, (#[Value.string M, .string X1, .string raw, .string X4, .string X2, .string X3])[k]? = some (.string x) ∧ x.size ≤ 200 := by
            obtain rfl | rfl | rfl | rfl | rfl | rfl : k = 0 ∨ k = 1 ∨ k = 2 ∨ k = 3 ∨ k = 4 ∨ k = 5 := by omega
            · exact ⟨M, rfl, by omega⟩
            · exact ⟨X1, rfl, by omega⟩
            · exact ⟨raw, rfl, by omega⟩
            · exact ⟨X4, rfl, by omega⟩
            · exact ⟨X2, rfl, by omega⟩
            · exact ⟨X3, rfl, by omega⟩
          have hcx : wr.cell? ⟨b, k, none⟩ = some (.string x) := (cell_of_row _ b k _ _ _ hrow9).trans hx
          have t1 : (k : Int) < 6 := by omega
          have hc1 := fun w => unhide hck x w hxs
          have hc2 := fun w => unhide hrk x w
          obtain ⟨Bx, hBx⟩ : ∃ Bx, decide (t.size ≠ 0 ∧ x.data.toList = markS t u) = Bx := ⟨_, rfl⟩
          simp only [hBx] at hc1 hc2
          have hne : (Bx != Bx) = false := by cases Bx <;> rfl
          replace hc1 := hide hc1; replace hc2 := hide hc2; replace hx := hide hx; replace hrow9 := hide hrow9
          clear hBx
          go_wp2_with fail
          refine (unhide hc1 _).mono ?_
          rintro e w7 ⟨rfl, h7⟩
          go_wp2_with fail
          refine (unhide hc2 _).mono ?_
          rintro e w8 ⟨rfl, h8⟩
          have hb8 := (hb.trans (h7.mono hb.size)).trans (h8.mono (hb.trans (h7.mono hb.size)).size)
          clear h7 h8
          go_wp2_with fail
          go_roundw
          case rel => exact ⟨k + 1, by omega, by go_num, hb8⟩
          case measure => simp [intOf]; omega
        · obtain rfl : k = 6 := by omega
          go_wp2_with fail
          refine (unhide hmk _).mono ?_
          rintro e w7 ⟨rfl, h7⟩
          have hbF := (unhide hb0).trans (((unhide hBw).trans (hb.mono (unhide hBw).size)).mono (unhide hb0).size)
          go_wp2_with fail
          go_ret
          exact ⟨rfl, hbF.trans (h7.mono hbF.size)⟩
end Go.Proofs.Ytlmaofibdjmkeaa
