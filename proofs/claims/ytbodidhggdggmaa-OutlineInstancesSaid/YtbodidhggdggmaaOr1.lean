/- Outline's law: cut. -/
import Derived.Test.YtbodidhggdggmaaOq5
import Derived.Test.YtbodidhggdggmaaFrontG
namespace Go.Proofs.Ytbodidhggdggmaa
open Go.RowKit
def cutD (d : Dl) : Dl := (d.1.take 4, d.2.take 20)
def cutS (l : List Dl) : List Dl := (l.take 10).map cutD
theorem min_take {α : Type} (x : List α) (q : Nat) : x.take (min x.length q) = x.take q := by
  rcases Nat.le_total x.length q with h | h
  · rw [Nat.min_eq_left h, List.take_of_length_le (Nat.le_refl _), List.take_of_length_le h]
  · rw [Nat.min_eq_right h]
def CutPost (l : List Dl) (w : World) (e : Ending) (w' : World) : Prop := ∃ v vs, e = .returned v ∧ w'.ownsRow w.heap.size 48 2 v (cutS l).length vs ∧ Flat Enc.dl w (· < w.heap.size) vs (cutS l) ∧ Below w.heap.size w w'
set_option maxRecDepth 100000 in
set_option maxHeartbeats 8000000 in
theorem cut6_any (a : Option Addr) (n c : Nat) (l : List Dl) (w : World) (hl : Lst Enc.dl w (· < w.heap.size) a n l) (hnm : n ≤ maxLen) :
    Calls Try.prog 22 #[.slice a n c] w (CutPost l w) := by
  have hol : l.length = n := hl.1
  unfold maxLen at hnm
  obtain ⟨B, hB⟩ : ∃ B, w.heap.size = B := ⟨_, rfl⟩
  replace hB := hide hB; replace hl := hide hl; replace hol := hide hol
  go_enter Try.func22, Try.ntmps22
  go_wp2_with fail
  go_loopw [3, 4] (fun v3 v4 wr => ∃ (k : Nat) (vs : List Value), k ≤ n ∧ k ≤ 10 ∧ v4 = .int .i64 (k : Int) ∧ wr.ownsRow B 48 2 v3 k vs ∧ Flat Enc.dl w (· < w.heap.size) vs ((l.take k).map cutD) ∧ Below B w wr) (fun _ v _ => (10 - intOf v).toNat)
  case atStart => exact ⟨0, [], by omega, by omega, rfl, World.ownsRow_nil _ _ _ _, rfl, Below.refl _ _⟩
  case round =>
    obtain ⟨k, vs0, hk, hk10, rfl, hrow, hrd, hbw⟩ := hrel
    obtain ⟨V, rfl⟩ : ∃ V : World, V = wr := ⟨_, rfl⟩
    obtain ⟨va, vc, rfl⟩ := own_shape hrow
    have hBV : B ≤ V.heap.size := by rw [← unhide hB]; exact hbw.size
    by_cases hlt : k < n ∧ k < 10
    · obtain ⟨hkn, hk10'⟩ := hlt
      obtain ⟨b, off, ⟨ts, ms⟩, xa, xn, xc, ma, mn, mc, rfl, hbb, hx, q1, q2, q3, q4, htl, hml, hc0, hc1⟩ := lst_dl (unhide hl) hkn
      have hcV : V.cell? ⟨b, off + k * 2, none⟩ = some (.slice xa xn xc) := (hbw.cell (p := ⟨b, off + k * 2, none⟩) (by rw [← unhide hB]; exact hbb)).trans hc0
      have hcW : V.cell? ⟨b, off + k * 2 + 1, none⟩ = some (.slice ma mn mc) := (hbw.cell (p := ⟨b, off + k * 2 + 1, none⟩) (by rw [← unhide hB]; exact hbb)).trans hc1
      simp only at htl hml
      have hxl : ts.length = xn := htl.1
      have hyl : ms.length = mn := hml.1
      obtain ⟨m1, hm0⟩ : ∃ m, min xn 4 = m := ⟨_, rfl⟩
      obtain ⟨m2, hm20⟩ : ∃ m, min mn 20 = m := ⟨_, rfl⟩
      have hm : min (xn : Int) 4 = (m1 : Int) := by omega
      have hmm : min (mn : Int) 20 = (m2 : Int) := by omega
      have htk : ts.take m1 = ts.take 4 := by rw [← hm0, ← hxl]; exact min_take ts 4
      have hmk : ms.take m2 = ms.take 20 := by rw [← hm20, ← hyl]; exact min_take ms 20
      have hm1x : m1 ≤ xn := by omega
      have hm2x : m2 ≤ mn := by omega
      have hlm := htl.take (k := m1) hm1x
      have hlk := hml.take (k := m2) hm2x
      rw [htk] at hlm
      rw [hmk] at hlk
      have hrd2 : Flat Enc.dl w (· < w.heap.size) (vs0 ++ [.slice xa m1 xc, .slice ma m2 mc]) ((l.take (k + 1)).map cutD) := by
        have e : (l.take (k + 1)).map cutD = (l.take k).map cutD ++ [cutD (ts, ms)] := by rw [List.take_add_one, hx, List.map_append]; rfl
        rw [e]
        exact Flat.append hrd (Flat.single ⟨[.slice xa m1 xc], _, rfl, ⟨_, _, _, rfl, by omega, q2, hlm⟩, _, _, _, rfl, by omega, q4, hlk⟩)
      have j1 : (0 : Int) ≤ (k : Int) := by omega
      have j2 : (k : Int) < (n : Int) := by omega
      have j3 : (k : Int) < 10 := by omega
      have j4 : (m1 : Int) ≤ (xn : Int) := by omega
      have j5 : (m1 : Int) ≤ (xc : Int) := by omega
      have j6 : (m2 : Int) ≤ (mn : Int) := by omega
      have j7 : (m2 : Int) ≤ (mc : Int) := by omega
      have t1 : decide ((k : Int) < (n : Int)) = true := by simp; omega
      have t2 : decide ((k : Int) < 10) = true := by simp; omega
      unfold maxLen at q2 q4
      clear hx hbb htk hmk hm0 hm20 hlm hlk hrd hc0 hc1 htl hml hxl hyl
      replace hrow := hide hrow; replace hbw := hide hbw; replace hrd2 := hide hrd2; replace hcV := hide hcV; replace hcW := hide hcW; replace hm := hide hm; replace hmm := hide hmm
      go_upto_region 5 with fail
      refine wp_region_frontG 29 (fun _ _ w' => Below V.heap.size V w') (fun wa wb => Below wa.heap.size wa wb)
        (fun ix v w' => match ix with
          | 0 => v = .slice va k vc
          | 1 => v = .slice (some ⟨b, off, none⟩) n c
          | 2 => v = .int .i64 (k : Int)
          | 3 => v = .pointer (some ⟨b, off + k * 2, none⟩)
          | 4 => v = .pointer (some ⟨b, off + k * 2, none⟩)
          | 5 => v = .slice xa xn xc
          | 6 => v = .slice (some ⟨b, off, none⟩) n c
          | 7 => v = .int .i64 (k : Int)
          | 8 => v = .pointer (some ⟨b, off + k * 2, none⟩)
          | 9 => v = .pointer (some ⟨b, off + k * 2, none⟩)
          | 10 => v = .slice xa xn xc
          | 11 => v = .int .i64 (xn : Int)
          | 12 => v = .int .i64 (m1 : Int)
          | 13 => v = .slice xa m1 xc
          | 14 => v = .slice (some ⟨b, off, none⟩) n c
          | 15 => v = .int .i64 (k : Int)
          | 16 => v = .pointer (some ⟨b, off + k * 2, none⟩)
          | 17 => v = .pointer (some ⟨b, off + k * 2 + 1, none⟩)
          | 18 => v = .slice ma mn mc
          | 19 => v = .slice (some ⟨b, off, none⟩) n c
          | 20 => v = .int .i64 (k : Int)
          | 21 => v = .pointer (some ⟨b, off + k * 2, none⟩)
          | 22 => v = .pointer (some ⟨b, off + k * 2 + 1, none⟩)
          | 23 => v = .slice ma mn mc
          | 24 => v = .int .i64 (mn : Int)
          | 25 => v = .int .i64 (m2 : Int)
          | 26 => v = .slice ma m2 mc
          | 27 => v = .agg #[.slice xa m1 xc, .slice ma m2 mc]
          | 28 => ∃ b, v = .slice (some ⟨b, 0, none⟩) 1 1 ∧ w'.heap[b]? = some (.cells #[.slice xa m1 xc, .slice ma m2 mc] 48 (0, 0))
          | _ => True) (by rfl) (by kernel_rfl) ?_ ?_ ?_ ?_
      · exact (Below.refl _ _).drew
      · intro wa wb hR ix v hv
        match ix, hv with
        | 0, h => exact h
        | 1, h => exact h
        | 2, h => exact h
        | 3, h => exact h
        | 4, h => exact h
        | 5, h => exact h
        | 6, h => exact h
        | 7, h => exact h
        | 8, h => exact h
        | 9, h => exact h
        | 10, h => exact h
        | 11, h => exact h
        | 12, h => exact h
        | 13, h => exact h
        | 14, h => exact h
        | 15, h => exact h
        | 16, h => exact h
        | 17, h => exact h
        | 18, h => exact h
        | 19, h => exact h
        | 20, h => exact h
        | 21, h => exact h
        | 22, h => exact h
        | 23, h => exact h
        | 24, h => exact h
        | 25, h => exact h
        | 26, h => exact h
        | 27, h => exact h
        | 28, h => obtain ⟨b, h1, h2⟩ := h; exact ⟨b, h1, (hR.block b (Array.getElem?_eq_some_iff.1 h2).1).trans h2⟩
        | _ + 29, _ => trivial
      · intro ix hix
        obtain rfl | rfl | rfl | rfl | rfl | rfl | rfl | rfl | rfl | rfl | rfl | rfl | rfl | rfl | rfl | rfl | rfl | rfl | rfl | rfl | rfl | rfl | rfl | rfl | rfl | rfl | rfl | rfl | rfl : ix = 0 ∨ ix = 1 ∨ ix = 2 ∨ ix = 3 ∨ ix = 4 ∨ ix = 5 ∨ ix = 6 ∨ ix = 7 ∨ ix = 8 ∨ ix = 9 ∨ ix = 10 ∨ ix = 11 ∨ ix = 12 ∨ ix = 13 ∨ ix = 14 ∨ ix = 15 ∨ ix = 16 ∨ ix = 17 ∨ ix = 18 ∨ ix = 19 ∨ ix = 20 ∨ ix = 21 ∨ ix = 22 ∨ ix = 23 ∨ ix = 24 ∨ ix = 25 ∨ ix = 26 ∨ ix = 27 ∨ ix = 28 := by omega
        · refine FrontStep.of [] _ rfl (by kernel_rfl) ?_
          intro vs LL wq hLL hC hf
          simp only [putL, List.foldl_nil]
          go_wp2_with fail
          first | exact Below.refl _ _ | exact ⟨Below.refl _ _, by omega⟩
        · refine FrontStep.of [] _ rfl (by kernel_rfl) ?_
          intro vs LL wq hLL hC hf
          simp only [putL, List.foldl_nil]
          go_wp2_with fail
          first | exact Below.refl _ _ | exact ⟨Below.refl _ _, by omega⟩
        · refine FrontStep.of [] _ rfl (by kernel_rfl) ?_
          intro vs LL wq hLL hC hf
          simp only [putL, List.foldl_nil]
          go_wp2_with fail
          first | exact Below.refl _ _ | exact ⟨Below.refl _ _, by omega⟩
        · refine FrontStep.of [1, 2] _ rfl (by kernel_rfl) ?_
          intro vs LL wq hLL hC hf
          simp only [putL, List.foldl_nil, List.foldl_cons, List.getElem?_cons_zero, List.getElem?_cons_succ]
          have e1 : vs 1 = _ := hf 1 (by simp)
          rw [e1]
          have e2 : vs 2 = _ := hf 2 (by simp)
          rw [e2]
          go_wp2_with fail
          first | exact Below.refl _ _ | exact ⟨Below.refl _ _, by omega⟩
        · refine FrontStep.of [3] _ rfl (by kernel_rfl) ?_
          intro vs LL wq hLL hC hf
          simp only [putL, List.foldl_nil, List.foldl_cons, List.getElem?_cons_zero, List.getElem?_cons_succ]
          have e3 : vs 3 = _ := hf 3 (by simp)
          rw [e3]
          go_wp2_with fail
          first | exact Below.refl _ _ | exact ⟨Below.refl _ _, by omega⟩
        · refine FrontStep.of [4] _ rfl (by kernel_rfl) ?_
          intro vs LL wq hLL hC hf
          simp only [putL, List.foldl_nil, List.foldl_cons, List.getElem?_cons_zero, List.getElem?_cons_succ]
          have e4 : vs 4 = _ := hf 4 (by simp)
          rw [e4]
          have dd := cell_under (unhide hcV) hC
          go_wp2_with fail
          first | exact Below.refl _ _ | exact ⟨Below.refl _ _, by omega⟩ | exact ⟨Below.refl _ _, trivial⟩
        · refine FrontStep.of [] _ rfl (by kernel_rfl) ?_
          intro vs LL wq hLL hC hf
          simp only [putL, List.foldl_nil]
          go_wp2_with fail
          first | exact Below.refl _ _ | exact ⟨Below.refl _ _, by omega⟩
        · refine FrontStep.of [] _ rfl (by kernel_rfl) ?_
          intro vs LL wq hLL hC hf
          simp only [putL, List.foldl_nil]
          go_wp2_with fail
          first | exact Below.refl _ _ | exact ⟨Below.refl _ _, by omega⟩
        · refine FrontStep.of [6, 7] _ rfl (by kernel_rfl) ?_
          intro vs LL wq hLL hC hf
          simp only [putL, List.foldl_nil, List.foldl_cons, List.getElem?_cons_zero, List.getElem?_cons_succ]
          have e6 : vs 6 = _ := hf 6 (by simp)
          rw [e6]
          have e7 : vs 7 = _ := hf 7 (by simp)
          rw [e7]
          go_wp2_with fail
          first | exact Below.refl _ _ | exact ⟨Below.refl _ _, by omega⟩
        · refine FrontStep.of [8] _ rfl (by kernel_rfl) ?_
          intro vs LL wq hLL hC hf
          simp only [putL, List.foldl_nil, List.foldl_cons, List.getElem?_cons_zero, List.getElem?_cons_succ]
          have e8 : vs 8 = _ := hf 8 (by simp)
          rw [e8]
          go_wp2_with fail
          first | exact Below.refl _ _ | exact ⟨Below.refl _ _, by omega⟩
        · refine FrontStep.of [9] _ rfl (by kernel_rfl) ?_
          intro vs LL wq hLL hC hf
          simp only [putL, List.foldl_nil, List.foldl_cons, List.getElem?_cons_zero, List.getElem?_cons_succ]
          have e9 : vs 9 = _ := hf 9 (by simp)
          rw [e9]
          have dd := cell_under (unhide hcV) hC
          go_wp2_with fail
          first | exact Below.refl _ _ | exact ⟨Below.refl _ _, by omega⟩ | exact ⟨Below.refl _ _, trivial⟩
        · refine FrontStep.of [10] _ rfl (by kernel_rfl) ?_
          intro vs LL wq hLL hC hf
          simp only [putL, List.foldl_nil, List.foldl_cons, List.getElem?_cons_zero, List.getElem?_cons_succ]
          have e10 : vs 10 = _ := hf 10 (by simp)
          rw [e10]
          go_wp2_with fail
          first | exact Below.refl _ _ | exact ⟨Below.refl _ _, by omega⟩
        · refine FrontStep.of [11] _ rfl (by kernel_rfl) ?_
          intro vs LL wq hLL hC hf
          simp only [putL, List.foldl_nil, List.foldl_cons, List.getElem?_cons_zero, List.getElem?_cons_succ]
          have e11 : vs 11 = _ := hf 11 (by simp)
          rw [e11]
          have hm' := unhide hm
          go_wp2_with fail
          first | exact Below.refl _ _ | exact ⟨Below.refl _ _, by omega⟩
        · refine FrontStep.of [5, 12] _ rfl (by kernel_rfl) ?_
          intro vs LL wq hLL hC hf
          simp only [putL, List.foldl_nil, List.foldl_cons, List.getElem?_cons_zero, List.getElem?_cons_succ]
          have e5 : vs 5 = _ := hf 5 (by simp)
          rw [e5]
          have e12 : vs 12 = _ := hf 12 (by simp)
          rw [e12]
          go_wp2_with fail
          first | exact Below.refl _ _ | exact ⟨Below.refl _ _, by omega⟩
        · refine FrontStep.of [] _ rfl (by kernel_rfl) ?_
          intro vs LL wq hLL hC hf
          simp only [putL, List.foldl_nil]
          go_wp2_with fail
          first | exact Below.refl _ _ | exact ⟨Below.refl _ _, by omega⟩
        · refine FrontStep.of [] _ rfl (by kernel_rfl) ?_
          intro vs LL wq hLL hC hf
          simp only [putL, List.foldl_nil]
          go_wp2_with fail
          first | exact Below.refl _ _ | exact ⟨Below.refl _ _, by omega⟩
        · refine FrontStep.of [14, 15] _ rfl (by kernel_rfl) ?_
          intro vs LL wq hLL hC hf
          simp only [putL, List.foldl_nil, List.foldl_cons, List.getElem?_cons_zero, List.getElem?_cons_succ]
          have e14 : vs 14 = _ := hf 14 (by simp)
          rw [e14]
          have e15 : vs 15 = _ := hf 15 (by simp)
          rw [e15]
          go_wp2_with fail
          first | exact Below.refl _ _ | exact ⟨Below.refl _ _, by omega⟩
        · refine FrontStep.of [16] _ rfl (by kernel_rfl) ?_
          intro vs LL wq hLL hC hf
          simp only [putL, List.foldl_nil, List.foldl_cons, List.getElem?_cons_zero, List.getElem?_cons_succ]
          have e16 : vs 16 = _ := hf 16 (by simp)
          rw [e16]
          go_wp2_with fail
          first | exact Below.refl _ _ | exact ⟨Below.refl _ _, by omega⟩
        · refine FrontStep.of [17] _ rfl (by kernel_rfl) ?_
          intro vs LL wq hLL hC hf
          simp only [putL, List.foldl_nil, List.foldl_cons, List.getElem?_cons_zero, List.getElem?_cons_succ]
          have e17 : vs 17 = _ := hf 17 (by simp)
          rw [e17]
          have dd := cell_under (unhide hcW) hC
          go_wp2_with fail
          first | exact Below.refl _ _ | exact ⟨Below.refl _ _, by omega⟩ | exact ⟨Below.refl _ _, trivial⟩
        · refine FrontStep.of [] _ rfl (by kernel_rfl) ?_
          intro vs LL wq hLL hC hf
          simp only [putL, List.foldl_nil]
          go_wp2_with fail
          first | exact Below.refl _ _ | exact ⟨Below.refl _ _, by omega⟩
        · refine FrontStep.of [] _ rfl (by kernel_rfl) ?_
          intro vs LL wq hLL hC hf
          simp only [putL, List.foldl_nil]
          go_wp2_with fail
          first | exact Below.refl _ _ | exact ⟨Below.refl _ _, by omega⟩
        · refine FrontStep.of [19, 20] _ rfl (by kernel_rfl) ?_
          intro vs LL wq hLL hC hf
          simp only [putL, List.foldl_nil, List.foldl_cons, List.getElem?_cons_zero, List.getElem?_cons_succ]
          have e19 : vs 19 = _ := hf 19 (by simp)
          rw [e19]
          have e20 : vs 20 = _ := hf 20 (by simp)
          rw [e20]
          go_wp2_with fail
          first | exact Below.refl _ _ | exact ⟨Below.refl _ _, by omega⟩
        · refine FrontStep.of [21] _ rfl (by kernel_rfl) ?_
          intro vs LL wq hLL hC hf
          simp only [putL, List.foldl_nil, List.foldl_cons, List.getElem?_cons_zero, List.getElem?_cons_succ]
          have e21 : vs 21 = _ := hf 21 (by simp)
          rw [e21]
          go_wp2_with fail
          first | exact Below.refl _ _ | exact ⟨Below.refl _ _, by omega⟩
        · refine FrontStep.of [22] _ rfl (by kernel_rfl) ?_
          intro vs LL wq hLL hC hf
          simp only [putL, List.foldl_nil, List.foldl_cons, List.getElem?_cons_zero, List.getElem?_cons_succ]
          have e22 : vs 22 = _ := hf 22 (by simp)
          rw [e22]
          have dd := cell_under (unhide hcW) hC
          go_wp2_with fail
          first | exact Below.refl _ _ | exact ⟨Below.refl _ _, by omega⟩ | exact ⟨Below.refl _ _, trivial⟩
        · refine FrontStep.of [23] _ rfl (by kernel_rfl) ?_
          intro vs LL wq hLL hC hf
          simp only [putL, List.foldl_nil, List.foldl_cons, List.getElem?_cons_zero, List.getElem?_cons_succ]
          have e23 : vs 23 = _ := hf 23 (by simp)
          rw [e23]
          go_wp2_with fail
          first | exact Below.refl _ _ | exact ⟨Below.refl _ _, by omega⟩
        · refine FrontStep.of [24] _ rfl (by kernel_rfl) ?_
          intro vs LL wq hLL hC hf
          simp only [putL, List.foldl_nil, List.foldl_cons, List.getElem?_cons_zero, List.getElem?_cons_succ]
          have e24 : vs 24 = _ := hf 24 (by simp)
          rw [e24]
          have hm' := unhide hmm
          go_wp2_with fail
          first | exact Below.refl _ _ | exact ⟨Below.refl _ _, by omega⟩
        · refine FrontStep.of [18, 25] _ rfl (by kernel_rfl) ?_
          intro vs LL wq hLL hC hf
          simp only [putL, List.foldl_nil, List.foldl_cons, List.getElem?_cons_zero, List.getElem?_cons_succ]
          have e18 : vs 18 = _ := hf 18 (by simp)
          rw [e18]
          have e25 : vs 25 = _ := hf 25 (by simp)
          rw [e25]
          go_wp2_with fail
          first | exact Below.refl _ _ | exact ⟨Below.refl _ _, by omega⟩
        · refine FrontStep.of [13, 26] _ rfl (by kernel_rfl) ?_
          intro vs LL wq hLL hC hf
          simp only [putL, List.foldl_nil, List.foldl_cons, List.getElem?_cons_zero, List.getElem?_cons_succ]
          have e13 : vs 13 = _ := hf 13 (by simp)
          rw [e13]
          have e26 : vs 26 = _ := hf 26 (by simp)
          rw [e26]
          go_wp2_with fail
          first | exact Below.refl _ _ | exact ⟨Below.refl _ _, by omega⟩
        · refine FrontStep.of [27] _ rfl (by kernel_rfl) ?_
          intro vs LL wq hLL hC hf
          simp only [putL, List.foldl_nil, List.foldl_cons, List.getElem?_cons_zero, List.getElem?_cons_succ]
          have e27 : vs 27 = _ := hf 27 (by simp)
          rw [e27]
          go_wp2_with fail
          exact ⟨hC.alloc hC.size _, (Below.refl _ _).alloc (Nat.le_refl _) _, (Array.getElem?_eq_some_iff.1 (heap_alloc_new _ _)).2⟩
      · intro vs LL wq hLL hC hf
        have e0 : vs 0 = _ := hf 0 (by decide)
        obtain ⟨b43, e28, h43⟩ := hf 28 (by decide)
        rw [putSome_all]
        simp only [putL, List.range, List.range.loop, List.foldl_nil, List.foldl_cons, List.getElem?_cons_zero, List.getElem?_cons_succ, List.drop_succ_cons, List.drop_zero]
        rw [e0, e28]
        obtain ⟨wt, rfl⟩ : ∃ W : World, W = wq := ⟨_, rfl⟩
        have hownq := own_belowb (unhide hrow) hC
        have hszq : B ≤ wt.heap.size := Nat.le_trans hBV hC.size
        have hbq := (unhide hbw).trans (hC.mono hBV)
        clear e0 e28 hf hLL hC hrow hbw
        replace hownq := hide hownq; replace hbq := hide hbq; replace h43 := hide h43
        go_simp
        go_wp2_with (at_builtin; refine wpList_append_el Try.underlying41 info_delta rfl (by decide) (by decide) rfl _ _ rfl B _ k vs0 rfl (unhide hownq) _ [.slice xa m1 xc, .slice ma m2 mc] rfl (unhide h43) rfl ?c2 ?c4 hszq ?_)
        case c2 => (intro u hu; simp at hu; rcases hu with rfl | rfl <;> rfl)
        case c4 => omega
        intro v' w5 hown5 hg5 _
        have hb5 : Below B w w5 := Below.grown (unhide hbq) hg5 hszq (fun g hg => ((unhide hownq).lt g hg).1)
        clear hg5 hownq hbq h43
        replace hown5 := hide hown5; replace hb5 := hide hb5
        go_wp2_with fail
        go_roundw
        case rel => exact ⟨k + 1, _, by omega, by omega, by go_num, unhide hown5, unhide hrd2, unhide hb5⟩
        case measure => simp [intOf]; omega
    · have hkk : k = min n 10 := by omega
      have hfin : (l.take k).map cutD = cutS l ∧ (cutS l).length = k := by
        have hLn := unhide hol
        have h1 : l.take k = l.take 10 := by
          rcases Nat.le_total n 10 with h | h
          · rw [hkk, Nat.min_eq_left h, List.take_of_length_le (by omega), List.take_of_length_le (by omega)]
          · rw [hkk, Nat.min_eq_right h]
        refine ⟨by unfold cutS; rw [h1], ?_⟩
        unfold cutS
        rw [List.length_map, List.length_take]
        omega
      rw [hfin.1] at hrd
      have hpost : CutPost l w (.returned (.slice va k vc)) V := ⟨_, vs0, rfl, by rw [unhide hB, hfin.2]; exact hrow, hrd, by rw [unhide hB]; exact hbw⟩
      have t1 : decide ((k : Int) < (n : Int)) = true ∨ decide ((k : Int) < (n : Int)) = false := by cases decide ((k : Int) < (n : Int)) <;> simp
      clear hfin hrow hrd hbw
      replace hpost := hide hpost; replace hkk := hide hkk
      by_cases hkn : k < n
      · have t2 : decide ((k : Int) < 10) = false := by simp; omega
        have t3 : decide ((k : Int) < (n : Int)) = true := by simp; omega
        have t4 : (k : Int) < (n : Int) := by omega
        have t5 : ¬ (k : Int) < 10 := by omega
        go_wp2_with fail
        go_ret
        exact unhide hpost
      · have t3 : decide ((k : Int) < (n : Int)) = false := by simp; omega
        have t4 : ¬ (k : Int) < (n : Int) := by omega
        go_wp2_with fail
        go_ret
        exact unhide hpost
end Go.Proofs.Ytbodidhggdggmaa
