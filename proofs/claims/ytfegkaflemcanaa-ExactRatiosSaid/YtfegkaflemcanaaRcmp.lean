/- Cmp, the reference's. -/
import Derived.Test.YtfegkaflemcanaaRsum
import Derived.Test.YtfegkaflemcanaaEx5
namespace Go.Proofs.Ytfegkaflemcanaa
open Go.RowKit
theorem rcmp_bad (xn xd yn yd : Int) (w : World) (h : xd < 1 ∨ yd < 1) :
    Calls Try.prog 26 #[.agg #[.int .i64 xn, .int .i64 xd], .agg #[.int .i64 yn, .int .i64 yd]] w fun e w' => e = .returned (.int .i64 0) ∧ Below w.heap.size w w' := by
  by_cases h1 : xd < 1
  · have t1 : decide (xd < 1) = true := by simpa using h1
    go_enter Try.func26, Try.ntmps26
    go_wp2
    go_ret
    exact ⟨rfl, ((Below.refl _ _).alloc (Nat.le_refl _) _).alloc (by simp) _⟩
  · have t1 : decide (xd < 1) = false := by simpa using h1
    have t2 : decide (yd < 1) = true := by simp; omega
    go_enter Try.func26, Try.ntmps26
    go_wp2
    go_ret
    exact ⟨rfl, ((Below.refl _ _).alloc (Nat.le_refl _) _).alloc (by simp) _⟩
theorem ord_lt {a b : Int} (h : a < b) : Ex.ordI a b = -1 := if_pos h
theorem ord_gt {a b : Int} (h : b < a) : Ex.ordI a b = 1 := by unfold Ex.ordI; rw [if_neg (by omega), if_pos h]
theorem ord_eq {a b : Int} (h : a = b) : Ex.ordI a b = 0 := by unfold Ex.ordI; rw [if_neg (by omega), if_neg (by omega)]
set_option maxHeartbeats 8000000 in
set_option maxRecDepth 100000 in
theorem rcmp_any (xn xd yn yd : Int) (w : World) (h1 : I64 xn) (h2 : I64 xd) (h3 : I64 yn) (h4 : I64 yd) :
    Calls Try.prog 26 #[.agg #[.int .i64 xn, .int .i64 xd], .agg #[.int .i64 yn, .int .i64 yd]] w fun e w' => e = .returned (.int .i64 (Ex.cmpS xn xd yn yd)) ∧ Below w.heap.size w w' := by
  by_cases hbad : xd < 1 ∨ yd < 1
  · have : Ex.cmpS xn xd yn yd = 0 := by unfold Ex.cmpS; rw [if_pos hbad]
    rw [this]
    exact rcmp_bad xn xd yn yd w hbad
  have hv : Ex.cmpS xn xd yn yd = Ex.ordI (xn * yd) (yn * xd) := by unfold Ex.cmpS; rw [if_neg hbad]
  rw [hv]
  have t1 : decide (xd < 1) = false := by simp; omega
  have t2 : decide (yd < 1) = false := by simp; omega
  have sxn := fun w => (size_any xn w h1).mono fun e w' (h : e = .returned (.int .u64 xn.natAbs) ∧ w' = w) => (⟨h.1, h.2 ▸ Below.refl _ _⟩ : e = .returned (.int .u64 xn.natAbs) ∧ Below w.heap.size w w')
  have sxd := fun w => (size_any xd w h2).mono fun e w' (h : e = .returned (.int .u64 xd.natAbs) ∧ w' = w) => (⟨h.1, h.2 ▸ Below.refl _ _⟩ : e = .returned (.int .u64 xd.natAbs) ∧ Below w.heap.size w w')
  have syn := fun w => (size_any yn w h3).mono fun e w' (h : e = .returned (.int .u64 yn.natAbs) ∧ w' = w) => (⟨h.1, h.2 ▸ Below.refl _ _⟩ : e = .returned (.int .u64 yn.natAbs) ∧ Below w.heap.size w w')
  have syd := fun w => (size_any yd w h4).mono fun e w' (h : e = .returned (.int .u64 yd.natAbs) ∧ w' = w) => (⟨h.1, h.2 ▸ Below.refl _ _⟩ : e = .returned (.int .u64 yd.natAbs) ∧ Below w.heap.size w w')
  have b1 : xn.natAbs < 18446744073709551616 := by unfold I64 at h1; omega
  have b2' : xd.natAbs < 18446744073709551616 := by unfold I64 at h2; omega
  have b3' : yn.natAbs < 18446744073709551616 := by unfold I64 at h3; omega
  have b4 : yd.natAbs < 18446744073709551616 := by unfold I64 at h4; omega
  have pr1 := fun w => product_any xn.natAbs yd.natAbs _ _ rfl rfl b1 b4 w
  have pr2 := fun w => product_any yn.natAbs xd.natAbs _ _ rfl rfl b3' b2' w
  have e1 : 0 ≤ xn → xn * yd = ((xn.natAbs * yd.natAbs : Nat) : Int) := fun h => by rw [Int.natCast_mul, Int.natAbs_of_nonneg h, Int.natAbs_of_nonneg (by omega)]
  have e2 : 0 ≤ yn → yn * xd = ((yn.natAbs * xd.natAbs : Nat) : Int) := fun h => by rw [Int.natCast_mul, Int.natAbs_of_nonneg h, Int.natAbs_of_nonneg (by omega)]
  have e3 : xn < 0 → xn * yd = -((xn.natAbs * yd.natAbs : Nat) : Int) := fun h => by rw [Int.natCast_mul, ← Int.neg_mul, show -((xn.natAbs : Nat) : Int) = xn by omega, Int.natAbs_of_nonneg (by omega)]
  have e4 : yn < 0 → yn * xd = -((yn.natAbs * xd.natAbs : Nat) : Int) := fun h => by rw [Int.natCast_mul, ← Int.neg_mul, show -((yn.natAbs : Nat) : Int) = yn by omega, Int.natAbs_of_nonneg (by omega)]
  have e5 : xn < 0 → xn * yd < 0 := fun h => Int.mul_neg_of_neg_of_pos h (by omega)
  have e6 : yn < 0 → yn * xd < 0 := fun h => Int.mul_neg_of_neg_of_pos h (by omega)
  have e7 : 0 ≤ xn → 0 ≤ xn * yd := fun h => Int.mul_nonneg h (by omega)
  have e8 : 0 ≤ yn → 0 ≤ yn * xd := fun h => Int.mul_nonneg h (by omega)
  generalize xn * yd = p at *
  generalize yn * xd = q at *
  generalize xn.natAbs * yd.natAbs = N1 at *
  generalize yn.natAbs * xd.natAbs = N2 at *
  obtain ⟨nx, enx⟩ : ∃ x, xn.natAbs = x := ⟨_, rfl⟩
  obtain ⟨ny, eny⟩ : ∃ x, yn.natAbs = x := ⟨_, rfl⟩
  obtain ⟨mx, emx⟩ : ∃ x, xd.natAbs = x := ⟨_, rfl⟩
  obtain ⟨my, emy⟩ : ∃ x, yd.natAbs = x := ⟨_, rfl⟩
  simp only [enx, eny, emx, emy] at sxn syn sxd syd pr1 pr2
  clear enx eny emx emy b1 b2' b3' b4 hbad hv
  obtain ⟨b2, V2, hb2, hV2, st⟩ := (St.start w).new (Obj.cells #[.int .i64 xn, .int .i64 xd] 33)
  obtain ⟨b3, V3, hb3, hV3, st⟩ := st.new (Obj.cells #[.int .i64 yn, .int .i64 yd] 33)
  have hc3 : b2 + 1 = b3 := by rw [← hb3, ← hV2, World.size_alloc, hb2]
  have f60 := st.cell 1 rfl 0 (v := .int .i64 xn) rfl
  have f61 := st.cell 1 rfl 1 (v := .int .i64 xd) rfl
  have f80 := st.cell 0 rfl 0 (v := .int .i64 yn) rfl
  have f81 := st.cell 0 rfl 1 (v := .int .i64 yd) rfl
  have hz := hide st.below
  clear st hb3
  replace sxn := hide sxn; replace sxd := hide sxd; replace syn := hide syn; replace syd := hide syd; replace pr1 := hide pr1; replace pr2 := hide pr2; replace hb2 := hide hb2; replace hc3 := hide hc3; replace hV2 := hide hV2; replace hV3 := hide hV3
  replace e1 := hide e1; replace e2 := hide e2; replace e3 := hide e3; replace e4 := hide e4; replace e5 := hide e5; replace e6 := hide e6; replace e7 := hide e7; replace e8 := hide e8
  go_enter Try.func26, Try.ntmps26
  go_upto_region 1 with fail
  rw [unhide hb2, unhide hc3, unhide hV2, unhide hV3]
  clear hb2 hc3 hV2 hV3
  obtain ⟨w6, rfl⟩ : ∃ W : World, W = V3 := ⟨_, rfl⟩
  by_cases hx : xn < 0
  · have u1 : decide (xn < 0) = true := decide_eq_true hx
    have u3 : decide (0 ≤ xn) = false := by simp; omega
    by_cases hy : yn < 0
    · have u2 : decide (yn < 0) = true := decide_eq_true hy
      have u4 : decide (0 ≤ yn) = false := by simp; omega
      have hw1 : N2 < N1 → Ex.ordI p q = -1 := fun h => ord_lt (by rw [unhide e3 hx, unhide e4 hy]; omega)
      have hw2 : N1 < N2 → Ex.ordI p q = 1 := fun h => ord_gt (by rw [unhide e3 hx, unhide e4 hy]; omega)
      have hw3 : ¬ N2 < N1 → ¬ N1 < N2 → Ex.ordI p q = 0 := fun h h' => ord_eq (by rw [unhide e3 hx, unhide e4 hy]; omega)
      replace hw1 := hide hw1; replace hw2 := hide hw2; replace hw3 := hide hw3
      clear e1 e2 e3 e4 e5 e6 e7 e8
      go_upto_region 7 with fail
      refine wp_region_frontG 8 (fun _ _ w' => Below w6.heap.size w6 w') (fun wa wb => Below wa.heap.size wa wb)
        (fun ix v w' => match ix with
          | 0 => v = .pointer (some ⟨b2, 0, none⟩)
          | 1 => v = .int .i64 xn
          | 2 => v = .int .u64 (nx : Int)
          | 3 => v = .pointer (some ⟨b3, 1, none⟩)
          | 4 => v = .int .i64 yd
          | 5 => v = .int .u64 (my : Int)
          | 6 => v = .agg #[.int .u64 (hiW N1), .int .u64 (loW N1)]
          | 7 => ∃ b, v = .pointer (some ⟨b, 0, none⟩) ∧ w6.heap.size ≤ b ∧ w'.heap[b]? = some (.cells #[.int .u64 0, .int .u64 0] 54 (0, 0))
          | _ => True) (by rfl) (by kernel_rfl) ?_ ?_ ?_ ?_
      · exact (Below.refl _ _).drew
      · intro wa wb hR ix v hv
        match ix, hv with
        | 0, h => exact h
        | 1, h => exact h
        | 2, h => exact h
        | 3, h => exact h
        | 4, h => exact h
        | 5, h => exact h
        | 6, h => exact h
        | 7, h => obtain ⟨b, h1, h3, h2⟩ := h; exact ⟨b, h1, h3, (hR.block b (Array.getElem?_eq_some_iff.1 h2).1).trans h2⟩
        | _ + 8, _ => trivial
      · intro ix hix
        obtain rfl | rfl | rfl | rfl | rfl | rfl | rfl | rfl : ix = 0 ∨ ix = 1 ∨ ix = 2 ∨ ix = 3 ∨ ix = 4 ∨ ix = 5 ∨ ix = 6 ∨ ix = 7 := by omega
        · refine FrontStep.of [] _ rfl (by kernel_rfl) ?_
          intro vs LL wq hLL hC hf
          simp only [putL, List.foldl_nil]
          go_wp2_with fail
          first | exact Below.refl _ _ | exact hC | exact ⟨hC, Below.refl _ _⟩ | exact ⟨hC, Below.refl _ _, by omega⟩ | exact ⟨Below.refl _ _, by omega⟩
        · refine FrontStep.of [0] _ rfl (by kernel_rfl) ?_
          intro vs LL wq hLL hC hf
          simp only [putL, List.foldl_nil, List.foldl_cons, List.getElem?_cons_zero]
          have e0 : vs 0 = _ := hf 0 (by simp)
          rw [e0]
          have g0 := cell_under f60 hC
          go_wp2_with fail
          first | exact Below.refl _ _ | exact hC | exact ⟨hC, Below.refl _ _⟩ | exact ⟨hC, Below.refl _ _, by omega⟩ | exact ⟨Below.refl _ _, by omega⟩
        · refine FrontStep.of [1] _ rfl (by kernel_rfl) ?_
          intro vs LL wq hLL hC hf
          simp only [putL, List.foldl_nil, List.foldl_cons, List.getElem?_cons_zero, List.getElem?_cons_succ]
          have e1 : vs 1 = _ := hf 1 (by simp)
          rw [e1]
          have hcq := unhide sxn wq
          replace hcq := hide hcq
          go_wp2_with fail
          refine (unhide hcq).mono ?_
          rintro e wz ⟨rfl, hbz⟩
          clear hcq
          replace hbz := hide hbz
          go_wp2_with fail
          first | exact ⟨hC.trans ((unhide hbz).mono hC.size), unhide hbz⟩ | exact hC.trans ((unhide hbz).mono hC.size) | exact ⟨hC.trans ((unhide hbz).mono hC.size), unhide hbz, rfl⟩
        · refine FrontStep.of [] _ rfl (by kernel_rfl) ?_
          intro vs LL wq hLL hC hf
          simp only [putL, List.foldl_nil]
          go_wp2_with fail
          first | exact Below.refl _ _ | exact hC | exact ⟨hC, Below.refl _ _⟩ | exact ⟨hC, Below.refl _ _, by omega⟩ | exact ⟨Below.refl _ _, by omega⟩
        · refine FrontStep.of [3] _ rfl (by kernel_rfl) ?_
          intro vs LL wq hLL hC hf
          simp only [putL, List.foldl_nil, List.foldl_cons, List.getElem?_cons_zero, List.getElem?_cons_succ]
          have e3 : vs 3 = _ := hf 3 (by simp)
          rw [e3]
          have g0 := cell_under f81 hC
          go_wp2_with fail
          first | exact Below.refl _ _ | exact hC | exact ⟨hC, Below.refl _ _⟩ | exact ⟨hC, Below.refl _ _, by omega⟩ | exact ⟨Below.refl _ _, by omega⟩
        · refine FrontStep.of [2, 4] _ rfl (by kernel_rfl) ?_
          intro vs LL wq hLL hC hf
          simp only [putL, List.foldl_nil, List.foldl_cons, List.getElem?_cons_zero, List.getElem?_cons_succ]
          have e2 : vs 2 = _ := hf 2 (by simp)
          rw [e2]
          have e4 : vs 4 = _ := hf 4 (by simp)
          rw [e4]
          have hcq := unhide syd wq
          replace hcq := hide hcq
          go_wp2_with fail
          refine (unhide hcq).mono ?_
          rintro e wz ⟨rfl, hbz⟩
          clear hcq
          replace hbz := hide hbz
          go_wp2_with fail
          first | exact ⟨hC.trans ((unhide hbz).mono hC.size), unhide hbz⟩ | exact hC.trans ((unhide hbz).mono hC.size) | exact ⟨hC.trans ((unhide hbz).mono hC.size), unhide hbz, rfl⟩
        · refine FrontStep.of [2, 5] _ rfl (by kernel_rfl) ?_
          intro vs LL wq hLL hC hf
          simp only [putL, List.foldl_nil, List.foldl_cons, List.getElem?_cons_zero, List.getElem?_cons_succ]
          have e2 : vs 2 = _ := hf 2 (by simp)
          rw [e2]
          have e5 : vs 5 = _ := hf 5 (by simp)
          rw [e5]
          have hcq := unhide pr1 wq
          replace hcq := hide hcq
          go_wp2_with fail
          refine (unhide hcq).mono ?_
          rintro e wz ⟨rfl, hbz⟩
          clear hcq
          replace hbz := hide hbz
          go_wp2_with fail
          first | exact ⟨hC.trans ((unhide hbz).mono hC.size), unhide hbz⟩ | exact hC.trans ((unhide hbz).mono hC.size) | exact ⟨hC.trans ((unhide hbz).mono hC.size), unhide hbz, rfl⟩
        · refine FrontStep.of [] _ rfl (by kernel_rfl) ?_
          intro vs LL wq hLL hC hf
          simp only [putL, List.foldl_nil]
          go_wp2_with fail
          have hn := heap_alloc_new wq (Obj.cells #[.int .u64 0, .int .u64 0] 54)
          have hb1 := (Below.refl wq.heap.size wq).alloc (Nat.le_refl _) (Obj.cells #[.int .u64 0, .int .u64 0] 54)
          first | exact ⟨hC.trans (hb1.mono hC.size), hb1, _, rfl, hC.size, hn⟩ | exact ⟨hC.trans (hb1.mono hC.size), hb1, hC.size, hn⟩ | exact ⟨hC.trans (hb1.mono hC.size), hb1, hC.size, (Array.getElem?_eq_some_iff.1 hn).2⟩
      · intro vs LL wq hLL hC hf
        have hz0 := hz
        have f600 := f60
        have f610 := f61
        have f800 := f80
        have f810 := f81
        obtain ⟨bp, e7, hge, hrz⟩ := hf 7 (by omega)
        have e6 : vs 6 = _ := hf 6 (by omega)
        rw [putSome_all]
        simp only [putL, List.range, List.range.loop, List.foldl_nil, List.foldl_cons, List.getElem?_cons_zero, List.getElem?_cons_succ, List.drop_succ_cons, List.drop_zero]
        rw [e6, e7]
        replace f60 := cell_under f60 hC
        replace f61 := cell_under f61 hC
        replace f80 := cell_under f80 hC
        replace f81 := cell_under f81 hC
        replace hz := hide ((unhide hz).trans (hC.mono (unhide hz).size))
        obtain ⟨z0, z1, g0, g1⟩ := cells2 hrz
        have z1' : (wq.setCell ⟨bp, 0, none⟩ (.int .u64 (hiW N1))).cell? ⟨bp, 1, none⟩ = some (.int .u64 0) := (cell_of_row _ _ 1 _ _ _ (heap_set (off := 0) hrz (.int .u64 (hiW N1)))).trans rfl
        have g1' : (wq.setCell ⟨bp, 0, none⟩ (.int .u64 (hiW N1))).frozen? ⟨bp, 1, none⟩ = false := by simp [World.frozen?, heap_set (off := 0) hrz (.int .u64 (hiW N1))]
        have fbp := hide (set2 hrz (.int .u64 (hiW N1)) (.int .u64 (loW N1)))
        have hws := hC.size
        have hbpw : w.heap.size ≤ bp := by have := (unhide hz0).size; omega
        have f60s : ((wq.setCell ⟨bp, 0, none⟩ (.int .u64 (hiW N1))).setCell ⟨bp, 1, none⟩ (.int .u64 (loW N1))).cell? ⟨b2, 0, none⟩ = some (.int .i64 xn) := cell_set2 (fun e => by have := World.block_lt_of_cell? w6 ⟨b2, 0, none⟩ f600; simp at this; omega) f60
        have f61s : ((wq.setCell ⟨bp, 0, none⟩ (.int .u64 (hiW N1))).setCell ⟨bp, 1, none⟩ (.int .u64 (loW N1))).cell? ⟨b2, 1, none⟩ = some (.int .i64 xd) := cell_set2 (fun e => by have := World.block_lt_of_cell? w6 ⟨b2, 1, none⟩ f610; simp at this; omega) f61
        have f80s : ((wq.setCell ⟨bp, 0, none⟩ (.int .u64 (hiW N1))).setCell ⟨bp, 1, none⟩ (.int .u64 (loW N1))).cell? ⟨b3, 0, none⟩ = some (.int .i64 yn) := cell_set2 (fun e => by have := World.block_lt_of_cell? w6 ⟨b3, 0, none⟩ f800; simp at this; omega) f80
        have f81s : ((wq.setCell ⟨bp, 0, none⟩ (.int .u64 (hiW N1))).setCell ⟨bp, 1, none⟩ (.int .u64 (loW N1))).cell? ⟨b3, 1, none⟩ = some (.int .i64 yd) := cell_set2 (fun e => by have := World.block_lt_of_cell? w6 ⟨b3, 1, none⟩ f810; simp at this; omega) f81
        replace hz := hide (((unhide hz).setCell (p := ⟨bp, 0, none⟩) (by have := (unhide hz0).size; simp; omega) (.int .u64 (hiW N1))).setCell (p := ⟨bp, 1, none⟩) (by have := (unhide hz0).size; simp; omega) (.int .u64 (loW N1)))
        obtain ⟨wf, hwf⟩ : ∃ wf, ((wq.setCell ⟨bp, 0, none⟩ (.int .u64 (hiW N1))).setCell ⟨bp, 1, none⟩ (.int .u64 (loW N1))) = wf := ⟨_, rfl⟩
        rw [hwf] at f60s f61s f80s f81s fbp hz
        clear f60 f61 f80 f81 hrz hf hLL hC e6 e7 hge hws hz0 f600 f610 f800 f810
        have f60 := hide f60s
        have f61 := hide f61s
        have f80 := hide f80s
        have f81 := hide f81s
        clear f60s f61s f80s f81s
        replace hwf := hide hwf
        go_simp
        go_upto_region 8 with fail
        rw [unhide hwf]
        clear hwf z0 z1 g0 g1 z1' g1'
        obtain ⟨w6, rfl⟩ : ∃ W : World, W = wf := ⟨_, rfl⟩
        replace f60 := unhide f60
        replace f61 := unhide f61
        replace f80 := unhide f80
        replace f81 := unhide f81
        refine wp_region_frontG 8 (fun _ _ w' => Below w6.heap.size w6 w') (fun wa wb => Below wa.heap.size wa wb)
          (fun ix v w' => match ix with
            | 0 => v = .pointer (some ⟨b3, 0, none⟩)
            | 1 => v = .int .i64 yn
            | 2 => v = .int .u64 (ny : Int)
            | 3 => v = .pointer (some ⟨b2, 1, none⟩)
            | 4 => v = .int .i64 xd
            | 5 => v = .int .u64 (mx : Int)
            | 6 => v = .agg #[.int .u64 (hiW N2), .int .u64 (loW N2)]
            | 7 => ∃ b, v = .pointer (some ⟨b, 0, none⟩) ∧ w6.heap.size ≤ b ∧ w'.heap[b]? = some (.cells #[.int .u64 0, .int .u64 0] 54 (0, 0))
            | _ => True) (by rfl) (by kernel_rfl) ?_ ?_ ?_ ?_
        · exact (Below.refl _ _).drew
        · intro wa wb hR ix v hv
          match ix, hv with
          | 0, h => exact h
          | 1, h => exact h
          | 2, h => exact h
          | 3, h => exact h
          | 4, h => exact h
          | 5, h => exact h
          | 6, h => exact h
          | 7, h => obtain ⟨b, h1, h3, h2⟩ := h; exact ⟨b, h1, h3, (hR.block b (Array.getElem?_eq_some_iff.1 h2).1).trans h2⟩
          | _ + 8, _ => trivial
        · intro ix hix
          obtain rfl | rfl | rfl | rfl | rfl | rfl | rfl | rfl : ix = 0 ∨ ix = 1 ∨ ix = 2 ∨ ix = 3 ∨ ix = 4 ∨ ix = 5 ∨ ix = 6 ∨ ix = 7 := by omega
          · refine FrontStep.of [] _ rfl (by kernel_rfl) ?_
            intro vs LL wq hLL hC hf
            simp only [putL, List.foldl_nil]
            go_wp2_with fail
            first | exact Below.refl _ _ | exact hC | exact ⟨hC, Below.refl _ _⟩ | exact ⟨hC, Below.refl _ _, by omega⟩ | exact ⟨Below.refl _ _, by omega⟩
          · refine FrontStep.of [0] _ rfl (by kernel_rfl) ?_
            intro vs LL wq hLL hC hf
            simp only [putL, List.foldl_nil, List.foldl_cons, List.getElem?_cons_zero]
            have e0 : vs 0 = _ := hf 0 (by simp)
            rw [e0]
            have g0 := cell_under f80 hC
            go_wp2_with fail
            first | exact Below.refl _ _ | exact hC | exact ⟨hC, Below.refl _ _⟩ | exact ⟨hC, Below.refl _ _, by omega⟩ | exact ⟨Below.refl _ _, by omega⟩
          · refine FrontStep.of [1] _ rfl (by kernel_rfl) ?_
            intro vs LL wq hLL hC hf
            simp only [putL, List.foldl_nil, List.foldl_cons, List.getElem?_cons_zero, List.getElem?_cons_succ]
            have e1 : vs 1 = _ := hf 1 (by simp)
            rw [e1]
            have hcq := unhide syn wq
            replace hcq := hide hcq
            go_wp2_with fail
            refine (unhide hcq).mono ?_
            rintro e wz ⟨rfl, hbz⟩
            clear hcq
            replace hbz := hide hbz
            go_wp2_with fail
            first | exact ⟨hC.trans ((unhide hbz).mono hC.size), unhide hbz⟩ | exact hC.trans ((unhide hbz).mono hC.size) | exact ⟨hC.trans ((unhide hbz).mono hC.size), unhide hbz, rfl⟩
          · refine FrontStep.of [] _ rfl (by kernel_rfl) ?_
            intro vs LL wq hLL hC hf
            simp only [putL, List.foldl_nil]
            go_wp2_with fail
            first | exact Below.refl _ _ | exact hC | exact ⟨hC, Below.refl _ _⟩ | exact ⟨hC, Below.refl _ _, by omega⟩ | exact ⟨Below.refl _ _, by omega⟩
          · refine FrontStep.of [3] _ rfl (by kernel_rfl) ?_
            intro vs LL wq hLL hC hf
            simp only [putL, List.foldl_nil, List.foldl_cons, List.getElem?_cons_zero, List.getElem?_cons_succ]
            have e3 : vs 3 = _ := hf 3 (by simp)
            rw [e3]
            have g0 := cell_under f61 hC
            go_wp2_with fail
            first | exact Below.refl _ _ | exact hC | exact ⟨hC, Below.refl _ _⟩ | exact ⟨hC, Below.refl _ _, by omega⟩ | exact ⟨Below.refl _ _, by omega⟩
          · refine FrontStep.of [2, 4] _ rfl (by kernel_rfl) ?_
            intro vs LL wq hLL hC hf
            simp only [putL, List.foldl_nil, List.foldl_cons, List.getElem?_cons_zero, List.getElem?_cons_succ]
            have e2 : vs 2 = _ := hf 2 (by simp)
            rw [e2]
            have e4 : vs 4 = _ := hf 4 (by simp)
            rw [e4]
            have hcq := unhide sxd wq
            replace hcq := hide hcq
            go_wp2_with fail
            refine (unhide hcq).mono ?_
            rintro e wz ⟨rfl, hbz⟩
            clear hcq
            replace hbz := hide hbz
            go_wp2_with fail
            first | exact ⟨hC.trans ((unhide hbz).mono hC.size), unhide hbz⟩ | exact hC.trans ((unhide hbz).mono hC.size) | exact ⟨hC.trans ((unhide hbz).mono hC.size), unhide hbz, rfl⟩
          · refine FrontStep.of [2, 5] _ rfl (by kernel_rfl) ?_
            intro vs LL wq hLL hC hf
            simp only [putL, List.foldl_nil, List.foldl_cons, List.getElem?_cons_zero, List.getElem?_cons_succ]
            have e2 : vs 2 = _ := hf 2 (by simp)
            rw [e2]
            have e5 : vs 5 = _ := hf 5 (by simp)
            rw [e5]
            have hcq := unhide pr2 wq
            replace hcq := hide hcq
            go_wp2_with fail
            refine (unhide hcq).mono ?_
            rintro e wz ⟨rfl, hbz⟩
            clear hcq
            replace hbz := hide hbz
            go_wp2_with fail
            first | exact ⟨hC.trans ((unhide hbz).mono hC.size), unhide hbz⟩ | exact hC.trans ((unhide hbz).mono hC.size) | exact ⟨hC.trans ((unhide hbz).mono hC.size), unhide hbz, rfl⟩
          · refine FrontStep.of [] _ rfl (by kernel_rfl) ?_
            intro vs LL wq hLL hC hf
            simp only [putL, List.foldl_nil]
            go_wp2_with fail
            have hn := heap_alloc_new wq (Obj.cells #[.int .u64 0, .int .u64 0] 54)
            have hb1 := (Below.refl wq.heap.size wq).alloc (Nat.le_refl _) (Obj.cells #[.int .u64 0, .int .u64 0] 54)
            first | exact ⟨hC.trans (hb1.mono hC.size), hb1, _, rfl, hC.size, hn⟩ | exact ⟨hC.trans (hb1.mono hC.size), hb1, hC.size, hn⟩ | exact ⟨hC.trans (hb1.mono hC.size), hb1, hC.size, (Array.getElem?_eq_some_iff.1 hn).2⟩
        · intro vs LL wq hLL hC hf
          have hz0 := hz
          have fbp0 := fbp
          have f600 := f60
          have f610 := f61
          have f800 := f80
          have f810 := f81
          obtain ⟨bq, e7, hge, hrz⟩ := hf 7 (by omega)
          have e6 : vs 6 = _ := hf 6 (by omega)
          rw [putSome_all]
          simp only [putL, List.range, List.range.loop, List.foldl_nil, List.foldl_cons, List.getElem?_cons_zero, List.getElem?_cons_succ, List.drop_succ_cons, List.drop_zero]
          rw [e6, e7]
          replace f60 := cell_under f60 hC
          replace f61 := cell_under f61 hC
          replace f80 := cell_under f80 hC
          replace f81 := cell_under f81 hC
          replace fbp := hide (kept hC (Array.getElem?_eq_some_iff.1 (unhide fbp)).1 (unhide fbp))
          replace hz := hide ((unhide hz).trans (hC.mono (unhide hz).size))
          obtain ⟨z0, z1, g0, g1⟩ := cells2 hrz
          have z1' : (wq.setCell ⟨bq, 0, none⟩ (.int .u64 (hiW N2))).cell? ⟨bq, 1, none⟩ = some (.int .u64 0) := (cell_of_row _ _ 1 _ _ _ (heap_set (off := 0) hrz (.int .u64 (hiW N2)))).trans rfl
          have g1' : (wq.setCell ⟨bq, 0, none⟩ (.int .u64 (hiW N2))).frozen? ⟨bq, 1, none⟩ = false := by simp [World.frozen?, heap_set (off := 0) hrz (.int .u64 (hiW N2))]
          have fbq := hide (set2 hrz (.int .u64 (hiW N2)) (.int .u64 (loW N2)))
          have hws := hC.size
          have hbqw : w.heap.size ≤ bq := by have := (unhide hz0).size; omega
          have hnefbp : bp ≠ bq := fun e => by have := (Array.getElem?_eq_some_iff.1 (unhide fbp0)).1; omega
          replace fbp := hide (set2o (.int .u64 (hiW N2)) (.int .u64 (loW N2)) hnefbp (unhide fbp))
          have f60s : ((wq.setCell ⟨bq, 0, none⟩ (.int .u64 (hiW N2))).setCell ⟨bq, 1, none⟩ (.int .u64 (loW N2))).cell? ⟨b2, 0, none⟩ = some (.int .i64 xn) := cell_set2 (fun e => by have := World.block_lt_of_cell? w6 ⟨b2, 0, none⟩ f600; simp at this; omega) f60
          have f61s : ((wq.setCell ⟨bq, 0, none⟩ (.int .u64 (hiW N2))).setCell ⟨bq, 1, none⟩ (.int .u64 (loW N2))).cell? ⟨b2, 1, none⟩ = some (.int .i64 xd) := cell_set2 (fun e => by have := World.block_lt_of_cell? w6 ⟨b2, 1, none⟩ f610; simp at this; omega) f61
          have f80s : ((wq.setCell ⟨bq, 0, none⟩ (.int .u64 (hiW N2))).setCell ⟨bq, 1, none⟩ (.int .u64 (loW N2))).cell? ⟨b3, 0, none⟩ = some (.int .i64 yn) := cell_set2 (fun e => by have := World.block_lt_of_cell? w6 ⟨b3, 0, none⟩ f800; simp at this; omega) f80
          have f81s : ((wq.setCell ⟨bq, 0, none⟩ (.int .u64 (hiW N2))).setCell ⟨bq, 1, none⟩ (.int .u64 (loW N2))).cell? ⟨b3, 1, none⟩ = some (.int .i64 yd) := cell_set2 (fun e => by have := World.block_lt_of_cell? w6 ⟨b3, 1, none⟩ f810; simp at this; omega) f81
          replace hz := hide (((unhide hz).setCell (p := ⟨bq, 0, none⟩) (by have := (unhide hz0).size; simp; omega) (.int .u64 (hiW N2))).setCell (p := ⟨bq, 1, none⟩) (by have := (unhide hz0).size; simp; omega) (.int .u64 (loW N2)))
          obtain ⟨wf, hwf⟩ : ∃ wf, ((wq.setCell ⟨bq, 0, none⟩ (.int .u64 (hiW N2))).setCell ⟨bq, 1, none⟩ (.int .u64 (loW N2))) = wf := ⟨_, rfl⟩
          rw [hwf] at f60s f61s f80s f81s fbq hz fbp
          clear f60 f61 f80 f81 hrz hf hLL hC e6 e7 hge hws fbp0 hz0 f600 f610 f800 f810
          have f60 := hide f60s
          have f61 := hide f61s
          have f80 := hide f80s
          have f81 := hide f81s
          clear f60s f61s f80s f81s
          replace hwf := hide hwf
          go_simp
          go_upto_region 9 with fail
          rw [unhide hwf]
          clear hwf z0 z1 g0 g1 z1' g1'
          obtain ⟨w6, rfl⟩ : ∃ W : World, W = wf := ⟨_, rfl⟩
          replace f60 := unhide f60
          replace f61 := unhide f61
          replace f80 := unhide f80
          replace f81 := unhide f81
          go_upto_region 10 with fail
          clear f60 f61 f80 f81 sxn sxd syn syd pr1 pr2
          have rp := unhide fbp
          have rq := unhide fbq
          obtain ⟨c0, c1, f0, f1⟩ := cells2 rp
          obtain ⟨d0, d1, f2, f3⟩ := cells2 rq
          have rp1 := set2 rp (.int .u64 (hiW N2)) (.int .u64 (loW N2))
          have rq1 := set2o (.int .u64 (hiW N2)) (.int .u64 (loW N2)) (fun e => hnefbp e.symm) rq
          have c1' : (w6.setCell ⟨bp, 0, none⟩ (.int .u64 (hiW N2))).cell? ⟨bp, 1, none⟩ = some (.int .u64 (loW N1)) := (cell_of_row _ _ 1 _ _ _ (heap_set (off := 0) rp (.int .u64 (hiW N2)))).trans rfl
          have f1' : (w6.setCell ⟨bp, 0, none⟩ (.int .u64 (hiW N2))).frozen? ⟨bp, 1, none⟩ = false := by simp [World.frozen?, heap_set (off := 0) rp (.int .u64 (hiW N2))]
          obtain ⟨d0', d1', f2', f3'⟩ := cells2 rq1
          have d1'' : (((w6.setCell ⟨bp, 0, none⟩ (.int .u64 (hiW N2))).setCell ⟨bp, 1, none⟩ (.int .u64 (loW N2))).setCell ⟨bq, 0, none⟩ (.int .u64 (hiW N1))).cell? ⟨bq, 1, none⟩ = some (.int .u64 (loW N2)) := (cell_of_row _ _ 1 _ _ _ (heap_set (off := 0) rq1 (.int .u64 (hiW N1)))).trans rfl
          have f3'' : (((w6.setCell ⟨bp, 0, none⟩ (.int .u64 (hiW N2))).setCell ⟨bp, 1, none⟩ (.int .u64 (loW N2))).setCell ⟨bq, 0, none⟩ (.int .u64 (hiW N1))).frozen? ⟨bq, 1, none⟩ = false := by simp [World.frozen?, heap_set (off := 0) rq1 (.int .u64 (hiW N1))]
          have rq2 := hide (set2 rq1 (.int .u64 (hiW N1)) (.int .u64 (loW N1)))
          have rp2 := hide (set2o (.int .u64 (hiW N1)) (.int .u64 (loW N1)) hnefbp rp1)
          have hzz := unhide hz
          have hzs := hide ((((hzz.setCell (p := ⟨bp, 0, none⟩) hbpw (.int .u64 (hiW N2))).setCell (p := ⟨bp, 1, none⟩) hbpw (.int .u64 (loW N2))).setCell (p := ⟨bq, 0, none⟩) hbqw (.int .u64 (hiW N1))).setCell (p := ⟨bq, 1, none⟩) hbqw (.int .u64 (loW N1)))
          obtain ⟨wg, hwg⟩ : ∃ W, ((((w6.setCell ⟨bp, 0, none⟩ (.int .u64 (hiW N2))).setCell ⟨bp, 1, none⟩ (.int .u64 (loW N2))).setCell ⟨bq, 0, none⟩ (.int .u64 (hiW N1))).setCell ⟨bq, 1, none⟩ (.int .u64 (loW N1))) = W := ⟨_, rfl⟩
          rw [hwg] at rq2 rp2 hzs
          clear rp rq rp1 rq1 hzz hz fbp fbq
          replace hwg := hide hwg
          go_upto_region 11 with fail
          rw [unhide hwg]
          clear hwg c0 c1 f0 f1 d0 d1 f2 f3 c1' f1' d0' d1' f2' f3' d1'' f3'' hnefbp
          obtain ⟨w6, rfl⟩ : ∃ W : World, W = wg := ⟨_, rfl⟩
          have fbp := rp2
          have fbq := rq2
          have hz := hzs
          clear rp2 rq2 hzs
          obtain ⟨c0, c1, f0, f1⟩ := cells2 (unhide fbp)
          obtain ⟨d0, d1, f2, f3⟩ := cells2 (unhide fbq)
          have hl1 := less_any N2 N1 _ _ _ _ w6 rfl rfl rfl rfl
          obtain ⟨xb, hxb⟩ : ∃ x, decide (N2 < N1) = x := ⟨_, rfl⟩
          rw [hxb] at hl1
          replace hl1 := hide hl1; replace hxb := hide hxb
          go_wp2_with fail
          refine (unhide hl1).mono ?_
          rintro e w7 ⟨rfl, hb7⟩
          clear hl1 c0 c1 f0 f1 d0 d1 f2 f3
          have fbp7 := kept hb7 (Array.getElem?_eq_some_iff.1 (unhide fbp)).1 (unhide fbp)
          have fbq7 := kept hb7 (Array.getElem?_eq_some_iff.1 (unhide fbq)).1 (unhide fbq)
          have hz7 := (unhide hz).trans (hb7.mono (unhide hz).size)
          clear hb7 hz fbp fbq
          cases xb with
          | true =>
            have hlt : N2 < N1 := of_decide_eq_true (unhide hxb)
            clear fbp7 fbq7
            replace hz7 := hide hz7; replace hlt := hide hlt
            go_wp2_with fail
            go_ret
            exact ⟨by rw [unhide hw1 (unhide hlt)]; rfl, unhide hz7⟩
          | false =>
            have hge : ¬ N2 < N1 := of_decide_eq_false (unhide hxb)
            obtain ⟨c0, c1, f0, f1⟩ := cells2 fbp7
            obtain ⟨d0, d1, f2, f3⟩ := cells2 fbq7
            have hl1 := less_any N1 N2 _ _ _ _ w7 rfl rfl rfl rfl
            obtain ⟨yb, hyb⟩ : ∃ x, decide (N1 < N2) = x := ⟨_, rfl⟩
            rw [hyb] at hl1
            replace hl1 := hide hl1; replace hyb := hide hyb; replace hz7 := hide hz7; replace hge := hide hge
            go_wp2_with fail
            refine (unhide hl1).mono ?_
            rintro e w8 ⟨rfl, hb8⟩
            clear hl1 c0 c1 f0 f1 d0 d1 f2 f3 fbp7 fbq7
            have hz8 := hide ((unhide hz7).trans (hb8.mono (unhide hz7).size))
            clear hb8 hz7
            cases yb with
            | true =>
              have hlt : N1 < N2 := of_decide_eq_true (unhide hyb)
              replace hlt := hide hlt
              go_wp2_with fail
              go_ret
              exact ⟨by rw [unhide hw2 (unhide hlt)]; rfl, unhide hz8⟩
            | false =>
              have hge2 : ¬ N1 < N2 := of_decide_eq_false (unhide hyb)
              replace hge2 := hide hge2
              go_wp2_with fail
              go_ret
              exact ⟨by rw [unhide hw3 (unhide hge) (unhide hge2)]; rfl, unhide hz8⟩
    · have u2 : decide (yn < 0) = false := by simp; omega
      have u4 : decide (0 ≤ yn) = true := decide_eq_true (by omega)
      have hr : Ex.ordI p q = -1 := ord_lt (by have := unhide e5 hx; have := unhide e8 (by omega); omega)
      clear e1 e2 e3 e4 e5 e6 e7 e8 sxn sxd syn syd pr1 pr2
      replace hr := hide hr
      go_wp2_with fail
      go_ret
      exact ⟨by rw [unhide hr]; rfl, unhide hz⟩
  · have u1 : decide (xn < 0) = false := by simp; omega
    have u3 : decide (0 ≤ xn) = true := decide_eq_true (by omega)
    by_cases hy : yn < 0
    · have u2 : decide (yn < 0) = true := decide_eq_true hy
      have u4 : decide (0 ≤ yn) = false := by simp; omega
      have hr : Ex.ordI p q = 1 := ord_gt (by have := unhide e6 hy; have := unhide e7 (by omega); omega)
      clear e1 e2 e3 e4 e5 e6 e7 e8 sxn sxd syn syd pr1 pr2
      replace hr := hide hr
      go_wp2_with fail
      go_ret
      exact ⟨by rw [unhide hr]; rfl, unhide hz⟩
    · have u2 : decide (yn < 0) = false := by simp; omega
      have u4 : decide (0 ≤ yn) = true := decide_eq_true (by omega)
      have hw1 : N1 < N2 → Ex.ordI p q = -1 := fun h => ord_lt (by rw [unhide e1 (by omega), unhide e2 (by omega)]; omega)
      have hw2 : N2 < N1 → Ex.ordI p q = 1 := fun h => ord_gt (by rw [unhide e1 (by omega), unhide e2 (by omega)]; omega)
      have hw3 : ¬ N1 < N2 → ¬ N2 < N1 → Ex.ordI p q = 0 := fun h h' => ord_eq (by rw [unhide e1 (by omega), unhide e2 (by omega)]; omega)
      replace hw1 := hide hw1; replace hw2 := hide hw2; replace hw3 := hide hw3
      clear e1 e2 e3 e4 e5 e6 e7 e8
      go_upto_region 7 with fail
      refine wp_region_frontG 8 (fun _ _ w' => Below w6.heap.size w6 w') (fun wa wb => Below wa.heap.size wa wb)
        (fun ix v w' => match ix with
          | 0 => v = .pointer (some ⟨b2, 0, none⟩)
          | 1 => v = .int .i64 xn
          | 2 => v = .int .u64 (nx : Int)
          | 3 => v = .pointer (some ⟨b3, 1, none⟩)
          | 4 => v = .int .i64 yd
          | 5 => v = .int .u64 (my : Int)
          | 6 => v = .agg #[.int .u64 (hiW N1), .int .u64 (loW N1)]
          | 7 => ∃ b, v = .pointer (some ⟨b, 0, none⟩) ∧ w6.heap.size ≤ b ∧ w'.heap[b]? = some (.cells #[.int .u64 0, .int .u64 0] 54 (0, 0))
          | _ => True) (by rfl) (by kernel_rfl) ?_ ?_ ?_ ?_
      · exact (Below.refl _ _).drew
      · intro wa wb hR ix v hv
        match ix, hv with
        | 0, h => exact h
        | 1, h => exact h
        | 2, h => exact h
        | 3, h => exact h
        | 4, h => exact h
        | 5, h => exact h
        | 6, h => exact h
        | 7, h => obtain ⟨b, h1, h3, h2⟩ := h; exact ⟨b, h1, h3, (hR.block b (Array.getElem?_eq_some_iff.1 h2).1).trans h2⟩
        | _ + 8, _ => trivial
      · intro ix hix
        obtain rfl | rfl | rfl | rfl | rfl | rfl | rfl | rfl : ix = 0 ∨ ix = 1 ∨ ix = 2 ∨ ix = 3 ∨ ix = 4 ∨ ix = 5 ∨ ix = 6 ∨ ix = 7 := by omega
        · refine FrontStep.of [] _ rfl (by kernel_rfl) ?_
          intro vs LL wq hLL hC hf
          simp only [putL, List.foldl_nil]
          go_wp2_with fail
          first | exact Below.refl _ _ | exact hC | exact ⟨hC, Below.refl _ _⟩ | exact ⟨hC, Below.refl _ _, by omega⟩ | exact ⟨Below.refl _ _, by omega⟩
        · refine FrontStep.of [0] _ rfl (by kernel_rfl) ?_
          intro vs LL wq hLL hC hf
          simp only [putL, List.foldl_nil, List.foldl_cons, List.getElem?_cons_zero]
          have e0 : vs 0 = _ := hf 0 (by simp)
          rw [e0]
          have g0 := cell_under f60 hC
          go_wp2_with fail
          first | exact Below.refl _ _ | exact hC | exact ⟨hC, Below.refl _ _⟩ | exact ⟨hC, Below.refl _ _, by omega⟩ | exact ⟨Below.refl _ _, by omega⟩
        · refine FrontStep.of [1] _ rfl (by kernel_rfl) ?_
          intro vs LL wq hLL hC hf
          simp only [putL, List.foldl_nil, List.foldl_cons, List.getElem?_cons_zero, List.getElem?_cons_succ]
          have e1 : vs 1 = _ := hf 1 (by simp)
          rw [e1]
          have hcq := unhide sxn wq
          replace hcq := hide hcq
          go_wp2_with fail
          refine (unhide hcq).mono ?_
          rintro e wz ⟨rfl, hbz⟩
          clear hcq
          replace hbz := hide hbz
          go_wp2_with fail
          first | exact ⟨hC.trans ((unhide hbz).mono hC.size), unhide hbz⟩ | exact hC.trans ((unhide hbz).mono hC.size) | exact ⟨hC.trans ((unhide hbz).mono hC.size), unhide hbz, rfl⟩
        · refine FrontStep.of [] _ rfl (by kernel_rfl) ?_
          intro vs LL wq hLL hC hf
          simp only [putL, List.foldl_nil]
          go_wp2_with fail
          first | exact Below.refl _ _ | exact hC | exact ⟨hC, Below.refl _ _⟩ | exact ⟨hC, Below.refl _ _, by omega⟩ | exact ⟨Below.refl _ _, by omega⟩
        · refine FrontStep.of [3] _ rfl (by kernel_rfl) ?_
          intro vs LL wq hLL hC hf
          simp only [putL, List.foldl_nil, List.foldl_cons, List.getElem?_cons_zero, List.getElem?_cons_succ]
          have e3 : vs 3 = _ := hf 3 (by simp)
          rw [e3]
          have g0 := cell_under f81 hC
          go_wp2_with fail
          first | exact Below.refl _ _ | exact hC | exact ⟨hC, Below.refl _ _⟩ | exact ⟨hC, Below.refl _ _, by omega⟩ | exact ⟨Below.refl _ _, by omega⟩
        · refine FrontStep.of [2, 4] _ rfl (by kernel_rfl) ?_
          intro vs LL wq hLL hC hf
          simp only [putL, List.foldl_nil, List.foldl_cons, List.getElem?_cons_zero, List.getElem?_cons_succ]
          have e2 : vs 2 = _ := hf 2 (by simp)
          rw [e2]
          have e4 : vs 4 = _ := hf 4 (by simp)
          rw [e4]
          have hcq := unhide syd wq
          replace hcq := hide hcq
          go_wp2_with fail
          refine (unhide hcq).mono ?_
          rintro e wz ⟨rfl, hbz⟩
          clear hcq
          replace hbz := hide hbz
          go_wp2_with fail
          first | exact ⟨hC.trans ((unhide hbz).mono hC.size), unhide hbz⟩ | exact hC.trans ((unhide hbz).mono hC.size) | exact ⟨hC.trans ((unhide hbz).mono hC.size), unhide hbz, rfl⟩
        · refine FrontStep.of [2, 5] _ rfl (by kernel_rfl) ?_
          intro vs LL wq hLL hC hf
          simp only [putL, List.foldl_nil, List.foldl_cons, List.getElem?_cons_zero, List.getElem?_cons_succ]
          have e2 : vs 2 = _ := hf 2 (by simp)
          rw [e2]
          have e5 : vs 5 = _ := hf 5 (by simp)
          rw [e5]
          have hcq := unhide pr1 wq
          replace hcq := hide hcq
          go_wp2_with fail
          refine (unhide hcq).mono ?_
          rintro e wz ⟨rfl, hbz⟩
          clear hcq
          replace hbz := hide hbz
          go_wp2_with fail
          first | exact ⟨hC.trans ((unhide hbz).mono hC.size), unhide hbz⟩ | exact hC.trans ((unhide hbz).mono hC.size) | exact ⟨hC.trans ((unhide hbz).mono hC.size), unhide hbz, rfl⟩
        · refine FrontStep.of [] _ rfl (by kernel_rfl) ?_
          intro vs LL wq hLL hC hf
          simp only [putL, List.foldl_nil]
          go_wp2_with fail
          have hn := heap_alloc_new wq (Obj.cells #[.int .u64 0, .int .u64 0] 54)
          have hb1 := (Below.refl wq.heap.size wq).alloc (Nat.le_refl _) (Obj.cells #[.int .u64 0, .int .u64 0] 54)
          first | exact ⟨hC.trans (hb1.mono hC.size), hb1, _, rfl, hC.size, hn⟩ | exact ⟨hC.trans (hb1.mono hC.size), hb1, hC.size, hn⟩ | exact ⟨hC.trans (hb1.mono hC.size), hb1, hC.size, (Array.getElem?_eq_some_iff.1 hn).2⟩
      · intro vs LL wq hLL hC hf
        have hz0 := hz
        have f600 := f60
        have f610 := f61
        have f800 := f80
        have f810 := f81
        obtain ⟨bp, e7, hge, hrz⟩ := hf 7 (by omega)
        have e6 : vs 6 = _ := hf 6 (by omega)
        rw [putSome_all]
        simp only [putL, List.range, List.range.loop, List.foldl_nil, List.foldl_cons, List.getElem?_cons_zero, List.getElem?_cons_succ, List.drop_succ_cons, List.drop_zero]
        rw [e6, e7]
        replace f60 := cell_under f60 hC
        replace f61 := cell_under f61 hC
        replace f80 := cell_under f80 hC
        replace f81 := cell_under f81 hC
        replace hz := hide ((unhide hz).trans (hC.mono (unhide hz).size))
        obtain ⟨z0, z1, g0, g1⟩ := cells2 hrz
        have z1' : (wq.setCell ⟨bp, 0, none⟩ (.int .u64 (hiW N1))).cell? ⟨bp, 1, none⟩ = some (.int .u64 0) := (cell_of_row _ _ 1 _ _ _ (heap_set (off := 0) hrz (.int .u64 (hiW N1)))).trans rfl
        have g1' : (wq.setCell ⟨bp, 0, none⟩ (.int .u64 (hiW N1))).frozen? ⟨bp, 1, none⟩ = false := by simp [World.frozen?, heap_set (off := 0) hrz (.int .u64 (hiW N1))]
        have fbp := hide (set2 hrz (.int .u64 (hiW N1)) (.int .u64 (loW N1)))
        have hws := hC.size
        have hbpw : w.heap.size ≤ bp := by have := (unhide hz0).size; omega
        have f60s : ((wq.setCell ⟨bp, 0, none⟩ (.int .u64 (hiW N1))).setCell ⟨bp, 1, none⟩ (.int .u64 (loW N1))).cell? ⟨b2, 0, none⟩ = some (.int .i64 xn) := cell_set2 (fun e => by have := World.block_lt_of_cell? w6 ⟨b2, 0, none⟩ f600; simp at this; omega) f60
        have f61s : ((wq.setCell ⟨bp, 0, none⟩ (.int .u64 (hiW N1))).setCell ⟨bp, 1, none⟩ (.int .u64 (loW N1))).cell? ⟨b2, 1, none⟩ = some (.int .i64 xd) := cell_set2 (fun e => by have := World.block_lt_of_cell? w6 ⟨b2, 1, none⟩ f610; simp at this; omega) f61
        have f80s : ((wq.setCell ⟨bp, 0, none⟩ (.int .u64 (hiW N1))).setCell ⟨bp, 1, none⟩ (.int .u64 (loW N1))).cell? ⟨b3, 0, none⟩ = some (.int .i64 yn) := cell_set2 (fun e => by have := World.block_lt_of_cell? w6 ⟨b3, 0, none⟩ f800; simp at this; omega) f80
        have f81s : ((wq.setCell ⟨bp, 0, none⟩ (.int .u64 (hiW N1))).setCell ⟨bp, 1, none⟩ (.int .u64 (loW N1))).cell? ⟨b3, 1, none⟩ = some (.int .i64 yd) := cell_set2 (fun e => by have := World.block_lt_of_cell? w6 ⟨b3, 1, none⟩ f810; simp at this; omega) f81
        replace hz := hide (((unhide hz).setCell (p := ⟨bp, 0, none⟩) (by have := (unhide hz0).size; simp; omega) (.int .u64 (hiW N1))).setCell (p := ⟨bp, 1, none⟩) (by have := (unhide hz0).size; simp; omega) (.int .u64 (loW N1)))
        obtain ⟨wf, hwf⟩ : ∃ wf, ((wq.setCell ⟨bp, 0, none⟩ (.int .u64 (hiW N1))).setCell ⟨bp, 1, none⟩ (.int .u64 (loW N1))) = wf := ⟨_, rfl⟩
        rw [hwf] at f60s f61s f80s f81s fbp hz
        clear f60 f61 f80 f81 hrz hf hLL hC e6 e7 hge hws hz0 f600 f610 f800 f810
        have f60 := hide f60s
        have f61 := hide f61s
        have f80 := hide f80s
        have f81 := hide f81s
        clear f60s f61s f80s f81s
        replace hwf := hide hwf
        go_simp
        go_upto_region 8 with fail
        rw [unhide hwf]
        clear hwf z0 z1 g0 g1 z1' g1'
        obtain ⟨w6, rfl⟩ : ∃ W : World, W = wf := ⟨_, rfl⟩
        replace f60 := unhide f60
        replace f61 := unhide f61
        replace f80 := unhide f80
        replace f81 := unhide f81
        refine wp_region_frontG 8 (fun _ _ w' => Below w6.heap.size w6 w') (fun wa wb => Below wa.heap.size wa wb)
          (fun ix v w' => match ix with
            | 0 => v = .pointer (some ⟨b3, 0, none⟩)
            | 1 => v = .int .i64 yn
            | 2 => v = .int .u64 (ny : Int)
            | 3 => v = .pointer (some ⟨b2, 1, none⟩)
            | 4 => v = .int .i64 xd
            | 5 => v = .int .u64 (mx : Int)
            | 6 => v = .agg #[.int .u64 (hiW N2), .int .u64 (loW N2)]
            | 7 => ∃ b, v = .pointer (some ⟨b, 0, none⟩) ∧ w6.heap.size ≤ b ∧ w'.heap[b]? = some (.cells #[.int .u64 0, .int .u64 0] 54 (0, 0))
            | _ => True) (by rfl) (by kernel_rfl) ?_ ?_ ?_ ?_
        · exact (Below.refl _ _).drew
        · intro wa wb hR ix v hv
          match ix, hv with
          | 0, h => exact h
          | 1, h => exact h
          | 2, h => exact h
          | 3, h => exact h
          | 4, h => exact h
          | 5, h => exact h
          | 6, h => exact h
          | 7, h => obtain ⟨b, h1, h3, h2⟩ := h; exact ⟨b, h1, h3, (hR.block b (Array.getElem?_eq_some_iff.1 h2).1).trans h2⟩
          | _ + 8, _ => trivial
        · intro ix hix
          obtain rfl | rfl | rfl | rfl | rfl | rfl | rfl | rfl : ix = 0 ∨ ix = 1 ∨ ix = 2 ∨ ix = 3 ∨ ix = 4 ∨ ix = 5 ∨ ix = 6 ∨ ix = 7 := by omega
          · refine FrontStep.of [] _ rfl (by kernel_rfl) ?_
            intro vs LL wq hLL hC hf
            simp only [putL, List.foldl_nil]
            go_wp2_with fail
            first | exact Below.refl _ _ | exact hC | exact ⟨hC, Below.refl _ _⟩ | exact ⟨hC, Below.refl _ _, by omega⟩ | exact ⟨Below.refl _ _, by omega⟩
          · refine FrontStep.of [0] _ rfl (by kernel_rfl) ?_
            intro vs LL wq hLL hC hf
            simp only [putL, List.foldl_nil, List.foldl_cons, List.getElem?_cons_zero]
            have e0 : vs 0 = _ := hf 0 (by simp)
            rw [e0]
            have g0 := cell_under f80 hC
            go_wp2_with fail
            first | exact Below.refl _ _ | exact hC | exact ⟨hC, Below.refl _ _⟩ | exact ⟨hC, Below.refl _ _, by omega⟩ | exact ⟨Below.refl _ _, by omega⟩
          · refine FrontStep.of [1] _ rfl (by kernel_rfl) ?_
            intro vs LL wq hLL hC hf
            simp only [putL, List.foldl_nil, List.foldl_cons, List.getElem?_cons_zero, List.getElem?_cons_succ]
            have e1 : vs 1 = _ := hf 1 (by simp)
            rw [e1]
            have hcq := unhide syn wq
            replace hcq := hide hcq
            go_wp2_with fail
            refine (unhide hcq).mono ?_
            rintro e wz ⟨rfl, hbz⟩
            clear hcq
            replace hbz := hide hbz
            go_wp2_with fail
            first | exact ⟨hC.trans ((unhide hbz).mono hC.size), unhide hbz⟩ | exact hC.trans ((unhide hbz).mono hC.size) | exact ⟨hC.trans ((unhide hbz).mono hC.size), unhide hbz, rfl⟩
          · refine FrontStep.of [] _ rfl (by kernel_rfl) ?_
            intro vs LL wq hLL hC hf
            simp only [putL, List.foldl_nil]
            go_wp2_with fail
            first | exact Below.refl _ _ | exact hC | exact ⟨hC, Below.refl _ _⟩ | exact ⟨hC, Below.refl _ _, by omega⟩ | exact ⟨Below.refl _ _, by omega⟩
          · refine FrontStep.of [3] _ rfl (by kernel_rfl) ?_
            intro vs LL wq hLL hC hf
            simp only [putL, List.foldl_nil, List.foldl_cons, List.getElem?_cons_zero, List.getElem?_cons_succ]
            have e3 : vs 3 = _ := hf 3 (by simp)
            rw [e3]
            have g0 := cell_under f61 hC
            go_wp2_with fail
            first | exact Below.refl _ _ | exact hC | exact ⟨hC, Below.refl _ _⟩ | exact ⟨hC, Below.refl _ _, by omega⟩ | exact ⟨Below.refl _ _, by omega⟩
          · refine FrontStep.of [2, 4] _ rfl (by kernel_rfl) ?_
            intro vs LL wq hLL hC hf
            simp only [putL, List.foldl_nil, List.foldl_cons, List.getElem?_cons_zero, List.getElem?_cons_succ]
            have e2 : vs 2 = _ := hf 2 (by simp)
            rw [e2]
            have e4 : vs 4 = _ := hf 4 (by simp)
            rw [e4]
            have hcq := unhide sxd wq
            replace hcq := hide hcq
            go_wp2_with fail
            refine (unhide hcq).mono ?_
            rintro e wz ⟨rfl, hbz⟩
            clear hcq
            replace hbz := hide hbz
            go_wp2_with fail
            first | exact ⟨hC.trans ((unhide hbz).mono hC.size), unhide hbz⟩ | exact hC.trans ((unhide hbz).mono hC.size) | exact ⟨hC.trans ((unhide hbz).mono hC.size), unhide hbz, rfl⟩
          · refine FrontStep.of [2, 5] _ rfl (by kernel_rfl) ?_
            intro vs LL wq hLL hC hf
            simp only [putL, List.foldl_nil, List.foldl_cons, List.getElem?_cons_zero, List.getElem?_cons_succ]
            have e2 : vs 2 = _ := hf 2 (by simp)
            rw [e2]
            have e5 : vs 5 = _ := hf 5 (by simp)
            rw [e5]
            have hcq := unhide pr2 wq
            replace hcq := hide hcq
            go_wp2_with fail
            refine (unhide hcq).mono ?_
            rintro e wz ⟨rfl, hbz⟩
            clear hcq
            replace hbz := hide hbz
            go_wp2_with fail
            first | exact ⟨hC.trans ((unhide hbz).mono hC.size), unhide hbz⟩ | exact hC.trans ((unhide hbz).mono hC.size) | exact ⟨hC.trans ((unhide hbz).mono hC.size), unhide hbz, rfl⟩
          · refine FrontStep.of [] _ rfl (by kernel_rfl) ?_
            intro vs LL wq hLL hC hf
            simp only [putL, List.foldl_nil]
            go_wp2_with fail
            have hn := heap_alloc_new wq (Obj.cells #[.int .u64 0, .int .u64 0] 54)
            have hb1 := (Below.refl wq.heap.size wq).alloc (Nat.le_refl _) (Obj.cells #[.int .u64 0, .int .u64 0] 54)
            first | exact ⟨hC.trans (hb1.mono hC.size), hb1, _, rfl, hC.size, hn⟩ | exact ⟨hC.trans (hb1.mono hC.size), hb1, hC.size, hn⟩ | exact ⟨hC.trans (hb1.mono hC.size), hb1, hC.size, (Array.getElem?_eq_some_iff.1 hn).2⟩
        · intro vs LL wq hLL hC hf
          have hz0 := hz
          have fbp0 := fbp
          have f600 := f60
          have f610 := f61
          have f800 := f80
          have f810 := f81
          obtain ⟨bq, e7, hge, hrz⟩ := hf 7 (by omega)
          have e6 : vs 6 = _ := hf 6 (by omega)
          rw [putSome_all]
          simp only [putL, List.range, List.range.loop, List.foldl_nil, List.foldl_cons, List.getElem?_cons_zero, List.getElem?_cons_succ, List.drop_succ_cons, List.drop_zero]
          rw [e6, e7]
          replace f60 := cell_under f60 hC
          replace f61 := cell_under f61 hC
          replace f80 := cell_under f80 hC
          replace f81 := cell_under f81 hC
          replace fbp := hide (kept hC (Array.getElem?_eq_some_iff.1 (unhide fbp)).1 (unhide fbp))
          replace hz := hide ((unhide hz).trans (hC.mono (unhide hz).size))
          obtain ⟨z0, z1, g0, g1⟩ := cells2 hrz
          have z1' : (wq.setCell ⟨bq, 0, none⟩ (.int .u64 (hiW N2))).cell? ⟨bq, 1, none⟩ = some (.int .u64 0) := (cell_of_row _ _ 1 _ _ _ (heap_set (off := 0) hrz (.int .u64 (hiW N2)))).trans rfl
          have g1' : (wq.setCell ⟨bq, 0, none⟩ (.int .u64 (hiW N2))).frozen? ⟨bq, 1, none⟩ = false := by simp [World.frozen?, heap_set (off := 0) hrz (.int .u64 (hiW N2))]
          have fbq := hide (set2 hrz (.int .u64 (hiW N2)) (.int .u64 (loW N2)))
          have hws := hC.size
          have hbqw : w.heap.size ≤ bq := by have := (unhide hz0).size; omega
          have hnefbp : bp ≠ bq := fun e => by have := (Array.getElem?_eq_some_iff.1 (unhide fbp0)).1; omega
          replace fbp := hide (set2o (.int .u64 (hiW N2)) (.int .u64 (loW N2)) hnefbp (unhide fbp))
          have f60s : ((wq.setCell ⟨bq, 0, none⟩ (.int .u64 (hiW N2))).setCell ⟨bq, 1, none⟩ (.int .u64 (loW N2))).cell? ⟨b2, 0, none⟩ = some (.int .i64 xn) := cell_set2 (fun e => by have := World.block_lt_of_cell? w6 ⟨b2, 0, none⟩ f600; simp at this; omega) f60
          have f61s : ((wq.setCell ⟨bq, 0, none⟩ (.int .u64 (hiW N2))).setCell ⟨bq, 1, none⟩ (.int .u64 (loW N2))).cell? ⟨b2, 1, none⟩ = some (.int .i64 xd) := cell_set2 (fun e => by have := World.block_lt_of_cell? w6 ⟨b2, 1, none⟩ f610; simp at this; omega) f61
          have f80s : ((wq.setCell ⟨bq, 0, none⟩ (.int .u64 (hiW N2))).setCell ⟨bq, 1, none⟩ (.int .u64 (loW N2))).cell? ⟨b3, 0, none⟩ = some (.int .i64 yn) := cell_set2 (fun e => by have := World.block_lt_of_cell? w6 ⟨b3, 0, none⟩ f800; simp at this; omega) f80
          have f81s : ((wq.setCell ⟨bq, 0, none⟩ (.int .u64 (hiW N2))).setCell ⟨bq, 1, none⟩ (.int .u64 (loW N2))).cell? ⟨b3, 1, none⟩ = some (.int .i64 yd) := cell_set2 (fun e => by have := World.block_lt_of_cell? w6 ⟨b3, 1, none⟩ f810; simp at this; omega) f81
          replace hz := hide (((unhide hz).setCell (p := ⟨bq, 0, none⟩) (by have := (unhide hz0).size; simp; omega) (.int .u64 (hiW N2))).setCell (p := ⟨bq, 1, none⟩) (by have := (unhide hz0).size; simp; omega) (.int .u64 (loW N2)))
          obtain ⟨wf, hwf⟩ : ∃ wf, ((wq.setCell ⟨bq, 0, none⟩ (.int .u64 (hiW N2))).setCell ⟨bq, 1, none⟩ (.int .u64 (loW N2))) = wf := ⟨_, rfl⟩
          rw [hwf] at f60s f61s f80s f81s fbq hz fbp
          clear f60 f61 f80 f81 hrz hf hLL hC e6 e7 hge hws fbp0 hz0 f600 f610 f800 f810
          have f60 := hide f60s
          have f61 := hide f61s
          have f80 := hide f80s
          have f81 := hide f81s
          clear f60s f61s f80s f81s
          replace hwf := hide hwf
          go_simp
          go_upto_region 9 with fail
          rw [unhide hwf]
          clear hwf z0 z1 g0 g1 z1' g1'
          obtain ⟨w6, rfl⟩ : ∃ W : World, W = wf := ⟨_, rfl⟩
          replace f60 := unhide f60
          replace f61 := unhide f61
          replace f80 := unhide f80
          replace f81 := unhide f81
          go_upto_region 11 with fail
          clear f60 f61 f80 f81 sxn sxd syn syd pr1 pr2 hnefbp
          obtain ⟨c0, c1, f0, f1⟩ := cells2 (unhide fbp)
          obtain ⟨d0, d1, f2, f3⟩ := cells2 (unhide fbq)
          have hl1 := less_any N1 N2 _ _ _ _ w6 rfl rfl rfl rfl
          obtain ⟨xb, hxb⟩ : ∃ x, decide (N1 < N2) = x := ⟨_, rfl⟩
          rw [hxb] at hl1
          replace hl1 := hide hl1; replace hxb := hide hxb
          go_wp2_with fail
          refine (unhide hl1).mono ?_
          rintro e w7 ⟨rfl, hb7⟩
          clear hl1 c0 c1 f0 f1 d0 d1 f2 f3
          have fbp7 := kept hb7 (Array.getElem?_eq_some_iff.1 (unhide fbp)).1 (unhide fbp)
          have fbq7 := kept hb7 (Array.getElem?_eq_some_iff.1 (unhide fbq)).1 (unhide fbq)
          have hz7 := (unhide hz).trans (hb7.mono (unhide hz).size)
          clear hb7 hz fbp fbq
          cases xb with
          | true =>
            have hlt : N1 < N2 := of_decide_eq_true (unhide hxb)
            clear fbp7 fbq7
            replace hz7 := hide hz7; replace hlt := hide hlt
            go_wp2_with fail
            go_ret
            exact ⟨by rw [unhide hw1 (unhide hlt)]; rfl, unhide hz7⟩
          | false =>
            have hge : ¬ N1 < N2 := of_decide_eq_false (unhide hxb)
            obtain ⟨c0, c1, f0, f1⟩ := cells2 fbp7
            obtain ⟨d0, d1, f2, f3⟩ := cells2 fbq7
            have hl1 := less_any N2 N1 _ _ _ _ w7 rfl rfl rfl rfl
            obtain ⟨yb, hyb⟩ : ∃ x, decide (N2 < N1) = x := ⟨_, rfl⟩
            rw [hyb] at hl1
            replace hl1 := hide hl1; replace hyb := hide hyb; replace hz7 := hide hz7; replace hge := hide hge
            go_wp2_with fail
            refine (unhide hl1).mono ?_
            rintro e w8 ⟨rfl, hb8⟩
            clear hl1 c0 c1 f0 f1 d0 d1 f2 f3 fbp7 fbq7
            have hz8 := hide ((unhide hz7).trans (hb8.mono (unhide hz7).size))
            clear hb8 hz7
            cases yb with
            | true =>
              have hlt : N2 < N1 := of_decide_eq_true (unhide hyb)
              replace hlt := hide hlt
              go_wp2_with fail
              go_ret
              exact ⟨by rw [unhide hw2 (unhide hlt)]; rfl, unhide hz8⟩
            | false =>
              have hge2 : ¬ N2 < N1 := of_decide_eq_false (unhide hyb)
              replace hge2 := hide hge2
              go_wp2_with fail
              go_ret
              exact ⟨by rw [unhide hw3 (unhide hge) (unhide hge2)]; rfl, unhide hz8⟩
end Go.Proofs.Ytfegkaflemcanaa
