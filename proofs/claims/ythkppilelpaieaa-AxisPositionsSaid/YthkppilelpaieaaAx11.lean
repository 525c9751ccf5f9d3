/- Axes: User, both. -/
import Derived.Test.YthkppilelpaieaaAx10
namespace Go.Proofs.Ythkppilelpaieaa
open Go.RowKit
theorem lst_flat {α : Type} {E : Enc α} {w : World} {S : Nat → Prop} {b T : Nat} {cs : List Value} {l : List α} (h : w.heap[b]? = some (.cells cs.toArray T (0, 0))) (hf : Flat E w S cs l) (hS : S b) : Lst E w S (some ⟨b, 0, none⟩) l.length l := by
  refine ⟨rfl, fun _ => ⟨b, 0, rfl, hS, fun i x hx => ?_⟩⟩
  obtain ⟨us, hr, hu⟩ := hf.at_ i x hx
  refine ⟨us, hr, fun j u hj => ?_⟩
  rw [cell_of_row _ _ _ _ _ _ h, Nat.zero_add]
  simpa using hu j u hj
def userM (lo us hi m : Int) : Int := if m < 0 then us - roundI (-m * (us - lo)) 64 else us + roundI (m * (hi - us)) 64
def userS (a : Axis) (n : Int) : Int := if axCheck [a] = 0 then userM a.2.1 a.2.2.1 a.2.2.2 (limS n) else 0
theorem mul_bd {x y A B : Int} (h1 : 0 ≤ x) (h2 : x ≤ A) (h3 : 0 ≤ y) (h4 : y ≤ B) : 0 ≤ x * y ∧ x * y ≤ A * B :=
  ⟨Int.mul_nonneg h1 h3, Int.le_trans (Int.mul_le_mul_of_nonneg_right h2 h3) (Int.mul_le_mul_of_nonneg_left h4 (by omega))⟩
set_option maxHeartbeats 4000000 in
set_option maxRecDepth 100000 in
theorem user_any (s : ByteArray) (lo us hi n : Int) (w : World) (hs : s.size ≤ maxLen) (i1 : I64 lo) (i2 : I64 us) (i3 : I64 hi) :
    Calls Try.prog 16 #[.agg #[.string s, .int .i64 lo, .int .i64 us, .int .i64 hi], .int .i64 n] w fun e w' => e = .returned (.int .i64 (userS (s, lo, us, hi) n)) ∧ Below w.heap.size w w' := by
  have hb1 : Below w.heap.size w (w.alloc (Obj.cells #[.string s, .int .i64 lo, .int .i64 us, .int .i64 hi] 29)) := (Below.refl _ _).alloc (Nat.le_refl _) _
  obtain ⟨bx, V, bl, W, hbx, hV, hbl, hW, st⟩ : ∃ bx V bl W, w.heap.size = bx ∧ w.alloc (Obj.cells #[.string s, .int .i64 lo, .int .i64 us, .int .i64 hi] 29) = V ∧ V.heap.size = bl ∧ V.alloc (Obj.cells #[.string s, .int .i64 lo, .int .i64 us, .int .i64 hi] 29) = W ∧ St w.heap.size w [(bl, Obj.cells #[.string s, .int .i64 lo, .int .i64 us, .int .i64 hi] 29), (bx, Obj.cells #[.string s, .int .i64 lo, .int .i64 us, .int .i64 hi] 29)] W := ⟨_, _, _, _, rfl, rfl, rfl, rfl, ((St.start w).alloc _).alloc _⟩
  have d1 := st.cell 1 rfl 1 (v := .int .i64 lo) rfl
  have d2 := st.cell 1 rfl 2 (v := .int .i64 us) rfl
  have d3 := st.cell 1 rfl 3 (v := .int .i64 hi) rfl
  have hrow := st.get 0 rfl
  have hb := st.below
  have hbl2 : bx + 1 = bl := by rw [← hbl, ← hV, World.size_alloc, hbx]
  clear st hb1 hbl
  have hla : Lst Enc.axis W (· < W.heap.size) (some ⟨bl, 0, none⟩) 1 [(s, lo, us, hi)] := lst_flat hrow (Flat.single ⟨[.string s], _, rfl, ⟨rfl, hs⟩, [.int .i64 lo], _, rfl, ⟨rfl, i1⟩, [.int .i64 us], _, rfl, ⟨rfl, i2⟩, rfl, i3⟩) (Array.getElem?_eq_some_iff.1 hrow).1
  have hc := check_any (some ⟨bl, 0, none⟩) 1 1 [(s, lo, us, hi)] W hla (by omega) (by omega)
  obtain ⟨c, hcc⟩ : ∃ c, axCheck [(s, lo, us, hi)] = c := ⟨_, rfl⟩
  rw [hcc] at hc
  clear hla hrow
  replace hV := hide hV; replace hW := hide hW; replace hbx := hide hbx; replace hb := hide hb; replace hc := hide hc; replace d1 := hide d1; replace d2 := hide d2; replace d3 := hide d3; replace hbl2 := hide hbl2
  by_cases h0 : c = 0
  · subst h0
    obtain ⟨_, hv⟩ := axCheck_v hcc
    obtain ⟨_, v1, v2, v3, v4⟩ := hv 0 _ rfl
    simp only at v1 v2 v3 v4
    have hlm := limS_rng n
    obtain ⟨m, hm⟩ : ∃ m, limS n = m := ⟨_, rfl⟩
    rw [hm] at hlm
    have hu : userS (s, lo, us, hi) n = userM lo us hi m := by unfold userS; rw [if_pos hcc, hm]
    rw [hu]
    clear hu hv
    replace hcc := hide hcc
    go_enter Try.func16, Try.ntmps16
    go_wp2_with fail
    rw [unhide hV, unhide hbx]
    try rw [unhide hW]
    try rw [unhide hbl2]
    refine (unhide hc).mono ?_
    rintro e w2 ⟨rfl, hb2⟩
    have e1 := cell_under (unhide d1) hb2
    have e2 := cell_under (unhide d2) hb2
    have e3 := cell_under (unhide d3) hb2
    have hb3 := (unhide hb).trans (hb2.mono (unhide hb).size)
    clear hc hb hb2 d1 d2 d3
    have hb := hide hb3
    clear hb3
    obtain ⟨V2, rfl⟩ : ∃ V, V = w2 := ⟨_, rfl⟩
    have hcl := limited_any n V2
    rw [hm] at hcl
    clear hm
    replace hcl := hide hcl; replace e1 := hide e1; replace e2 := hide e2; replace e3 := hide e3
    go_wp2_with fail
    refine (unhide hcl).mono ?_
    rintro e wv ⟨rfl, ew⟩
    rw [ew]
    clear hcl ew
    have d1 := unhide e1
    have d2 := unhide e2
    have d3 := unhide e3
    clear e1 e2 e3
    by_cases hg : m < 0
    · have hbd := mul_bd (x := -m) (y := us - lo) (A := 64) (B := 2000) (by omega) (by omega) (by omega) (by omega)
      have hrr := roundI_near (a := -m * (us - lo)) (b := 64) (by omega) 128000 (by omega)
      have hz : userM lo us hi m = us - roundI (-m * (us - lo)) 64 := if_pos hg
      have hmb : -1000000000 ≤ (us - lo) * -m ∧ (us - lo) * -m ≤ 1000000000 := by rw [Int.mul_comm]; omega
      have hr0 : (-1) * roundI ((us - lo) * -m) 64 = -(roundI (-m * (us - lo)) 64) := by rw [Int.mul_comm (us - lo)]; omega
      obtain ⟨r, hr⟩ : ∃ r, (-1) * roundI ((us - lo) * -m) 64 = r := ⟨_, rfl⟩
      obtain ⟨z, hz'⟩ : ∃ z, us + r = z := ⟨_, rfl⟩
      have hz2 : userM lo us hi m = z := by rw [hz, ← hz', ← hr, hr0]; omega
      have x1 : IntKind.i64.wrap (us - lo) = us - lo := IntWalk.i64_in _ (by omega)
      have x2 : IntKind.i64.wrap (-m) = -m := IntWalk.i64_in _ (by omega)
      have x3 : IntKind.i64.wrap (us + r) = z := by rw [hz']; exact IntWalk.i64_in _ (by omega)
      have x4 : wrap64 (-m) = -m := IntWalk.wrap64_in _ (by omega)
      clear hz hr0 hz' hrr hbd
      have hz := hide hz2
      clear hz2
      replace hr := hide hr; replace hmb := hide hmb
      go_wp2_with fail
      refine wp_region_frontG 13 (fun _ _ w' => Below V2.heap.size V2 w') (fun wa wb => Below wa.heap.size wa wb)
        (fun ix v w' => match ix with
          | 0 => v = .pointer (some ⟨bx, 2, none⟩)
          | 1 => v = .int .i64 us
          | 2 => v = .pointer (some ⟨bx, 2, none⟩)
          | 3 => v = .int .i64 us
          | 4 => v = .pointer (some ⟨bx, 1, none⟩)
          | 5 => v = .int .i64 lo
          | 6 => v = .int .i64 (us - lo)
          | 7 => ∃ y1 y2 y3, v = .func (.func 44) #[] #[.pointer (some ⟨y3, 0, none⟩), .pointer (some ⟨y2, 0, none⟩), .pointer (some ⟨y1, 0, none⟩)] ∧ w'.cell? ⟨y1, 0, none⟩ = some (.int .i64 (-1)) ∧ w'.cell? ⟨y2, 0, none⟩ = some (.int .i64 64) ∧ w'.cell? ⟨y3, 0, none⟩ = some (.int .i64 (us - lo))
          | 8 => v = .int .i64 m
          | 9 => v = .int .i64 (-m)
          | 10 => v = .int .i64 r
          | 11 => v = .int .i64 z
          | 12 => v = .int .i64 z
          | _ => True) (by rfl) (by kernel_rfl) ?_ ?_ ?_ ?_
      · exact (Below.refl _ _).drew
      · intro wa wb hR ix v hv
        match ix, hv with
        | 0, h => exact h
        | 1, h => exact h
        | 2, h => exact h
        | 3, h => exact h
        | 4, h => exact h
        | 5, h => exact h
        | 6, h => exact h
        | 7, h => obtain ⟨y1, y2, y3, h1, h2, h3, h4⟩ := h; exact ⟨y1, y2, y3, h1, cell_under h2 hR, cell_under h3 hR, cell_under h4 hR⟩
        | 8, h => exact h
        | 9, h => exact h
        | 10, h => exact h
        | 11, h => exact h
        | 12, h => exact h
        | _ + 13, _ => trivial
      · intro ix hix
        obtain rfl | rfl | rfl | rfl | rfl | rfl | rfl | rfl | rfl | rfl | rfl | rfl | rfl : ix = 0 ∨ ix = 1 ∨ ix = 2 ∨ ix = 3 ∨ ix = 4 ∨ ix = 5 ∨ ix = 6 ∨ ix = 7 ∨ ix = 8 ∨ ix = 9 ∨ ix = 10 ∨ ix = 11 ∨ ix = 12 := by omega
        · refine FrontStep.of [] _ rfl (by kernel_rfl) ?_
          intro vs LL wq hLL hC hf
          simp only [putL, List.foldl_nil]
          go_wp2_with fail
          first | exact ⟨hC, Below.refl _ _⟩ | exact ⟨hC, Below.refl _ _, by omega⟩ | exact hC | exact Below.refl _ _
        · refine FrontStep.of [0] _ rfl (by kernel_rfl) ?_
          intro vs LL wq hLL hC hf
          simp only [putL, List.foldl_nil, List.foldl_cons, List.getElem?_cons_zero]
          have e0 : vs 0 = _ := hf 0 (by simp)
          rw [e0]
          have hcq := cell_under d2 hC
          go_wp2_with fail
          first | exact ⟨hC, Below.refl _ _⟩ | exact ⟨hC, Below.refl _ _, by omega⟩ | exact hC | exact Below.refl _ _
        · refine FrontStep.of [] _ rfl (by kernel_rfl) ?_
          intro vs LL wq hLL hC hf
          simp only [putL, List.foldl_nil]
          go_wp2_with fail
          first | exact ⟨hC, Below.refl _ _⟩ | exact ⟨hC, Below.refl _ _, by omega⟩ | exact hC | exact Below.refl _ _
        · refine FrontStep.of [2] _ rfl (by kernel_rfl) ?_
          intro vs LL wq hLL hC hf
          simp only [putL, List.foldl_nil, List.foldl_cons, List.getElem?_cons_zero, List.getElem?_cons_succ]
          have e2 : vs 2 = _ := hf 2 (by simp)
          rw [e2]
          have hcq := cell_under d2 hC
          go_wp2_with fail
          first | exact ⟨hC, Below.refl _ _⟩ | exact ⟨hC, Below.refl _ _, by omega⟩ | exact hC | exact Below.refl _ _
        · refine FrontStep.of [] _ rfl (by kernel_rfl) ?_
          intro vs LL wq hLL hC hf
          simp only [putL, List.foldl_nil]
          go_wp2_with fail
          first | exact ⟨hC, Below.refl _ _⟩ | exact ⟨hC, Below.refl _ _, by omega⟩ | exact hC | exact Below.refl _ _
        · refine FrontStep.of [4] _ rfl (by kernel_rfl) ?_
          intro vs LL wq hLL hC hf
          simp only [putL, List.foldl_nil, List.foldl_cons, List.getElem?_cons_zero, List.getElem?_cons_succ]
          have e4 : vs 4 = _ := hf 4 (by simp)
          rw [e4]
          have hcq := cell_under d1 hC
          go_wp2_with fail
          first | exact ⟨hC, Below.refl _ _⟩ | exact ⟨hC, Below.refl _ _, by omega⟩ | exact hC | exact Below.refl _ _
        · refine FrontStep.of [3, 5] _ rfl (by kernel_rfl) ?_
          intro vs LL wq hLL hC hf
          simp only [putL, List.foldl_nil, List.foldl_cons, List.getElem?_cons_zero, List.getElem?_cons_succ]
          have e3 : vs 3 = _ := hf 3 (by simp)
          rw [e3]
          have e5 : vs 5 = _ := hf 5 (by simp)
          rw [e5]
          go_wp2_with fail
          first | exact ⟨hC, Below.refl _ _⟩ | exact ⟨hC, Below.refl _ _, by omega⟩ | exact hC | exact Below.refl _ _
        · refine FrontStep.of [6] _ rfl (by kernel_rfl) ?_
          intro vs LL wq hLL hC hf
          simp only [putL, List.foldl_nil, List.foldl_cons, List.getElem?_cons_zero, List.getElem?_cons_succ]
          have e6 : vs 6 = _ := hf 6 (by simp)
          rw [e6]
          have hcq := side_any (-1) 64 (us - lo) wq
          replace hcq := hide hcq
          go_wp2_with fail
          refine (unhide hcq).mono ?_
          rintro e wz ⟨y1, y2, y3, rfl, g1, g2, g3, hbz⟩
          clear hcq
          go_wp2_with fail
          first | exact ⟨hC.trans (hbz.mono hC.size), y1, y2, y3, ⟨rfl, rfl, rfl⟩, g1, g2, g3⟩ | exact ⟨hC.trans (hbz.mono hC.size), hbz, _, _, _, rfl, g1, g2, g3⟩
        · refine FrontStep.of [] _ rfl (by kernel_rfl) ?_
          intro vs LL wq hLL hC hf
          simp only [putL, List.foldl_nil]
          go_wp2_with fail
          first | exact ⟨hC, Below.refl _ _⟩ | exact ⟨hC, Below.refl _ _, by omega⟩ | exact hC | exact Below.refl _ _
        · refine FrontStep.of [8] _ rfl (by kernel_rfl) ?_
          intro vs LL wq hLL hC hf
          simp only [putL, List.foldl_nil, List.foldl_cons, List.getElem?_cons_zero, List.getElem?_cons_succ]
          have e8 : vs 8 = _ := hf 8 (by simp)
          rw [e8]
          go_wp2_with fail
          first | exact ⟨hC, Below.refl _ _⟩ | exact ⟨hC, Below.refl _ _, by omega⟩ | exact hC | exact Below.refl _ _
        · refine FrontStep.of [7, 9] _ rfl (by kernel_rfl) ?_
          intro vs LL wq hLL hC hf
          simp only [putL, List.foldl_nil, List.foldl_cons, List.getElem?_cons_zero, List.getElem?_cons_succ]
          obtain ⟨y1, y2, y3, e20, g1, g2, g3⟩ := hf 7 (by simp)
          rw [e20]
          have e9 : vs 9 = _ := hf 9 (by simp)
          rw [e9]
          have hcq := sidec_any (-m) (us - lo) 64 (-1) y1 y2 y3 wq g1 g2 g3 (by omega) (unhide hmb) (by decide)
          rw [unhide hr] at hcq
          replace hcq := hide hcq
          clear g1 g2 g3
          go_wp2_with fail
          refine (unhide hcq).mono ?_
          rintro e wz ⟨rfl, ew⟩
          rw [ew]
          clear hcq ew
          go_wp2_with fail
          first | exact ⟨hC, Below.refl _ _⟩ | exact hC | exact Below.refl _ _
        · refine FrontStep.of [1, 10] _ rfl (by kernel_rfl) ?_
          intro vs LL wq hLL hC hf
          simp only [putL, List.foldl_nil, List.foldl_cons, List.getElem?_cons_zero, List.getElem?_cons_succ]
          have e1 : vs 1 = _ := hf 1 (by simp)
          rw [e1]
          have e10 : vs 10 = _ := hf 10 (by simp)
          rw [e10]
          go_wp2_with fail
          first | exact ⟨hC, Below.refl _ _⟩ | exact ⟨hC, Below.refl _ _, by omega⟩ | exact hC | exact Below.refl _ _
        · refine FrontStep.of [0, 1, 2, 3, 4, 5, 6, 7, 8, 9, 10, 11] _ rfl (by kernel_rfl) ?_
          intro vs LL wq hLL hC hf
          simp only [putL, List.foldl_nil, List.foldl_cons, List.getElem?_cons_zero, List.getElem?_cons_succ]
          have e0 : vs 0 = _ := hf 0 (by simp)
          rw [e0]
          have e1 : vs 1 = _ := hf 1 (by simp)
          rw [e1]
          have e2 : vs 2 = _ := hf 2 (by simp)
          rw [e2]
          have e3 : vs 3 = _ := hf 3 (by simp)
          rw [e3]
          have e4 : vs 4 = _ := hf 4 (by simp)
          rw [e4]
          have e5 : vs 5 = _ := hf 5 (by simp)
          rw [e5]
          have e6 : vs 6 = _ := hf 6 (by simp)
          rw [e6]
          obtain ⟨y1, y2, y3, e20, g1, g2, g3⟩ := hf 7 (by simp)
          rw [e20]
          have e8 : vs 8 = _ := hf 8 (by simp)
          rw [e8]
          have e9 : vs 9 = _ := hf 9 (by simp)
          rw [e9]
          have e10 : vs 10 = _ := hf 10 (by simp)
          rw [e10]
          have e11 : vs 11 = _ := hf 11 (by simp)
          rw [e11]
          go_wp2_with fail
          first | exact ⟨hC, Below.refl _ _⟩ | exact ⟨hC, Below.refl _ _, by omega⟩ | exact hC | exact Below.refl _ _
      · intro vs LL wq hLL hC hf
        have e12 : vs 12 = _ := hf 12 (by omega)
        rw [putSome_all]
        simp only [putL, List.range, List.range.loop, List.foldl_nil, List.foldl_cons, List.getElem?_cons_zero, List.getElem?_cons_succ, List.drop_succ_cons, List.drop_zero]
        rw [e12]
        clear e12 hf hLL
        have hbz := hide ((unhide hb).trans (hC.mono (unhide hb).size))
        clear hC hb d1 d2 d3
        go_simp
        go_wp2_with fail
        go_ret
        exact ⟨ret_int (unhide hz).symm, unhide hbz⟩
    · have hbd := mul_bd (x := m) (y := hi - us) (A := 64) (B := 2000) (by omega) (by omega) (by omega) (by omega)
      have hrr := roundI_near (a := m * (hi - us)) (b := 64) (by omega) 128000 (by omega)
      have hz : userM lo us hi m = us + roundI (m * (hi - us)) 64 := if_neg hg
      have hmb : -1000000000 ≤ (hi - us) * m ∧ (hi - us) * m ≤ 1000000000 := by rw [Int.mul_comm]; omega
      have hr0 : 1 * roundI ((hi - us) * m) 64 = roundI (m * (hi - us)) 64 := by rw [Int.mul_comm (hi - us)]; omega
      obtain ⟨r, hr⟩ : ∃ r, 1 * roundI ((hi - us) * m) 64 = r := ⟨_, rfl⟩
      obtain ⟨z, hz'⟩ : ∃ z, us + r = z := ⟨_, rfl⟩
      have hz2 : userM lo us hi m = z := by rw [hz, ← hz', ← hr, hr0]
      have x1 : IntKind.i64.wrap (hi - us) = hi - us := IntWalk.i64_in _ (by omega)
      have x3 : IntKind.i64.wrap (us + r) = z := by rw [hz']; exact IntWalk.i64_in _ (by omega)
      clear hz hr0 hz' hrr hbd
      have hz := hide hz2
      clear hz2
      replace hr := hide hr; replace hmb := hide hmb
      go_wp2_with fail
      refine wp_region_frontG 12 (fun _ _ w' => Below V2.heap.size V2 w') (fun wa wb => Below wa.heap.size wa wb)
        (fun ix v w' => match ix with
          | 0 => v = .pointer (some ⟨bx, 2, none⟩)
          | 1 => v = .int .i64 us
          | 2 => v = .pointer (some ⟨bx, 3, none⟩)
          | 3 => v = .int .i64 hi
          | 4 => v = .pointer (some ⟨bx, 2, none⟩)
          | 5 => v = .int .i64 us
          | 6 => v = .int .i64 (hi - us)
          | 7 => ∃ y1 y2 y3, v = .func (.func 44) #[] #[.pointer (some ⟨y3, 0, none⟩), .pointer (some ⟨y2, 0, none⟩), .pointer (some ⟨y1, 0, none⟩)] ∧ w'.cell? ⟨y1, 0, none⟩ = some (.int .i64 1) ∧ w'.cell? ⟨y2, 0, none⟩ = some (.int .i64 64) ∧ w'.cell? ⟨y3, 0, none⟩ = some (.int .i64 (hi - us))
          | 8 => v = .int .i64 m
          | 9 => v = .int .i64 r
          | 10 => v = .int .i64 z
          | 11 => v = .int .i64 z
          | _ => True) (by rfl) (by kernel_rfl) ?_ ?_ ?_ ?_
      · exact (Below.refl _ _).drew
      · intro wa wb hR ix v hv
        match ix, hv with
        | 0, h => exact h
        | 1, h => exact h
        | 2, h => exact h
        | 3, h => exact h
        | 4, h => exact h
        | 5, h => exact h
        | 6, h => exact h
        | 7, h => obtain ⟨y1, y2, y3, h1, h2, h3, h4⟩ := h; exact ⟨y1, y2, y3, h1, cell_under h2 hR, cell_under h3 hR, cell_under h4 hR⟩
        | 8, h => exact h
        | 9, h => exact h
        | 10, h => exact h
        | 11, h => exact h
        | _ + 12, _ => trivial
      · intro ix hix
        obtain rfl | rfl | rfl | rfl | rfl | rfl | rfl | rfl | rfl | rfl | rfl | rfl : ix = 0 ∨ ix = 1 ∨ ix = 2 ∨ ix = 3 ∨ ix = 4 ∨ ix = 5 ∨ ix = 6 ∨ ix = 7 ∨ ix = 8 ∨ ix = 9 ∨ ix = 10 ∨ ix = 11 := by omega
        · refine FrontStep.of [] _ rfl (by kernel_rfl) ?_
          intro vs LL wq hLL hC hf
          simp only [putL, List.foldl_nil]
          go_wp2_with fail
          first | exact ⟨hC, Below.refl _ _⟩ | exact ⟨hC, Below.refl _ _, by omega⟩ | exact hC | exact Below.refl _ _
        · refine FrontStep.of [0] _ rfl (by kernel_rfl) ?_
          intro vs LL wq hLL hC hf
          simp only [putL, List.foldl_nil, List.foldl_cons, List.getElem?_cons_zero]
          have e0 : vs 0 = _ := hf 0 (by simp)
          rw [e0]
          have hcq := cell_under d2 hC
          go_wp2_with fail
          first | exact ⟨hC, Below.refl _ _⟩ | exact ⟨hC, Below.refl _ _, by omega⟩ | exact hC | exact Below.refl _ _
        · refine FrontStep.of [] _ rfl (by kernel_rfl) ?_
          intro vs LL wq hLL hC hf
          simp only [putL, List.foldl_nil]
          go_wp2_with fail
          first | exact ⟨hC, Below.refl _ _⟩ | exact ⟨hC, Below.refl _ _, by omega⟩ | exact hC | exact Below.refl _ _
        · refine FrontStep.of [2] _ rfl (by kernel_rfl) ?_
          intro vs LL wq hLL hC hf
          simp only [putL, List.foldl_nil, List.foldl_cons, List.getElem?_cons_zero, List.getElem?_cons_succ]
          have e2 : vs 2 = _ := hf 2 (by simp)
          rw [e2]
          have hcq := cell_under d3 hC
          go_wp2_with fail
          first | exact ⟨hC, Below.refl _ _⟩ | exact ⟨hC, Below.refl _ _, by omega⟩ | exact hC | exact Below.refl _ _
        · refine FrontStep.of [] _ rfl (by kernel_rfl) ?_
          intro vs LL wq hLL hC hf
          simp only [putL, List.foldl_nil]
          go_wp2_with fail
          first | exact ⟨hC, Below.refl _ _⟩ | exact ⟨hC, Below.refl _ _, by omega⟩ | exact hC | exact Below.refl _ _
        · refine FrontStep.of [4] _ rfl (by kernel_rfl) ?_
          intro vs LL wq hLL hC hf
          simp only [putL, List.foldl_nil, List.foldl_cons, List.getElem?_cons_zero, List.getElem?_cons_succ]
          have e4 : vs 4 = _ := hf 4 (by simp)
          rw [e4]
          have hcq := cell_under d2 hC
          go_wp2_with fail
          first | exact ⟨hC, Below.refl _ _⟩ | exact ⟨hC, Below.refl _ _, by omega⟩ | exact hC | exact Below.refl _ _
        · refine FrontStep.of [3, 5] _ rfl (by kernel_rfl) ?_
          intro vs LL wq hLL hC hf
          simp only [putL, List.foldl_nil, List.foldl_cons, List.getElem?_cons_zero, List.getElem?_cons_succ]
          have e3 : vs 3 = _ := hf 3 (by simp)
          rw [e3]
          have e5 : vs 5 = _ := hf 5 (by simp)
          rw [e5]
          go_wp2_with fail
          first | exact ⟨hC, Below.refl _ _⟩ | exact ⟨hC, Below.refl _ _, by omega⟩ | exact hC | exact Below.refl _ _
        · refine FrontStep.of [6] _ rfl (by kernel_rfl) ?_
          intro vs LL wq hLL hC hf
          simp only [putL, List.foldl_nil, List.foldl_cons, List.getElem?_cons_zero, List.getElem?_cons_succ]
          have e6 : vs 6 = _ := hf 6 (by simp)
          rw [e6]
          have hcq := side_any 1 64 (hi - us) wq
          replace hcq := hide hcq
          go_wp2_with fail
          refine (unhide hcq).mono ?_
          rintro e wz ⟨y1, y2, y3, rfl, g1, g2, g3, hbz⟩
          clear hcq
          go_wp2_with fail
          first | exact ⟨hC.trans (hbz.mono hC.size), y1, y2, y3, ⟨rfl, rfl, rfl⟩, g1, g2, g3⟩ | exact ⟨hC.trans (hbz.mono hC.size), hbz, _, _, _, rfl, g1, g2, g3⟩
        · refine FrontStep.of [] _ rfl (by kernel_rfl) ?_
          intro vs LL wq hLL hC hf
          simp only [putL, List.foldl_nil]
          go_wp2_with fail
          first | exact ⟨hC, Below.refl _ _⟩ | exact ⟨hC, Below.refl _ _, by omega⟩ | exact hC | exact Below.refl _ _
        · refine FrontStep.of [7, 8] _ rfl (by kernel_rfl) ?_
          intro vs LL wq hLL hC hf
          simp only [putL, List.foldl_nil, List.foldl_cons, List.getElem?_cons_zero, List.getElem?_cons_succ]
          obtain ⟨y1, y2, y3, e32, g1, g2, g3⟩ := hf 7 (by simp)
          rw [e32]
          have e8 : vs 8 = _ := hf 8 (by simp)
          rw [e8]
          have hcq := sidec_any (m) (hi - us) 64 1 y1 y2 y3 wq g1 g2 g3 (by omega) (unhide hmb) (by decide)
          rw [unhide hr] at hcq
          replace hcq := hide hcq
          clear g1 g2 g3
          go_wp2_with fail
          refine (unhide hcq).mono ?_
          rintro e wz ⟨rfl, ew⟩
          rw [ew]
          clear hcq ew
          go_wp2_with fail
          first | exact ⟨hC, Below.refl _ _⟩ | exact hC | exact Below.refl _ _
        · refine FrontStep.of [1, 9] _ rfl (by kernel_rfl) ?_
          intro vs LL wq hLL hC hf
          simp only [putL, List.foldl_nil, List.foldl_cons, List.getElem?_cons_zero, List.getElem?_cons_succ]
          have e1 : vs 1 = _ := hf 1 (by simp)
          rw [e1]
          have e9 : vs 9 = _ := hf 9 (by simp)
          rw [e9]
          go_wp2_with fail
          first | exact ⟨hC, Below.refl _ _⟩ | exact ⟨hC, Below.refl _ _, by omega⟩ | exact hC | exact Below.refl _ _
        · refine FrontStep.of [0, 1, 2, 3, 4, 5, 6, 7, 8, 9, 10] _ rfl (by kernel_rfl) ?_
          intro vs LL wq hLL hC hf
          simp only [putL, List.foldl_nil, List.foldl_cons, List.getElem?_cons_zero, List.getElem?_cons_succ]
          have e0 : vs 0 = _ := hf 0 (by simp)
          rw [e0]
          have e1 : vs 1 = _ := hf 1 (by simp)
          rw [e1]
          have e2 : vs 2 = _ := hf 2 (by simp)
          rw [e2]
          have e3 : vs 3 = _ := hf 3 (by simp)
          rw [e3]
          have e4 : vs 4 = _ := hf 4 (by simp)
          rw [e4]
          have e5 : vs 5 = _ := hf 5 (by simp)
          rw [e5]
          have e6 : vs 6 = _ := hf 6 (by simp)
          rw [e6]
          obtain ⟨y1, y2, y3, e32, g1, g2, g3⟩ := hf 7 (by simp)
          rw [e32]
          have e8 : vs 8 = _ := hf 8 (by simp)
          rw [e8]
          have e9 : vs 9 = _ := hf 9 (by simp)
          rw [e9]
          have e10 : vs 10 = _ := hf 10 (by simp)
          rw [e10]
          go_wp2_with fail
          first | exact ⟨hC, Below.refl _ _⟩ | exact ⟨hC, Below.refl _ _, by omega⟩ | exact hC | exact Below.refl _ _
      · intro vs LL wq hLL hC hf
        have e11 : vs 11 = _ := hf 11 (by omega)
        rw [putSome_all]
        simp only [putL, List.range, List.range.loop, List.foldl_nil, List.foldl_cons, List.getElem?_cons_zero, List.getElem?_cons_succ, List.drop_succ_cons, List.drop_zero]
        rw [e11]
        clear e11 hf hLL
        have hbz := hide ((unhide hb).trans (hC.mono (unhide hb).size))
        clear hC hb d1 d2 d3
        go_simp
        go_wp2_with fail
        go_ret
        exact ⟨ret_int (unhide hz).symm, unhide hbz⟩
  · have hu : userS (s, lo, us, hi) n = 0 := by unfold userS; rw [if_neg (by rw [hcc]; exact h0)]
    rw [hu]
    have hne : (c != 0) = true := by rw [bne_iff_ne]; exact h0
    replace hcc := hide hcc; replace h0 := hide h0
    go_enter Try.func16, Try.ntmps16
    go_wp2_with fail
    rw [unhide hV, unhide hbx]
    try rw [unhide hW]
    try rw [unhide hbl2]
    refine (unhide hc).mono ?_
    rintro e w2 ⟨rfl, hb2⟩
    have hb3 := (unhide hb).trans (hb2.mono (unhide hb).size)
    clear hc hb hb2 d1 d2 d3
    replace hb3 := hide hb3
    go_wp2_with fail
    go_ret
    exact ⟨rfl, unhide hb3⟩
set_option maxHeartbeats 4000000 in
set_option maxRecDepth 100000 in
theorem ruser_any (s : ByteArray) (lo us hi n : Int) (w : World) (hs : s.size ≤ maxLen) (i1 : I64 lo) (i2 : I64 us) (i3 : I64 hi) :
    Calls Try.prog 17 #[.agg #[.string s, .int .i64 lo, .int .i64 us, .int .i64 hi], .int .i64 n] w fun e w' => e = .returned (.int .i64 (userS (s, lo, us, hi) n)) ∧ Below w.heap.size w w' := by
  have hb1 : Below w.heap.size w (w.alloc (Obj.cells #[.string s, .int .i64 lo, .int .i64 us, .int .i64 hi] 29)) := (Below.refl _ _).alloc (Nat.le_refl _) _
  obtain ⟨bx, V, bl, W, hbx, hV, hbl, hW, st⟩ : ∃ bx V bl W, w.heap.size = bx ∧ w.alloc (Obj.cells #[.string s, .int .i64 lo, .int .i64 us, .int .i64 hi] 29) = V ∧ V.heap.size = bl ∧ V.alloc (Obj.cells #[.string s, .int .i64 lo, .int .i64 us, .int .i64 hi] 29) = W ∧ St w.heap.size w [(bl, Obj.cells #[.string s, .int .i64 lo, .int .i64 us, .int .i64 hi] 29), (bx, Obj.cells #[.string s, .int .i64 lo, .int .i64 us, .int .i64 hi] 29)] W := ⟨_, _, _, _, rfl, rfl, rfl, rfl, ((St.start w).alloc _).alloc _⟩
  have d1 := st.cell 1 rfl 1 (v := .int .i64 lo) rfl
  have d2 := st.cell 1 rfl 2 (v := .int .i64 us) rfl
  have d3 := st.cell 1 rfl 3 (v := .int .i64 hi) rfl
  have hrow := st.get 0 rfl
  have hb := st.below
  have hbl2 : bx + 1 = bl := by rw [← hbl, ← hV, World.size_alloc, hbx]
  clear st hb1 hbl
  have hla : Lst Enc.axis W (· < W.heap.size) (some ⟨bl, 0, none⟩) 1 [(s, lo, us, hi)] := lst_flat hrow (Flat.single ⟨[.string s], _, rfl, ⟨rfl, hs⟩, [.int .i64 lo], _, rfl, ⟨rfl, i1⟩, [.int .i64 us], _, rfl, ⟨rfl, i2⟩, rfl, i3⟩) (Array.getElem?_eq_some_iff.1 hrow).1
  have hc := rcheck_any (some ⟨bl, 0, none⟩) 1 1 [(s, lo, us, hi)] W hla (by omega)
  obtain ⟨c, hcc⟩ : ∃ c, axCheck [(s, lo, us, hi)] = c := ⟨_, rfl⟩
  rw [hcc] at hc
  clear hla hrow
  replace hV := hide hV; replace hW := hide hW; replace hbx := hide hbx; replace hb := hide hb; replace hc := hide hc; replace d1 := hide d1; replace d2 := hide d2; replace d3 := hide d3; replace hbl2 := hide hbl2
  by_cases h0 : c = 0
  · subst h0
    obtain ⟨_, hv⟩ := axCheck_v hcc
    obtain ⟨_, v1, v2, v3, v4⟩ := hv 0 _ rfl
    simp only at v1 v2 v3 v4
    have hlm := limS_rng n
    obtain ⟨m, hm⟩ : ∃ m, limS n = m := ⟨_, rfl⟩
    rw [hm] at hlm
    have hu : userS (s, lo, us, hi) n = userM lo us hi m := by unfold userS; rw [if_pos hcc, hm]
    rw [hu]
    clear hu hv
    replace hcc := hide hcc
    go_enter Try.func17, Try.ntmps17
    go_wp2_with fail
    rw [unhide hV, unhide hbx]
    try rw [unhide hW]
    try rw [unhide hbl2]
    refine (unhide hc).mono ?_
    rintro e w2 ⟨rfl, hb2⟩
    have e1 := cell_under (unhide d1) hb2
    have e2 := cell_under (unhide d2) hb2
    have e3 := cell_under (unhide d3) hb2
    have hb3 := (unhide hb).trans (hb2.mono (unhide hb).size)
    clear hc hb hb2 d1 d2 d3
    have hb := hide hb3
    clear hb3
    obtain ⟨V2, rfl⟩ : ∃ V, V = w2 := ⟨_, rfl⟩
    have hcl := rlimited_any n V2
    rw [hm] at hcl
    clear hm
    replace hcl := hide hcl; replace e1 := hide e1; replace e2 := hide e2; replace e3 := hide e3
    go_wp2_with fail
    refine (unhide hcl).mono ?_
    rintro e wv ⟨rfl, ew⟩
    rw [ew]
    clear hcl ew
    have d1 := unhide e1
    have d2 := unhide e2
    have d3 := unhide e3
    clear e1 e2 e3
    by_cases hg : m < 0
    · have hbd := mul_bd (x := -m) (y := us - lo) (A := 64) (B := 2000) (by omega) (by omega) (by omega) (by omega)
      have hrr := roundI_near (a := -m * (us - lo)) (b := 64) (by omega) 128000 (by omega)
      have hz : userM lo us hi m = us - roundI (-m * (us - lo)) 64 := if_pos hg
      obtain ⟨p, hm'⟩ : ∃ p, -m * (us - lo) = p := ⟨_, rfl⟩
      rw [hm'] at hz hrr hbd
      obtain ⟨r, hr⟩ : ∃ r, roundI p 64 = r := ⟨_, rfl⟩
      rw [hr] at hz hrr
      obtain ⟨z, hz'⟩ : ∃ z, us - r = z := ⟨_, rfl⟩
      have hz2 : userM lo us hi m = z := by rw [hz, hz']
      have x1 : IntKind.i64.wrap (us - lo) = us - lo := IntWalk.i64_in _ (by omega)
      have x2 : IntKind.i64.wrap (-m) = -m := IntWalk.i64_in _ (by omega)
      have x3 : IntKind.i64.wrap (-m * (us - lo)) = p := by rw [hm']; exact IntWalk.i64_in _ (by omega)
      have x5 : IntKind.i64.wrap (us - r) = z := by rw [hz']; exact IntWalk.i64_in _ (by omega)
      have x4 : wrap64 (-m) = -m := IntWalk.wrap64_in _ (by omega)
      have hcq : ∀ z : Ext V2, Calls Try.prog 34 #[.int .i64 p, .int .i64 64] z.get fun e w' => e = .returned (.int .i64 r) ∧ Below z.get.heap.size z.get w' := fun z => by
        have h := round_any p 64 z.get ⟨by omega, by omega⟩ (by omega) (by omega)
        rw [hr] at h
        exact h
      have z1 : ∀ z : Ext V2, z.get.cell? ⟨bx, 1, none⟩ = some (.int .i64 lo) := fun z => z.cell d1
      have z2 : ∀ z : Ext V2, z.get.cell? ⟨bx, 2, none⟩ = some (.int .i64 us) := fun z => z.cell d2
      have z3 : ∀ z : Ext V2, z.get.cell? ⟨bx, 3, none⟩ = some (.int .i64 hi) := fun z => z.cell d3
      clear hr hz' hrr hbd hm' hz
      replace hz2 := hide hz2; replace hcq := hide hcq
      go_wp2_with fail
      refine wp_region_ext (by rfl) (by kernel_rfl) ?_
      repeat (quiet_step ((go_at_call 34; with_reducible exact Ext.calls (unhide hcq _))))
      refine wpQuiet_nil ?_
      rintro w' ⟨x, rfl⟩
      have hbz := hide ((unhide hb).trans (x.le.mono (unhide hb).size))
      clear hcq z1 z2 z3 d1 d2 d3 hb
      go_wp2_with fail
      go_ret
      exact ⟨ret_int (unhide hz2).symm, unhide hbz⟩
    · have hbd := mul_bd (x := m) (y := hi - us) (A := 64) (B := 2000) (by omega) (by omega) (by omega) (by omega)
      have hrr := roundI_near (a := m * (hi - us)) (b := 64) (by omega) 128000 (by omega)
      have hz : userM lo us hi m = us + roundI (m * (hi - us)) 64 := if_neg hg
      obtain ⟨p, hm'⟩ : ∃ p, m * (hi - us) = p := ⟨_, rfl⟩
      rw [hm'] at hz hrr hbd
      obtain ⟨r, hr⟩ : ∃ r, roundI p 64 = r := ⟨_, rfl⟩
      rw [hr] at hz hrr
      obtain ⟨z, hz'⟩ : ∃ z, us + r = z := ⟨_, rfl⟩
      have hz2 : userM lo us hi m = z := by rw [hz, hz']
      have x1 : IntKind.i64.wrap (hi - us) = hi - us := IntWalk.i64_in _ (by omega)
      have x3 : IntKind.i64.wrap (m * (hi - us)) = p := by rw [hm']; exact IntWalk.i64_in _ (by omega)
      have x5 : IntKind.i64.wrap (us + r) = z := by rw [hz']; exact IntWalk.i64_in _ (by omega)
      have hcq : ∀ z : Ext V2, Calls Try.prog 34 #[.int .i64 p, .int .i64 64] z.get fun e w' => e = .returned (.int .i64 r) ∧ Below z.get.heap.size z.get w' := fun z => by
        have h := round_any p 64 z.get ⟨by omega, by omega⟩ (by omega) (by omega)
        rw [hr] at h
        exact h
      have z1 : ∀ z : Ext V2, z.get.cell? ⟨bx, 1, none⟩ = some (.int .i64 lo) := fun z => z.cell d1
      have z2 : ∀ z : Ext V2, z.get.cell? ⟨bx, 2, none⟩ = some (.int .i64 us) := fun z => z.cell d2
      have z3 : ∀ z : Ext V2, z.get.cell? ⟨bx, 3, none⟩ = some (.int .i64 hi) := fun z => z.cell d3
      clear hr hz' hrr hbd hm' hz
      replace hz2 := hide hz2; replace hcq := hide hcq
      go_wp2_with fail
      refine wp_region_ext (by rfl) (by kernel_rfl) ?_
      repeat (quiet_step ((go_at_call 34; with_reducible exact Ext.calls (unhide hcq _))))
      refine wpQuiet_nil ?_
      rintro w' ⟨x, rfl⟩
      have hbz := hide ((unhide hb).trans (x.le.mono (unhide hb).size))
      clear hcq z1 z2 z3 d1 d2 d3 hb
      go_wp2_with fail
      go_ret
      exact ⟨ret_int (unhide hz2).symm, unhide hbz⟩
  · have hu : userS (s, lo, us, hi) n = 0 := by unfold userS; rw [if_neg (by rw [hcc]; exact h0)]
    rw [hu]
    have hne : (c != 0) = true := by rw [bne_iff_ne]; exact h0
    replace hcc := hide hcc; replace h0 := hide h0
    go_enter Try.func17, Try.ntmps17
    go_wp2_with fail
    rw [unhide hV, unhide hbx]
    try rw [unhide hW]
    try rw [unhide hbl2]
    refine (unhide hc).mono ?_
    rintro e w2 ⟨rfl, hb2⟩
    have hb3 := (unhide hb).trans (hb2.mono (unhide hb).size)
    clear hc hb hb2 d1 d2 d3
    replace hb3 := hide hb3
    go_wp2_with fail
    go_ret
    exact ⟨rfl, unhide hb3⟩
end Go.Proofs.Ythkppilelpaieaa
