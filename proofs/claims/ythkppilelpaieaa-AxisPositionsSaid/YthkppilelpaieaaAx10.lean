/- Axes: the program's Normal. -/
import Derived.Test.YthkppilelpaieaaAx9
namespace Go.Proofs.Ythkppilelpaieaa
open Go.RowKit
theorem set_low {cs : Array Value} {k : Nat} {N : List Int} {r : Int} (hk : k < cs.size) (h : ∀ j, j < k → cs[j]? = (N[j]?).map (Value.int .i64)) (hr : N[k]? = some r) : ∀ j, j < k + 1 → (cs.setIfInBounds k (.int .i64 r))[j]? = (N[j]?).map (Value.int .i64) := fun j hj => by
  rw [Array.getElem?_setIfInBounds]
  by_cases h1 : k = j
  · subst h1
    rw [if_pos rfl, if_pos hk, hr]
    rfl
  · rw [if_neg h1]
    exact h j (by omega)
theorem set_high {cs : Array Value} {k n : Nat} {r : Value} (h : ∀ j, k ≤ j → j < n → cs[j]? = some (.int .i64 0)) : ∀ j, k + 1 ≤ j → j < n → (cs.setIfInBounds k r)[j]? = some (.int .i64 0) := fun j h1 h2 => by
  rw [Array.getElem?_setIfInBounds, if_neg (by omega)]
  exact h j (by omega) h2
theorem low_zero {cs : Array Value} {k n : Nat} {N : List Int} (hk : k < n) (h : ∀ j, j < k → cs[j]? = (N[j]?).map (Value.int .i64)) (hr : N[k]? = some 0) (hh : ∀ j, k ≤ j → j < n → cs[j]? = some (.int .i64 0)) : ∀ j, j < k + 1 → cs[j]? = (N[j]?).map (Value.int .i64) := fun j hj => by
  by_cases h1 : j = k
  · subst h1
    rw [hr, hh j (Nat.le_refl _) hk]
    rfl
  · exact h j (by omega)
theorem made_at (n j : Nat) (h : j < n) : (madeCells #[Value.int .i64 0] n)[j]? = some (.int .i64 0) := by
  rw [← Array.getElem?_toList, toList_madeCells_one, List.getElem?_replicate, if_pos h]
set_option maxHeartbeats 8000000 in
set_option maxRecDepth 100000 in
theorem normal_any (a : Option Addr) (n c : Nat) (l : List Axis) (ua : Option Addr) (un uc : Nat) (u : List Int) (w : World) (hl : Lst Enc.axis w (· < w.heap.size) a n l) (hnc : n ≤ c) (hu : Lst Enc.int w (· < w.heap.size) ua un u) (hn : n ≤ 1000000000000) (hun : un ≤ 1000000000000) :
    Calls Try.prog 11 #[.slice a n c, .slice ua un uc] w fun e w' => ∃ v m, e = .returned (.tuple #[v, .int .i64 (normS l u).2]) ∧ w'.ownsRow w.heap.size 3 1 v m (vints (normS l u).1) ∧ Below w.heap.size w w' := by
  have hc := check_any a n c l w hl hnc hn
  have hll := hl.1
  have hul := hu.1
  by_cases h0 : axCheck l = 0
  · obtain ⟨h3, hv⟩ := axCheck_v h0
    rw [h0] at hc
    by_cases h1 : un = n
    · subst h1
      rw [normS_ok h0 (by omega)]
      show Calls _ _ _ w fun e w' => ∃ v m, e = .returned (.tuple #[v, .int .i64 0]) ∧ w'.ownsRow w.heap.size 3 1 v m (vints (normL l u)) ∧ Below w.heap.size w w'
      obtain ⟨n, rfl⟩ : ∃ n, n = un := ⟨_, rfl⟩
      have hne : ((n : Int) != (n : Int)) = false := bne_self_eq_false _
      have hn3 : n ≤ 3 := by omega
      have hmk := make_ints n (by omega)
      replace hll := hide hll; replace hul := hide hul; replace hl := hide hl; replace hu := hide hu; replace hv := hide hv; replace h0 := hide h0; replace hc := hide hc
      go_enter Try.func11, Try.ntmps11
      go_wp2_with fail
      refine (unhide hc).mono ?_
      rintro e w1 ⟨rfl, hb⟩
      clear hc
      obtain ⟨ob, hob⟩ : ∃ ob, ob = w1.heap.size := ⟨_, rfl⟩
      obtain ⟨w2, hw2⟩ : ∃ w2, w2 = w1.alloc (.cells (madeCells #[Value.int .i64 0] n) 3) := ⟨_, rfl⟩
      have hb2 : Below w1.heap.size w1 w2 := by rw [hw2]; exact (Below.refl _ _).alloc (Nat.le_refl _) _
      have hrow : w2.heap[ob]? = some (.cells (madeCells #[Value.int .i64 0] n) 3 (0, 0)) := by rw [hw2, hob]; exact heap_alloc_new w1 _
      have hbz := hb.trans (hb2.mono hb.size)
      have hobW : w.heap.size ≤ ob := by have := hb.size; omega
      clear hb hb2
      replace hob := hide hob; replace hw2 := hide hw2; replace hrow := hide hrow; replace hbz := hide hbz
      go_wp2_with fail
      rw [← unhide hw2, ← unhide hob]
      clear hmk
      go_loopw [26] (fun v wr => ∃ (k : Nat) (cs : Array Value), k ≤ n ∧ v = .int .i64 (k : Int) ∧ wr.heap[ob]? = some (.cells cs 3 (0, 0)) ∧ cs.size = n ∧ (∀ j, j < k → cs[j]? = ((normL l u)[j]?).map (Value.int .i64)) ∧ (∀ j, k ≤ j → j < n → cs[j]? = some (.int .i64 0)) ∧ Below w.heap.size w wr) (fun v _ => n - (intOf v).toNat)
      case atStart => exact ⟨0, _, by omega, rfl, unhide hrow, size_madeCells _ _, fun j hj => by omega, fun j _ h2 => made_at n j h2, unhide hbz⟩
      case round =>
        clear hrow hbz
        obtain ⟨k, cs, hk, rfl, hrow, hcs, hlo2, hhi2, hbw⟩ := hrel
        obtain ⟨wo, rfl⟩ : ∃ wo : World, wo = wr := ⟨_, rfl⟩
        replace hlo2 := hide hlo2; replace hhi2 := hide hhi2
        by_cases hlt : k < n
        · obtain ⟨b1, o1, t, rfl, _, hx, _, _, _, _, c0, c1, c2, c3⟩ := lst_axis ((unhide hl).under hbw) hlt
          obtain ⟨b2, o2, y, rfl, _, hy, _, c4⟩ := lst_int ((unhide hu).under hbw) hlt
          have hvt := unhide hv k t hx
          have hrk : (normL l u)[k]? = some (normA t y) := by unfold normL; rw [List.getElem?_zipWith, hx, hy]
          obtain ⟨s, lo, us, hi⟩ := t
          obtain ⟨_, v1, v2, v3, v4⟩ := hvt
          simp only at c0 c1 c2 c3 v1 v2 v3 v4
          obtain ⟨q1, q2⟩ := clampI_rng (u := y) (show lo ≤ hi by omega)
          have hnu : normA (s, lo, us, hi) y = normU lo us hi (clampI lo hi y) := rfl
          obtain ⟨q, hq⟩ : ∃ q, clampI lo hi y = q := ⟨_, rfl⟩
          rw [hq] at q1 q2 hnu
          rw [hnu] at hrk
          obtain ⟨bx, hbx⟩ : ∃ bx, bx = wo.heap.size := ⟨_, rfl⟩
          obtain ⟨V2, hV2⟩ : ∃ V, V = wo.alloc (Obj.cells #[.string s, .int .i64 lo, .int .i64 us, .int .i64 hi] 29) := ⟨_, rfl⟩
          have hbo : Below wo.heap.size wo V2 := by rw [hV2]; exact (Below.refl _ _).alloc (Nat.le_refl _) _
          have hcx : V2.heap[bx]? = some (.cells #[.string s, .int .i64 lo, .int .i64 us, .int .i64 hi] 29 (0, 0)) := by rw [hV2, hbx]; exact heap_alloc_new wo _
          have d1 : V2.cell? ⟨bx, 1, none⟩ = some (.int .i64 lo) := (cell_of_row _ _ 1 _ _ _ hcx).trans rfl
          have d2 : V2.cell? ⟨bx, 2, none⟩ = some (.int .i64 us) := (cell_of_row _ _ 2 _ _ _ hcx).trans rfl
          have d3 : V2.cell? ⟨bx, 3, none⟩ = some (.int .i64 hi) := (cell_of_row _ _ 3 _ _ _ hcx).trans rfl
          have d4 := cell_under c4 hbo
          have hrow2 := (hbo.block ob (Array.getElem?_eq_some_iff.1 hrow).1).trans hrow
          have hbw2 := hbw.trans (hbo.mono hbw.size)
          have hobl := (Array.getElem?_eq_some_iff.1 hrow2).1
          have t1 : (k : Int) < (n : Int) := by omega
          have t2 : ¬ (n : Int) ≤ (k : Int) := by omega
          clear hx hy hnu hbo hcx hrow hbw
          have hrow := hrow2
          have hbw := hbw2
          clear hrow2 hbw2
          replace hrk := hide hrk; replace hq := hide hq; replace hbx := hide hbx; replace hV2 := hide hV2; replace hrow := hide hrow; replace hbw := hide hbw
          go_wp2_with fail
          rw [← unhide hV2, ← unhide hbx]
          clear c0 c1 c2 c3 c4
          go_cut [10] (fun v wr => v = .int .i64 q ∧ ∃ j, wr = V2.drewN j)
          case first =>
            by_cases e1 : hi < y
            · by_cases e2 : lo < hi
              · have hv : q = hi := by rw [← unhide hq]; unfold clampI; rw [if_pos e1, if_pos e2]
                go_quiet (fail)
                go_wp2_with fail
                go_meet
                exact ⟨by rw [hv], _, rfl⟩
              · have hv : q = lo := by rw [← unhide hq]; unfold clampI; rw [if_pos e1, if_neg e2]
                go_quiet (fail)
                go_wp2_with fail
                go_meet
                exact ⟨by rw [hv], _, rfl⟩
            · by_cases e2 : lo < y
              · have hv : q = y := by rw [← unhide hq]; unfold clampI; rw [if_neg e1, if_pos e2]
                go_quiet (fail)
                go_wp2_with fail
                go_meet
                exact ⟨by rw [hv], _, rfl⟩
              · have hv : q = lo := by rw [← unhide hq]; unfold clampI; rw [if_neg e1, if_neg e2]
                go_quiet (fail)
                go_wp2_with fail
                go_meet
                exact ⟨by rw [hv], _, rfl⟩
          case rest =>
          obtain ⟨rfl, j, hwc⟩ := hcut
          rw [hwc]
          replace d1 : (V2.drewN j).cell? ⟨bx, 1, none⟩ = some (.int .i64 lo) := d1
          replace d2 : (V2.drewN j).cell? ⟨bx, 2, none⟩ = some (.int .i64 us) := d2
          replace d3 : (V2.drewN j).cell? ⟨bx, 3, none⟩ = some (.int .i64 hi) := d3
          replace hrow : Hid ((V2.drewN j).heap[ob]? = some (.cells cs 3 (0, 0))) := hrow
          replace hbw := hide (blw_drewN (unhide hbw) j)
          replace hobl : ob < (V2.drewN j).heap.size := hobl
          obtain ⟨V3, hV3⟩ : ∃ V3, V2.drewN j = V3 := ⟨_, rfl⟩
          rw [hV3] at d1 d2 d3 hrow hbw hobl ⊢
          clear hwc hV3 d4 hV2
          obtain ⟨V2, rfl⟩ : ∃ V2, V2 = V3 := ⟨_, rfl⟩
          by_cases g1 : q < us
          · have hr : (-1) * roundI (64 * (us - q)) (us - lo) = normU lo us hi q := by unfold normU; rw [if_pos g1]; omega
            obtain ⟨r, hr2⟩ : ∃ r, normU lo us hi q = r := ⟨_, rfl⟩
            rw [hr2] at hr hrk
            have x1 : IntKind.i64.wrap (us - lo) = us - lo := IntWalk.i64_in _ (by omega)
            have x2 : IntKind.i64.wrap (us - q) = us - q := IntWalk.i64_in _ (by omega)
            clear hr2
            replace hr := hide hr
            go_wp2_with fail
            refine wp_region_frontG 14 (fun _ _ w' => Below V2.heap.size V2 w') (fun wa wb => Below wa.heap.size wa wb)
              (fun ix v w' => match ix with
                | 0 => v = .slice (some ⟨ob, 0, none⟩) n n
                | 1 => v = .int .i64 (k : Int)
                | 2 => v = .pointer (some ⟨bx, 2, none⟩)
                | 3 => v = .int .i64 us
                | 4 => v = .pointer (some ⟨bx, 1, none⟩)
                | 5 => v = .int .i64 lo
                | 6 => v = .int .i64 (us - lo)
                | 7 => ∃ y1 y2 y3, v = .func (.func 44) #[] #[.pointer (some ⟨y3, 0, none⟩), .pointer (some ⟨y2, 0, none⟩), .pointer (some ⟨y1, 0, none⟩)] ∧ w'.cell? ⟨y1, 0, none⟩ = some (.int .i64 (-1)) ∧ w'.cell? ⟨y2, 0, none⟩ = some (.int .i64 (us - lo)) ∧ w'.cell? ⟨y3, 0, none⟩ = some (.int .i64 64)
                | 8 => v = .pointer (some ⟨bx, 2, none⟩)
                | 9 => v = .int .i64 us
                | 10 => v = .int .i64 q
                | 11 => v = .int .i64 (us - q)
                | 12 => v = .int .i64 r
                | 13 => v = .pointer (some ⟨ob, k, none⟩)
                | _ => True) (by rfl) (by kernel_rfl) ?_ ?_ ?_ ?_
            · exact (Below.refl _ _).drew
            · intro wa wb hR ix v hv
              match ix, hv with
              | 0, h => exact h
              | 1, h => exact h
              | 2, h => exact h
              | 3, h => exact h
              | 4, h => exact h
              | 5, h => exact h
              | 6, h => exact h
              | 7, h => obtain ⟨y1, y2, y3, h1, h2, h3, h4⟩ := h; exact ⟨y1, y2, y3, h1, cell_under h2 hR, cell_under h3 hR, cell_under h4 hR⟩
              | 8, h => exact h
              | 9, h => exact h
              | 10, h => exact h
              | 11, h => exact h
              | 12, h => exact h
              | 13, h => exact h
              | _ + 14, _ => trivial
            · intro ix hix
              obtain rfl | rfl | rfl | rfl | rfl | rfl | rfl | rfl | rfl | rfl | rfl | rfl | rfl | rfl : ix = 0 ∨ ix = 1 ∨ ix = 2 ∨ ix = 3 ∨ ix = 4 ∨ ix = 5 ∨ ix = 6 ∨ ix = 7 ∨ ix = 8 ∨ ix = 9 ∨ ix = 10 ∨ ix = 11 ∨ ix = 12 ∨ ix = 13 := by omega
              · refine FrontStep.of [] _ rfl (by kernel_rfl) ?_
                intro vs LL wq hLL hC hf
                simp only [putL, List.foldl_nil]
                go_wp2_with fail
                first | exact ⟨hC, Below.refl _ _⟩ | exact ⟨hC, Below.refl _ _, by omega⟩ | exact hC | exact Below.refl _ _
              · refine FrontStep.of [] _ rfl (by kernel_rfl) ?_
                intro vs LL wq hLL hC hf
                simp only [putL, List.foldl_nil]
                go_wp2_with fail
                first | exact ⟨hC, Below.refl _ _⟩ | exact ⟨hC, Below.refl _ _, by omega⟩ | exact hC | exact Below.refl _ _
              · refine FrontStep.of [] _ rfl (by kernel_rfl) ?_
                intro vs LL wq hLL hC hf
                simp only [putL, List.foldl_nil]
                go_wp2_with fail
                first | exact ⟨hC, Below.refl _ _⟩ | exact ⟨hC, Below.refl _ _, by omega⟩ | exact hC | exact Below.refl _ _
              · refine FrontStep.of [2] _ rfl (by kernel_rfl) ?_
                intro vs LL wq hLL hC hf
                simp only [putL, List.foldl_nil, List.foldl_cons, List.getElem?_cons_zero, List.getElem?_cons_succ]
                have e2 : vs 2 = _ := hf 2 (by simp)
                rw [e2]
                have hcq := cell_under d2 hC
                go_wp2_with fail
                first | exact ⟨hC, Below.refl _ _⟩ | exact ⟨hC, Below.refl _ _, by omega⟩ | exact hC | exact Below.refl _ _
              · refine FrontStep.of [] _ rfl (by kernel_rfl) ?_
                intro vs LL wq hLL hC hf
                simp only [putL, List.foldl_nil]
                go_wp2_with fail
                first | exact ⟨hC, Below.refl _ _⟩ | exact ⟨hC, Below.refl _ _, by omega⟩ | exact hC | exact Below.refl _ _
              · refine FrontStep.of [4] _ rfl (by kernel_rfl) ?_
                intro vs LL wq hLL hC hf
                simp only [putL, List.foldl_nil, List.foldl_cons, List.getElem?_cons_zero, List.getElem?_cons_succ]
                have e4 : vs 4 = _ := hf 4 (by simp)
                rw [e4]
                have hcq := cell_under d1 hC
                go_wp2_with fail
                first | exact ⟨hC, Below.refl _ _⟩ | exact ⟨hC, Below.refl _ _, by omega⟩ | exact hC | exact Below.refl _ _
              · refine FrontStep.of [3, 5] _ rfl (by kernel_rfl) ?_
                intro vs LL wq hLL hC hf
                simp only [putL, List.foldl_nil, List.foldl_cons, List.getElem?_cons_zero, List.getElem?_cons_succ]
                have e3 : vs 3 = _ := hf 3 (by simp)
                rw [e3]
                have e5 : vs 5 = _ := hf 5 (by simp)
                rw [e5]
                go_wp2_with fail
                first | exact ⟨hC, Below.refl _ _⟩ | exact ⟨hC, Below.refl _ _, by omega⟩ | exact hC | exact Below.refl _ _
              · refine FrontStep.of [6] _ rfl (by kernel_rfl) ?_
                intro vs LL wq hLL hC hf
                simp only [putL, List.foldl_nil, List.foldl_cons, List.getElem?_cons_zero, List.getElem?_cons_succ]
                have e6 : vs 6 = _ := hf 6 (by simp)
                rw [e6]
                have hcq := side_any (-1) (us - lo) 64 wq
                replace hcq := hide hcq
                go_wp2_with fail
                refine (unhide hcq).mono ?_
                rintro e wz ⟨y1, y2, y3, rfl, g1, g2, g3, hbz⟩
                clear hcq
                go_wp2_with fail
                first | exact ⟨hC.trans (hbz.mono hC.size), y1, y2, y3, ⟨rfl, rfl, rfl⟩, g1, g2, g3⟩ | exact ⟨hC.trans (hbz.mono hC.size), hbz, _, _, _, rfl, g1, g2, g3⟩ | exact ⟨hC.trans (hbz.mono hC.size), hbz, y1, g1, y2, g2, y3, rfl, g3⟩ | exact ⟨hC.trans (hbz.mono hC.size), hbz, g1, g2, g3⟩
              · refine FrontStep.of [] _ rfl (by kernel_rfl) ?_
                intro vs LL wq hLL hC hf
                simp only [putL, List.foldl_nil]
                go_wp2_with fail
                first | exact ⟨hC, Below.refl _ _⟩ | exact ⟨hC, Below.refl _ _, by omega⟩ | exact hC | exact Below.refl _ _
              · refine FrontStep.of [8] _ rfl (by kernel_rfl) ?_
                intro vs LL wq hLL hC hf
                simp only [putL, List.foldl_nil, List.foldl_cons, List.getElem?_cons_zero, List.getElem?_cons_succ]
                have e8 : vs 8 = _ := hf 8 (by simp)
                rw [e8]
                have hcq := cell_under d2 hC
                go_wp2_with fail
                first | exact ⟨hC, Below.refl _ _⟩ | exact ⟨hC, Below.refl _ _, by omega⟩ | exact hC | exact Below.refl _ _
              · refine FrontStep.of [] _ rfl (by kernel_rfl) ?_
                intro vs LL wq hLL hC hf
                simp only [putL, List.foldl_nil]
                go_wp2_with fail
                first | exact ⟨hC, Below.refl _ _⟩ | exact ⟨hC, Below.refl _ _, by omega⟩ | exact hC | exact Below.refl _ _
              · refine FrontStep.of [9, 10] _ rfl (by kernel_rfl) ?_
                intro vs LL wq hLL hC hf
                simp only [putL, List.foldl_nil, List.foldl_cons, List.getElem?_cons_zero, List.getElem?_cons_succ]
                have e9 : vs 9 = _ := hf 9 (by simp)
                rw [e9]
                have e10 : vs 10 = _ := hf 10 (by simp)
                rw [e10]
                go_wp2_with fail
                first | exact ⟨hC, Below.refl _ _⟩ | exact ⟨hC, Below.refl _ _, by omega⟩ | exact hC | exact Below.refl _ _
              · refine FrontStep.of [7, 11] _ rfl (by kernel_rfl) ?_
                intro vs LL wq hLL hC hf
                simp only [putL, List.foldl_nil, List.foldl_cons, List.getElem?_cons_zero, List.getElem?_cons_succ]
                obtain ⟨y1, y2, y3, e53, g1, g2, g3⟩ := hf 7 (by simp)
                rw [e53]
                have e11 : vs 11 = _ := hf 11 (by simp)
                rw [e11]
                have hcq := sidec_any (us - q) 64 (us - lo) (-1) y1 y2 y3 wq g1 g2 g3 (by omega) (by omega) (by decide)
                rw [unhide hr] at hcq
                replace hcq := hide hcq
                clear g1 g2 g3
                go_wp2_with fail
                refine (unhide hcq).mono ?_
                rintro e wz ⟨rfl, ew⟩
                rw [ew]
                clear hcq ew
                go_wp2_with fail
                first | exact ⟨hC, Below.refl _ _⟩ | exact hC | exact Below.refl _ _
              · refine FrontStep.of [0, 1, 2, 3, 4, 5, 6, 7, 8, 9, 10, 11, 12] _ rfl (by kernel_rfl) ?_
                intro vs LL wq hLL hC hf
                simp only [putL, List.foldl_nil, List.foldl_cons, List.getElem?_cons_zero, List.getElem?_cons_succ]
                have e0 : vs 0 = _ := hf 0 (by simp)
                rw [e0]
                have e1 : vs 1 = _ := hf 1 (by simp)
                rw [e1]
                have e2 : vs 2 = _ := hf 2 (by simp)
                rw [e2]
                have e3 : vs 3 = _ := hf 3 (by simp)
                rw [e3]
                have e4 : vs 4 = _ := hf 4 (by simp)
                rw [e4]
                have e5 : vs 5 = _ := hf 5 (by simp)
                rw [e5]
                have e6 : vs 6 = _ := hf 6 (by simp)
                rw [e6]
                obtain ⟨y1, y2, y3, e53, g1, g2, g3⟩ := hf 7 (by simp)
                rw [e53]
                have e8 : vs 8 = _ := hf 8 (by simp)
                rw [e8]
                have e9 : vs 9 = _ := hf 9 (by simp)
                rw [e9]
                have e10 : vs 10 = _ := hf 10 (by simp)
                rw [e10]
                have e11 : vs 11 = _ := hf 11 (by simp)
                rw [e11]
                have e12 : vs 12 = _ := hf 12 (by simp)
                rw [e12]
                go_wp2_with fail
                first | exact ⟨hC, Below.refl _ _⟩ | exact ⟨hC, Below.refl _ _, by omega⟩ | exact hC | exact Below.refl _ _
            · intro vs LL wq hLL hC hf
              have e13 : vs 13 = _ := hf 13 (by omega)
              have e12 : vs 12 = _ := hf 12 (by omega)
              rw [putSome_all]
              simp only [putL, List.range, List.range.loop, List.foldl_nil, List.foldl_cons, List.getElem?_cons_zero, List.getElem?_cons_succ, List.drop_succ_cons, List.drop_zero]
              rw [e13, e12]
              clear e13 e12 hf hLL
              have hob := (hC.block ob hobl).trans (unhide hrow)
              obtain ⟨vq, hcq⟩ : ∃ v, wq.cell? ⟨ob, k, none⟩ = some v := ⟨_, (cell_of_row _ _ _ _ _ _ hob).trans (Array.getElem?_eq_getElem (by omega))⟩
              have hfq : wq.frozen? ⟨ob, k, none⟩ = false := by simp [World.frozen?, hob]
              have hgs := grown_set (w := wq) ob k (.int .i64 r)
              have hob2 := heap_set hob (.int .i64 r) (off := k)
              have hbz : Below w.heap.size w (wq.setCell ⟨ob, k, none⟩ (.int .i64 r)) := ((unhide hbw).trans (hC.mono (unhide hbw).size)).trans ⟨hgs.os, hgs.tape, hgs.output, hgs.size, fun b hb => hgs.block b (Nat.lt_of_lt_of_le hb (Nat.le_trans (unhide hbw).size hC.size)) (fun e => by injection e; omega)⟩
              clear hob hgs hrow hbw hC d1 d2 d3
              replace hob2 := hide hob2; replace hbz := hide hbz
              go_wp2_with fail
              go_roundw
              case rel => exact ⟨k + 1, _, by omega, by go_num, unhide hob2, by rw [Array.size_setIfInBounds]; exact hcs, set_low (by omega) (unhide hlo2) (unhide hrk), set_high (unhide hhi2), unhide hbz⟩
              case measure => simp [intOf]; omega
          · by_cases g2 : us < q
            · have hr : 1 * roundI (64 * (q - us)) (hi - us) = normU lo us hi q := by unfold normU; rw [if_neg g1, if_pos g2]; omega
              obtain ⟨r, hr2⟩ : ∃ r, normU lo us hi q = r := ⟨_, rfl⟩
              rw [hr2] at hr hrk
              have x1 : IntKind.i64.wrap (hi - us) = hi - us := IntWalk.i64_in _ (by omega)
              have x2 : IntKind.i64.wrap (q - us) = q - us := IntWalk.i64_in _ (by omega)
              clear hr2
              replace hr := hide hr
              go_wp2_with fail
              refine wp_region_frontG 14 (fun _ _ w' => Below V2.heap.size V2 w') (fun wa wb => Below wa.heap.size wa wb)
                (fun ix v w' => match ix with
                  | 0 => v = .slice (some ⟨ob, 0, none⟩) n n
                  | 1 => v = .int .i64 (k : Int)
                  | 2 => v = .pointer (some ⟨bx, 3, none⟩)
                  | 3 => v = .int .i64 hi
                  | 4 => v = .pointer (some ⟨bx, 2, none⟩)
                  | 5 => v = .int .i64 us
                  | 6 => v = .int .i64 (hi - us)
                  | 7 => ∃ y1 y2 y3, v = .func (.func 44) #[] #[.pointer (some ⟨y3, 0, none⟩), .pointer (some ⟨y2, 0, none⟩), .pointer (some ⟨y1, 0, none⟩)] ∧ w'.cell? ⟨y1, 0, none⟩ = some (.int .i64 1) ∧ w'.cell? ⟨y2, 0, none⟩ = some (.int .i64 (hi - us)) ∧ w'.cell? ⟨y3, 0, none⟩ = some (.int .i64 64)
                  | 8 => v = .int .i64 q
                  | 9 => v = .pointer (some ⟨bx, 2, none⟩)
                  | 10 => v = .int .i64 us
                  | 11 => v = .int .i64 (q - us)
                  | 12 => v = .int .i64 r
                  | 13 => v = .pointer (some ⟨ob, k, none⟩)
                  | _ => True) (by rfl) (by kernel_rfl) ?_ ?_ ?_ ?_
              · exact (Below.refl _ _).drew
              · intro wa wb hR ix v hv
                match ix, hv with
                | 0, h => exact h
                | 1, h => exact h
                | 2, h => exact h
                | 3, h => exact h
                | 4, h => exact h
                | 5, h => exact h
                | 6, h => exact h
                | 7, h => obtain ⟨y1, y2, y3, h1, h2, h3, h4⟩ := h; exact ⟨y1, y2, y3, h1, cell_under h2 hR, cell_under h3 hR, cell_under h4 hR⟩
                | 8, h => exact h
                | 9, h => exact h
                | 10, h => exact h
                | 11, h => exact h
                | 12, h => exact h
                | 13, h => exact h
                | _ + 14, _ => trivial
              · intro ix hix
                obtain rfl | rfl | rfl | rfl | rfl | rfl | rfl | rfl | rfl | rfl | rfl | rfl | rfl | rfl : ix = 0 ∨ ix = 1 ∨ ix = 2 ∨ ix = 3 ∨ ix = 4 ∨ ix = 5 ∨ ix = 6 ∨ ix = 7 ∨ ix = 8 ∨ ix = 9 ∨ ix = 10 ∨ ix = 11 ∨ ix = 12 ∨ ix = 13 := by omega
                · refine FrontStep.of [] _ rfl (by kernel_rfl) ?_
                  intro vs LL wq hLL hC hf
                  simp only [putL, List.foldl_nil]
                  go_wp2_with fail
                  first | exact ⟨hC, Below.refl _ _⟩ | exact ⟨hC, Below.refl _ _, by omega⟩ | exact hC | exact Below.refl _ _
                · refine FrontStep.of [] _ rfl (by kernel_rfl) ?_
                  intro vs LL wq hLL hC hf
                  simp only [putL, List.foldl_nil]
                  go_wp2_with fail
                  first | exact ⟨hC, Below.refl _ _⟩ | exact ⟨hC, Below.refl _ _, by omega⟩ | exact hC | exact Below.refl _ _
                · refine FrontStep.of [] _ rfl (by kernel_rfl) ?_
                  intro vs LL wq hLL hC hf
                  simp only [putL, List.foldl_nil]
                  go_wp2_with fail
                  first | exact ⟨hC, Below.refl _ _⟩ | exact ⟨hC, Below.refl _ _, by omega⟩ | exact hC | exact Below.refl _ _
                · refine FrontStep.of [2] _ rfl (by kernel_rfl) ?_
                  intro vs LL wq hLL hC hf
                  simp only [putL, List.foldl_nil, List.foldl_cons, List.getElem?_cons_zero, List.getElem?_cons_succ]
                  have e2 : vs 2 = _ := hf 2 (by simp)
                  rw [e2]
                  have hcq := cell_under d3 hC
                  go_wp2_with fail
                  first | exact ⟨hC, Below.refl _ _⟩ | exact ⟨hC, Below.refl _ _, by omega⟩ | exact hC | exact Below.refl _ _
                · refine FrontStep.of [] _ rfl (by kernel_rfl) ?_
                  intro vs LL wq hLL hC hf
                  simp only [putL, List.foldl_nil]
                  go_wp2_with fail
                  first | exact ⟨hC, Below.refl _ _⟩ | exact ⟨hC, Below.refl _ _, by omega⟩ | exact hC | exact Below.refl _ _
                · refine FrontStep.of [4] _ rfl (by kernel_rfl) ?_
                  intro vs LL wq hLL hC hf
                  simp only [putL, List.foldl_nil, List.foldl_cons, List.getElem?_cons_zero, List.getElem?_cons_succ]
                  have e4 : vs 4 = _ := hf 4 (by simp)
                  rw [e4]
                  have hcq := cell_under d2 hC
                  go_wp2_with fail
                  first | exact ⟨hC, Below.refl _ _⟩ | exact ⟨hC, Below.refl _ _, by omega⟩ | exact hC | exact Below.refl _ _
                · refine FrontStep.of [3, 5] _ rfl (by kernel_rfl) ?_
                  intro vs LL wq hLL hC hf
                  simp only [putL, List.foldl_nil, List.foldl_cons, List.getElem?_cons_zero, List.getElem?_cons_succ]
                  have e3 : vs 3 = _ := hf 3 (by simp)
                  rw [e3]
                  have e5 : vs 5 = _ := hf 5 (by simp)
                  rw [e5]
                  go_wp2_with fail
                  first | exact ⟨hC, Below.refl _ _⟩ | exact ⟨hC, Below.refl _ _, by omega⟩ | exact hC | exact Below.refl _ _
                · refine FrontStep.of [6] _ rfl (by kernel_rfl) ?_
                  intro vs LL wq hLL hC hf
                  simp only [putL, List.foldl_nil, List.foldl_cons, List.getElem?_cons_zero, List.getElem?_cons_succ]
                  have e6 : vs 6 = _ := hf 6 (by simp)
                  rw [e6]
                  have hcq := side_any 1 (hi - us) 64 wq
                  replace hcq := hide hcq
                  go_wp2_with fail
                  refine (unhide hcq).mono ?_
                  rintro e wz ⟨y1, y2, y3, rfl, g1, g2, g3, hbz⟩
                  clear hcq
                  go_wp2_with fail
                  first | exact ⟨hC.trans (hbz.mono hC.size), y1, y2, y3, ⟨rfl, rfl, rfl⟩, g1, g2, g3⟩ | exact ⟨hC.trans (hbz.mono hC.size), hbz, _, _, _, rfl, g1, g2, g3⟩ | exact ⟨hC.trans (hbz.mono hC.size), hbz, y1, g1, y2, g2, y3, rfl, g3⟩ | exact ⟨hC.trans (hbz.mono hC.size), hbz, g1, g2, g3⟩
                · refine FrontStep.of [] _ rfl (by kernel_rfl) ?_
                  intro vs LL wq hLL hC hf
                  simp only [putL, List.foldl_nil]
                  go_wp2_with fail
                  first | exact ⟨hC, Below.refl _ _⟩ | exact ⟨hC, Below.refl _ _, by omega⟩ | exact hC | exact Below.refl _ _
                · refine FrontStep.of [] _ rfl (by kernel_rfl) ?_
                  intro vs LL wq hLL hC hf
                  simp only [putL, List.foldl_nil]
                  go_wp2_with fail
                  first | exact ⟨hC, Below.refl _ _⟩ | exact ⟨hC, Below.refl _ _, by omega⟩ | exact hC | exact Below.refl _ _
                · refine FrontStep.of [9] _ rfl (by kernel_rfl) ?_
                  intro vs LL wq hLL hC hf
                  simp only [putL, List.foldl_nil, List.foldl_cons, List.getElem?_cons_zero, List.getElem?_cons_succ]
                  have e9 : vs 9 = _ := hf 9 (by simp)
                  rw [e9]
                  have hcq := cell_under d2 hC
                  go_wp2_with fail
                  first | exact ⟨hC, Below.refl _ _⟩ | exact ⟨hC, Below.refl _ _, by omega⟩ | exact hC | exact Below.refl _ _
                · refine FrontStep.of [8, 10] _ rfl (by kernel_rfl) ?_
                  intro vs LL wq hLL hC hf
                  simp only [putL, List.foldl_nil, List.foldl_cons, List.getElem?_cons_zero, List.getElem?_cons_succ]
                  have e8 : vs 8 = _ := hf 8 (by simp)
                  rw [e8]
                  have e10 : vs 10 = _ := hf 10 (by simp)
                  rw [e10]
                  go_wp2_with fail
                  first | exact ⟨hC, Below.refl _ _⟩ | exact ⟨hC, Below.refl _ _, by omega⟩ | exact hC | exact Below.refl _ _
                · refine FrontStep.of [7, 11] _ rfl (by kernel_rfl) ?_
                  intro vs LL wq hLL hC hf
                  simp only [putL, List.foldl_nil, List.foldl_cons, List.getElem?_cons_zero, List.getElem?_cons_succ]
                  obtain ⟨y1, y2, y3, e72, g1, g2, g3⟩ := hf 7 (by simp)
                  rw [e72]
                  have e11 : vs 11 = _ := hf 11 (by simp)
                  rw [e11]
                  have hcq := sidec_any (q - us) 64 (hi - us) 1 y1 y2 y3 wq g1 g2 g3 (by omega) (by omega) (by decide)
                  rw [unhide hr] at hcq
                  replace hcq := hide hcq
                  clear g1 g2 g3
                  go_wp2_with fail
                  refine (unhide hcq).mono ?_
                  rintro e wz ⟨rfl, ew⟩
                  rw [ew]
                  clear hcq ew
                  go_wp2_with fail
                  first | exact ⟨hC, Below.refl _ _⟩ | exact hC | exact Below.refl _ _
                · refine FrontStep.of [0, 1, 2, 3, 4, 5, 6, 7, 8, 9, 10, 11, 12] _ rfl (by kernel_rfl) ?_
                  intro vs LL wq hLL hC hf
                  simp only [putL, List.foldl_nil, List.foldl_cons, List.getElem?_cons_zero, List.getElem?_cons_succ]
                  have e0 : vs 0 = _ := hf 0 (by simp)
                  rw [e0]
                  have e1 : vs 1 = _ := hf 1 (by simp)
                  rw [e1]
                  have e2 : vs 2 = _ := hf 2 (by simp)
                  rw [e2]
                  have e3 : vs 3 = _ := hf 3 (by simp)
                  rw [e3]
                  have e4 : vs 4 = _ := hf 4 (by simp)
                  rw [e4]
                  have e5 : vs 5 = _ := hf 5 (by simp)
                  rw [e5]
                  have e6 : vs 6 = _ := hf 6 (by simp)
                  rw [e6]
                  obtain ⟨y1, y2, y3, e72, g1, g2, g3⟩ := hf 7 (by simp)
                  rw [e72]
                  have e8 : vs 8 = _ := hf 8 (by simp)
                  rw [e8]
                  have e9 : vs 9 = _ := hf 9 (by simp)
                  rw [e9]
                  have e10 : vs 10 = _ := hf 10 (by simp)
                  rw [e10]
                  have e11 : vs 11 = _ := hf 11 (by simp)
                  rw [e11]
                  have e12 : vs 12 = _ := hf 12 (by simp)
                  rw [e12]
                  go_wp2_with fail
                  first | exact ⟨hC, Below.refl _ _⟩ | exact ⟨hC, Below.refl _ _, by omega⟩ | exact hC | exact Below.refl _ _
              · intro vs LL wq hLL hC hf
                have e13 : vs 13 = _ := hf 13 (by omega)
                have e12 : vs 12 = _ := hf 12 (by omega)
                rw [putSome_all]
                simp only [putL, List.range, List.range.loop, List.foldl_nil, List.foldl_cons, List.getElem?_cons_zero, List.getElem?_cons_succ, List.drop_succ_cons, List.drop_zero]
                rw [e13, e12]
                clear e13 e12 hf hLL
                have hob := (hC.block ob hobl).trans (unhide hrow)
                obtain ⟨vq, hcq⟩ : ∃ v, wq.cell? ⟨ob, k, none⟩ = some v := ⟨_, (cell_of_row _ _ _ _ _ _ hob).trans (Array.getElem?_eq_getElem (by omega))⟩
                have hfq : wq.frozen? ⟨ob, k, none⟩ = false := by simp [World.frozen?, hob]
                have hgs := grown_set (w := wq) ob k (.int .i64 r)
                have hob2 := heap_set hob (.int .i64 r) (off := k)
                have hbz : Below w.heap.size w (wq.setCell ⟨ob, k, none⟩ (.int .i64 r)) := ((unhide hbw).trans (hC.mono (unhide hbw).size)).trans ⟨hgs.os, hgs.tape, hgs.output, hgs.size, fun b hb => hgs.block b (Nat.lt_of_lt_of_le hb (Nat.le_trans (unhide hbw).size hC.size)) (fun e => by injection e; omega)⟩
                clear hob hgs hrow hbw hC d1 d2 d3
                replace hob2 := hide hob2; replace hbz := hide hbz
                go_wp2_with fail
                go_roundw
                case rel => exact ⟨k + 1, _, by omega, by go_num, unhide hob2, by rw [Array.size_setIfInBounds]; exact hcs, set_low (by omega) (unhide hlo2) (unhide hrk), set_high (unhide hhi2), unhide hbz⟩
                case measure => simp [intOf]; omega
            · have hr : normU lo us hi q = 0 := by unfold normU; rw [if_neg g1, if_neg g2]
              rw [hr] at hrk
              have hlz := low_zero hlt (unhide hlo2) (unhide hrk) (unhide hhi2)
              have hhz : ∀ j, k + 1 ≤ j → j < n → cs[j]? = some (.int .i64 0) := fun j h1 h2 => (unhide hhi2) j (by omega) h2
              clear hr
              replace hlz := hide hlz; replace hhz := hide hhz
              go_wp2_with fail
              go_roundw
              case rel => exact ⟨k + 1, cs, by omega, by go_num, unhide hrow, hcs, unhide hlz, unhide hhz, unhide hbw⟩
              case measure => simp [intOf]; omega
        · have hke : k = n := by omega
          have hlen : (normL l u).length = n := by rw [normL_len (by rw [unhide hul, unhide hll]), unhide hll]
          have hvl : cs.toList = vints (normL l u) := by
            refine List.ext_getElem? fun j => ?_
            rw [Array.getElem?_toList]
            unfold vints
            rw [List.getElem?_map]
            rcases Nat.lt_or_ge j k with h | h
            · exact (unhide hlo2) j h
            · rw [Array.getElem?_eq_none (by omega), List.getElem?_eq_none (by omega)]
              rfl
          have how := own_lit (base := w.heap.size) (s := 1) (n := n) hrow hobW (by unfold maxLen; omega) (by omega)
          rw [hvl] at how
          replace how := hide how; replace hbw := hide hbw; replace hke := hide hke
          clear hrow
          go_wp2_with fail
          go_ret2
          exact ⟨_, _, rfl, unhide how, unhide hbw⟩
    · rw [normS_len h0 (by omega)]
      have hne : ((un : Int) != (n : Int)) = true := by rw [bne_iff_ne]; omega
      clear hl hu hv
      replace hll := hide hll; replace hul := hide hul; replace h0 := hide h0; replace hc := hide hc
      go_enter Try.func11, Try.ntmps11
      go_wp2_with fail
      refine (unhide hc).mono ?_
      rintro e w1 ⟨rfl, hb⟩
      clear hc
      replace hb := hide hb
      go_wp2_with fail
      go_ret2
      exact ⟨_, 0, rfl, World.ownsRow_nil _ _ _ _, unhide hb⟩
  · rw [normS_err h0]
    obtain ⟨q, hq⟩ : ∃ q, axCheck l = q := ⟨_, rfl⟩
    rw [hq] at h0 hc ⊢
    have hne : (q != 0) = true := by rw [bne_iff_ne]; exact h0
    clear hl hu hq
    replace hll := hide hll; replace hul := hide hul; replace h0 := hide h0; replace hc := hide hc
    go_enter Try.func11, Try.ntmps11
    go_wp2_with fail
    refine (unhide hc).mono ?_
    rintro e w1 ⟨rfl, hb⟩
    clear hc
    replace hb := hide hb
    go_wp2_with fail
    go_ret2
    exact ⟨_, 0, rfl, World.ownsRow_nil _ _ _ _, unhide hb⟩
end Go.Proofs.Ythkppilelpaieaa
