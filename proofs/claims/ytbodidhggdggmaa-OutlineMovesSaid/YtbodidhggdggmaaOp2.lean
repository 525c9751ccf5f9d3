/- The reference's end. -/
import Derived.Test.YtbodidhggdggmaaOlR
import Derived.Test.YtbodidhggdggmaaOlA
import Derived.Test.YtbodidhggdggmaaFrontG
namespace Go.Proofs.Ytbodidhggdggmaa
open Go.RowKit
set_option maxHeartbeats 4000000 in
set_option maxRecDepth 100000 in
theorem rend_any (a : Option Addr) (n c : Nat) (l : List Pt) (b nb : Nat) (w : World) (hl : Lst Enc.pt w (· < w.heap.size) a n l) (hb : b < n) (hnb : nb < n) :
    Calls Try.prog 77 #[.slice a n c, .int .i64 (b : Int), .int .i64 (nb : Int)] w fun e w' => e = .returned (.agg #[.int .i64 (endS (pAt l b) (pAt l nb) (onS l nb)).1, .int .i64 (endS (pAt l b) (pAt l nb) (onS l nb)).2, .bool false]) ∧ Below w.heap.size w w' := by
  obtain ⟨g, og, px, py, pz, rfl, _, hp, _, _, p0, p1, p2⟩ := lst_pt hl hb
  obtain ⟨g', og', qx, qy, qz, e1, _, hq, _, _, q0, q1, q2⟩ := lst_pt hl hnb
  cases e1
  rw [pAt_some hp, pAt_some hq]
  obtain ⟨b6, b7, V4, e6, e7, eV, st⟩ := St.new2 w (Obj.cells #[.int .i64 0, .int .i64 0, .bool false] 56) (Obj.cells #[.int .i64 px, .int .i64 py, .bool pz] 56)
  have hbV := st.below
  have hon := ron_any (some ⟨g, og, none⟩) n c l nb V4 (hl.under hbV) hnb
  have k1 := (Below.refl w.heap.size w).alloc (Nat.le_refl _) (.cells #[.int .i64 0, .int .i64 0, .bool false] 56)
  have pp0 := cell_under p0 k1
  have pp1 := cell_under p1 k1
  have pp2 := cell_under p2 k1
  have y0 := cell_under q0 hbV
  have y1 := cell_under q1 hbV
  have y2 := cell_under q2 hbV
  have e67 : b6 + 1 = b7 := by omega
  have t1 : (b : Int) < (n : Int) := by omega
  have t2 : (nb : Int) < (n : Int) := by omega
  obtain ⟨is, his⟩ : ∃ is, onS l nb = is := ⟨_, rfl⟩
  rw [his] at hon ⊢
  clear k1 hp hq hl his
  replace e7 := hide e7; replace hon := hide hon; replace hbV := hide hbV; replace st := hide st
  cases is with
  | true =>
    show Calls _ _ _ w fun e w' => e = .returned (.agg #[.int .i64 (wrap64 (qx + qx)), .int .i64 (wrap64 (qy + qy)), .bool false]) ∧ Below w.heap.size w w'
    obtain ⟨⟨r0, r1, r2⟩, r3, r4, r5⟩ := three_at ((unhide st).get 0 rfl)
    have st5 := (((unhide st).set 0 rfl 0 (.int .i64 qx)).set 0 rfl 1 (.int .i64 qy)).set 0 rfl 2 (.bool qz)
    obtain ⟨⟨x0, x1, x2⟩, _⟩ := three_at (st5.get 0 rfl)
    have glt : g < w.heap.size := World.block_lt_of_cell? w _ p0
    have gne : b7 ≠ g := by have := unhide e7; omega
    obtain ⟨V5, hV5⟩ : ∃ V5, ((V4.setCell ⟨b7, 0, none⟩ (.int .i64 qx)).setCell ⟨b7, 1, none⟩ (.int .i64 qy)).setCell ⟨b7, 2, none⟩ (.bool qz) = V5 := ⟨_, rfl⟩
    have hg5 : V5.heap[g]? = V4.heap[g]? := by rw [← hV5, Below.heap_setCell _ _ _ _ (Ne.symm gne), Below.heap_setCell _ _ _ _ (Ne.symm gne), Below.heap_setCell _ _ _ _ (Ne.symm gne)]
    have z0 := (World.cell?_of_block (a := ⟨g, og + nb * 3, none⟩) hg5).trans y0
    have z1 := (World.cell?_of_block (a := ⟨g, og + nb * 3 + 1, none⟩) hg5).trans y1
    rw [hV5] at x0 x1 x2 st5
    clear st hg5
    replace st5 := hide st5
    go_enter Try.func77, Try.ntmps77
    go_wp2_with fail
    refine (unhide hon).mono ?_
    rintro e wz ⟨rfl, rfl⟩
    clear hon
    go_wp2_with fail
    clear y0 y1 y2
    have y0 := z0
    have y1 := z1
    have st := st5
    clear z0 z1 st5 p0 p1 p2 q0 q1 q2 pp0 pp1 pp2 r0 r1 r2 r3 r4 r5 hV5 e6 eV
    refine wp_region_frontG 17 (fun _ _ w' => Below V5.heap.size V5 w') (fun wa wb => Below wa.heap.size wa wb)
      (fun ix v w' => match ix with
        | 0 => v = .pointer (some ⟨b7, 0, none⟩)
        | 1 => v = .int .i64 qx
        | 2 => v = .slice (some ⟨g, og, none⟩) n c
        | 3 => v = .int .i64 (nb : Int)
        | 4 => v = .pointer (some ⟨g, og + nb * 3, none⟩)
        | 5 => v = .pointer (some ⟨g, og + nb * 3, none⟩)
        | 6 => v = .int .i64 qx
        | 7 => v = .int .i64 (wrap64 (qx + qx))
        | 8 => v = .pointer (some ⟨b7, 1, none⟩)
        | 9 => v = .int .i64 qy
        | 10 => v = .slice (some ⟨g, og, none⟩) n c
        | 11 => v = .int .i64 (nb : Int)
        | 12 => v = .pointer (some ⟨g, og + nb * 3, none⟩)
        | 13 => v = .pointer (some ⟨g, og + nb * 3 + 1, none⟩)
        | 14 => v = .int .i64 qy
        | 15 => v = .int .i64 (wrap64 (qy + qy))
        | 16 => v = .agg #[.int .i64 (wrap64 (qx + qx)), .int .i64 (wrap64 (qy + qy)), .bool false]
        | _ => True) (by rfl) (by kernel_rfl) ?_ ?_ ?_ ?_
    · exact (Below.refl _ _).drew
    · intro wa wb hR ix v hv
      match ix, hv with
      | 0, h => exact h
      | 1, h => exact h
      | 2, h => exact h
      | 3, h => exact h
      | 4, h => exact h
      | 5, h => exact h
      | 6, h => exact h
      | 7, h => exact h
      | 8, h => exact h
      | 9, h => exact h
      | 10, h => exact h
      | 11, h => exact h
      | 12, h => exact h
      | 13, h => exact h
      | 14, h => exact h
      | 15, h => exact h
      | 16, h => exact h
      | _ + 17, _ => trivial
    · intro ix hix
      obtain rfl | rfl | rfl | rfl | rfl | rfl | rfl | rfl | rfl | rfl | rfl | rfl | rfl | rfl | rfl | rfl | rfl : ix = 0 ∨ ix = 1 ∨ ix = 2 ∨ ix = 3 ∨ ix = 4 ∨ ix = 5 ∨ ix = 6 ∨ ix = 7 ∨ ix = 8 ∨ ix = 9 ∨ ix = 10 ∨ ix = 11 ∨ ix = 12 ∨ ix = 13 ∨ ix = 14 ∨ ix = 15 ∨ ix = 16 := by omega
      · refine FrontStep.of [] _ rfl (by kernel_rfl) ?_
        intro vs LL wq hLL hC hf
        simp only [putL, List.foldl_nil]
        go_wp2_with fail
        first | exact Below.refl _ _ | exact ⟨Below.refl _ _, by omega⟩
      · refine FrontStep.of [0] _ rfl (by kernel_rfl) ?_
        intro vs LL wq hLL hC hf
        simp only [putL, List.foldl_nil, List.foldl_cons, List.getElem?_cons_zero]
        have e0 : vs 0 = _ := hf 0 (by simp)
        rw [e0]
        have hcq := cell_under x0 hC
        go_wp2_with fail
        first | exact Below.refl _ _ | exact ⟨Below.refl _ _, by omega⟩
      · refine FrontStep.of [] _ rfl (by kernel_rfl) ?_
        intro vs LL wq hLL hC hf
        simp only [putL, List.foldl_nil]
        go_wp2_with fail
        first | exact Below.refl _ _ | exact ⟨Below.refl _ _, by omega⟩
      · refine FrontStep.of [] _ rfl (by kernel_rfl) ?_
        intro vs LL wq hLL hC hf
        simp only [putL, List.foldl_nil]
        go_wp2_with fail
        first | exact Below.refl _ _ | exact ⟨Below.refl _ _, by omega⟩
      · refine FrontStep.of [2, 3] _ rfl (by kernel_rfl) ?_
        intro vs LL wq hLL hC hf
        simp only [putL, List.foldl_nil, List.foldl_cons, List.getElem?_cons_zero, List.getElem?_cons_succ]
        have e2 : vs 2 = _ := hf 2 (by simp)
        rw [e2]
        have e3 : vs 3 = _ := hf 3 (by simp)
        rw [e3]
        go_wp2_with fail
        first | exact Below.refl _ _ | exact ⟨Below.refl _ _, by omega⟩
      · refine FrontStep.of [4] _ rfl (by kernel_rfl) ?_
        intro vs LL wq hLL hC hf
        simp only [putL, List.foldl_nil, List.foldl_cons, List.getElem?_cons_zero, List.getElem?_cons_succ]
        have e4 : vs 4 = _ := hf 4 (by simp)
        rw [e4]
        go_wp2_with fail
        first | exact Below.refl _ _ | exact ⟨Below.refl _ _, by omega⟩
      · refine FrontStep.of [5] _ rfl (by kernel_rfl) ?_
        intro vs LL wq hLL hC hf
        simp only [putL, List.foldl_nil, List.foldl_cons, List.getElem?_cons_zero, List.getElem?_cons_succ]
        have e5 : vs 5 = _ := hf 5 (by simp)
        rw [e5]
        have hcq := cell_under y0 hC
        go_wp2_with fail
        first | exact Below.refl _ _ | exact ⟨Below.refl _ _, by omega⟩
      · refine FrontStep.of [1, 6] _ rfl (by kernel_rfl) ?_
        intro vs LL wq hLL hC hf
        simp only [putL, List.foldl_nil, List.foldl_cons, List.getElem?_cons_zero, List.getElem?_cons_succ]
        have e1 : vs 1 = _ := hf 1 (by simp)
        rw [e1]
        have e6 : vs 6 = _ := hf 6 (by simp)
        rw [e6]
        go_wp2_with fail
        first | exact Below.refl _ _ | exact ⟨Below.refl _ _, by omega⟩
      · refine FrontStep.of [] _ rfl (by kernel_rfl) ?_
        intro vs LL wq hLL hC hf
        simp only [putL, List.foldl_nil]
        go_wp2_with fail
        first | exact Below.refl _ _ | exact ⟨Below.refl _ _, by omega⟩
      · refine FrontStep.of [8] _ rfl (by kernel_rfl) ?_
        intro vs LL wq hLL hC hf
        simp only [putL, List.foldl_nil, List.foldl_cons, List.getElem?_cons_zero, List.getElem?_cons_succ]
        have e8 : vs 8 = _ := hf 8 (by simp)
        rw [e8]
        have hcq := cell_under x1 hC
        go_wp2_with fail
        first | exact Below.refl _ _ | exact ⟨Below.refl _ _, by omega⟩
      · refine FrontStep.of [] _ rfl (by kernel_rfl) ?_
        intro vs LL wq hLL hC hf
        simp only [putL, List.foldl_nil]
        go_wp2_with fail
        first | exact Below.refl _ _ | exact ⟨Below.refl _ _, by omega⟩
      · refine FrontStep.of [] _ rfl (by kernel_rfl) ?_
        intro vs LL wq hLL hC hf
        simp only [putL, List.foldl_nil]
        go_wp2_with fail
        first | exact Below.refl _ _ | exact ⟨Below.refl _ _, by omega⟩
      · refine FrontStep.of [10, 11] _ rfl (by kernel_rfl) ?_
        intro vs LL wq hLL hC hf
        simp only [putL, List.foldl_nil, List.foldl_cons, List.getElem?_cons_zero, List.getElem?_cons_succ]
        have e10 : vs 10 = _ := hf 10 (by simp)
        rw [e10]
        have e11 : vs 11 = _ := hf 11 (by simp)
        rw [e11]
        go_wp2_with fail
        first | exact Below.refl _ _ | exact ⟨Below.refl _ _, by omega⟩
      · refine FrontStep.of [12] _ rfl (by kernel_rfl) ?_
        intro vs LL wq hLL hC hf
        simp only [putL, List.foldl_nil, List.foldl_cons, List.getElem?_cons_zero, List.getElem?_cons_succ]
        have e12 : vs 12 = _ := hf 12 (by simp)
        rw [e12]
        go_wp2_with fail
        first | exact Below.refl _ _ | exact ⟨Below.refl _ _, by omega⟩
      · refine FrontStep.of [13] _ rfl (by kernel_rfl) ?_
        intro vs LL wq hLL hC hf
        simp only [putL, List.foldl_nil, List.foldl_cons, List.getElem?_cons_zero, List.getElem?_cons_succ]
        have e13 : vs 13 = _ := hf 13 (by simp)
        rw [e13]
        have hcq := cell_under y1 hC
        go_wp2_with fail
        first | exact Below.refl _ _ | exact ⟨Below.refl _ _, by omega⟩
      · refine FrontStep.of [9, 14] _ rfl (by kernel_rfl) ?_
        intro vs LL wq hLL hC hf
        simp only [putL, List.foldl_nil, List.foldl_cons, List.getElem?_cons_zero, List.getElem?_cons_succ]
        have e9 : vs 9 = _ := hf 9 (by simp)
        rw [e9]
        have e14 : vs 14 = _ := hf 14 (by simp)
        rw [e14]
        go_wp2_with fail
        first | exact Below.refl _ _ | exact ⟨Below.refl _ _, by omega⟩
      · refine FrontStep.of [7, 15] _ rfl (by kernel_rfl) ?_
        intro vs LL wq hLL hC hf
        simp only [putL, List.foldl_nil, List.foldl_cons, List.getElem?_cons_zero, List.getElem?_cons_succ]
        have e7 : vs 7 = _ := hf 7 (by simp)
        rw [e7]
        have e15 : vs 15 = _ := hf 15 (by simp)
        rw [e15]
        go_wp2_with fail
        first | exact Below.refl _ _ | exact ⟨Below.refl _ _, by omega⟩
    · intro vs LL wq hLL hC hf
      have e16 : vs 16 = _ := hf 16 (by omega)
      rw [putSome_all]
      simp only [putL, List.range, List.range.loop, List.foldl_nil, List.foldl_cons, List.getElem?_cons_zero, List.getElem?_cons_succ, List.drop_succ_cons, List.drop_zero]
      rw [e16]
      clear e16 hf hLL
      have st1 := (((unhide st).call hC).set 1 rfl 0 (.int .i64 (wrap64 (qx + qx))))
      have st2 := st1.set 1 rfl 1 (.int .i64 (wrap64 (qy + qy)))
      have st3 := st2.set 1 rfl 2 (.bool false)
      obtain ⟨⟨a0, a1, a2⟩, a3, a4, a5⟩ := three_at (((unhide st).call hC).get 1 rfl)
      obtain ⟨⟨c0, c1, c2⟩, _⟩ := three_at (st3.get 1 rfl)
      have hbz := hide st3.below
      obtain ⟨V8, hV8⟩ : ∃ V8, ((wq.setCell ⟨b6, 0, none⟩ (.int .i64 (wrap64 (qx + qx)))).setCell ⟨b6, 1, none⟩ (.int .i64 (wrap64 (qy + qy)))).setCell ⟨b6, 2, none⟩ (.bool false) = V8 := ⟨_, rfl⟩
      rw [hV8] at c0 c1 c2 hbz
      clear st st1 st2 st3 hC x0 x1 y0 y1
      go_simp
      go_wp2_with fail
      refine bodyPost_ret (v := .agg #[.int .i64 (wrap64 (qx + qx)), .int .i64 (wrap64 (qy + qy)), .bool false]) (by simp [results, Try.results77, go_sem, c0, c1, c2]) rfl ⟨rfl, unhide hbz⟩
  | false =>
    show Calls _ _ _ w fun e w' => e = .returned (.agg #[.int .i64 (wrap64 (px + qx)), .int .i64 (wrap64 (py + qy)), .bool false]) ∧ Below w.heap.size w w'
    obtain ⟨⟨x0, x1, x2⟩, r3, r4, r5⟩ := three_at ((unhide st).get 0 rfl)
    go_enter Try.func77, Try.ntmps77
    go_wp2_with fail
    refine (unhide hon).mono ?_
    rintro e V5 ⟨rfl, rfl⟩
    clear hon
    go_wp2_with fail
    clear p0 p1 p2 q0 q1 q2 pp0 pp1 pp2 y2 r3 r4 r5 e6 eV
    refine wp_region_frontG 17 (fun _ _ w' => Below V5.heap.size V5 w') (fun wa wb => Below wa.heap.size wa wb)
      (fun ix v w' => match ix with
        | 0 => v = .pointer (some ⟨b7, 0, none⟩)
        | 1 => v = .int .i64 px
        | 2 => v = .slice (some ⟨g, og, none⟩) n c
        | 3 => v = .int .i64 (nb : Int)
        | 4 => v = .pointer (some ⟨g, og + nb * 3, none⟩)
        | 5 => v = .pointer (some ⟨g, og + nb * 3, none⟩)
        | 6 => v = .int .i64 qx
        | 7 => v = .int .i64 (wrap64 (px + qx))
        | 8 => v = .pointer (some ⟨b7, 1, none⟩)
        | 9 => v = .int .i64 py
        | 10 => v = .slice (some ⟨g, og, none⟩) n c
        | 11 => v = .int .i64 (nb : Int)
        | 12 => v = .pointer (some ⟨g, og + nb * 3, none⟩)
        | 13 => v = .pointer (some ⟨g, og + nb * 3 + 1, none⟩)
        | 14 => v = .int .i64 qy
        | 15 => v = .int .i64 (wrap64 (py + qy))
        | 16 => v = .agg #[.int .i64 (wrap64 (px + qx)), .int .i64 (wrap64 (py + qy)), .bool false]
        | _ => True) (by rfl) (by kernel_rfl) ?_ ?_ ?_ ?_
    · exact (Below.refl _ _).drew
    · intro wa wb hR ix v hv
      match ix, hv with
      | 0, h => exact h
      | 1, h => exact h
      | 2, h => exact h
      | 3, h => exact h
      | 4, h => exact h
      | 5, h => exact h
      | 6, h => exact h
      | 7, h => exact h
      | 8, h => exact h
      | 9, h => exact h
      | 10, h => exact h
      | 11, h => exact h
      | 12, h => exact h
      | 13, h => exact h
      | 14, h => exact h
      | 15, h => exact h
      | 16, h => exact h
      | _ + 17, _ => trivial
    · intro ix hix
      obtain rfl | rfl | rfl | rfl | rfl | rfl | rfl | rfl | rfl | rfl | rfl | rfl | rfl | rfl | rfl | rfl | rfl : ix = 0 ∨ ix = 1 ∨ ix = 2 ∨ ix = 3 ∨ ix = 4 ∨ ix = 5 ∨ ix = 6 ∨ ix = 7 ∨ ix = 8 ∨ ix = 9 ∨ ix = 10 ∨ ix = 11 ∨ ix = 12 ∨ ix = 13 ∨ ix = 14 ∨ ix = 15 ∨ ix = 16 := by omega
      · refine FrontStep.of [] _ rfl (by kernel_rfl) ?_
        intro vs LL wq hLL hC hf
        simp only [putL, List.foldl_nil]
        go_wp2_with fail
        first | exact Below.refl _ _ | exact ⟨Below.refl _ _, by omega⟩
      · refine FrontStep.of [0] _ rfl (by kernel_rfl) ?_
        intro vs LL wq hLL hC hf
        simp only [putL, List.foldl_nil, List.foldl_cons, List.getElem?_cons_zero]
        have e0 : vs 0 = _ := hf 0 (by simp)
        rw [e0]
        have hcq := cell_under x0 hC
        go_wp2_with fail
        first | exact Below.refl _ _ | exact ⟨Below.refl _ _, by omega⟩
      · refine FrontStep.of [] _ rfl (by kernel_rfl) ?_
        intro vs LL wq hLL hC hf
        simp only [putL, List.foldl_nil]
        go_wp2_with fail
        first | exact Below.refl _ _ | exact ⟨Below.refl _ _, by omega⟩
      · refine FrontStep.of [] _ rfl (by kernel_rfl) ?_
        intro vs LL wq hLL hC hf
        simp only [putL, List.foldl_nil]
        go_wp2_with fail
        first | exact Below.refl _ _ | exact ⟨Below.refl _ _, by omega⟩
      · refine FrontStep.of [2, 3] _ rfl (by kernel_rfl) ?_
        intro vs LL wq hLL hC hf
        simp only [putL, List.foldl_nil, List.foldl_cons, List.getElem?_cons_zero, List.getElem?_cons_succ]
        have e2 : vs 2 = _ := hf 2 (by simp)
        rw [e2]
        have e3 : vs 3 = _ := hf 3 (by simp)
        rw [e3]
        go_wp2_with fail
        first | exact Below.refl _ _ | exact ⟨Below.refl _ _, by omega⟩
      · refine FrontStep.of [4] _ rfl (by kernel_rfl) ?_
        intro vs LL wq hLL hC hf
        simp only [putL, List.foldl_nil, List.foldl_cons, List.getElem?_cons_zero, List.getElem?_cons_succ]
        have e4 : vs 4 = _ := hf 4 (by simp)
        rw [e4]
        go_wp2_with fail
        first | exact Below.refl _ _ | exact ⟨Below.refl _ _, by omega⟩
      · refine FrontStep.of [5] _ rfl (by kernel_rfl) ?_
        intro vs LL wq hLL hC hf
        simp only [putL, List.foldl_nil, List.foldl_cons, List.getElem?_cons_zero, List.getElem?_cons_succ]
        have e5 : vs 5 = _ := hf 5 (by simp)
        rw [e5]
        have hcq := cell_under y0 hC
        go_wp2_with fail
        first | exact Below.refl _ _ | exact ⟨Below.refl _ _, by omega⟩
      · refine FrontStep.of [1, 6] _ rfl (by kernel_rfl) ?_
        intro vs LL wq hLL hC hf
        simp only [putL, List.foldl_nil, List.foldl_cons, List.getElem?_cons_zero, List.getElem?_cons_succ]
        have e1 : vs 1 = _ := hf 1 (by simp)
        rw [e1]
        have e6 : vs 6 = _ := hf 6 (by simp)
        rw [e6]
        go_wp2_with fail
        first | exact Below.refl _ _ | exact ⟨Below.refl _ _, by omega⟩
      · refine FrontStep.of [] _ rfl (by kernel_rfl) ?_
        intro vs LL wq hLL hC hf
        simp only [putL, List.foldl_nil]
        go_wp2_with fail
        first | exact Below.refl _ _ | exact ⟨Below.refl _ _, by omega⟩
      · refine FrontStep.of [8] _ rfl (by kernel_rfl) ?_
        intro vs LL wq hLL hC hf
        simp only [putL, List.foldl_nil, List.foldl_cons, List.getElem?_cons_zero, List.getElem?_cons_succ]
        have e8 : vs 8 = _ := hf 8 (by simp)
        rw [e8]
        have hcq := cell_under x1 hC
        go_wp2_with fail
        first | exact Below.refl _ _ | exact ⟨Below.refl _ _, by omega⟩
      · refine FrontStep.of [] _ rfl (by kernel_rfl) ?_
        intro vs LL wq hLL hC hf
        simp only [putL, List.foldl_nil]
        go_wp2_with fail
        first | exact Below.refl _ _ | exact ⟨Below.refl _ _, by omega⟩
      · refine FrontStep.of [] _ rfl (by kernel_rfl) ?_
        intro vs LL wq hLL hC hf
        simp only [putL, List.foldl_nil]
        go_wp2_with fail
        first | exact Below.refl _ _ | exact ⟨Below.refl _ _, by omega⟩
      · refine FrontStep.of [10, 11] _ rfl (by kernel_rfl) ?_
        intro vs LL wq hLL hC hf
        simp only [putL, List.foldl_nil, List.foldl_cons, List.getElem?_cons_zero, List.getElem?_cons_succ]
        have e10 : vs 10 = _ := hf 10 (by simp)
        rw [e10]
        have e11 : vs 11 = _ := hf 11 (by simp)
        rw [e11]
        go_wp2_with fail
        first | exact Below.refl _ _ | exact ⟨Below.refl _ _, by omega⟩
      · refine FrontStep.of [12] _ rfl (by kernel_rfl) ?_
        intro vs LL wq hLL hC hf
        simp only [putL, List.foldl_nil, List.foldl_cons, List.getElem?_cons_zero, List.getElem?_cons_succ]
        have e12 : vs 12 = _ := hf 12 (by simp)
        rw [e12]
        go_wp2_with fail
        first | exact Below.refl _ _ | exact ⟨Below.refl _ _, by omega⟩
      · refine FrontStep.of [13] _ rfl (by kernel_rfl) ?_
        intro vs LL wq hLL hC hf
        simp only [putL, List.foldl_nil, List.foldl_cons, List.getElem?_cons_zero, List.getElem?_cons_succ]
        have e13 : vs 13 = _ := hf 13 (by simp)
        rw [e13]
        have hcq := cell_under y1 hC
        go_wp2_with fail
        first | exact Below.refl _ _ | exact ⟨Below.refl _ _, by omega⟩
      · refine FrontStep.of [9, 14] _ rfl (by kernel_rfl) ?_
        intro vs LL wq hLL hC hf
        simp only [putL, List.foldl_nil, List.foldl_cons, List.getElem?_cons_zero, List.getElem?_cons_succ]
        have e9 : vs 9 = _ := hf 9 (by simp)
        rw [e9]
        have e14 : vs 14 = _ := hf 14 (by simp)
        rw [e14]
        go_wp2_with fail
        first | exact Below.refl _ _ | exact ⟨Below.refl _ _, by omega⟩
      · refine FrontStep.of [7, 15] _ rfl (by kernel_rfl) ?_
        intro vs LL wq hLL hC hf
        simp only [putL, List.foldl_nil, List.foldl_cons, List.getElem?_cons_zero, List.getElem?_cons_succ]
        have e7 : vs 7 = _ := hf 7 (by simp)
        rw [e7]
        have e15 : vs 15 = _ := hf 15 (by simp)
        rw [e15]
        go_wp2_with fail
        first | exact Below.refl _ _ | exact ⟨Below.refl _ _, by omega⟩
    · intro vs LL wq hLL hC hf
      have e16 : vs 16 = _ := hf 16 (by omega)
      rw [putSome_all]
      simp only [putL, List.range, List.range.loop, List.foldl_nil, List.foldl_cons, List.getElem?_cons_zero, List.getElem?_cons_succ, List.drop_succ_cons, List.drop_zero]
      rw [e16]
      clear e16 hf hLL
      have st1 := (((unhide st).call hC).set 1 rfl 0 (.int .i64 (wrap64 (px + qx))))
      have st2 := st1.set 1 rfl 1 (.int .i64 (wrap64 (py + qy)))
      have st3 := st2.set 1 rfl 2 (.bool false)
      obtain ⟨⟨a0, a1, a2⟩, a3, a4, a5⟩ := three_at (((unhide st).call hC).get 1 rfl)
      obtain ⟨⟨c0, c1, c2⟩, _⟩ := three_at (st3.get 1 rfl)
      have hbz := hide st3.below
      obtain ⟨V8, hV8⟩ : ∃ V8, ((wq.setCell ⟨b6, 0, none⟩ (.int .i64 (wrap64 (px + qx)))).setCell ⟨b6, 1, none⟩ (.int .i64 (wrap64 (py + qy)))).setCell ⟨b6, 2, none⟩ (.bool false) = V8 := ⟨_, rfl⟩
      rw [hV8] at c0 c1 c2 hbz
      clear st st1 st2 st3 hC x0 x1 y0 y1
      go_simp
      go_wp2_with fail
      refine bodyPost_ret (v := .agg #[.int .i64 (wrap64 (px + qx)), .int .i64 (wrap64 (py + qy)), .bool false]) (by simp [results, Try.results77, go_sem, c0, c1, c2]) rfl ⟨rfl, unhide hbz⟩
end Go.Proofs.Ytbodidhggdggmaa
