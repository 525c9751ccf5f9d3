/- The program's Box. -/
import Derived.Test.YtbodidhggdggmaaOl6
namespace Go.Proofs.Ytbodidhggdggmaa
open Go.RowKit
/-- One round whose assignment lays blocks. -/
theorem yield_on2 {F : Fence} {m : Nat} {P : Program} {W Wa : World} {args : Array Value} {fn : FuncId} {tmps : Array Value} {ps : Array Tmp} {assign body : Code} {D l : Nat}
    (hF : F.fn fn) (hL : LoopAt fn tmps ps assign body D l W) (hLa : LoopAt fn tmps ps assign body D l Wa) (hne : D ≠ l) (hs : args.size = ps.size) (a₁ : Act) (J : World → Prop)
    (hassign : ∀ K : Act → World → Prop, K a₁ Wa → assign.wpIn (F.inRound l) m P (Exit.then K (fun _ _ _ => False)) { tmps := (ps.zip args).foldl (fun t (p, v) => t.setIfInBounds p v) tmps, defers := [] } W)
    (hbody : ∀ Wb o, Wb = Wa.putObj l o → o.isCells = false → body.wpIn (F.inRound l) m P (fun e _ W3 => e = .normal ∧ KeepsOthers Wb W3 ∧ ∀ o3, J (W3.putObj l (.loop o3))) a₁ Wb) :
    YieldAt F m P l args W fun e W' => e = .returned (.bool true) ∧ J W' ∧ LoopAt fn tmps ps assign body D l W' := by
  obtain ⟨h1, h2⟩ := hL
  obtain ⟨k1, k2⟩ := hLa
  refine ⟨fn, _, assign, body, run_yield h1 hs, roundIn_of_wpIn hF (hassign _ ⟨_, run_beginRound k1 rfl, ?_⟩)⟩
  have hlt : l < Wa.heap.size := (Array.getElem?_eq_some_iff.1 k1).1
  refine wpIn_mono (hbody _ _ rfl rfl) ?_
  rintro e a3 W3 ⟨rfl, hk, hJ⟩
  have h3 := hk.same l _ (World.putObj_heap_same hlt) rfl
  have h4 := hk.same D _ ((World.putObj_heap_other hne).trans k2) rfl
  refine ⟨_, _, run_endRound none h3, rfl, hJ _, World.putObj_heap_same (Array.getElem?_eq_some_iff.1 h3).1, (World.putObj_heap_other hne).trans h4⟩
/-- the rectangle of the points that were visited -/
def BoxJ (w : World) (B b2 b3 : Nat) (pre : List Pt) (A : World) : Prop := Below B w A ∧ (B ≤ b2 ∧ B ≤ b3 ∧ b2 ≠ b3) ∧ A.heap[b2]? = some (.cells (rcell (0, 0, 0, 0)) 34 (0, 0)) ∧ A.heap[b3]? = some (.cells (rcell (boxS pre)) 34 (0, 0))
theorem BoxJ.below {w A A' : World} {B b2 b3 : Nat} {pre : List Pt} (h : BoxJ w B b2 b3 pre A) (hB : w.heap.size = B) (hb : Below A.heap.size A A') : BoxJ w B b2 b3 pre A' :=
  ⟨h.1.trans (hb.mono (by have := h.1.size; omega)), h.2.1, (hb.block b2 (Array.getElem?_eq_some_iff.1 h.2.2.1).1).trans h.2.2.1, (hb.block b3 (Array.getElem?_eq_some_iff.1 h.2.2.2).1).trans h.2.2.2⟩
theorem BoxJ.put {w A : World} {B b2 b3 l : Nat} {o o' : Obj} {pre : List Pt} (h : BoxJ w B b2 b3 pre A) (hl : A.heap[l]? = some o) (ho : o.isCells = false) (hB : B ≤ l) : BoxJ w B b2 b3 pre (A.putObj l o') :=
  ⟨below_puts h.1 hB, h.2.1, put_row hl ho h.2.2.1, put_row hl ho h.2.2.2⟩
/-- within a round: the rectangle r, the point's block -/
structure BS (w Wb : World) (B b2 b3 bq : Nat) (px py : Int) (pz : Bool) (r : Rct) (A : World) : Prop where
  bel : Below B w A
  keep : KeepsOthers Wb A
  z2 : A.heap[b2]? = some (.cells (rcell (0, 0, 0, 0)) 34 (0, 0))
  z3 : A.heap[b3]? = some (.cells (rcell r) 34 (0, 0))
  pq : A.heap[bq]? = some (.cells #[.int .i64 px, .int .i64 py, .bool pz] 56 (0, 0))
  ord : (B ≤ b2 ∧ B ≤ b3 ∧ b2 ≠ b3) ∧ bq ≠ b3
section
variable {w Wb A A' : World} {B b2 b3 bq : Nat} {px py : Int} {pz : Bool} {r r' : Rct}
theorem BS.below (h : BS w Wb B b2 b3 bq px py pz r A) (hB : w.heap.size = B) (hb : Below A.heap.size A A') : BS w Wb B b2 b3 bq px py pz r A' :=
  ⟨h.bel.trans (hb.mono (by have := h.bel.size; omega)), h.keep.trans (keeps_below hb), (hb.block b2 (Array.getElem?_eq_some_iff.1 h.z2).1).trans h.z2, (hb.block b3 (Array.getElem?_eq_some_iff.1 h.z3).1).trans h.z3, (hb.block bq (Array.getElem?_eq_some_iff.1 h.pq).1).trans h.pq, h.ord⟩
theorem BS.set (h : BS w Wb B b2 b3 bq px py pz r A) {ix : Nat} {v : Value} (hr : rcell r' = (rcell r).setIfInBounds ix v) : BS w Wb B b2 b3 bq px py pz r' (A.setCell ⟨b3, ix, none⟩ v) := by
  have ho : ∀ c, c ≠ b3 → (A.setCell ⟨b3, ix, none⟩ v).heap[c]? = A.heap[c]? := fun c hc => by simp only [World.setCell, Array.getElem?_modify]; rw [if_neg (fun e => hc e.symm)]
  exact ⟨h.bel.setCell (p := ⟨b3, ix, none⟩) h.ord.1.2.1 v, h.keep.trans (KeepsOthers.setCell _ _ _), (ho b2 h.ord.1.2.2).trans h.z2, by rw [hr]; exact heap_set h.z3 v, (ho bq h.ord.2).trans h.pq, h.ord⟩
theorem BS.pts (h : BS w Wb B b2 b3 bq px py pz r A) : A.cell? ⟨bq, 0, none⟩ = some (.int .i64 px) ∧ A.cell? ⟨bq, 1, none⟩ = some (.int .i64 py) := ⟨(cell_of_row _ _ 0 _ _ _ h.pq).trans rfl, (cell_of_row _ _ 1 _ _ _ h.pq).trans rfl⟩
theorem BS.late (h : BS w Wb B b2 b3 bq px py pz r A) (hB : w.heap.size = B) (hne : bq ≠ b3) (ix : Nat) (v : Value) {s : Nat} {bs : List Nat} {LL : Nat → Bool} {vs : Nat → Value} (hC : CS A s bs (fun wz => wz.setCell ⟨b3, ix, none⟩ v) LL vs A') : A'.cell? ⟨bq, 0, none⟩ = some (.int .i64 px) ∧ A'.cell? ⟨bq, 1, none⟩ = some (.int .i64 py) := by
  cases hs : LL s with
  | false => exact (h.below hB (hC.calm hs)).pts
  | true =>
    obtain ⟨wz, hb, rfl⟩ := hC.fin hs
    have hp := (h.below hB hb).pq
    have hq : (wz.setCell ⟨b3, ix, none⟩ v).heap[bq]? = some (.cells #[.int .i64 px, .int .i64 py, .bool pz] 56 (0, 0)) := by
      rw [← hp]
      simp only [World.setCell, Array.getElem?_modify]
      rw [if_neg (fun e => hne e.symm)]
    exact ⟨(cell_of_row _ _ 0 _ _ _ hq).trans rfl, (cell_of_row _ _ 1 _ _ _ hq).trans rfl⟩
end
section
attribute [local go_sem] Oper.semAt_some
set_option maxRecDepth 100000 in
set_option maxHeartbeats 4000000 in
theorem box_any (a : Option Addr) (n c : Nat) (o : Ot) (w : World) (hl : Lst Enc.ct w (· < w.heap.size) a n o) (hs : Sml o) :
    Calls Try.prog 17 #[.slice a n c] w fun e w' => e = .returned (.agg (rcell (boxS o.flatten))) ∧ Below w.heap.size w w' := by
  refine (callsIn_wide (n := 8)).1 ?_
  obtain ⟨b2, b3, w1, e2, e3, ew, st⟩ := St.new2 w (Obj.cells (rcell (0, 0, 0, 0)) 34) (Obj.cells (rcell (0, 0, 0, 0)) 34)
  have hb1 := st.below
  have h3 := st.get 0 rfl
  have h2 := st.get 1 rfl
  clear st
  have hpts := points_any a n c w1
  obtain ⟨B, hB⟩ : ∃ B, w.heap.size = B := ⟨_, rfl⟩
  obtain ⟨w2, hw2⟩ : ∃ w2, w1.alloc (Obj.cells #[.slice a n c] 22) = w2 := ⟨_, rfl⟩
  obtain ⟨bx, hbx⟩ : ∃ bx, w1.heap.size = bx := ⟨_, rfl⟩
  have hxb : w2.cell? ⟨bx, 0, none⟩ = some (.slice a n c) := by
    rw [← hw2, ← hbx]
    exact (cell_of_row _ _ 0 _ _ _ (heap_alloc_new w1 _)).trans rfl
  have hb12 : Below w1.heap.size w1 w2 := by rw [← hw2]; exact (Below.refl _ _).alloc (Nat.le_refl _) _
  have hj1 : BoxJ w B b2 b3 [] w1 := ⟨hB ▸ hb1, ⟨by omega, by omega, by omega⟩, h2, h3⟩
  have hj0 := hj1.below hB hb12
  rw [hw2, hbx] at hpts
  rw [hB] at hl ⊢
  have hBw : B ≤ w2.heap.size := by have := hj0.1.size; omega
  have e23 : b2 + 1 = b3 := by omega
  replace ew : (w.alloc (Obj.cells #[.int .i64 0, .int .i64 0, .int .i64 0, .int .i64 0] 34)).alloc (Obj.cells #[.int .i64 0, .int .i64 0, .int .i64 0, .int .i64 0] 34) = w1 := ew
  clear hb1 hb12 h2 h3 hw2 hbx hj1
  replace hB := hide hB; replace e2 := hide e2; replace e23 := hide e23; replace e3 := hide e3; replace ew := hide ew; replace hpts := hide hpts; replace hj0 := hide hj0; replace hxb := hide hxb; replace hl := hide hl; replace hs := hide hs
  refine callsIn_of_wp_marks Try.func17 rfl trivial ?_ rfl
  simp only [Try.ntmps17, List.size_toArray, List.length_cons, List.length_nil, Nat.reduceAdd, Nat.reduceSub, Array.replicate_succ, Array.replicate_zero, List.push_toArray, List.append_toArray, List.nil_append, List.cons_append]
  gi_wp2
  simp only [unhide e2, unhide e23]
  rw [unhide ew]
  refine ⟨trivial, (callsIn_wide.2 (unhide hpts)).mono ?_⟩
  rintro e w' ⟨rfl, rfl⟩
  clear hpts ew e3
  gi_wp2
  refine range_on rfl (by omega) (gf := 60) (lb := #[.pointer (some ⟨bx, 0, none⟩)]) rfl trivial (enters_of Try.func60 (by kernel_rfl) rfl)
    (fun W => BoxJ w B b2 b3 o.flatten W) ?call ?done
  case call =>
    intro fn W1 _ hL1 hbw1 hs1
    have hj1 := (unhide hj0).below (unhide hB) hbw1
    have hx1 := cell_under (unhide hxb) hbw1
    obtain ⟨D, hD⟩ : ∃ D, w'.heap.size = D := ⟨_, rfl⟩
    rw [hD] at hL1 hs1 ⊢
    have it := pts_in 7 (D + 1) D w B bx a n c o W1 fn _ _ _ _ (BoxJ w B b2 b3) hx1 (unhide hl) (unhide hs) (fun _ _ h => h.1) (fun pre A A' h hb => h.below (unhide hB) hb) hj1 hL1 ?round
    case round =>
      rintro pre ⟨px, py, pz⟩ Wr hj hla hpl i1 i2
      simp only
      obtain ⟨bq, hbq⟩ : ∃ bx, bx = Wr.heap.size := ⟨_, rfl⟩
      obtain ⟨V1, hV1⟩ : ∃ V1, V1 = Wr.alloc (Obj.cells #[.int .i64 px, .int .i64 py, .bool pz] 56) := ⟨_, rfl⟩
      obtain ⟨hbo, hcx, d0, d1, d2⟩ := box_pt hbq hV1
      have hla1 := hla.kept (keeps_below hbo)
      have hjv := hj.below (unhide hB) hbo
      replace hV1 := hV1.symm
      replace hbq := hbq.symm
      have hla' := hla
      have nq3 : bq ≠ b3 := by have := (Array.getElem?_eq_some_iff.1 hj.2.2.2).1; omega
      replace hla := hide hla
      replace hj := hide hj; replace hjv := hide hjv; replace hbo := hide hbo; replace hcx := hide hcx; replace hla1 := hide hla1
      clear hla'
      refine (yield_on2 (Wa := V1) (a₁ := ?a1) trivial (unhide hla) (unhide hla1) (by omega) rfl (J := fun W' => BoxJ w B b2 b3 (pre ++ [(px, py, pz)]) W') (hassign := ?asg) (hbody := ?bd)).mono ?fin
      case fin =>
        rintro e W' ⟨rfl, q1, q3⟩
        exact ⟨rfl, q1, q3⟩
      case asg =>
        intro K hK
        gi_wp2
        exact hK
      case bd =>
        intro Wb o hWb ho
        have hjb : BoxJ w B b2 b3 pre Wb := by rw [hWb]; exact (unhide hjv).put (unhide hla1).1 rfl (by have := unhide hB; omega)
        have hWo : Wb.heap[D + 1]? = some o := by rw [hWb]; exact World.putObj_heap_same (Array.getElem?_eq_some_iff.1 (unhide hla1).1).1
        have hcb : Wb.heap[bq]? = some (.cells #[.int .i64 px, .int .i64 py, .bool pz] 56 (0, 0)) := by rw [hWb]; exact put_row (unhide hla1).1 rfl (unhide hcx)
        have c0 : Wb.cell? ⟨bq, 0, none⟩ = some (.int .i64 px) := (cell_of_row _ _ 0 _ _ _ hcb).trans rfl
        have c1 : Wb.cell? ⟨bq, 1, none⟩ = some (.int .i64 py) := (cell_of_row _ _ 1 _ _ _ hcb).trans rfl
        have nq3' := nq3.symm
        obtain ⟨⟨r0, r1, r2, r3⟩, q0, q1, q2, q3⟩ := four_at hjb.2.2.2
        have hbn := boxS_next pre (px, py, pz)
        clear hWb hbo hcx d0 d1 d2 hV1 hbq
        replace hjb := hide hjb; replace hWo := hide hWo; replace hcb := hide hcb; replace hbn := hide hbn
        have hend : ∀ W8, BS w Wb B b2 b3 bq px py pz (boxS (pre ++ [(px, py, pz)])) W8 → KeepsOthers Wb W8 ∧ ∀ o3, BoxJ w B b2 b3 (pre ++ [(px, py, pz)]) (W8.putObj (D + 1) (.loop o3)) := fun W8 h => by
          have h5 := h.keep.same (D + 1) o (unhide hWo) ho
          exact ⟨h.keep, fun o3 => (show BoxJ w B b2 b3 (pre ++ [(px, py, pz)]) W8 from ⟨h.bel, h.ord.1, h.z2, h.z3⟩).put h5 ho (by have := unhide hB; omega)⟩
        rw [unhide hbn] at hend
        cases pre with
        | nil =>
          have hS0 : BS w Wb B b2 b3 bq px py pz (0, 0, 0, 0) Wb := ⟨(unhide hjb).1, KeepsOthers.refl _, (unhide hjb).2.2.1, (unhide hjb).2.2.2, unhide hcb, (unhide hjb).2.1, nq3⟩
          have hS := (((hS0.set (ix := 0) (v := .int .i64 px) (r' := (px, 0, 0, 0)) rfl).set (ix := 1) (v := .int .i64 py) (r' := (px, py, 0, 0)) rfl).set (ix := 2) (v := .int .i64 px) (r' := (px, py, px, 0)) rfl).set (ix := 3) (v := .int .i64 py) (r' := (px, py, px, py)) rfl
          obtain ⟨V2, hV2⟩ : ∃ V2, (((Wb.setCell ⟨b3, 0, none⟩ (.int .i64 px)).setCell ⟨b3, 1, none⟩ (.int .i64 py)).setCell ⟨b3, 2, none⟩ (.int .i64 px)).setCell ⟨b3, 3, none⟩ (.int .i64 py) = V2 := ⟨_, rfl⟩
          rw [hV2] at hS
          replace hend : ∀ W8, BS w Wb B b2 b3 bq px py pz (px, py, px, py) W8 → _ := fun W8 h => hend W8 (by rw [show boxUp (firstR [] (px, py, pz)) (px, py, pz) = (px, py, px, py) by simp [boxUp, firstR]]; exact h)
          simp only [List.length_nil, Int.natCast_zero, boxS] at r0 r1 r2 r3 ⊢
          replace hend := hide hend; replace hS := hide hS
          clear hjb hcb hbn hWo hS0
          gi_wp2
          refine wpIn_region_frontR 12 (fun LL vs w' => CS V2 11 [0, 1, 2, 3, 4, 5, 6, 10] (fun wz => wz.setCell ⟨b3, 0, none⟩ (.int .i64 px)) LL vs w') (fun _ _ => True)
            (fun ix v w' => match ix with
              | 0 => v = .pointer (some ⟨b3, 0, none⟩)
              | 1 => v = .int .i64 px
              | 2 => v = .pointer (some ⟨bq, 0, none⟩)
              | 3 => v = .int .i64 px
              | 4 => v = .int .i64 px
              | 5 => v = .pointer (some ⟨b3, 2, none⟩)
              | 6 => v = .int .i64 px
              | 7 => v = .pointer (some ⟨bq, 0, none⟩)
              | 8 => v = .int .i64 px
              | 9 => v = .int .i64 px
              | 10 => v = .pointer (some ⟨b3, 0, none⟩)
              | 11 => v = .bool true
              | _ => True) (by omega) (by rfl) (by kernel_rfl) (by rfl) ?_ ?_ ?_ ?_
          · exact CS.start _ _ _ _
          · intro wa wb hRN ix v hv
            match ix, hv with
            | 0, h => exact h
            | 1, h => exact h
            | 2, h => exact h
            | 3, h => exact h
            | 4, h => exact h
            | 5, h => exact h
            | 6, h => exact h
            | 7, h => exact h
            | 8, h => exact h
            | 9, h => exact h
            | 10, h => exact h
            | 11, h => exact h
            | _ + 12, _ => trivial
          · intro ix hix
            obtain rfl | rfl | rfl | rfl | rfl | rfl | rfl | rfl | rfl | rfl | rfl | rfl : ix = 0 ∨ ix = 1 ∨ ix = 2 ∨ ix = 3 ∨ ix = 4 ∨ ix = 5 ∨ ix = 6 ∨ ix = 7 ∨ ix = 8 ∨ ix = 9 ∨ ix = 10 ∨ ix = 11 := by omega
            · refine FrontStep.of [] _ rfl (by kernel_rfl) ?_
              intro vs LL wq hLL hC hf
              simp only [putL, List.foldl_nil]
              go_wp2_with fail
              first | exact hC.keep 0 _ (by decide) | exact ⟨hC.keep 0 _ (by decide), trivial⟩ | exact ⟨hC.keep 0 _ (by decide), trivial, by omega⟩
            · refine FrontStep.of [0] _ rfl (by kernel_rfl) ?_
              intro vs LL wq hLL hC hf
              simp only [putL, List.foldl_nil, List.foldl_cons, List.getElem?_cons_zero]
              have y0 : vs 0 = _ := hf 0 (by simp)
              try rw [y0]
              have hE := (unhide hS).below (unhide hB) (hC.early (j := 1) hLL (by decide)).2
              obtain ⟨⟨r0, r1, r2, r3⟩, _⟩ := four_at hE.z3
              obtain ⟨c0, c1⟩ := hE.pts
              clear hE
              simp only at r0 r1 r2 r3
              go_wp2_with fail
              first | exact hC.keep 1 _ (by decide) | exact ⟨hC.keep 1 _ (by decide), trivial⟩ | exact ⟨hC.keep 1 _ (by decide), trivial, by omega⟩
            · refine FrontStep.of [] _ rfl (by kernel_rfl) ?_
              intro vs LL wq hLL hC hf
              simp only [putL, List.foldl_nil]
              go_wp2_with fail
              first | exact hC.keep 2 _ (by decide) | exact ⟨hC.keep 2 _ (by decide), trivial⟩ | exact ⟨hC.keep 2 _ (by decide), trivial, by omega⟩
            · refine FrontStep.of [2] _ rfl (by kernel_rfl) ?_
              intro vs LL wq hLL hC hf
              simp only [putL, List.foldl_nil, List.foldl_cons, List.getElem?_cons_zero, List.getElem?_cons_succ]
              have y2 : vs 2 = _ := hf 2 (by simp)
              try rw [y2]
              have hE := (unhide hS).below (unhide hB) (hC.early (j := 3) hLL (by decide)).2
              obtain ⟨⟨r0, r1, r2, r3⟩, _⟩ := four_at hE.z3
              obtain ⟨c0, c1⟩ := hE.pts
              clear hE
              simp only at r0 r1 r2 r3
              go_wp2_with fail
              first | exact hC.keep 3 _ (by decide) | exact ⟨hC.keep 3 _ (by decide), trivial⟩ | exact ⟨hC.keep 3 _ (by decide), trivial, by omega⟩
            · refine FrontStep.of [1, 3] _ rfl (by kernel_rfl) ?_
              intro vs LL wq hLL hC hf
              simp only [putL, List.foldl_nil, List.foldl_cons, List.getElem?_cons_zero, List.getElem?_cons_succ]
              have y1 : vs 1 = _ := hf 1 (by simp)
              try rw [y1]
              have y3 : vs 3 = _ := hf 3 (by simp)
              try rw [y3]
              go_wp2_with fail
              first | exact hC.keep 4 _ (by decide) | exact ⟨hC.keep 4 _ (by decide), trivial⟩ | exact ⟨hC.keep 4 _ (by decide), trivial, by omega⟩
            · refine FrontStep.of [] _ rfl (by kernel_rfl) ?_
              intro vs LL wq hLL hC hf
              simp only [putL, List.foldl_nil]
              go_wp2_with fail
              first | exact hC.keep 5 _ (by decide) | exact ⟨hC.keep 5 _ (by decide), trivial⟩ | exact ⟨hC.keep 5 _ (by decide), trivial, by omega⟩
            · refine FrontStep.of [5] _ rfl (by kernel_rfl) ?_
              intro vs LL wq hLL hC hf
              simp only [putL, List.foldl_nil, List.foldl_cons, List.getElem?_cons_zero, List.getElem?_cons_succ]
              have y5 : vs 5 = _ := hf 5 (by simp)
              try rw [y5]
              have hE := (unhide hS).below (unhide hB) (hC.early (j := 6) hLL (by decide)).2
              obtain ⟨⟨r0, r1, r2, r3⟩, _⟩ := four_at hE.z3
              obtain ⟨c0, c1⟩ := hE.pts
              clear hE
              simp only at r0 r1 r2 r3
              go_wp2_with fail
              first | exact hC.keep 6 _ (by decide) | exact ⟨hC.keep 6 _ (by decide), trivial⟩ | exact ⟨hC.keep 6 _ (by decide), trivial, by omega⟩
            · refine FrontStep.of [] _ rfl (by kernel_rfl) ?_
              intro vs LL wq hLL hC hf
              simp only [putL, List.foldl_nil]
              go_wp2_with fail
              first | exact hC.keep 7 _ (by decide) | exact ⟨hC.keep 7 _ (by decide), trivial⟩ | exact ⟨hC.keep 7 _ (by decide), trivial, by omega⟩
            · refine FrontStep.of [7] _ rfl (by kernel_rfl) ?_
              intro vs LL wq hLL hC hf
              simp only [putL, List.foldl_nil, List.foldl_cons, List.getElem?_cons_zero, List.getElem?_cons_succ]
              have y7 : vs 7 = _ := hf 7 (by simp)
              try rw [y7]
              obtain ⟨c0, c1⟩ := (unhide hS).late (unhide hB) nq3 0 (.int .i64 px) hC
              go_wp2_with fail
              first | exact hC.keep 8 _ (by decide) | exact ⟨hC.keep 8 _ (by decide), trivial⟩ | exact ⟨hC.keep 8 _ (by decide), trivial, by omega⟩
            · refine FrontStep.of [6, 8] _ rfl (by kernel_rfl) ?_
              intro vs LL wq hLL hC hf
              simp only [putL, List.foldl_nil, List.foldl_cons, List.getElem?_cons_zero, List.getElem?_cons_succ]
              have y6 : vs 6 = _ := hf 6 (by simp)
              try rw [y6]
              have y8 : vs 8 = _ := hf 8 (by simp)
              try rw [y8]
              go_wp2_with fail
              first | exact hC.keep 9 _ (by decide) | exact ⟨hC.keep 9 _ (by decide), trivial⟩ | exact ⟨hC.keep 9 _ (by decide), trivial, by omega⟩
            · refine FrontStep.of [0, 1, 2, 3, 4, 5, 6] _ rfl (by kernel_rfl) ?_
              intro vs LL wq hLL hC hf
              simp only [putL, List.foldl_nil, List.foldl_cons, List.getElem?_cons_zero, List.getElem?_cons_succ]
              have y0 : vs 0 = _ := hf 0 (by simp)
              try rw [y0]
              have y1 : vs 1 = _ := hf 1 (by simp)
              try rw [y1]
              have y2 : vs 2 = _ := hf 2 (by simp)
              try rw [y2]
              have y3 : vs 3 = _ := hf 3 (by simp)
              try rw [y3]
              have y4 : vs 4 = _ := hf 4 (by simp)
              try rw [y4]
              have y5 : vs 5 = _ := hf 5 (by simp)
              try rw [y5]
              have y6 : vs 6 = _ := hf 6 (by simp)
              try rw [y6]
              go_wp2_with fail
              first | exact hC.keep 10 _ (by decide) | exact ⟨hC.keep 10 _ (by decide), trivial⟩ | exact ⟨hC.keep 10 _ (by decide), trivial, by omega⟩
            · refine FrontStep.of [0, 1, 2, 3, 4, 5, 6, 10] _ rfl (by kernel_rfl) ?_
              intro vs LL wq hLL hC hf
              simp only [putL, List.foldl_nil, List.foldl_cons, List.getElem?_cons_zero, List.getElem?_cons_succ]
              have y0 : vs 0 = _ := hf 0 (by simp)
              try rw [y0]
              have y1 : vs 1 = _ := hf 1 (by simp)
              try rw [y1]
              have y2 : vs 2 = _ := hf 2 (by simp)
              try rw [y2]
              have y3 : vs 3 = _ := hf 3 (by simp)
              try rw [y3]
              have y4 : vs 4 = _ := hf 4 (by simp)
              try rw [y4]
              have y5 : vs 5 = _ := hf 5 (by simp)
              try rw [y5]
              have y6 : vs 6 = _ := hf 6 (by simp)
              try rw [y6]
              have y10 : vs 10 = _ := hf 10 (by simp)
              try rw [y10]
              have hcalm := hC.calm hLL
              have hE := (unhide hS).below (unhide hB) hcalm
              obtain ⟨⟨r0, r1, r2, r3⟩, q0, q1, q2, q3⟩ := four_at hE.z3
              clear hE hcalm
              simp only at r0 r1 r2 r3
              have hnx := hC.store (.bool true) hLL (fun j hj => by simp at hj; rcases hj with rfl | rfl | rfl | rfl | rfl | rfl | rfl | rfl <;> first | (rw [y0]; exact fun h => by cases h) | (rw [y1]; exact fun h => by cases h) | (rw [y2]; exact fun h => by cases h) | (rw [y3]; exact fun h => by cases h) | (rw [y4]; exact fun h => by cases h) | (rw [y5]; exact fun h => by cases h) | (rw [y6]; exact fun h => by cases h) | (rw [y10]; exact fun h => by cases h))
              replace hnx := hide hnx
              clear y0 y1 y2 y3 y4 y5 y6 y10
              go_wp2_with fail
              first | exact ⟨.bool true, unhide hnx⟩ | exact ⟨.bool true, rfl, unhide hnx, trivial, rfl⟩ | exact unhide hnx | exact ⟨.bool true, unhide hnx, trivial⟩
          · intro vs LL wq hLL hC hf
            obtain ⟨wz, hC2, hwq⟩ := hC.fin (hLL 11 (by omega))
            have e9 : vs 9 = _ := hf 9 (by omega)
            rw [putSome_all]
            simp only [putL, List.range, List.range.loop, List.foldl_nil, List.foldl_cons, List.getElem?_cons_zero, List.getElem?_cons_succ, List.drop_succ_cons, List.drop_zero]
            rw [e9]
            clear hf hLL hC e9
            subst hwq
            have hS1 := ((unhide hS).below (unhide hB) hC2).set (ix := 0) (v := .int .i64 px) (r' := (px, py, px, py)) rfl
            have hS2 := hS1.set (ix := 2) (v := .int .i64 px) (r' := (px, py, px, py)) rfl
            obtain ⟨⟨r0, r1, r2, r3⟩, q0, q1, q2, q3⟩ := four_at hS1.z3
            simp only at r0 r1 r2 r3
            obtain ⟨wq, hwq⟩ : ∃ wq, wz.setCell ⟨b3, 0, none⟩ (.int .i64 px) = wq := ⟨_, rfl⟩
            rw [hwq] at hS1 hS2 r0 r1 r2 r3 q0 q1 q2 q3 ⊢
            clear hwq hC2 wz
            replace hS1 := hide hS1; replace hS2 := hide hS2
            go_simp
            go_wp2_with fail
            obtain ⟨W7, hwq⟩ : ∃ wq2, wq.setCell ⟨b3, 2, none⟩ (.int .i64 px) = wq2 := ⟨_, rfl⟩
            rw [hwq] at hS2 ⊢
            clear hwq hS1 r0 r1 r2 r3 q0 q1 q2 q3 wq
            obtain ⟨⟨r0, r1, r2, r3⟩, q0, q1, q2, q3⟩ := four_at (unhide hS2).z3
            obtain ⟨c0, c1⟩ := (unhide hS2).pts
            simp only at r0 r1 r2 r3
            gi_wp2
            refine wpIn_region_frontR 12 (fun LL vs w' => CS W7 11 [0, 1, 2, 3, 4, 5, 6, 10] (fun wz => wz.setCell ⟨b3, 1, none⟩ (.int .i64 py)) LL vs w') (fun _ _ => True)
              (fun ix v w' => match ix with
                | 0 => v = .pointer (some ⟨b3, 1, none⟩)
                | 1 => v = .int .i64 py
                | 2 => v = .pointer (some ⟨bq, 1, none⟩)
                | 3 => v = .int .i64 py
                | 4 => v = .int .i64 py
                | 5 => v = .pointer (some ⟨b3, 3, none⟩)
                | 6 => v = .int .i64 py
                | 7 => v = .pointer (some ⟨bq, 1, none⟩)
                | 8 => v = .int .i64 py
                | 9 => v = .int .i64 py
                | 10 => v = .pointer (some ⟨b3, 1, none⟩)
                | 11 => v = .bool true
                | _ => True) (by omega) (by rfl) (by kernel_rfl) (by rfl) ?_ ?_ ?_ ?_
            · exact CS.start _ _ _ _
            · intro wa wb hRN ix v hv
              match ix, hv with
              | 0, h => exact h
              | 1, h => exact h
              | 2, h => exact h
              | 3, h => exact h
              | 4, h => exact h
              | 5, h => exact h
              | 6, h => exact h
              | 7, h => exact h
              | 8, h => exact h
              | 9, h => exact h
              | 10, h => exact h
              | 11, h => exact h
              | _ + 12, _ => trivial
            · intro ix hix
              obtain rfl | rfl | rfl | rfl | rfl | rfl | rfl | rfl | rfl | rfl | rfl | rfl : ix = 0 ∨ ix = 1 ∨ ix = 2 ∨ ix = 3 ∨ ix = 4 ∨ ix = 5 ∨ ix = 6 ∨ ix = 7 ∨ ix = 8 ∨ ix = 9 ∨ ix = 10 ∨ ix = 11 := by omega
              · refine FrontStep.of [] _ rfl (by kernel_rfl) ?_
                intro vs LL wq hLL hC hf
                simp only [putL, List.foldl_nil]
                go_wp2_with fail
                first | exact hC.keep 0 _ (by decide) | exact ⟨hC.keep 0 _ (by decide), trivial⟩ | exact ⟨hC.keep 0 _ (by decide), trivial, by omega⟩
              · refine FrontStep.of [0] _ rfl (by kernel_rfl) ?_
                intro vs LL wq hLL hC hf
                simp only [putL, List.foldl_nil, List.foldl_cons, List.getElem?_cons_zero]
                have y0 : vs 0 = _ := hf 0 (by simp)
                try rw [y0]
                have hE := (unhide hS2).below (unhide hB) (hC.early (j := 1) hLL (by decide)).2
                obtain ⟨⟨r0, r1, r2, r3⟩, _⟩ := four_at hE.z3
                obtain ⟨c0, c1⟩ := hE.pts
                clear hE
                simp only at r0 r1 r2 r3
                go_wp2_with fail
                first | exact hC.keep 1 _ (by decide) | exact ⟨hC.keep 1 _ (by decide), trivial⟩ | exact ⟨hC.keep 1 _ (by decide), trivial, by omega⟩
              · refine FrontStep.of [] _ rfl (by kernel_rfl) ?_
                intro vs LL wq hLL hC hf
                simp only [putL, List.foldl_nil]
                go_wp2_with fail
                first | exact hC.keep 2 _ (by decide) | exact ⟨hC.keep 2 _ (by decide), trivial⟩ | exact ⟨hC.keep 2 _ (by decide), trivial, by omega⟩
              · refine FrontStep.of [2] _ rfl (by kernel_rfl) ?_
                intro vs LL wq hLL hC hf
                simp only [putL, List.foldl_nil, List.foldl_cons, List.getElem?_cons_zero, List.getElem?_cons_succ]
                have y2 : vs 2 = _ := hf 2 (by simp)
                try rw [y2]
                have hE := (unhide hS2).below (unhide hB) (hC.early (j := 3) hLL (by decide)).2
                obtain ⟨⟨r0, r1, r2, r3⟩, _⟩ := four_at hE.z3
                obtain ⟨c0, c1⟩ := hE.pts
                clear hE
                simp only at r0 r1 r2 r3
                go_wp2_with fail
                first | exact hC.keep 3 _ (by decide) | exact ⟨hC.keep 3 _ (by decide), trivial⟩ | exact ⟨hC.keep 3 _ (by decide), trivial, by omega⟩
              · refine FrontStep.of [1, 3] _ rfl (by kernel_rfl) ?_
                intro vs LL wq hLL hC hf
                simp only [putL, List.foldl_nil, List.foldl_cons, List.getElem?_cons_zero, List.getElem?_cons_succ]
                have y1 : vs 1 = _ := hf 1 (by simp)
                try rw [y1]
                have y3 : vs 3 = _ := hf 3 (by simp)
                try rw [y3]
                go_wp2_with fail
                first | exact hC.keep 4 _ (by decide) | exact ⟨hC.keep 4 _ (by decide), trivial⟩ | exact ⟨hC.keep 4 _ (by decide), trivial, by omega⟩
              · refine FrontStep.of [] _ rfl (by kernel_rfl) ?_
                intro vs LL wq hLL hC hf
                simp only [putL, List.foldl_nil]
                go_wp2_with fail
                first | exact hC.keep 5 _ (by decide) | exact ⟨hC.keep 5 _ (by decide), trivial⟩ | exact ⟨hC.keep 5 _ (by decide), trivial, by omega⟩
              · refine FrontStep.of [5] _ rfl (by kernel_rfl) ?_
                intro vs LL wq hLL hC hf
                simp only [putL, List.foldl_nil, List.foldl_cons, List.getElem?_cons_zero, List.getElem?_cons_succ]
                have y5 : vs 5 = _ := hf 5 (by simp)
                try rw [y5]
                have hE := (unhide hS2).below (unhide hB) (hC.early (j := 6) hLL (by decide)).2
                obtain ⟨⟨r0, r1, r2, r3⟩, _⟩ := four_at hE.z3
                obtain ⟨c0, c1⟩ := hE.pts
                clear hE
                simp only at r0 r1 r2 r3
                go_wp2_with fail
                first | exact hC.keep 6 _ (by decide) | exact ⟨hC.keep 6 _ (by decide), trivial⟩ | exact ⟨hC.keep 6 _ (by decide), trivial, by omega⟩
              · refine FrontStep.of [] _ rfl (by kernel_rfl) ?_
                intro vs LL wq hLL hC hf
                simp only [putL, List.foldl_nil]
                go_wp2_with fail
                first | exact hC.keep 7 _ (by decide) | exact ⟨hC.keep 7 _ (by decide), trivial⟩ | exact ⟨hC.keep 7 _ (by decide), trivial, by omega⟩
              · refine FrontStep.of [7] _ rfl (by kernel_rfl) ?_
                intro vs LL wq hLL hC hf
                simp only [putL, List.foldl_nil, List.foldl_cons, List.getElem?_cons_zero, List.getElem?_cons_succ]
                have y7 : vs 7 = _ := hf 7 (by simp)
                try rw [y7]
                obtain ⟨c0, c1⟩ := (unhide hS2).late (unhide hB) nq3 1 (.int .i64 py) hC
                go_wp2_with fail
                first | exact hC.keep 8 _ (by decide) | exact ⟨hC.keep 8 _ (by decide), trivial⟩ | exact ⟨hC.keep 8 _ (by decide), trivial, by omega⟩
              · refine FrontStep.of [6, 8] _ rfl (by kernel_rfl) ?_
                intro vs LL wq hLL hC hf
                simp only [putL, List.foldl_nil, List.foldl_cons, List.getElem?_cons_zero, List.getElem?_cons_succ]
                have y6 : vs 6 = _ := hf 6 (by simp)
                try rw [y6]
                have y8 : vs 8 = _ := hf 8 (by simp)
                try rw [y8]
                go_wp2_with fail
                first | exact hC.keep 9 _ (by decide) | exact ⟨hC.keep 9 _ (by decide), trivial⟩ | exact ⟨hC.keep 9 _ (by decide), trivial, by omega⟩
              · refine FrontStep.of [0, 1, 2, 3, 4, 5, 6] _ rfl (by kernel_rfl) ?_
                intro vs LL wq hLL hC hf
                simp only [putL, List.foldl_nil, List.foldl_cons, List.getElem?_cons_zero, List.getElem?_cons_succ]
                have y0 : vs 0 = _ := hf 0 (by simp)
                try rw [y0]
                have y1 : vs 1 = _ := hf 1 (by simp)
                try rw [y1]
                have y2 : vs 2 = _ := hf 2 (by simp)
                try rw [y2]
                have y3 : vs 3 = _ := hf 3 (by simp)
                try rw [y3]
                have y4 : vs 4 = _ := hf 4 (by simp)
                try rw [y4]
                have y5 : vs 5 = _ := hf 5 (by simp)
                try rw [y5]
                have y6 : vs 6 = _ := hf 6 (by simp)
                try rw [y6]
                go_wp2_with fail
                first | exact hC.keep 10 _ (by decide) | exact ⟨hC.keep 10 _ (by decide), trivial⟩ | exact ⟨hC.keep 10 _ (by decide), trivial, by omega⟩
              · refine FrontStep.of [0, 1, 2, 3, 4, 5, 6, 10] _ rfl (by kernel_rfl) ?_
                intro vs LL wq hLL hC hf
                simp only [putL, List.foldl_nil, List.foldl_cons, List.getElem?_cons_zero, List.getElem?_cons_succ]
                have y0 : vs 0 = _ := hf 0 (by simp)
                try rw [y0]
                have y1 : vs 1 = _ := hf 1 (by simp)
                try rw [y1]
                have y2 : vs 2 = _ := hf 2 (by simp)
                try rw [y2]
                have y3 : vs 3 = _ := hf 3 (by simp)
                try rw [y3]
                have y4 : vs 4 = _ := hf 4 (by simp)
                try rw [y4]
                have y5 : vs 5 = _ := hf 5 (by simp)
                try rw [y5]
                have y6 : vs 6 = _ := hf 6 (by simp)
                try rw [y6]
                have y10 : vs 10 = _ := hf 10 (by simp)
                try rw [y10]
                have hcalm := hC.calm hLL
                have hE := (unhide hS2).below (unhide hB) hcalm
                obtain ⟨⟨r0, r1, r2, r3⟩, q0, q1, q2, q3⟩ := four_at hE.z3
                clear hE hcalm
                simp only at r0 r1 r2 r3
                have hnx := hC.store (.bool true) hLL (fun j hj => by simp at hj; rcases hj with rfl | rfl | rfl | rfl | rfl | rfl | rfl | rfl <;> first | (rw [y0]; exact fun h => by cases h) | (rw [y1]; exact fun h => by cases h) | (rw [y2]; exact fun h => by cases h) | (rw [y3]; exact fun h => by cases h) | (rw [y4]; exact fun h => by cases h) | (rw [y5]; exact fun h => by cases h) | (rw [y6]; exact fun h => by cases h) | (rw [y10]; exact fun h => by cases h))
                replace hnx := hide hnx
                clear y0 y1 y2 y3 y4 y5 y6 y10
                go_wp2_with fail
                first | exact ⟨.bool true, unhide hnx⟩ | exact ⟨.bool true, rfl, unhide hnx, trivial, rfl⟩ | exact unhide hnx | exact ⟨.bool true, unhide hnx, trivial⟩
            · intro vs LL wq hLL hC hf
              obtain ⟨wz, hC2, hwq⟩ := hC.fin (hLL 11 (by omega))
              have e9 : vs 9 = _ := hf 9 (by omega)
              rw [putSome_all]
              simp only [putL, List.range, List.range.loop, List.foldl_nil, List.foldl_cons, List.getElem?_cons_zero, List.getElem?_cons_succ, List.drop_succ_cons, List.drop_zero]
              rw [e9]
              clear hf hLL hC e9
              subst hwq
              have hS1 := ((unhide hS2).below (unhide hB) hC2).set (ix := 1) (v := .int .i64 py) (r' := (px, py, px, py)) rfl
              have hS2 := hS1.set (ix := 3) (v := .int .i64 py) (r' := (px, py, px, py)) rfl
              obtain ⟨⟨r0, r1, r2, r3⟩, q0, q1, q2, q3⟩ := four_at hS1.z3
              simp only at r0 r1 r2 r3
              obtain ⟨wq, hwq⟩ : ∃ wq, wz.setCell ⟨b3, 1, none⟩ (.int .i64 py) = wq := ⟨_, rfl⟩
              rw [hwq] at hS1 hS2 r0 r1 r2 r3 q0 q1 q2 q3 ⊢
              clear hwq hC2 wz
              replace hS1 := hide hS1; replace hS2 := hide hS2
              go_simp
              go_wp2_with fail
              obtain ⟨W8, hwq⟩ : ∃ wq2, wq.setCell ⟨b3, 3, none⟩ (.int .i64 py) = wq2 := ⟨_, rfl⟩
              rw [hwq] at hS2 ⊢
              clear hwq hS1 r0 r1 r2 r3 q0 q1 q2 q3 wq
              obtain ⟨⟨r0, r1, r2, r3⟩, q0, q1, q2, q3⟩ := four_at (unhide hS2).z3
              obtain ⟨c0, c1⟩ := (unhide hS2).pts
              simp only at r0 r1 r2 r3
              exact unhide hend _ (unhide hS2)
        | cons p0 pre =>
          have t0 : (((p0 :: pre : List Pt).length : Int) == 0) = false := beq_eq_false_iff_ne.2 (by simp; omega)
          obtain ⟨⟨R0, R1, R2, R3⟩, hR⟩ : ∃ r, boxS (p0 :: pre) = r := ⟨_, rfl⟩
          rw [hR] at r0 r1 r2 r3
          simp only at r0 r1 r2 r3
          have hS : BS w Wb B b2 b3 bq px py pz (R0, R1, R2, R3) Wb := ⟨(unhide hjb).1, KeepsOthers.refl _, (unhide hjb).2.2.1, by have := (unhide hjb).2.2.2; rwa [hR] at this, unhide hcb, (unhide hjb).2.1, nq3⟩
          replace hend : ∀ W8, BS w Wb B b2 b3 bq px py pz (min R0 px, min R1 py, max R2 px, max R3 py) W8 → _ := fun W8 h => hend W8 (by rw [show firstR (p0 :: pre) (px, py, pz) = (R0, R1, R2, R3) from hR]; exact h)
          replace hend := hide hend
          replace hR := hide hR
          clear hjb hcb hbn hWo
          have hS := hide hS
          gi_wp2
          refine wpIn_region_frontR 12 (fun LL vs w' => CS Wb 11 [0, 1, 2, 3, 4, 5, 6, 10] (fun wz => wz.setCell ⟨b3, 0, none⟩ (.int .i64 (min R0 px))) LL vs w') (fun _ _ => True)
            (fun ix v w' => match ix with
              | 0 => v = .pointer (some ⟨b3, 0, none⟩)
              | 1 => v = .int .i64 R0
              | 2 => v = .pointer (some ⟨bq, 0, none⟩)
              | 3 => v = .int .i64 px
              | 4 => v = .int .i64 (min R0 px)
              | 5 => v = .pointer (some ⟨b3, 2, none⟩)
              | 6 => v = .int .i64 R2
              | 7 => v = .pointer (some ⟨bq, 0, none⟩)
              | 8 => v = .int .i64 px
              | 9 => v = .int .i64 (max R2 px)
              | 10 => v = .pointer (some ⟨b3, 0, none⟩)
              | 11 => v = .bool true
              | _ => True) (by omega) (by rfl) (by kernel_rfl) (by rfl) ?_ ?_ ?_ ?_
          · exact CS.start _ _ _ _
          · intro wa wb hRN ix v hv
            match ix, hv with
            | 0, h => exact h
            | 1, h => exact h
            | 2, h => exact h
            | 3, h => exact h
            | 4, h => exact h
            | 5, h => exact h
            | 6, h => exact h
            | 7, h => exact h
            | 8, h => exact h
            | 9, h => exact h
            | 10, h => exact h
            | 11, h => exact h
            | _ + 12, _ => trivial
          · intro ix hix
            obtain rfl | rfl | rfl | rfl | rfl | rfl | rfl | rfl | rfl | rfl | rfl | rfl : ix = 0 ∨ ix = 1 ∨ ix = 2 ∨ ix = 3 ∨ ix = 4 ∨ ix = 5 ∨ ix = 6 ∨ ix = 7 ∨ ix = 8 ∨ ix = 9 ∨ ix = 10 ∨ ix = 11 := by omega
            · refine FrontStep.of [] _ rfl (by kernel_rfl) ?_
              intro vs LL wq hLL hC hf
              simp only [putL, List.foldl_nil]
              go_wp2_with fail
              first | exact hC.keep 0 _ (by decide) | exact ⟨hC.keep 0 _ (by decide), trivial⟩ | exact ⟨hC.keep 0 _ (by decide), trivial, by omega⟩
            · refine FrontStep.of [0] _ rfl (by kernel_rfl) ?_
              intro vs LL wq hLL hC hf
              simp only [putL, List.foldl_nil, List.foldl_cons, List.getElem?_cons_zero]
              have y0 : vs 0 = _ := hf 0 (by simp)
              try rw [y0]
              have hE := (unhide hS).below (unhide hB) (hC.early (j := 1) hLL (by decide)).2
              obtain ⟨⟨r0, r1, r2, r3⟩, _⟩ := four_at hE.z3
              obtain ⟨c0, c1⟩ := hE.pts
              clear hE
              simp only at r0 r1 r2 r3
              go_wp2_with fail
              first | exact hC.keep 1 _ (by decide) | exact ⟨hC.keep 1 _ (by decide), trivial⟩ | exact ⟨hC.keep 1 _ (by decide), trivial, by omega⟩
            · refine FrontStep.of [] _ rfl (by kernel_rfl) ?_
              intro vs LL wq hLL hC hf
              simp only [putL, List.foldl_nil]
              go_wp2_with fail
              first | exact hC.keep 2 _ (by decide) | exact ⟨hC.keep 2 _ (by decide), trivial⟩ | exact ⟨hC.keep 2 _ (by decide), trivial, by omega⟩
            · refine FrontStep.of [2] _ rfl (by kernel_rfl) ?_
              intro vs LL wq hLL hC hf
              simp only [putL, List.foldl_nil, List.foldl_cons, List.getElem?_cons_zero, List.getElem?_cons_succ]
              have y2 : vs 2 = _ := hf 2 (by simp)
              try rw [y2]
              have hE := (unhide hS).below (unhide hB) (hC.early (j := 3) hLL (by decide)).2
              obtain ⟨⟨r0, r1, r2, r3⟩, _⟩ := four_at hE.z3
              obtain ⟨c0, c1⟩ := hE.pts
              clear hE
              simp only at r0 r1 r2 r3
              go_wp2_with fail
              first | exact hC.keep 3 _ (by decide) | exact ⟨hC.keep 3 _ (by decide), trivial⟩ | exact ⟨hC.keep 3 _ (by decide), trivial, by omega⟩
            · refine FrontStep.of [1, 3] _ rfl (by kernel_rfl) ?_
              intro vs LL wq hLL hC hf
              simp only [putL, List.foldl_nil, List.foldl_cons, List.getElem?_cons_zero, List.getElem?_cons_succ]
              have y1 : vs 1 = _ := hf 1 (by simp)
              try rw [y1]
              have y3 : vs 3 = _ := hf 3 (by simp)
              try rw [y3]
              go_wp2_with fail
              first | exact hC.keep 4 _ (by decide) | exact ⟨hC.keep 4 _ (by decide), trivial⟩ | exact ⟨hC.keep 4 _ (by decide), trivial, by omega⟩
            · refine FrontStep.of [] _ rfl (by kernel_rfl) ?_
              intro vs LL wq hLL hC hf
              simp only [putL, List.foldl_nil]
              go_wp2_with fail
              first | exact hC.keep 5 _ (by decide) | exact ⟨hC.keep 5 _ (by decide), trivial⟩ | exact ⟨hC.keep 5 _ (by decide), trivial, by omega⟩
            · refine FrontStep.of [5] _ rfl (by kernel_rfl) ?_
              intro vs LL wq hLL hC hf
              simp only [putL, List.foldl_nil, List.foldl_cons, List.getElem?_cons_zero, List.getElem?_cons_succ]
              have y5 : vs 5 = _ := hf 5 (by simp)
              try rw [y5]
              have hE := (unhide hS).below (unhide hB) (hC.early (j := 6) hLL (by decide)).2
              obtain ⟨⟨r0, r1, r2, r3⟩, _⟩ := four_at hE.z3
              obtain ⟨c0, c1⟩ := hE.pts
              clear hE
              simp only at r0 r1 r2 r3
              go_wp2_with fail
              first | exact hC.keep 6 _ (by decide) | exact ⟨hC.keep 6 _ (by decide), trivial⟩ | exact ⟨hC.keep 6 _ (by decide), trivial, by omega⟩
            · refine FrontStep.of [] _ rfl (by kernel_rfl) ?_
              intro vs LL wq hLL hC hf
              simp only [putL, List.foldl_nil]
              go_wp2_with fail
              first | exact hC.keep 7 _ (by decide) | exact ⟨hC.keep 7 _ (by decide), trivial⟩ | exact ⟨hC.keep 7 _ (by decide), trivial, by omega⟩
            · refine FrontStep.of [7] _ rfl (by kernel_rfl) ?_
              intro vs LL wq hLL hC hf
              simp only [putL, List.foldl_nil, List.foldl_cons, List.getElem?_cons_zero, List.getElem?_cons_succ]
              have y7 : vs 7 = _ := hf 7 (by simp)
              try rw [y7]
              obtain ⟨c0, c1⟩ := (unhide hS).late (unhide hB) nq3 0 (.int .i64 (min R0 px)) hC
              go_wp2_with fail
              first | exact hC.keep 8 _ (by decide) | exact ⟨hC.keep 8 _ (by decide), trivial⟩ | exact ⟨hC.keep 8 _ (by decide), trivial, by omega⟩
            · refine FrontStep.of [6, 8] _ rfl (by kernel_rfl) ?_
              intro vs LL wq hLL hC hf
              simp only [putL, List.foldl_nil, List.foldl_cons, List.getElem?_cons_zero, List.getElem?_cons_succ]
              have y6 : vs 6 = _ := hf 6 (by simp)
              try rw [y6]
              have y8 : vs 8 = _ := hf 8 (by simp)
              try rw [y8]
              go_wp2_with fail
              first | exact hC.keep 9 _ (by decide) | exact ⟨hC.keep 9 _ (by decide), trivial⟩ | exact ⟨hC.keep 9 _ (by decide), trivial, by omega⟩
            · refine FrontStep.of [0, 1, 2, 3, 4, 5, 6] _ rfl (by kernel_rfl) ?_
              intro vs LL wq hLL hC hf
              simp only [putL, List.foldl_nil, List.foldl_cons, List.getElem?_cons_zero, List.getElem?_cons_succ]
              have y0 : vs 0 = _ := hf 0 (by simp)
              try rw [y0]
              have y1 : vs 1 = _ := hf 1 (by simp)
              try rw [y1]
              have y2 : vs 2 = _ := hf 2 (by simp)
              try rw [y2]
              have y3 : vs 3 = _ := hf 3 (by simp)
              try rw [y3]
              have y4 : vs 4 = _ := hf 4 (by simp)
              try rw [y4]
              have y5 : vs 5 = _ := hf 5 (by simp)
              try rw [y5]
              have y6 : vs 6 = _ := hf 6 (by simp)
              try rw [y6]
              go_wp2_with fail
              first | exact hC.keep 10 _ (by decide) | exact ⟨hC.keep 10 _ (by decide), trivial⟩ | exact ⟨hC.keep 10 _ (by decide), trivial, by omega⟩
            · refine FrontStep.of [0, 1, 2, 3, 4, 5, 6, 10] _ rfl (by kernel_rfl) ?_
              intro vs LL wq hLL hC hf
              simp only [putL, List.foldl_nil, List.foldl_cons, List.getElem?_cons_zero, List.getElem?_cons_succ]
              have y0 : vs 0 = _ := hf 0 (by simp)
              try rw [y0]
              have y1 : vs 1 = _ := hf 1 (by simp)
              try rw [y1]
              have y2 : vs 2 = _ := hf 2 (by simp)
              try rw [y2]
              have y3 : vs 3 = _ := hf 3 (by simp)
              try rw [y3]
              have y4 : vs 4 = _ := hf 4 (by simp)
              try rw [y4]
              have y5 : vs 5 = _ := hf 5 (by simp)
              try rw [y5]
              have y6 : vs 6 = _ := hf 6 (by simp)
              try rw [y6]
              have y10 : vs 10 = _ := hf 10 (by simp)
              try rw [y10]
              have hcalm := hC.calm hLL
              have hE := (unhide hS).below (unhide hB) hcalm
              obtain ⟨⟨r0, r1, r2, r3⟩, q0, q1, q2, q3⟩ := four_at hE.z3
              clear hE hcalm
              simp only at r0 r1 r2 r3
              have hnx := hC.store (.bool true) hLL (fun j hj => by simp at hj; rcases hj with rfl | rfl | rfl | rfl | rfl | rfl | rfl | rfl <;> first | (rw [y0]; exact fun h => by cases h) | (rw [y1]; exact fun h => by cases h) | (rw [y2]; exact fun h => by cases h) | (rw [y3]; exact fun h => by cases h) | (rw [y4]; exact fun h => by cases h) | (rw [y5]; exact fun h => by cases h) | (rw [y6]; exact fun h => by cases h) | (rw [y10]; exact fun h => by cases h))
              replace hnx := hide hnx
              clear y0 y1 y2 y3 y4 y5 y6 y10
              go_wp2_with fail
              first | exact ⟨.bool true, unhide hnx⟩ | exact ⟨.bool true, rfl, unhide hnx, trivial, rfl⟩ | exact unhide hnx | exact ⟨.bool true, unhide hnx, trivial⟩
          · intro vs LL wq hLL hC hf
            obtain ⟨wz, hC2, hwq⟩ := hC.fin (hLL 11 (by omega))
            have e9 : vs 9 = _ := hf 9 (by omega)
            rw [putSome_all]
            simp only [putL, List.range, List.range.loop, List.foldl_nil, List.foldl_cons, List.getElem?_cons_zero, List.getElem?_cons_succ, List.drop_succ_cons, List.drop_zero]
            rw [e9]
            clear hf hLL hC e9
            subst hwq
            have hS1 := ((unhide hS).below (unhide hB) hC2).set (ix := 0) (v := .int .i64 (min R0 px)) (r' := ((min R0 px), R1, R2, R3)) rfl
            have hS2 := hS1.set (ix := 2) (v := .int .i64 (max R2 px)) (r' := ((min R0 px), R1, (max R2 px), R3)) rfl
            obtain ⟨⟨r0, r1, r2, r3⟩, q0, q1, q2, q3⟩ := four_at hS1.z3
            simp only at r0 r1 r2 r3
            obtain ⟨wq, hwq⟩ : ∃ wq, wz.setCell ⟨b3, 0, none⟩ (.int .i64 (min R0 px)) = wq := ⟨_, rfl⟩
            rw [hwq] at hS1 hS2 r0 r1 r2 r3 q0 q1 q2 q3 ⊢
            clear hwq hC2 wz
            replace hS1 := hide hS1; replace hS2 := hide hS2
            go_simp
            go_wp2_with fail
            obtain ⟨W7, hwq⟩ : ∃ wq2, wq.setCell ⟨b3, 2, none⟩ (.int .i64 (max R2 px)) = wq2 := ⟨_, rfl⟩
            rw [hwq] at hS2 ⊢
            clear hwq hS1 r0 r1 r2 r3 q0 q1 q2 q3 wq
            obtain ⟨⟨r0, r1, r2, r3⟩, q0, q1, q2, q3⟩ := four_at (unhide hS2).z3
            obtain ⟨c0, c1⟩ := (unhide hS2).pts
            simp only at r0 r1 r2 r3
            gi_wp2
            refine wpIn_region_frontR 12 (fun LL vs w' => CS W7 11 [0, 1, 2, 3, 4, 5, 6, 10] (fun wz => wz.setCell ⟨b3, 1, none⟩ (.int .i64 (min R1 py))) LL vs w') (fun _ _ => True)
              (fun ix v w' => match ix with
                | 0 => v = .pointer (some ⟨b3, 1, none⟩)
                | 1 => v = .int .i64 R1
                | 2 => v = .pointer (some ⟨bq, 1, none⟩)
                | 3 => v = .int .i64 py
                | 4 => v = .int .i64 (min R1 py)
                | 5 => v = .pointer (some ⟨b3, 3, none⟩)
                | 6 => v = .int .i64 R3
                | 7 => v = .pointer (some ⟨bq, 1, none⟩)
                | 8 => v = .int .i64 py
                | 9 => v = .int .i64 (max R3 py)
                | 10 => v = .pointer (some ⟨b3, 1, none⟩)
                | 11 => v = .bool true
                | _ => True) (by omega) (by rfl) (by kernel_rfl) (by rfl) ?_ ?_ ?_ ?_
            · exact CS.start _ _ _ _
            · intro wa wb hRN ix v hv
              match ix, hv with
              | 0, h => exact h
              | 1, h => exact h
              | 2, h => exact h
              | 3, h => exact h
              | 4, h => exact h
              | 5, h => exact h
              | 6, h => exact h
              | 7, h => exact h
              | 8, h => exact h
              | 9, h => exact h
              | 10, h => exact h
              | 11, h => exact h
              | _ + 12, _ => trivial
            · intro ix hix
              obtain rfl | rfl | rfl | rfl | rfl | rfl | rfl | rfl | rfl | rfl | rfl | rfl : ix = 0 ∨ ix = 1 ∨ ix = 2 ∨ ix = 3 ∨ ix = 4 ∨ ix = 5 ∨ ix = 6 ∨ ix = 7 ∨ ix = 8 ∨ ix = 9 ∨ ix = 10 ∨ ix = 11 := by omega
              · refine FrontStep.of [] _ rfl (by kernel_rfl) ?_
                intro vs LL wq hLL hC hf
                simp only [putL, List.foldl_nil]
                go_wp2_with fail
                first | exact hC.keep 0 _ (by decide) | exact ⟨hC.keep 0 _ (by decide), trivial⟩ | exact ⟨hC.keep 0 _ (by decide), trivial, by omega⟩
              · refine FrontStep.of [0] _ rfl (by kernel_rfl) ?_
                intro vs LL wq hLL hC hf
                simp only [putL, List.foldl_nil, List.foldl_cons, List.getElem?_cons_zero]
                have y0 : vs 0 = _ := hf 0 (by simp)
                try rw [y0]
                have hE := (unhide hS2).below (unhide hB) (hC.early (j := 1) hLL (by decide)).2
                obtain ⟨⟨r0, r1, r2, r3⟩, _⟩ := four_at hE.z3
                obtain ⟨c0, c1⟩ := hE.pts
                clear hE
                simp only at r0 r1 r2 r3
                go_wp2_with fail
                first | exact hC.keep 1 _ (by decide) | exact ⟨hC.keep 1 _ (by decide), trivial⟩ | exact ⟨hC.keep 1 _ (by decide), trivial, by omega⟩
              · refine FrontStep.of [] _ rfl (by kernel_rfl) ?_
                intro vs LL wq hLL hC hf
                simp only [putL, List.foldl_nil]
                go_wp2_with fail
                first | exact hC.keep 2 _ (by decide) | exact ⟨hC.keep 2 _ (by decide), trivial⟩ | exact ⟨hC.keep 2 _ (by decide), trivial, by omega⟩
              · refine FrontStep.of [2] _ rfl (by kernel_rfl) ?_
                intro vs LL wq hLL hC hf
                simp only [putL, List.foldl_nil, List.foldl_cons, List.getElem?_cons_zero, List.getElem?_cons_succ]
                have y2 : vs 2 = _ := hf 2 (by simp)
                try rw [y2]
                have hE := (unhide hS2).below (unhide hB) (hC.early (j := 3) hLL (by decide)).2
                obtain ⟨⟨r0, r1, r2, r3⟩, _⟩ := four_at hE.z3
                obtain ⟨c0, c1⟩ := hE.pts
                clear hE
                simp only at r0 r1 r2 r3
                go_wp2_with fail
                first | exact hC.keep 3 _ (by decide) | exact ⟨hC.keep 3 _ (by decide), trivial⟩ | exact ⟨hC.keep 3 _ (by decide), trivial, by omega⟩
              · refine FrontStep.of [1, 3] _ rfl (by kernel_rfl) ?_
                intro vs LL wq hLL hC hf
                simp only [putL, List.foldl_nil, List.foldl_cons, List.getElem?_cons_zero, List.getElem?_cons_succ]
                have y1 : vs 1 = _ := hf 1 (by simp)
                try rw [y1]
                have y3 : vs 3 = _ := hf 3 (by simp)
                try rw [y3]
                go_wp2_with fail
                first | exact hC.keep 4 _ (by decide) | exact ⟨hC.keep 4 _ (by decide), trivial⟩ | exact ⟨hC.keep 4 _ (by decide), trivial, by omega⟩
              · refine FrontStep.of [] _ rfl (by kernel_rfl) ?_
                intro vs LL wq hLL hC hf
                simp only [putL, List.foldl_nil]
                go_wp2_with fail
                first | exact hC.keep 5 _ (by decide) | exact ⟨hC.keep 5 _ (by decide), trivial⟩ | exact ⟨hC.keep 5 _ (by decide), trivial, by omega⟩
              · refine FrontStep.of [5] _ rfl (by kernel_rfl) ?_
                intro vs LL wq hLL hC hf
                simp only [putL, List.foldl_nil, List.foldl_cons, List.getElem?_cons_zero, List.getElem?_cons_succ]
                have y5 : vs 5 = _ := hf 5 (by simp)
                try rw [y5]
                have hE := (unhide hS2).below (unhide hB) (hC.early (j := 6) hLL (by decide)).2
                obtain ⟨⟨r0, r1, r2, r3⟩, _⟩ := four_at hE.z3
                obtain ⟨c0, c1⟩ := hE.pts
                clear hE
                simp only at r0 r1 r2 r3
                go_wp2_with fail
                first | exact hC.keep 6 _ (by decide) | exact ⟨hC.keep 6 _ (by decide), trivial⟩ | exact ⟨hC.keep 6 _ (by decide), trivial, by omega⟩
              · refine FrontStep.of [] _ rfl (by kernel_rfl) ?_
                intro vs LL wq hLL hC hf
                simp only [putL, List.foldl_nil]
                go_wp2_with fail
                first | exact hC.keep 7 _ (by decide) | exact ⟨hC.keep 7 _ (by decide), trivial⟩ | exact ⟨hC.keep 7 _ (by decide), trivial, by omega⟩
              · refine FrontStep.of [7] _ rfl (by kernel_rfl) ?_
                intro vs LL wq hLL hC hf
                simp only [putL, List.foldl_nil, List.foldl_cons, List.getElem?_cons_zero, List.getElem?_cons_succ]
                have y7 : vs 7 = _ := hf 7 (by simp)
                try rw [y7]
                obtain ⟨c0, c1⟩ := (unhide hS2).late (unhide hB) nq3 1 (.int .i64 (min R1 py)) hC
                go_wp2_with fail
                first | exact hC.keep 8 _ (by decide) | exact ⟨hC.keep 8 _ (by decide), trivial⟩ | exact ⟨hC.keep 8 _ (by decide), trivial, by omega⟩
              · refine FrontStep.of [6, 8] _ rfl (by kernel_rfl) ?_
                intro vs LL wq hLL hC hf
                simp only [putL, List.foldl_nil, List.foldl_cons, List.getElem?_cons_zero, List.getElem?_cons_succ]
                have y6 : vs 6 = _ := hf 6 (by simp)
                try rw [y6]
                have y8 : vs 8 = _ := hf 8 (by simp)
                try rw [y8]
                go_wp2_with fail
                first | exact hC.keep 9 _ (by decide) | exact ⟨hC.keep 9 _ (by decide), trivial⟩ | exact ⟨hC.keep 9 _ (by decide), trivial, by omega⟩
              · refine FrontStep.of [0, 1, 2, 3, 4, 5, 6] _ rfl (by kernel_rfl) ?_
                intro vs LL wq hLL hC hf
                simp only [putL, List.foldl_nil, List.foldl_cons, List.getElem?_cons_zero, List.getElem?_cons_succ]
                have y0 : vs 0 = _ := hf 0 (by simp)
                try rw [y0]
                have y1 : vs 1 = _ := hf 1 (by simp)
                try rw [y1]
                have y2 : vs 2 = _ := hf 2 (by simp)
                try rw [y2]
                have y3 : vs 3 = _ := hf 3 (by simp)
                try rw [y3]
                have y4 : vs 4 = _ := hf 4 (by simp)
                try rw [y4]
                have y5 : vs 5 = _ := hf 5 (by simp)
                try rw [y5]
                have y6 : vs 6 = _ := hf 6 (by simp)
                try rw [y6]
                go_wp2_with fail
                first | exact hC.keep 10 _ (by decide) | exact ⟨hC.keep 10 _ (by decide), trivial⟩ | exact ⟨hC.keep 10 _ (by decide), trivial, by omega⟩
              · refine FrontStep.of [0, 1, 2, 3, 4, 5, 6, 10] _ rfl (by kernel_rfl) ?_
                intro vs LL wq hLL hC hf
                simp only [putL, List.foldl_nil, List.foldl_cons, List.getElem?_cons_zero, List.getElem?_cons_succ]
                have y0 : vs 0 = _ := hf 0 (by simp)
                try rw [y0]
                have y1 : vs 1 = _ := hf 1 (by simp)
                try rw [y1]
                have y2 : vs 2 = _ := hf 2 (by simp)
                try rw [y2]
                have y3 : vs 3 = _ := hf 3 (by simp)
                try rw [y3]
                have y4 : vs 4 = _ := hf 4 (by simp)
                try rw [y4]
                have y5 : vs 5 = _ := hf 5 (by simp)
                try rw [y5]
                have y6 : vs 6 = _ := hf 6 (by simp)
                try rw [y6]
                have y10 : vs 10 = _ := hf 10 (by simp)
                try rw [y10]
                have hcalm := hC.calm hLL
                have hE := (unhide hS2).below (unhide hB) hcalm
                obtain ⟨⟨r0, r1, r2, r3⟩, q0, q1, q2, q3⟩ := four_at hE.z3
                clear hE hcalm
                simp only at r0 r1 r2 r3
                have hnx := hC.store (.bool true) hLL (fun j hj => by simp at hj; rcases hj with rfl | rfl | rfl | rfl | rfl | rfl | rfl | rfl <;> first | (rw [y0]; exact fun h => by cases h) | (rw [y1]; exact fun h => by cases h) | (rw [y2]; exact fun h => by cases h) | (rw [y3]; exact fun h => by cases h) | (rw [y4]; exact fun h => by cases h) | (rw [y5]; exact fun h => by cases h) | (rw [y6]; exact fun h => by cases h) | (rw [y10]; exact fun h => by cases h))
                replace hnx := hide hnx
                clear y0 y1 y2 y3 y4 y5 y6 y10
                go_wp2_with fail
                first | exact ⟨.bool true, unhide hnx⟩ | exact ⟨.bool true, rfl, unhide hnx, trivial, rfl⟩ | exact unhide hnx | exact ⟨.bool true, unhide hnx, trivial⟩
            · intro vs LL wq hLL hC hf
              obtain ⟨wz, hC2, hwq⟩ := hC.fin (hLL 11 (by omega))
              have e9 : vs 9 = _ := hf 9 (by omega)
              rw [putSome_all]
              simp only [putL, List.range, List.range.loop, List.foldl_nil, List.foldl_cons, List.getElem?_cons_zero, List.getElem?_cons_succ, List.drop_succ_cons, List.drop_zero]
              rw [e9]
              clear hf hLL hC e9
              subst hwq
              have hS1 := ((unhide hS2).below (unhide hB) hC2).set (ix := 1) (v := .int .i64 (min R1 py)) (r' := ((min R0 px), (min R1 py), (max R2 px), R3)) rfl
              have hS2 := hS1.set (ix := 3) (v := .int .i64 (max R3 py)) (r' := ((min R0 px), (min R1 py), (max R2 px), (max R3 py))) rfl
              obtain ⟨⟨r0, r1, r2, r3⟩, q0, q1, q2, q3⟩ := four_at hS1.z3
              simp only at r0 r1 r2 r3
              obtain ⟨wq, hwq⟩ : ∃ wq, wz.setCell ⟨b3, 1, none⟩ (.int .i64 (min R1 py)) = wq := ⟨_, rfl⟩
              rw [hwq] at hS1 hS2 r0 r1 r2 r3 q0 q1 q2 q3 ⊢
              clear hwq hC2 wz
              replace hS1 := hide hS1; replace hS2 := hide hS2
              go_simp
              go_wp2_with fail
              obtain ⟨W8, hwq⟩ : ∃ wq2, wq.setCell ⟨b3, 3, none⟩ (.int .i64 (max R3 py)) = wq2 := ⟨_, rfl⟩
              rw [hwq] at hS2 ⊢
              clear hwq hS1 r0 r1 r2 r3 q0 q1 q2 q3 wq
              obtain ⟨⟨r0, r1, r2, r3⟩, q0, q1, q2, q3⟩ := four_at (unhide hS2).z3
              obtain ⟨c0, c1⟩ := (unhide hS2).pts
              simp only at r0 r1 r2 r3
              exact unhide hend _ (unhide hS2)
    refine it.mono ?_
    rintro e W' ⟨hv, q1, q2⟩
    exact ⟨hv, q2, q1⟩
  case done =>
    rintro W' oL hj hdef hsz ⟨o', ho'⟩
    have hjd := hj.put (o' := .loop oL) ho' rfl (by omega : B ≤ w'.heap.size + 1)
    have hdd := (World.putObj_heap_other (o := .loop oL) (by omega : w'.heap.size ≠ w'.heap.size + 1)).trans hdef
    obtain ⟨W3, hW3⟩ : ∃ W3, W'.putObj (w'.heap.size + 1) (.loop oL) = W3 := ⟨_, rfl⟩
    rw [hW3] at hjd hdd ⊢
    obtain ⟨⟨R0, R1, R2, R3⟩, hR⟩ : ∃ r, boxS o.flatten = r := ⟨_, rfl⟩
    have j3 := hjd.2.2.2
    rw [hR] at j3
    obtain ⟨⟨r0, r1, r2, r3⟩, _⟩ := four_at j3
    obtain ⟨⟨s0, s1, s2, s3⟩, q0, q1, q2, q3⟩ := four_at hjd.2.2.1
    obtain ⟨V3, hV3⟩ : ∃ V3, V3 = (((W3.setCell ⟨b2, 0, none⟩ (.int .i64 R0)).setCell ⟨b2, 1, none⟩ (.int .i64 R1)).setCell ⟨b2, 2, none⟩ (.int .i64 R2)).setCell ⟨b2, 3, none⟩ (.int .i64 R3) := ⟨_, rfl⟩
    obtain ⟨n3, no, nb⟩ := set4 hjd.2.2.1 rfl _ _ _ _ V3 hV3
    have hne2 : w'.heap.size ≠ b2 := by have := (Array.getElem?_eq_some_iff.1 (unhide hj0).2.2.1).1; omega
    have hdd3 := (no _ hne2).trans hdd
    have n4 := put_row (o' := .deferred none) hdd3 rfl n3
    obtain ⟨⟨f0, f1, f2, f3⟩, _⟩ := four_at n4
    have hbz := below_puts (o := .deferred none) (hjd.1.trans (nb B hjd.2.1.1)) hBw
    replace hV3 := hV3.symm
    simp only at r0 r1 r2 r3
    clear j3 hjd hdd no nb n3 n4 hj hdef hsz ho' hW3
    replace hdd3 := hide hdd3; replace hbz := hide hbz; replace hR := hide hR
    gi_wp2
    try rw [hV3]
    refine ⟨by simp, .inl ⟨_, _, rfl, run_takeDeferred (unhide hdd3), ?_⟩⟩
    exact ⟨.agg #[.int .i64 R0, .int .i64 R1, .int .i64 R2, .int .i64 R3], by simp [results, Try.results17, go_sem, f0, f1, f2, f3], by rw [unhide hR], unhide hbz⟩
end
end Go.Proofs.Ytbodidhggdggmaa
