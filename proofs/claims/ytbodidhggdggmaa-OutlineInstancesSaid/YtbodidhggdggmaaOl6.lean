/- The program's Count. -/
import Derived.Test.YtbodidhggdggmaaOl5
namespace Go.Proofs.Ytbodidhggdggmaa
open Go.RowKit
theorem put_row {l x : Nat} {o o' : Obj} {cs : Array Value} {T : TypeId} {f : Nat × Nat} {W : World} (hl : W.heap[l]? = some o) (ho : o.isCells = false) (hx : W.heap[x]? = some (.cells cs T f)) : (W.putObj l o').heap[x]? = some (.cells cs T f) := by
  have hne : x ≠ l := fun e => by rw [e, hl] at hx; injection hx with hx; rw [hx] at ho; cases ho
  rw [World.putObj_heap_other hne]
  exact hx
theorem below_puts {B l : Nat} {w W : World} {o : Obj} (h : Below B w W) (hl : B ≤ l) : Below B w (W.putObj l o) :=
  ⟨h.os, h.tape, h.output, by have := h.size; simp [World.putObj]; omega, fun k hk => (World.putObj_heap_other (by omega)).trans (h.block k hk)⟩
/-- the counter holds how many points were visited -/
def CntJ (w : World) (B b3 : Nat) (pre : List Pt) (A : World) : Prop := Below B w A ∧ B ≤ b3 ∧ A.heap[b3]? = some (.cells #[.int .i64 (pre.length : Int)] 3 (0, 0))
section
attribute [local go_sem] Oper.semAt_some
set_option maxRecDepth 100000 in
set_option maxHeartbeats 4000000 in
theorem count_any (a : Option Addr) (n c : Nat) (o : Ot) (w : World) (hl : Lst Enc.ct w (· < w.heap.size) a n o) (hs : Sml o) :
    Calls Try.prog 15 #[.slice a n c] w fun e w' => e = .returned (.int .i64 (countS o)) ∧ Below w.heap.size w w' := by
  refine (callsIn_wide (n := 8)).1 ?_
  obtain ⟨b3, w1, e3, ew, st⟩ := St.new1 w (Obj.cells #[.int .i64 0] 3)
  have hb1 := st.below
  have h3 := st.get 0 rfl
  clear st
  have hpts := points_any a n c w1
  obtain ⟨B, hB⟩ : ∃ B, w.heap.size = B := ⟨_, rfl⟩
  obtain ⟨w2, hw2⟩ : ∃ w2, w1.alloc (Obj.cells #[.slice a n c] 22) = w2 := ⟨_, rfl⟩
  obtain ⟨bx, hbx⟩ : ∃ bx, w1.heap.size = bx := ⟨_, rfl⟩
  have hxb : w2.cell? ⟨bx, 0, none⟩ = some (.slice a n c) := by
    rw [← hw2, ← hbx]
    exact (cell_of_row _ _ 0 _ _ _ (heap_alloc_new w1 _)).trans rfl
  have hb12 : Below w1.heap.size w1 w2 := by rw [← hw2]; exact (Below.refl _ _).alloc (Nat.le_refl _) _
  have hb2 : Below B w w2 := hB ▸ hb1.trans (hb12.mono hb1.size)
  have h32 := (hb12.block b3 (Array.getElem?_eq_some_iff.1 h3).1).trans h3
  rw [hw2, hbx] at hpts
  rw [hB] at hl ⊢
  have hj0 : CntJ w B b3 [] w2 := ⟨hb2, by omega, h32⟩
  have hBw : B ≤ w2.heap.size := by have := hb2.size; omega
  clear hb1 hb12 hb2 h32 h3 hw2 hbx
  replace hB := hide hB; replace e3 := hide e3; replace ew := hide ew; replace hpts := hide hpts; replace hj0 := hide hj0; replace hxb := hide hxb; replace hl := hide hl; replace hs := hide hs
  refine callsIn_of_wp_marks Try.func15 rfl trivial ?_ rfl
  simp only [Try.ntmps15, List.size_toArray, List.length_cons, List.length_nil, Nat.reduceAdd, Nat.reduceSub, Array.replicate_succ, Array.replicate_zero, List.push_toArray, List.append_toArray, List.nil_append, List.cons_append]
  gi_wp2
  rw [unhide ew]
  try rw [unhide e3]
  refine ⟨trivial, (callsIn_wide.2 (unhide hpts)).mono ?_⟩
  rintro e w' ⟨rfl, rfl⟩
  clear hpts ew e3
  gi_wp2
  refine range_on rfl (by omega) (gf := 60) (lb := #[.pointer (some ⟨bx, 0, none⟩)]) rfl trivial (enters_of Try.func60 (by kernel_rfl) rfl)
    (fun W => CntJ w B b3 o.flatten W) ?call ?done
  case call =>
    intro fn W1 _ hL1 hbw1 hs1
    have hj1 : CntJ w B b3 [] W1 := ⟨(unhide hj0).1.trans (hbw1.mono hBw), (unhide hj0).2.1, (hbw1.block b3 (Array.getElem?_eq_some_iff.1 (unhide hj0).2.2).1).trans (unhide hj0).2.2⟩
    have hx1 := cell_under (unhide hxb) hbw1
    obtain ⟨D, hD⟩ : ∃ D, w'.heap.size = D := ⟨_, rfl⟩
    rw [hD] at hL1 hs1 ⊢
    have it := pts_in 7 (D + 1) D w B bx a n c o W1 fn _ _ _ _ (CntJ w B b3) hx1 (unhide hl) (unhide hs) (fun _ _ h => h.1) (fun pre A A' h hb => ⟨h.1.trans (hb.mono (by have := h.1.size; have := unhide hB; omega)), h.2.1, (hb.block b3 (Array.getElem?_eq_some_iff.1 h.2.2).1).trans h.2.2⟩) hj1 hL1 ?round
    case round =>
      intro pre p Wr hj hla hpl i1 i2
      refine (yield_on (a₁ := ?a1) trivial hla (by omega) rfl (J := fun W' => CntJ w B b3 (pre ++ [p]) W') (hassign := ?asg) (hbody := ?bd)).mono ?fin
      case fin =>
        rintro e W' ⟨rfl, q1, q3⟩
        exact ⟨rfl, q1, q3⟩
      case asg =>
        intro K hK
        gi_wp2
        exact hK
      case bd =>
        intro Wb o hWb ho
        have hjb : CntJ w B b3 pre Wb := by rw [hWb]; exact ⟨below_puts hj.1 (by have := unhide hB; omega), hj.2.1, put_row hla.1 rfl hj.2.2⟩
        have hWo : Wb.heap[D + 1]? = some o := by rw [hWb]; exact World.putObj_heap_same (Array.getElem?_eq_some_iff.1 hla.1).1
        have d1 : Wb.cell? ⟨b3, 0, none⟩ = some (.int .i64 (pre.length : Int)) := (cell_of_row _ _ 0 _ _ _ hjb.2.2).trans rfl
        have f1 : Wb.frozen? ⟨b3, 0, none⟩ = false := by simp [World.frozen?, hjb.2.2]
        clear hWb
        replace hjb := hide hjb; replace hj := hide hj; replace hla := hide hla; replace hWo := hide hWo
        gi_wp2
        have hr := heap_set (off := 0) (unhide hjb).2.2 (Value.int .i64 ((pre.length : Int) + 1))
        obtain ⟨W5, hW5⟩ : ∃ W5, Wb.setCell ⟨b3, 0, none⟩ (.int .i64 ((pre.length : Int) + 1)) = W5 := ⟨_, rfl⟩
        have hk5 : KeepsOthers Wb W5 := by rw [← hW5]; exact KeepsOthers.setCell _ _ _
        have hb5 : Below B w W5 := by rw [← hW5]; exact (unhide hjb).1.setCell (p := ⟨b3, 0, none⟩) (unhide hjb).2.1 _
        rw [hW5] at hr ⊢
        have h5 := hk5.same (D + 1) o (unhide hWo) ho
        refine ⟨hk5, fun o3 => ⟨below_puts hb5 (by have := unhide hB; omega), (unhide hjb).2.1, put_row h5 ho ?_⟩⟩
        rw [hr, List.length_append]
        rfl
    refine it.mono ?_
    rintro e W' ⟨hv, q1, q2⟩
    exact ⟨hv, q2, q1⟩
  case done =>
    rintro W' oL ⟨j1, j2, j3⟩ hdef hsz ⟨o', ho'⟩
    have hb4 := below_puts (o := .loop oL) j1 (l := w'.heap.size + 1) (by omega)
    have hdd := (World.putObj_heap_other (o := .loop oL) (by omega : w'.heap.size ≠ w'.heap.size + 1)).trans hdef
    have h4 := put_row (o' := .loop oL) ho' rfl j3
    obtain ⟨W3, hW3⟩ : ∃ W3, W'.putObj (w'.heap.size + 1) (.loop oL) = W3 := ⟨_, rfl⟩
    rw [hW3] at hb4 hdd h4 ⊢
    have d1 : W3.cell? ⟨b3, 0, none⟩ = some (.int .i64 (o.flatten.length : Int)) := (cell_of_row _ _ 0 _ _ _ h4).trans rfl
    clear hW3 j3 h4 hj0 hxb
    replace hb4 := hide hb4; replace hdd := hide hdd
    gi_wp2
    refine ⟨by simp, .inl ⟨_, _, rfl, run_takeDeferred (unhide hdd), ?_⟩⟩
    refine ⟨_, results_tmp rfl _ _ _, ?_, below_puts (unhide hb4) hBw⟩
    simp only [countS, List.length_flatten]
    rfl
end
end Go.Proofs.Ytbodidhggdggmaa
