/- The program's Scale and Shift. -/
import Derived.Test.YtbodidhggdggmaaOlP
import Derived.Test.YtbodidhggdggmaaOlC
namespace Go.Proofs.Ytbodidhggdggmaa
open Go.RowKit
def scP (m : Int) (p : Pt) : Pt := (wrap64 (p.1 * m), wrap64 (p.2.1 * m), p.2.2)
def shP (x y : Int) (p : Pt) : Pt := (wrap64 (p.1 + x), wrap64 (p.2.1 + y), p.2.2)
theorem imgO_map (f : Pt → Pt) (o : Ot) : ∀ n, imgO (fun _ => f) n o = o.map (List.map f) := by
  induction o with
  | nil => intro n; rfl
  | cons c o ih =>
    intro n
    rw [imgO, ih, List.map_cons]
    congr 1
    unfold rowN
    exact List.ext_getElem? fun i => by simp
theorem wrap_i64 (x : Int) : I64 (wrap64 x) := by obtain ⟨k, _, h1, h2⟩ := wrap_spec x; exact ⟨h1, h2⟩
set_option maxHeartbeats 1000000 in
theorem scale_any (a : Option Addr) (n c : Nat) (o : Ot) (m : Int) (w : World) (hl : Lst Enc.ct w (· < w.heap.size) a n o) (hs : Sml o) :
    Calls Try.prog 28 #[.slice a n c, .int .i64 m] w fun e w' => ∃ v, e = .returned v ∧ OO w' w.heap.size v (o.map (List.map (scP m))) ∧ Below w.heap.size w w' := by
  obtain ⟨bx, hbx⟩ : ∃ b, w.heap.size = b := ⟨_, rfl⟩
  obtain ⟨V1, hV1⟩ : ∃ V, w.alloc (Obj.cells #[.int .i64 m] 3) = V := ⟨_, rfl⟩
  have hb1 : Below w.heap.size w V1 := by rw [← hV1]; exact (Below.refl _ _).alloc (Nat.le_refl _) _
  have c0 : V1.cell? ⟨bx, 0, none⟩ = some (.int .i64 m) := by rw [← hV1, ← hbx]; exact (cell_of_row _ _ 0 _ _ _ (heap_alloc_new w _)).trans rfl
  have hc := changed_scale a n c o bx (fun _ => scP m) V1 (hl.under hb1) hs (fun k p => ⟨wrap_i64 _, wrap_i64 _⟩) (fun k p w1 hb _ => scale1_any (k : Int) p.1 p.2.1 p.2.2 bx m w1 (cell_under c0 hb))
  rw [imgO_map] at hc
  clear hl hs c0
  replace hc := hide hc; replace hb1 := hide hb1
  go_enter Try.func28, Try.ntmps28
  go_wp2_with fail
  refine (unhide hc).mono ?_
  rintro e w2 ⟨v, rfl, hoo, hb2⟩
  clear hc hV1 hbx
  have hz := hide ((unhide hb1).trans (hb2.mono (unhide hb1).size))
  replace hoo := hide (hoo.mono (unhide hb1).size)
  clear hb1 hb2
  go_wp2_with fail
  go_ret
  exact ⟨_, rfl, unhide hoo, unhide hz⟩
set_option maxHeartbeats 1000000 in
theorem shift_any (a : Option Addr) (n c : Nat) (o : Ot) (x y : Int) (w : World) (hl : Lst Enc.ct w (· < w.heap.size) a n o) (hs : Sml o) :
    Calls Try.prog 30 #[.slice a n c, .int .i64 x, .int .i64 y] w fun e w' => ∃ v, e = .returned v ∧ OO w' w.heap.size v (o.map (List.map (shP x y))) ∧ Below w.heap.size w w' := by
  obtain ⟨bx, hbx⟩ : ∃ b, w.heap.size = b := ⟨_, rfl⟩
  obtain ⟨V1, hV1⟩ : ∃ V, w.alloc (Obj.cells #[.int .i64 x] 3) = V := ⟨_, rfl⟩
  have hb1 : Below w.heap.size w V1 := by rw [← hV1]; exact (Below.refl _ _).alloc (Nat.le_refl _) _
  have c0 : V1.cell? ⟨bx, 0, none⟩ = some (.int .i64 x) := by rw [← hV1, ← hbx]; exact (cell_of_row _ _ 0 _ _ _ (heap_alloc_new w _)).trans rfl
  obtain ⟨by_, hby⟩ : ∃ b, V1.heap.size = b := ⟨_, rfl⟩
  obtain ⟨V2, hV2⟩ : ∃ V, V1.alloc (Obj.cells #[.int .i64 y] 3) = V := ⟨_, rfl⟩
  have hb2 : Below V1.heap.size V1 V2 := by rw [← hV2]; exact (Below.refl _ _).alloc (Nat.le_refl _) _
  have d0 : V2.cell? ⟨by_, 0, none⟩ = some (.int .i64 y) := by rw [← hV2, ← hby]; exact (cell_of_row _ _ 0 _ _ _ (heap_alloc_new V1 _)).trans rfl
  have e0 := cell_under c0 hb2
  have hb12 := hb1.trans (hb2.mono hb1.size)
  have hc := changed_shift a n c o bx by_ (fun _ => shP x y) V2 (hl.under hb12) hs (fun k p => ⟨wrap_i64 _, wrap_i64 _⟩) (fun k p w1 hb _ => shift1_any (k : Int) p.1 p.2.1 p.2.2 bx x by_ y w1 (cell_under e0 hb) (cell_under d0 hb))
  rw [imgO_map] at hc
  clear hl hs c0 d0 e0 hb1 hb2
  replace hc := hide hc; replace hb12 := hide hb12
  go_enter Try.func30, Try.ntmps30
  go_wp2_with fail
  refine (unhide hc).mono ?_
  rintro e w2 ⟨v, rfl, hoo, hb2⟩
  clear hc hV1 hbx hV2 hby
  have hz := hide ((unhide hb12).trans (hb2.mono (unhide hb12).size))
  replace hoo := hide (hoo.mono (unhide hb12).size)
  clear hb12 hb2
  go_wp2_with fail
  go_ret
  exact ⟨_, rfl, unhide hoo, unhide hz⟩
end Go.Proofs.Ytbodidhggdggmaa
