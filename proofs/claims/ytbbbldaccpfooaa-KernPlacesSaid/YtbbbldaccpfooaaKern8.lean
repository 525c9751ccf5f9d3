/- Helpers of the laws. -/
import Derived.Test.YtbbbldaccpfooaaKern7
import Derived.Test.YtbbbldaccpfooaaMade5
namespace Go.Proofs.Ytbbbldaccpfooaa
open Go.RowKit
theorem Enc.under {α : Type} {E : Enc α} {w w' : World} {cs : List Value} {y : α} (h : E.rep w (fun b => b < w.heap.size) cs y) (hb : Below w.heap.size w w') : E.rep w' (fun b => b < w'.heap.size) cs y :=
  E.wide (fun b (hlt : b < w.heap.size) => Nat.lt_of_lt_of_le hlt hb.size) (E.same (fun b (hlt : b < w.heap.size) => hb.block b hlt) h)
set_option maxRecDepth 100000 in
theorem types3 (h : 3 < Try.prog.types.size) : (Try.prog.types[3]'h).size = 1 := by
  obtain ⟨i3, hi3, _, his3, _⟩ := info_parts T.info3
  have h2 : Try.prog.types[3]? = some i3 := hi3
  obtain ⟨h3, h4⟩ := Array.getElem?_eq_some_iff.1 h2
  rw [h4, his3]
theorem row4 {w : World} {b T : Nat} {a0 a1 a2 a3 : Value} (h : w.heap[b]? = some (.cells #[a0, a1, a2, a3] T (0, 0))) :
    w.cell? ⟨b, 0, none⟩ = some a0 ∧ w.cell? ⟨b, 1, none⟩ = some a1 ∧ w.cell? ⟨b, 2, none⟩ = some a2 ∧ w.cell? ⟨b, 3, none⟩ = some a3 :=
  ⟨(cell_of_row _ _ 0 _ _ _ h).trans rfl, (cell_of_row _ _ 1 _ _ _ h).trans rfl, (cell_of_row _ _ 2 _ _ _ h).trans rfl, (cell_of_row _ _ 3 _ _ _ h).trans rfl⟩
end Go.Proofs.Ytbbbldaccpfooaa
