/- Drawn regions 'a, ok := f(..)': the allocation and the store of a may come before or after the second result is taken. -/
import Derived.Test.YtfegkaflemcanaaTail
import Derived.Test.YtfegkaflemcanaaSt
namespace Go.Proofs.Ytfegkaflemcanaa
open Go.RowKit

def FaC (W : World) (T : TypeId) (x y : Value) (ia is : Nat) (L : Nat → Bool) (vs : Nat → Value) (w : World) : Prop :=
  Below W.heap.size W w ∧ (L ia = false → vs ia = undef) ∧ (L is = true → L ia = true ∧ ∃ b, vs ia = .pointer (some ⟨b, 0, none⟩) ∧ W.heap.size ≤ b ∧ w.heap[b]? = some (.cells #[x, y] T (0, 0)))
def FaR (W : World) (T : TypeId) (w w' : World) : Prop := ∀ b, W.heap.size ≤ b → (∃ x y, w.heap[b]? = some (.cells #[x, y] T (0, 0))) → ∃ x y, w'.heap[b]? = some (.cells #[x, y] T (0, 0))
def FaP (W : World) (T : TypeId) (v : Value) (w : World) : Prop := ∃ b, v = .pointer (some ⟨b, 0, none⟩) ∧ W.heap.size ≤ b ∧ ∃ x y, w.heap[b]? = some (.cells #[x, y] T (0, 0))

section
variable {W w w' : World} {T : TypeId} {x y : Value} {ia is : Nat} {L : Nat → Bool} {vs : Nat → Value}
theorem FaC.start (_ : is ≠ ia) : FaC W T x y ia is (fun _ => false) (fun _ => undef) { W with drawn := W.drawn + 1 } :=
  ⟨⟨rfl, rfl, rfl, Nat.le_refl _, fun _ _ => rfl⟩, fun _ => rfl, fun h => by cases h⟩
theorem FaR.of_below (hb : Below w.heap.size w w') : FaR W T w w' := fun b _ ⟨x, y, h⟩ => ⟨x, y, (hb.block b (Array.getElem?_eq_some_iff.1 h).1).trans h⟩
theorem FaC.keep (h : FaC W T x y ia is L vs w) (hb : Below w.heap.size w w') (i : Nat) (v : Value) (h1 : i ≠ ia) (h2 : i ≠ is) : FaC W T x y ia is (fun j => L j || j == i) (fun j => if j = i then v else vs j) w' := by
  obtain ⟨a, b, c⟩ := h
  have e1 : (ia == i) = false := by simpa using Ne.symm h1
  have e2 : (is == i) = false := by simpa using Ne.symm h2
  refine ⟨a.trans (hb.mono a.size), fun hl => ?_, fun hl => ?_⟩
  · simp only [e1, Bool.or_false] at hl
    show (if ia = i then v else vs ia) = undef
    rw [if_neg (Ne.symm h1)]
    exact b hl
  · simp only [e2, Bool.or_false] at hl
    obtain ⟨c1, g, c2, c3, c4⟩ := c hl
    refine ⟨by simp [c1], g, ?_, c3, (hb.block g (Array.getElem?_eq_some_iff.1 c4).1).trans c4⟩
    show (if ia = i then v else vs ia) = _
    rw [if_neg (Ne.symm h1)]
    exact c2
theorem FaC.alloc (h : FaC W T x y ia is L vs w) (hL : L ia = false) (hne : is ≠ ia) (o : Obj) : FaC W T x y ia is (fun j => L j || j == ia) (fun j => if j = ia then .pointer (some ⟨w.heap.size, 0, none⟩) else vs j) (w.alloc o) := by
  obtain ⟨a, b, c⟩ := h
  refine ⟨a.alloc a.size _, fun hl => by simp at hl, fun hl => ?_⟩
  have e2 : (is == ia) = false := by simpa using hne
  simp only [e2, Bool.or_false] at hl
  have := (c hl).1
  rw [hL] at this
  cases this
theorem FaR.alloc (o : Obj) : FaR W T w (w.alloc o) := FaR.of_below ((Below.refl _ _).alloc (Nat.le_refl _) _)
theorem FaP.alloc (hw : W.heap.size ≤ w.heap.size) (x y : Value) : FaP W T (.pointer (some ⟨w.heap.size, 0, none⟩)) (w.alloc (.cells #[x, y] T)) := ⟨_, rfl, hw, x, y, heap_alloc_new _ _⟩
theorem FaP.keep {v : Value} (h : FaP W T v w) (hr : FaR W T w w') : FaP W T v w' := by
  obtain ⟨b, h1, h2, h3⟩ := h
  exact ⟨b, h1, h2, hr b h2 h3⟩
theorem FaR.set (b : Nat) (u v : Value) : FaR W T w ((w.setCell ⟨b, 0, none⟩ u).setCell ⟨b, 1, none⟩ v) := by
  intro c _ ⟨x, y, h⟩
  by_cases hbc : b = c
  · subst hbc
    exact ⟨u, v, by simp [World.setCell, Array.getElem?_modify, h]⟩
  · exact ⟨x, y, by simp only [World.setCell, Array.getElem?_modify]; rw [if_neg hbc, if_neg hbc]; exact h⟩
theorem FaC.store (h : FaC W T x y ia is L vs w) {b : Nat} (hv : vs ia = .pointer (some ⟨b, 0, none⟩)) (hb : W.heap.size ≤ b) {p q : Value} (hc : w.heap[b]? = some (.cells #[p, q] T (0, 0))) (hne : is ≠ ia) (v : Value) :
    FaC W T x y ia is (fun j => L j || j == is) (fun j => if j = is then v else vs j) ((w.setCell ⟨b, 0, none⟩ x).setCell ⟨b, 1, none⟩ y) := by
  obtain ⟨a, h2, c⟩ := h
  have hl : L ia = true := by
    cases hh : L ia
    · have := h2 hh
      rw [hv] at this
      cases this
    · rfl
  refine ⟨(a.setCell (p := ⟨b, 0, none⟩) hb x).setCell (p := ⟨b, 1, none⟩) hb y, fun hl' => by simp [hl] at hl', fun _ => ⟨by simp [hl], b, ?_, hb, ?_⟩⟩
  · show (if ia = is then v else vs ia) = _
    rw [if_neg (Ne.symm hne)]
    exact hv
  · simp [World.setCell, Array.getElem?_modify, hc]
theorem FaC.fin (h : FaC W T x y ia is L vs w) (hl : L is = true) : ∃ b, vs ia = .pointer (some ⟨b, 0, none⟩) ∧ W.heap.size ≤ b ∧ w.heap[b]? = some (.cells #[x, y] T (0, 0)) ∧ Below W.heap.size W w := by
  obtain ⟨a, _, c⟩ := h
  obtain ⟨_, b, c2, c3, c4⟩ := c hl
  exact ⟨b, c2, c3, c4, a⟩
end
end Go.Proofs.Ytfegkaflemcanaa
