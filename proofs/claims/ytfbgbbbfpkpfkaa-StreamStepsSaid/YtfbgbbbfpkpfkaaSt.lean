/- Bookkeeping of a walk: the blocks that it made, newest first, and that nothing older has turned. -/
import Derived.Test.YtfbgbbbfpkpfkaaPre
namespace Go.Proofs.Ytfbgbbbfpkpfkaa
open Go.RowKit

structure St (B : Nat) (w0 : World) (l : List (Nat × Obj)) (w : World) : Prop where
  le : B ≤ w0.heap.size
  below : Below B w0 w
  at_ : ∀ p ∈ l, w.heap[p.1]? = some p.2
  lo : ∀ p ∈ l, B ≤ p.1
  ord : l.Pairwise (fun p q => q.1 ≠ p.1)

theorem St.start (w : World) : St w.heap.size w [] w := ⟨Nat.le_refl _, Below.refl _ _, (by simp), (by simp), List.Pairwise.nil⟩
section
variable {B : Nat} {w0 w w' : World} {l : List (Nat × Obj)}
theorem St.size (h : St B w0 l w) : B ≤ w.heap.size := Nat.le_trans h.le h.below.size
theorem St.call (h : St B w0 l w) (hb : Below w.heap.size w w') : St B w0 l w' :=
  ⟨h.le, h.below.trans (hb.mono h.size), fun p hp => (hb.block p.1 (Array.getElem?_eq_some_iff.1 (h.at_ p hp)).1).trans (h.at_ p hp), h.lo, h.ord⟩
theorem St.drewN (h : St B w0 l w) (n : Nat) : St B w0 l (w.drewN n) := ⟨h.le, ⟨h.below.os, h.below.tape, h.below.output, h.below.size, h.below.block⟩, h.at_, h.lo, h.ord⟩
theorem St.drew (h : St B w0 l w) : St B w0 l w.drew := h.drewN 1
theorem St.alloc (h : St B w0 l w) (o : Obj) : St B w0 ((w.heap.size, o) :: l) (w.alloc o) := by
  have h1 := h.call ((Below.refl w.heap.size w).alloc (Nat.le_refl _) o)
  refine ⟨h.le, h1.below, fun p hp => ?_, fun p hp => ?_, List.Pairwise.cons (fun p hp => Nat.ne_of_lt (Array.getElem?_eq_some_iff.1 (h.at_ p hp)).1) h.ord⟩
  · rcases List.mem_cons.1 hp with rfl | hp
    · exact heap_alloc_new w o
    · exact h1.at_ p hp
  · rcases List.mem_cons.1 hp with rfl | hp
    · exact h.size
    · exact h.lo p hp
theorem St.lt (h : St B w0 l w) (i : Nat) {b : Nat} {o : Obj} (hi : l[i]? = some (b, o)) : b < w.heap.size := (Array.getElem?_eq_some_iff.1 (h.at_ (b, o) (List.mem_of_getElem? hi))).1
theorem St.all_lt (h : St B w0 l w) : ∀ p ∈ l, p.1 < w.heap.size := fun p hp => (Array.getElem?_eq_some_iff.1 (h.at_ p hp)).1
theorem St.add (h : St B w0 l w) {b : Nat} {o : Obj} (hb : B ≤ b) (hget : w.heap[b]? = some o) (hne : ∀ p ∈ l, p.1 ≠ b) : St B w0 ((b, o) :: l) w := by
  refine ⟨h.le, h.below, fun p hp => ?_, fun p hp => ?_, List.Pairwise.cons hne h.ord⟩
  · rcases List.mem_cons.1 hp with rfl | hp
    · exact hget
    · exact h.at_ p hp
  · rcases List.mem_cons.1 hp with rfl | hp
    · exact hb
    · exact h.lo p hp
/-- a new block, by a name -/
theorem St.new (h : St B w0 l w) (o : Obj) : ∃ b w', w.heap.size = b ∧ w.alloc o = w' ∧ St B w0 ((b, o) :: l) w' := ⟨_, _, rfl, rfl, h.alloc o⟩
theorem St.get (h : St B w0 l w) (i : Nat) {b : Nat} {o : Obj} (hi : l[i]? = some (b, o)) : w.heap[b]? = some o := h.at_ (b, o) (List.mem_of_getElem? hi)
theorem St.cell (h : St B w0 l w) (i : Nat) {b T : Nat} {cs : Array Value} (hi : l[i]? = some (b, .cells cs T (0, 0))) (j : Nat) {v : Value} (hj : cs[j]? = some v) : w.cell? ⟨b, j, none⟩ = some v := by
  rw [cell_of_row w b j cs T (0, 0) (h.get i hi)]; exact hj
theorem St.free (h : St B w0 l w) (i : Nat) {b T : Nat} {cs : Array Value} (hi : l[i]? = some (b, .cells cs T (0, 0))) (j : Nat) : w.frozen? ⟨b, j, none⟩ = false := by
  have := h.get i hi
  simp [World.frozen?, this]
theorem St.set (h : St B w0 l w) (i : Nat) {b T : Nat} {cs : Array Value} (hi : l[i]? = some (b, .cells cs T (0, 0))) (j : Nat) (v : Value) :
    St B w0 (l.set i (b, .cells (cs.setIfInBounds j v) T (0, 0))) (w.setCell ⟨b, j, none⟩ v) := by
  have hmem : ∀ p ∈ l.set i (b, Obj.cells (cs.setIfInBounds j v) T (0, 0)), (p = (b, Obj.cells (cs.setIfInBounds j v) T (0, 0))) ∨ (p ∈ l ∧ p.1 ≠ b) := by
    intro p hp
    obtain ⟨k, hk⟩ := List.mem_iff_getElem?.1 hp
    rw [List.getElem?_set] at hk
    obtain ⟨hil, hie⟩ := List.getElem?_eq_some_iff.1 hi
    by_cases hik : i = k
    · subst hik
      rw [if_pos rfl, if_pos hil] at hk
      injection hk with hk
      exact Or.inl hk.symm
    · rw [if_neg hik] at hk
      refine Or.inr ⟨List.mem_of_getElem? hk, fun he => ?_⟩
      obtain ⟨hkl, hke⟩ := List.getElem?_eq_some_iff.1 hk
      have ho := List.pairwise_iff_getElem.1 h.ord
      rcases Nat.lt_or_gt_of_ne hik with hlt | hlt
      · have := ho i k hil hkl hlt
        rw [hie, hke] at this
        exact this he
      · have := ho k i hkl hil hlt
        rw [hie, hke] at this
        exact this he.symm
  have hb := h.lo _ (List.mem_of_getElem? hi)
  refine ⟨h.le, h.below.setCell (p := ⟨b, j, none⟩) hb v, fun p hp => ?_, fun p hp => ?_, ?_⟩
  · rcases hmem p hp with rfl | ⟨h1, h2⟩
    · have := h.get i hi
      simp [World.setCell, Array.getElem?_modify, this]
    · have := h.at_ p h1
      simp only [World.setCell, Array.getElem?_modify]
      rw [if_neg (fun e => h2 e.symm)]
      exact this
  · rcases hmem p hp with rfl | ⟨h1, _⟩
    · exact hb
    · exact h.lo p h1
  · rw [List.pairwise_iff_getElem]
    intro x y hx hy hxy
    have ho := List.pairwise_iff_getElem.1 h.ord x y (by simpa using hx) (by simpa using hy) hxy
    obtain ⟨hil, hie⟩ := List.getElem?_eq_some_iff.1 hi
    have key : ∀ z (hz : z < l.length), ((l.set i (b, Obj.cells (cs.setIfInBounds j v) T (0, 0)))[z]'(by simpa using hz)).1 = (l[z]).1 := by
      intro z hz
      rw [List.getElem_set]
      by_cases hiz : i = z
      · subst hiz; rw [if_pos rfl, hie]
      · rw [if_neg hiz]
    rw [key, key]
    exact ho
theorem St.ext (h : St B w0 l w) (x : Ext w) : St B w0 l x.get := h.call x.le
theorem St.xcell (h : St B w0 l w) (i : Nat) {b T : Nat} {cs : Array Value} (hi : l[i]? = some (b, .cells cs T (0, 0))) (j : Nat) {v : Value} (hj : cs[j]? = some v) : ∀ x : Ext w, x.get.cell? ⟨b, j, none⟩ = some v :=
  fun x => x.cell (h.cell i hi j hj)
theorem set_same {b T j : Nat} {cs : Array Value} {fr : Nat × Nat} {v : Value} (h : w.heap[b]? = some (.cells cs T fr)) (hj : cs[j]? = some v) : w.setCell ⟨b, j, none⟩ v = w := by
  have hc : cs.setIfInBounds j v = cs := by
    apply Array.ext_getElem?
    intro k
    rw [Array.getElem?_setIfInBounds]
    by_cases hk : j = k
    · subst hk
      obtain ⟨h1, h2⟩ := Array.getElem?_eq_some_iff.1 hj
      rw [if_pos rfl, if_pos h1, hj]
    · rw [if_neg hk]
  have e : (w.setCell ⟨b, j, none⟩ v).heap = w.heap := by
    apply Array.ext_getElem?
    intro i
    simp only [World.setCell, Array.getElem?_modify]
    by_cases hi : b = i
    · subst hi
      rw [if_pos rfl, h]
      simp [hc]
    · rw [if_neg hi]
  have : w.setCell ⟨b, j, none⟩ v = { w with heap := (w.setCell ⟨b, j, none⟩ v).heap } := rfl
  rw [this, e]
theorem St.drop (h : St B w0 l w) (n : Nat) : St B w0 (l.drop n) w := ⟨h.le, h.below, fun p hp => h.at_ p (List.mem_of_mem_drop hp), fun p hp => h.lo p (List.mem_of_mem_drop hp), h.ord.drop⟩
end
theorem St.sub {B : Nat} {w0 w : World} {l : List (Nat × Obj)} (h : St B w0 l w) (l' : List (Nat × Obj)) (hsub : ∀ p ∈ l', p ∈ l) (hne : l'.Pairwise (fun p q => q.1 ≠ p.1)) : St B w0 l' w :=
  ⟨h.le, h.below, fun p hp => h.at_ p (hsub p hp), fun p hp => h.lo p (hsub p hp), hne⟩
theorem St.new1 (w : World) (o1 : Obj) : ∃ x1 v, w.heap.size = x1 ∧ w.alloc o1 = v ∧ St w.heap.size w [(x1, o1)] v := ⟨_, _, rfl, rfl, (St.start w).alloc o1⟩
theorem St.new2 (w : World) (o1 o2 : Obj) : ∃ x1 x2 v, w.heap.size = x1 ∧ w.heap.size + 1 = x2 ∧ (w.alloc o1).alloc o2 = v ∧ St w.heap.size w [(x2, o2), (x1, o1)] v :=
  ⟨_, _, _, rfl, rfl, rfl, by have := ((St.start w).alloc o1).alloc o2; simpa using this⟩
theorem St.new3 (w : World) (o1 o2 o3 : Obj) : ∃ x1 x2 x3 v, w.heap.size = x1 ∧ w.heap.size + 1 = x2 ∧ w.heap.size + 1 + 1 = x3 ∧ ((w.alloc o1).alloc o2).alloc o3 = v ∧ St w.heap.size w [(x3, o3), (x2, o2), (x1, o1)] v :=
  ⟨_, _, _, _, rfl, rfl, rfl, rfl, by have := (((St.start w).alloc o1).alloc o2).alloc o3; simpa using this⟩
end Go.Proofs.Ytfbgbbbfpkpfkaa
