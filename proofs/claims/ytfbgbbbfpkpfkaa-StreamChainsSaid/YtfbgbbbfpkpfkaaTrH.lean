/- StreamChains: the worlds of its last region. -/
import Derived.Test.YtfbgbbbfpkpfkaaTrF
import Derived.Test.YtfbgbbbfpkpfkaaTrA
namespace Go.Proofs.Ytfbgbbbfpkpfkaa
open Go.RowKit
/-- five operations run one after the other; between them only reads -/
structure CH (P : Nat → Value → Value → Value → Value → World → Prop) (LL : Nat → Bool) (vs : Nat → Value) (w' : World) : Prop where
  un : ∀ j, LL j = false → vs j = undef
  st : ∃ k, (LL 5 = decide (0 < k) ∧ LL 6 = decide (1 < k) ∧ LL 10 = decide (2 < k) ∧ LL 11 = decide (3 < k) ∧ LL 12 = decide (4 < k)) ∧ P k (vs 5) (vs 6) (vs 10) (vs 11) w'
section
variable {P : Nat → Value → Value → Value → Value → World → Prop} {LL : Nat → Bool} {vs : Nat → Value} {w w2 : World}
theorem CH.start (h : P 0 undef undef undef undef { w with drawn := w.drawn + 1 }) : CH P (fun _ => false) (fun _ => undef) { w with drawn := w.drawn + 1 } :=
  ⟨fun _ _ => rfl, 0, ⟨rfl, rfl, rfl, rfl, rfl⟩, h⟩
theorem CH.undo (h : CH P LL vs w) (i : Nat) (v : Value) : ∀ j, (LL j || j == i) = false → (if j = i then v else vs j) = undef := fun j hj => by
  rw [Bool.or_eq_false_iff] at hj
  rw [if_neg (by simpa using hj.2)]
  exact h.un j hj.1
theorem CH.ran (h : CH P LL vs w) {j : Nat} (hj : vs j ≠ undef) : LL j = true := by
  cases e : LL j with
  | true => rfl
  | false => exact absurd (h.un j e) hj
theorem CH.keep (h : CH P LL vs w) (i : Nat) (v : Value) (hi : 5 ≠ i ∧ 6 ≠ i ∧ 10 ≠ i ∧ 11 ≠ i ∧ 12 ≠ i) : CH P (fun j => LL j || j == i) (fun j => if j = i then v else vs j) w := by
  obtain ⟨k, hk, hp⟩ := h.st
  have e : ∀ j, j ≠ i → (LL j || j == i) = LL j := fun j hj => by rw [beq_eq_false_iff_ne.2 hj, Bool.or_false]
  refine ⟨h.undo i v, k, ⟨(e _ hi.1).trans hk.1, (e _ hi.2.1).trans hk.2.1, (e _ hi.2.2.1).trans hk.2.2.1, (e _ hi.2.2.2.1).trans hk.2.2.2.1, (e _ hi.2.2.2.2).trans hk.2.2.2.2⟩, ?_⟩
  rw [if_neg hi.1, if_neg hi.2.1, if_neg hi.2.2.1, if_neg hi.2.2.2.1]
  exact hp
theorem CH.at0 (h : CH P LL vs w) (h0 : LL 5 = false) : P 0 (vs 5) (vs 6) (vs 10) (vs 11) w := by
  obtain ⟨k, hk, hp⟩ := h.st
  simp only [h0] at hk
  have : k = 0 := by simp at hk; omega
  subst this; exact hp
theorem CH.at1 (h : CH P LL vs w) (h5 : LL 5 = true) (h6 : LL 6 = false) : P 1 (vs 5) (vs 6) (vs 10) (vs 11) w := by
  obtain ⟨k, hk, hp⟩ := h.st
  simp only [h5, h6] at hk
  have : k = 1 := by simp at hk; omega
  subst this; exact hp
theorem CH.at2 (h : CH P LL vs w) (h5 : LL 6 = true) (h6 : LL 10 = false) : P 2 (vs 5) (vs 6) (vs 10) (vs 11) w := by
  obtain ⟨k, hk, hp⟩ := h.st
  simp only [h5, h6] at hk
  have : k = 2 := by simp at hk; omega
  subst this; exact hp
theorem CH.at3 (h : CH P LL vs w) (h5 : LL 10 = true) (h6 : LL 11 = false) : P 3 (vs 5) (vs 6) (vs 10) (vs 11) w := by
  obtain ⟨k, hk, hp⟩ := h.st
  simp only [h5, h6] at hk
  have : k = 3 := by simp at hk; omega
  subst this; exact hp
theorem CH.at4 (h : CH P LL vs w) (h5 : LL 11 = true) (h6 : LL 12 = false) : P 4 (vs 5) (vs 6) (vs 10) (vs 11) w := by
  obtain ⟨k, hk, hp⟩ := h.st
  simp only [h5, h6] at hk
  have : k = 4 := by simp at hk; omega
  subst this; exact hp
theorem CH.run0 (h : CH P LL vs w) (h0 : LL 5 = false) (v : Value) (hp : P 1 v (vs 6) (vs 10) (vs 11) w2) : CH P (fun j => LL j || j == 5) (fun j => if j = 5 then v else vs j) w2 := by
  obtain ⟨k, hk, _⟩ := h.st
  have hk0 : k = 0 := by simp only [h0] at hk; simp at hk; omega
  subst hk0
  exact ⟨h.undo 5 v, 1, by simp [hk], by simpa using hp⟩
theorem CH.run1 (h : CH P LL vs w) (h5 : LL 5 = true) (h6 : LL 6 = false) (v : Value) (hp : P 2 (vs 5) v (vs 10) (vs 11) w2) : CH P (fun j => LL j || j == 6) (fun j => if j = 6 then v else vs j) w2 := by
  obtain ⟨k, hk, _⟩ := h.st
  have hk0 : k = 1 := by simp only [h5, h6] at hk; simp at hk; omega
  subst hk0
  exact ⟨h.undo 6 v, 2, by simp [hk], by simpa using hp⟩
theorem CH.run2 (h : CH P LL vs w) (h5 : LL 6 = true) (h6 : LL 10 = false) (v : Value) (hp : P 3 (vs 5) (vs 6) v (vs 11) w2) : CH P (fun j => LL j || j == 10) (fun j => if j = 10 then v else vs j) w2 := by
  obtain ⟨k, hk, _⟩ := h.st
  have hk0 : k = 2 := by simp only [h5, h6] at hk; simp at hk; omega
  subst hk0
  exact ⟨h.undo 10 v, 3, by simp [hk], by simpa using hp⟩
theorem CH.run3 (h : CH P LL vs w) (h5 : LL 10 = true) (h6 : LL 11 = false) (v : Value) (hp : P 4 (vs 5) (vs 6) (vs 10) v w2) : CH P (fun j => LL j || j == 11) (fun j => if j = 11 then v else vs j) w2 := by
  obtain ⟨k, hk, _⟩ := h.st
  have hk0 : k = 3 := by simp only [h5, h6] at hk; simp at hk; omega
  subst hk0
  exact ⟨h.undo 11 v, 4, by simp [hk], by simpa using hp⟩
theorem CH.run4 (h : CH P LL vs w) (h5 : LL 11 = true) (h6 : LL 12 = false) (v : Value) (hp : P 5 (vs 5) (vs 6) (vs 10) (vs 11) w2) : CH P (fun j => LL j || j == 12) (fun j => if j = 12 then v else vs j) w2 := by
  obtain ⟨k, hk, _⟩ := h.st
  have hk0 : k = 4 := by simp only [h5, h6] at hk; simp at hk; omega
  subst hk0
  exact ⟨h.undo 12 v, 5, by simp [hk], by simpa using hp⟩
end
def IsSl (n : Nat) (v : Value) : Prop := ∃ a c, v = .slice a n c
theorem IsSl.def {n : Nat} {v : Value} (h : IsSl n v) : v ≠ undef := by obtain ⟨a, c, rfl⟩ := h; exact slice_def _ _ _
def IsLi (n : Nat) (l : List Int) (v : Value) (w : World) : Prop := ∃ a c, v = .slice a n c ∧ Lst Enc.int w (fun b => b < w.heap.size) a n l
/-- what stands at each of the five steps -/
def PC (V : World) (B1 B3 b11 b15 : Nat) (fv iv q : Value) (qn n1 n2 an : Nat) (Q E1 E2 A : List Int) (ma : Option Addr) (mn : Nat) (m : List (List Sub)) (ia : Option Addr) (IS : List Stg) (k : Nat) (v5 v6 v10 v11 : Value) (w' : World) : Prop :=
  (w'.heap[b11]? = some (.cells #[fv] 29 (0, 0)) ∧ w'.heap[b15]? = some (.cells #[iv] 29 (0, 0))) ∧ Below B1 V w' ∧
  match k with
  | 0 => Below V.heap.size V w'
  | 1 => Below V.heap.size V w' ∧ IsLi n1 E1 v5 w'
  | 2 => w'.ownsRow B1 3 1 v6 an (vints A) ∧ w'.ownsRow B3 3 1 q qn (vints Q) ∧ (∀ b, v6.ownBlock = some b → q.ownBlock = some b → False) ∧ Lst Enc.lk w' (fun b => b < w'.heap.size) ma mn m ∧ Lst Enc.stg w' (fun b => b < w'.heap.size) ia mn IS
  | 3 => w'.ownsRow B1 3 1 v6 an (vints A) ∧ w'.ownsRow B3 3 1 q qn (vints Q) ∧ (∀ b, v6.ownBlock = some b → q.ownBlock = some b → False) ∧ IsLi n2 E2 v10 w'
  | 4 => w'.ownsRow B1 3 1 v6 an (vints A) ∧ w'.ownsRow B3 3 1 v11 an (vints A)
  | _ => True
theorem lst_two {α : Type} {E : Enc α} {V w w2 : World} {S : Nat → Prop} {a : Option Addr} {n : Nat} {l : List α} {row : Option Nat} (h : Lst E V S a n l) (hS : ∀ b, S b → b < V.heap.size ∧ row ≠ some b) (hb : Below V.heap.size V w) (hg : w.grownBy w2 row) : Lst E w2 (fun b => b < w2.heap.size) a n l :=
  (Lst.same (w' := w2) (fun b hs => (hg.block b (Nat.lt_of_lt_of_le (hS b hs).1 hb.size) (fun e => (hS b hs).2 e.symm)).trans (hb.block b (hS b hs).1)) h).wide (fun b hs => Nat.lt_of_lt_of_le (Nat.lt_of_lt_of_le (hS b hs).1 hb.size) hg.size)
theorem own_far {w : World} {B T s n : Nat} {v : Value} {xs : List Value} {row : Option Nat} (h : w.ownsRow B T s v n xs) (hr : ∀ b, row = some b → b < B) : v.ownBlock = none ∨ v.ownBlock ≠ row := by
  cases hv : v.ownBlock with
  | none => exact .inl rfl
  | some b => exact .inr fun e => by have := hr b e.symm; have := (h.lt b hv).1; omega
theorem own_apart {v q : Value} (h : ∀ b, v.ownBlock = some b → q.ownBlock = some b → False) : v.ownBlock = none ∨ v.ownBlock ≠ q.ownBlock := by
  cases hv : v.ownBlock with
  | none => exact .inl rfl
  | some b => exact .inr fun e => h b hv e.symm
theorem blk_grown {w w2 : World} {B T s n : Nat} {v : Value} {xs : List Value} {b : Nat} {cs : Array Value} {T' : TypeId} (h : w.ownsRow B T s v n xs) (hb : w.heap[b]? = some (.cells cs T' (0, 0))) (hne : T ≠ T') (hg : w.grownBy w2 v.ownBlock) : w2.heap[b]? = some (.cells cs T' (0, 0)) :=
  (hg.block b (Array.getElem?_eq_some_iff.1 hb).1 (fun e => own_ne_blk h hb hne e.symm)).trans hb
end Go.Proofs.Ytfbgbbbfpkpfkaa
