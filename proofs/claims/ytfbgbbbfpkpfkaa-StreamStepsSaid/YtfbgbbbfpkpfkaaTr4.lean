/- Streams: regions in which a slice is appended to; the state between an append and its store. -/
import Derived.Test.YtfbgbbbfpkpfkaaTr3
import Derived.Test.YtfbgbbbfpkpfkaaFrontG
namespace Go.Proofs.Ytfbgbbbfpkpfkaa
open Go.RowKit
/-- the worlds of a region whose operation s turns the world; the operations bs run ahead of it, and of each pair in cs the second ahead of the first -/
structure CA (s : Nat) (bs : List Nat) (cs : List (Nat × Nat)) (P0 : World → Prop) (P1 : Value → World → Prop) (LL : Nat → Bool) (vs : Nat → Value) (w' : World) : Prop where
  un : ∀ j, LL j = false → vs j = undef
  b1 : LL s = true → ∀ j ∈ bs, LL j = true
  b2 : ∀ p ∈ cs, LL p.1 = true → LL p.2 = true
  pre : LL s = false → P0 w'
  post : LL s = true → P1 (vs s) w'
section
variable {s : Nat} {bs : List Nat} {cs : List (Nat × Nat)} {P0 : World → Prop} {P1 : Value → World → Prop} {LL : Nat → Bool} {vs : Nat → Value} {w w2 : World}
theorem CA.start (s : Nat) (bs : List Nat) (cs : List (Nat × Nat)) (P1 : Value → World → Prop) (h : P0 { w with drawn := w.drawn + 1 }) : CA s bs cs P0 P1 (fun _ => false) (fun _ => undef) { w with drawn := w.drawn + 1 } :=
  ⟨fun _ _ => rfl, fun e => Bool.noConfusion e, fun _ _ e => Bool.noConfusion e, fun _ => h, fun e => Bool.noConfusion e⟩
theorem CA.undo (h : CA s bs cs P0 P1 LL vs w) (i : Nat) (v : Value) : ∀ j, (LL j || j == i) = false → (if j = i then v else vs j) = undef := fun j hj => by
  rw [Bool.or_eq_false_iff] at hj
  rw [if_neg (by simpa using hj.2)]
  exact h.un j hj.1
theorem CA.two (h : CA s bs cs P0 P1 LL vs w) (i : Nat) (hc : ∀ p ∈ cs, p.1 = i → LL p.2 = true) : ∀ p ∈ cs, (LL p.1 || p.1 == i) = true → (LL p.2 || p.2 == i) = true := fun p hp e => by
  rcases Bool.or_eq_true_iff.1 e with e | e
  · rw [h.b2 p hp e, Bool.true_or]
  · rw [hc p hp (by simpa using e), Bool.true_or]
theorem CA.keep (h : CA s bs cs P0 P1 LL vs w) (i : Nat) (v : Value) (hi : s ≠ i) (hc : ∀ p ∈ cs, p.1 = i → LL p.2 = true) : CA s bs cs P0 P1 (fun j => LL j || j == i) (fun j => if j = i then v else vs j) w := by
  have hs : (LL s || s == i) = LL s := by rw [beq_eq_false_iff_ne.2 hi, Bool.or_false]
  refine ⟨h.undo i v, fun e j hj => ?_, h.two i hc, fun e => ?_, fun e => ?_⟩
  · rw [hs] at e
    rw [h.b1 e j hj, Bool.true_or]
  · rw [hs] at e
    exact h.pre e
  · rw [hs] at e
    rw [if_neg hi]
    exact h.post e
theorem CA.early (h : CA s bs cs P0 P1 LL vs w) {j : Nat} (hj : LL j = false) (hm : j ∈ bs ∨ ∃ p ∈ cs, p.2 = j ∧ p.1 ∈ bs) : LL s = false ∧ P0 w := by
  have hs : LL s = false := by
    cases e : LL s with
    | false => rfl
    | true =>
      rcases hm with hm | ⟨p, hp, rfl, hb⟩
      · have := h.b1 e j hm; rw [hj] at this; cases this
      · have := h.b2 p hp (h.b1 e p.1 hb); rw [hj] at this; cases this
  exact ⟨hs, h.pre hs⟩
theorem CA.call (h : CA s bs cs P0 P1 LL vs w) (i : Nat) (v : Value) (hs : LL s = false) (hne : s ≠ i) (hc : ∀ p ∈ cs, p.1 = i → LL p.2 = true) (hb : P0 w2) : CA s bs cs P0 P1 (fun j => LL j || j == i) (fun j => if j = i then v else vs j) w2 := by
  have hs2 : (LL s || s == i) = false := by rw [hs, beq_eq_false_iff_ne.2 hne]; rfl
  exact ⟨h.undo i v, fun e => by (rw [hs2] at e; cases e), h.two i hc, fun _ => hb, fun e => by (rw [hs2] at e; cases e)⟩
theorem CA.ran (h : CA s bs cs P0 P1 LL vs w) {j : Nat} (hj : vs j ≠ undef) : LL j = true := by
  cases e : LL j with
  | true => rfl
  | false => exact absurd (h.un j e) hj
theorem CA.run (h : CA s bs cs P0 P1 LL vs w) (v : Value) (hv : ∀ j ∈ bs, vs j ≠ undef) (hc : ∀ p ∈ cs, p.1 = s → LL p.2 = true) (hp : P1 v w2) : CA s bs cs P0 P1 (fun j => LL j || j == s) (fun j => if j = s then v else vs j) w2 := by
  refine ⟨h.undo s v, fun _ j hj => by rw [h.ran (hv j hj), Bool.true_or], h.two s hc, fun e => ?_, fun _ => ?_⟩
  · simp at e
  · rw [if_pos rfl]
    exact hp
end
theorem kept' {w w' : World} {b : Nat} {o : Obj} (hb : Below w.heap.size w w') (h : w.heap[b]? = some o) : w'.heap[b]? = some o := (hb.block b (Array.getElem?_eq_some_iff.1 h).1).trans h
theorem slice_def (a : Option Addr) (n c : Nat) : Value.slice a n c ≠ undef := fun e => by cases e
theorem ptr_def (a : Option Addr) : Value.pointer a ≠ undef := fun e => by cases e
theorem int_def (k : IntKind) (n : Int) : Value.int k n ≠ undef := fun e => by cases e
section
variable {Q : Nat → Prop} {bs bo : Nat} {w w' w1 : World} {vs : List Value} {vo : Value} {sts : List Stg} {out : List Int}
/-- the row's cells between an append and its store -/
theorem FlowI.mid (h : FlowI Q bs bo w vs vo sts out) {i : Nat} {v : Value} (hv : vs[i]? = some v) (hg : w.grownBy w1 v.ownBlock) : w1.cell? ⟨bs, i, none⟩ = some v ∧ w1.frozen? ⟨bs, i, none⟩ = false := by
  obtain ⟨n1, _⟩ := h.ne_row (i := i + 1) (v := v) (by simpa using hv)
  have hrow : w1.heap[bs]? = some (.cells vs.toArray 33 (0, 0)) := (hg.block bs (Array.getElem?_eq_some_iff.1 h.row).1 (fun e => n1 e.symm)).trans h.row
  refine ⟨?_, by simp [World.frozen?, hrow]⟩
  rw [cell_of_row w1 bs _ _ _ _ hrow]
  simpa using hv
theorem FlowI.mido (h : FlowI Q bs bo w vs vo sts out) (hg : w.grownBy w1 vo.ownBlock) : w1.cell? ⟨bo, 0, none⟩ = some vo ∧ w1.frozen? ⟨bo, 0, none⟩ = false := by
  obtain ⟨_, n2⟩ := h.ne_row (i := 0) (v := vo) rfl
  have hrow : w1.heap[bo]? = some (.cells #[vo] 22 (0, 0)) := (hg.block bo (Array.getElem?_eq_some_iff.1 h.box).1 (fun e => n2 e.symm)).trans h.box
  refine ⟨?_, by simp [World.frozen?, hrow]⟩
  rw [cell_of_row w1 bo _ _ _ _ hrow]
  rfl
end
theorem decN_bd (x : List Sub) (s : Stg) (h : 1 ≤ s.2.length) : 1 ≤ decN x s ∧ decN x s ≤ s.2.length := ⟨decN_pos x s, decN_le x s h⟩
theorem decO_i64 {x : List Sub} {s : Stg} (hx : ToI x) (h : AllI s.2) : I64 (decO x s) := by
  unfold decO
  split
  · exact toS_i64 hx _
  · exact getD_i64 h 0
theorem decS_i64 {x : List Sub} {s : Stg} (h1 : AllI s.1) (h2 : AllI s.2) : AllI (decS x s).1 ∧ AllI (decS x s).2 := by
  constructor
  · intro y hy
    have := List.mem_of_mem_drop hy
    rcases List.mem_append.1 this with h | h
    · exact h1 y h
    · exact h2 y (List.mem_of_mem_take h)
  · intro y hy
    exact h2 y (List.mem_of_mem_drop hy)
end Go.Proofs.Ytfbgbbbfpkpfkaa
