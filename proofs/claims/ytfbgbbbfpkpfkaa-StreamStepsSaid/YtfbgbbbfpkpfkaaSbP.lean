/- Lookups: what Apply computes, in plain Lean; two own rows of numbers. -/
import Derived.Test.YtfbgbbbfpkpfkaaSb9
namespace Go.Proofs.Ytfbgbbbfpkpfkaa
open Go.RowKit
def fromL (x : List Sub) (k : Int) : Nat := match x[k.toNat]? with
  | some s => s.2.1.length
  | none => 0
def toS (x : List Sub) (k : Int) : Int := match x[k.toNat]? with
  | some s => s.2.2.2
  | none => 0
def nextI (x : List Sub) (g : List Int) (i : Nat) : Nat := if 0 ≤ matchS x g i then i + fromL x (matchS x g i) else i + 1
def stepL (x : List Sub) (g : List Int) : Nat → Nat → List (Nat × Int)
  | 0, _ => []
  | f + 1, i => if i < g.length then (i, matchS x g i) :: stepL x g f (nextI x g i) else []
def stepsS (x : List Sub) (g : List Int) : List (Nat × Int) := stepL x g g.length 0
def outS (x : List Sub) (g : List Int) (L : List (Nat × Int)) : List Int := L.map fun q => if 0 ≤ q.2 then toS x q.2 else g.getD q.1 0
def fstS (first : List Int) (L : List (Nat × Int)) : List Int := L.map fun q => first.getD q.1 0
def apply1 (x : List Sub) (st : List Int × List Int) : List Int × List Int := (outS x st.1 (stepsS x st.1), fstS st.2 (stepsS x st.1))
def iota (n : Nat) : List Int := (List.range n).map fun i : Nat => (i : Int)
def applyS (l : List (List Sub)) (g : List Int) : List Int × List Int := l.foldl (fun st x => apply1 x st) (g, iota g.length)
theorem nextI_gt (x : List Sub) (g : List Int) (i : Nat) : i < nextI x g i := by
  unfold nextI
  rcases matchS_inv (x := x) (g := g) (i := (i : Int)) with h | ⟨k, s, h1, h2, h3, _⟩
  · rw [h]; simp
  · rw [h1, if_pos (by omega)]
    unfold fromL
    rw [Int.toNat_natCast, h2]
    have := ((subAt_iff s g i).1 h3).1
    show i < i + s.2.1.length
    omega
theorem nextI_le (x : List Sub) (g : List Int) (i : Nat) (hi : i < g.length) : nextI x g i ≤ g.length := by
  unfold nextI
  rcases matchS_inv (x := x) (g := g) (i := (i : Int)) with h | ⟨k, s, h1, h2, h3, _⟩
  · rw [h]; simp; omega
  · rw [h1, if_pos (by omega)]
    unfold fromL
    rw [Int.toNat_natCast, h2]
    have := ((subAt_iff s g i).1 h3).2.2.1
    show i + s.2.1.length ≤ g.length
    omega
theorem stepL_len (x : List Sub) (g : List Int) : ∀ f i, (stepL x g f i).length ≤ f := by
  intro f
  induction f with
  | zero => intro i; simp [stepL]
  | succ f ih =>
    intro i
    unfold stepL
    split
    · have := ih (nextI x g i)
      simp
      exact this
    · simp
theorem stepL_end (x : List Sub) (g : List Int) (f i : Nat) (h : g.length ≤ i) : stepL x g f i = [] := by
  cases f with
  | zero => rfl
  | succ f => unfold stepL; rw [if_neg (by omega)]
theorem outS_snoc (x : List Sub) (g : List Int) (L : List (Nat × Int)) (i : Nat) (m : Int) : outS x g (L ++ [(i, m)]) = outS x g L ++ [if 0 ≤ m then toS x m else g.getD i 0] := by unfold outS; simp
theorem fstS_snoc (fs : List Int) (L : List (Nat × Int)) (i : Nat) (m : Int) : fstS fs (L ++ [(i, m)]) = fstS fs L ++ [fs.getD i 0] := by unfold fstS; simp
theorem outS_len (x : List Sub) (g : List Int) (L : List (Nat × Int)) : (outS x g L).length = L.length := by unfold outS; simp
theorem fstS_len (fs : List Int) (L : List (Nat × Int)) : (fstS fs L).length = L.length := by unfold fstS; simp
theorem applyS_succ {l : List (List Sub)} {g : List Int} {k : Nat} {x : List Sub} (hx : l[k]? = some x) : applyS (l.take (k + 1)) g = apply1 x (applyS (l.take k) g) := by
  unfold applyS
  rw [← take_snoc hx, List.foldl_append]
  rfl
theorem applyS_app (l m : List (List Sub)) (g : List Int) : applyS (l ++ m) g = m.foldl (fun st x => apply1 x st) (applyS l g) := by
  unfold applyS
  rw [List.foldl_append]
theorem apply1_len (x : List Sub) (st : List Int × List Int) : (apply1 x st).1.length = (apply1 x st).2.length ∧ (apply1 x st).1.length ≤ st.1.length := by
  unfold apply1
  rw [outS_len, fstS_len]
  exact ⟨rfl, stepL_len _ _ _ _⟩
theorem foldl_len (l : List (List Sub)) : ∀ st : List Int × List Int, st.1.length = st.2.length → (l.foldl (fun st x => apply1 x st) st).1.length = (l.foldl (fun st x => apply1 x st) st).2.length ∧ (l.foldl (fun st x => apply1 x st) st).1.length ≤ st.1.length := by
  induction l with
  | nil => intro st h; exact ⟨h, Nat.le_refl _⟩
  | cons x l ih =>
    intro st _
    have h1 := apply1_len x st
    have h2 := ih (apply1 x st) h1.1
    exact ⟨h2.1, Nat.le_trans h2.2 h1.2⟩
theorem iota_len (n : Nat) : (iota n).length = n := by unfold iota; simp
theorem applyS_len (l : List (List Sub)) (g : List Int) : (applyS l g).1.length = (applyS l g).2.length ∧ (applyS l g).1.length ≤ g.length := foldl_len l (g, iota g.length) (iota_len _).symm
def AllI (l : List Int) : Prop := ∀ x ∈ l, I64 x
theorem getD_i64 {l : List Int} (h : AllI l) (k : Nat) : I64 (l.getD k 0) := by
  rw [List.getD_eq_getElem?_getD]
  cases hk : l[k]? with
  | none => exact ⟨by decide, by decide⟩
  | some x => exact h x (List.mem_of_getElem? hk)
def ToI (x : List Sub) : Prop := ∀ s ∈ x, I64 s.2.2.2
theorem toS_i64 {x : List Sub} (h : ToI x) (k : Int) : I64 (toS x k) := by
  unfold toS
  split
  · rename_i s hs
    exact h s (List.mem_of_getElem? hs)
  · exact ⟨by decide, by decide⟩
theorem apply1_i64 {x : List Sub} {st : List Int × List Int} (hx : ToI x) (h1 : AllI st.1) (h2 : AllI st.2) : AllI (apply1 x st).1 ∧ AllI (apply1 x st).2 := by
  constructor
  · intro y hy
    obtain ⟨q, _, rfl⟩ := List.mem_map.1 hy
    show I64 (if 0 ≤ q.2 then toS x q.2 else st.1.getD q.1 0)
    split
    · exact toS_i64 hx _
    · exact getD_i64 h1 _
  · intro y hy
    obtain ⟨q, _, rfl⟩ := List.mem_map.1 hy
    exact getD_i64 h2 _
theorem foldl_i64 (l : List (List Sub)) (hl : ∀ x ∈ l, ToI x) : ∀ st : List Int × List Int, AllI st.1 → AllI st.2 → AllI (l.foldl (fun st x => apply1 x st) st).1 ∧ AllI (l.foldl (fun st x => apply1 x st) st).2 := by
  induction l with
  | nil => intro st h1 h2; exact ⟨h1, h2⟩
  | cons x l ih =>
    intro st h1 h2
    have h3 := apply1_i64 (hl x (by simp)) h1 h2
    exact ih (fun y hy => hl y (by simp [hy])) _ h3.1 h3.2
theorem iota_i64 (n : Nat) (hn : n ≤ 1000000000) : AllI (iota n) := by
  intro y hy
  unfold iota at hy
  obtain ⟨i, hi, rfl⟩ := List.mem_map.1 hy
  have := List.mem_range.1 hi
  exact ⟨by omega, by omega⟩
theorem applyS_i64 {l : List (List Sub)} {g : List Int} (hl : ∀ x ∈ l, ToI x) (hg : AllI g) (hn : g.length ≤ 1000000000) : AllI (applyS l g).1 ∧ AllI (applyS l g).2 := foldl_i64 l hl _ hg (iota_i64 _ hn)
theorem iota_snoc (k : Nat) : iota k ++ [(k : Int)] = iota (k + 1) := by unfold iota; rw [List.range_succ, List.map_append]; rfl

/-- two own rows of numbers -/
structure Two (w : World) (B : Nat) (v1 : Value) (l1 : List Int) (v2 : Value) (l2 : List Int) : Prop where
  r1 : w.ownsRow B 3 1 v1 l1.length (vints l1)
  r2 : w.ownsRow B 3 1 v2 l2.length (vints l2)
  ap : ∀ b, v1.ownBlock = some b → v2.ownBlock = some b → False
theorem Two.start (w : World) (B : Nat) : Two w B (.slice none 0 0) [] (.slice none 0 0) [] := ⟨World.ownsRow_nil _ _ _ _, World.ownsRow_nil _ _ _ _, fun b h => by simp [Value.ownBlock] at h⟩
theorem Two.below {w w' : World} {B : Nat} {v1 v2 : Value} {l1 l2 : List Int} (h : Two w B v1 l1 v2 l2) (hb : Below w.heap.size w w') : Two w' B v1 l1 v2 l2 := ⟨own_belowb h.r1 hb, own_belowb h.r2 hb, h.ap⟩
theorem Two.swap {w : World} {B : Nat} {v1 v2 : Value} {l1 l2 : List Int} (h : Two w B v1 l1 v2 l2) : Two w B v2 l2 v1 l1 := ⟨h.r2, h.r1, fun b h1 h2 => h.ap b h2 h1⟩
/-- behind an append to the first one -/
theorem Two.app {w w' : World} {B : Nat} {v1 v1' v2 : Value} {l1 l2 m : List Int} (h : Two w B v1 l1 v2 l2) (ho : w'.ownsRow B 3 1 v1' m.length (vints m)) (hg : w.grownBy w' v1.ownBlock) (hb : v1'.ownBlock = v1.ownBlock ∨ v1'.ownBlock = some w.heap.size) : Two w' B v1' m v2 l2 := by
  refine ⟨ho, h.r2.kept hg ?_, fun b h1 h2 => ?_⟩
  · cases hv : v2.ownBlock with
    | none => exact .inl rfl
    | some g => exact .inr (fun e => h.ap g e.symm hv)
  · rcases hb with hb | hb
    · exact h.ap b (hb.symm.trans h1) h2
    · rw [hb] at h1
      cases h1
      have := (h.r2.lt _ h2).2
      omega
end Go.Proofs.Ytfbgbbbfpkpfkaa
