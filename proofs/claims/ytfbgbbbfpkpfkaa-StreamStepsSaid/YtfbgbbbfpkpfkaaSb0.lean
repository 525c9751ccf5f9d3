/- Lookups: what Match computes, in plain Lean; how lookups lie in memory. -/
import Derived.Test.YtfbgbbbfpkpfkaaLst
namespace Go.Proofs.Ytfbgbbbfpkpfkaa
open Go.RowKit

/-- a substitution: Before, From, After, To -/
abbrev Sub := List Int × (List Int × (List Int × Int))
abbrev Enc.sub : Enc Sub := Enc.pair (Enc.list Enc.int) (Enc.pair (Enc.list Enc.int) (Enc.pair (Enc.list Enc.int) Enc.int))
abbrev Enc.lk : Enc (List Sub) := Enc.list Enc.sub
/-- l stands in g from i on -/
def standsS (l g : List Int) (i : Int) : Bool := decide (0 ≤ i ∧ i + l.length ≤ g.length ∧ ∀ k, k < l.length → g[i.toNat + k]? = l[k]?)
def subAt (s : Sub) (g : List Int) (i : Int) : Bool := decide (0 < s.2.1.length) && standsS s.2.1 g i && standsS s.1 g (i - s.1.length) && standsS s.2.2.1 g (i + s.2.1.length)
def findSub (g : List Int) (i : Int) : List Sub → Nat → Int
  | [], _ => -1
  | s :: x, k => if subAt s g i then k else findSub g i x (k + 1)
def matchS (x : List Sub) (g : List Int) (i : Int) : Int := if 0 ≤ i ∧ i < g.length then findSub g i x 0 else -1
theorem findSub_skip (g : List Int) (i : Int) (x : List Sub) : ∀ (j k : Nat), j ≤ x.length → (∀ m s, m < j → x[m]? = some s → subAt s g i = false) → findSub g i x k = findSub g i (x.drop j) (k + j) := by
  intro j
  induction j generalizing x with
  | zero => intro k _ _; simp
  | succ j ih =>
    intro k hj h
    cases x with
    | nil => simp at hj
    | cons s x =>
      have h0 := h 0 s (by omega) rfl
      rw [findSub, if_neg (by rw [h0]; simp), ih x (k + 1) (by simpa using hj) (fun m t hm ht => h (m + 1) t (by omega) (by simpa using ht)), List.drop_succ_cons, show k + 1 + j = k + (j + 1) by omega]
theorem matchS_out {x : List Sub} {g : List Int} {i : Int} (h : ¬ (0 ≤ i ∧ i < g.length)) : matchS x g i = -1 := if_neg h
theorem matchS_none {x : List Sub} {g : List Int} {i : Int} (h : ∀ m s, m < x.length → x[m]? = some s → subAt s g i = false) : matchS x g i = -1 := by
  unfold matchS
  split
  · rw [findSub_skip g i x x.length 0 (Nat.le_refl _) h, List.drop_length]
    rfl
  · rfl
theorem matchS_some {x : List Sub} {g : List Int} {i : Int} (hi : 0 ≤ i ∧ i < g.length) {k : Nat} {s : Sub} (hs : x[k]? = some s) (h : ∀ m s, m < k → x[m]? = some s → subAt s g i = false) (ht : subAt s g i = true) : matchS x g i = k := by
  obtain ⟨hk, he⟩ := List.getElem?_eq_some_iff.1 hs
  unfold matchS
  rw [if_pos hi, findSub_skip g i x k 0 (Nat.le_of_lt hk) h, List.drop_eq_getElem_cons hk, findSub, he, if_pos ht]
  simp
theorem matchS_inv {x : List Sub} {g : List Int} {i : Int} : matchS x g i = -1 ∨ ∃ (k : Nat) (s : Sub), matchS x g i = k ∧ x[k]? = some s ∧ subAt s g i = true ∧ 0 ≤ i ∧ i < g.length := by
  unfold matchS
  split
  · rename_i hi
    have : ∀ (y : List Sub) (j : Nat), findSub g i y j = -1 ∨ ∃ (k : Nat) (s : Sub), findSub g i y j = ((j + k : Nat) : Int) ∧ y[k]? = some s ∧ subAt s g i = true := by
      intro y
      induction y with
      | nil => intro j; exact .inl rfl
      | cons s y ih =>
        intro j
        by_cases hs : subAt s g i = true
        · exact .inr ⟨0, s, by rw [findSub, if_pos hs]; rfl, rfl, hs⟩
        · rw [findSub, if_neg hs]
          rcases ih (j + 1) with h | ⟨k, t, h1, h2, h3⟩
          · exact .inl h
          · exact .inr ⟨k + 1, t, by rw [h1]; omega, by simpa using h2, h3⟩
    rcases this x 0 with h | ⟨k, s, h1, h2, h3⟩
    · exact .inl h
    · exact .inr ⟨k, s, by rw [h1, Nat.zero_add], h2, h3, hi.1, hi.2⟩
  · exact .inl rfl

/-- lookups with small lists -/
def Small (x : List Sub) : Prop := x.length ≤ 1000 ∧ ∀ s ∈ x, s.1.length ≤ 1000 ∧ s.2.1.length ≤ 1000 ∧ s.2.2.1.length ≤ 1000

theorem lst_list {α : Type} {E : Enc α} {w : World} {S : Nat → Prop} {a : Option Addr} {len : Nat} {l : List (List α)} (h : Lst (Enc.list E) w S a len l) {k : Nat} (hk : k < len) :
    ∃ b off x a' len' cap', a = some ⟨b, off, none⟩ ∧ S b ∧ l[k]? = some x ∧ len' ≤ cap' ∧ cap' ≤ maxLen ∧ Lst E w S a' len' x ∧ w.cell? ⟨b, off + k, none⟩ = some (.slice a' len' cap') := by
  obtain ⟨h1, h2⟩ := h
  obtain ⟨b, off, rfl, hb, hc⟩ := h2 (by omega)
  have hx : l[k]? = some (l[k]'(by omega)) := List.getElem?_eq_getElem _
  obtain ⟨us, ⟨a', len', cap', rfl, h3, h4, h5⟩, hu⟩ := hc k _ hx
  have := hu 0 _ rfl
  simp [Enc.list] at this
  exact ⟨b, off, _, a', len', cap', rfl, hb, hx, h3, h4, h5, this⟩
theorem lst_sub {w : World} {S : Nat → Prop} {a : Option Addr} {len : Nat} {l : List Sub} (h : Lst Enc.sub w S a len l) {k : Nat} (hk : k < len) :
    ∃ b off s a1 n1 c1 a2 n2 c2 a3 n3 c3, a = some ⟨b, off, none⟩ ∧ S b ∧ l[k]? = some s ∧ (n1 ≤ c1 ∧ c1 ≤ maxLen ∧ Lst Enc.int w S a1 n1 s.1) ∧ (n2 ≤ c2 ∧ c2 ≤ maxLen ∧ Lst Enc.int w S a2 n2 s.2.1) ∧ (n3 ≤ c3 ∧ c3 ≤ maxLen ∧ Lst Enc.int w S a3 n3 s.2.2.1) ∧ I64 s.2.2.2 ∧
      w.cell? ⟨b, off + k * 4, none⟩ = some (.slice a1 n1 c1) ∧ w.cell? ⟨b, off + k * 4 + 1, none⟩ = some (.slice a2 n2 c2) ∧ w.cell? ⟨b, off + k * 4 + 2, none⟩ = some (.slice a3 n3 c3) ∧ w.cell? ⟨b, off + k * 4 + 3, none⟩ = some (.int .i64 s.2.2.2) := by
  obtain ⟨h1, h2⟩ := h
  obtain ⟨b, off, rfl, hb, hc⟩ := h2 (by omega)
  have hx : l[k]? = some (l[k]'(by omega)) := List.getElem?_eq_getElem _
  obtain ⟨us, ⟨u1, v1, rfl, ⟨a1, n1, c1, rfl, p1⟩, u2, v2, rfl, ⟨a2, n2, c2, rfl, p2⟩, u3, v3, rfl, ⟨a3, n3, c3, rfl, p3⟩, rfl, hi⟩, hu⟩ := hc k _ hx
  exact ⟨b, off, _, a1, n1, c1, a2, n2, c2, a3, n3, c3, rfl, hb, hx, p1, p2, p3, hi, hu 0 _ rfl, hu 1 _ rfl, hu 2 _ rfl, hu 3 _ rfl⟩
/-- the cells of a substitution -/
theorem sub_rep {w : World} {S : Nat → Prop} {us : List Value} {s : Sub} (h : Enc.sub.rep w S us s) : ∃ a1 n1 c1 a2 n2 c2 a3 n3 c3, us = [.slice a1 n1 c1, .slice a2 n2 c2, .slice a3 n3 c3, .int .i64 s.2.2.2] ∧ (n1 ≤ c1 ∧ c1 ≤ maxLen ∧ Lst Enc.int w S a1 n1 s.1) ∧ (n2 ≤ c2 ∧ c2 ≤ maxLen ∧ Lst Enc.int w S a2 n2 s.2.1) ∧ (n3 ≤ c3 ∧ c3 ≤ maxLen ∧ Lst Enc.int w S a3 n3 s.2.2.1) ∧ I64 s.2.2.2 := by
  obtain ⟨u1, v1, rfl, ⟨a1, n1, c1, rfl, p1⟩, u2, v2, rfl, ⟨a2, n2, c2, rfl, p2⟩, u3, v3, rfl, ⟨a3, n3, c3, rfl, p3⟩, rfl, hi⟩ := h
  exact ⟨a1, n1, c1, a2, n2, c2, a3, n3, c3, rfl, p1, p2, p3, hi⟩
end Go.Proofs.Ytfbgbbbfpkpfkaa
