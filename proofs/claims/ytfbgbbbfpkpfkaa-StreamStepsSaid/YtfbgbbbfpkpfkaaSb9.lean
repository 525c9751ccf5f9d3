/- Lookups: Glyphs, renamed. -/
import Derived.Test.YtfbgbbbfpkpfkaaSb8
namespace Go.Proofs.Ytfbgbbbfpkpfkaa
open Go.RowKit
def glyphsS (l : List Int) (m : Int) : List Int := (l.take 24).map fun x => x % m
theorem glyphsS_len (l : List Int) (m : Int) : (glyphsS l m).length ≤ 24 := by unfold glyphsS; simp; omega
theorem glyphsS_mem (l : List Int) (m : Int) (hm : 1 ≤ m) : ∀ x ∈ glyphsS l m, 0 ≤ x ∧ x < m := by
  intro x hx
  unfold glyphsS at hx
  obtain ⟨y, _, rfl⟩ := List.mem_map.1 hx
  exact ⟨Int.emod_nonneg _ (by omega), Int.emod_lt_of_pos _ (by omega)⟩
theorem take_snoc {α : Type} {l : List α} {k : Nat} {x : α} (hx : l[k]? = some x) : l.take k ++ [x] = l.take (k + 1) := by
  rw [List.take_add_one, hx]
  rfl
theorem own_lst {w : World} {base n : Nat} {v : Value} {l : List Int} (h : w.ownsRow base 3 1 v n (vints l)) (hl : ∀ x ∈ l, I64 x) : ∃ a c, v = .slice a l.length c ∧ n = l.length ∧ Lst Enc.int w (· < w.heap.size) a l.length l := by
  have hn : n = l.length := by have := h.1; rw [vints_len] at this; omega
  obtain ⟨a, c, rfl⟩ := own_shape h
  have := (lst_own h hl).1
  subst hn
  exact ⟨a, c, rfl, rfl, this⟩
theorem own_belowb {w w' : World} {base n : Nat} {T s : Nat} {v : Value} {xs : List Value} (h : w.ownsRow base T s v n xs) (hb : Below w.heap.size w w') : w'.ownsRow base T s v n xs :=
  h.kept (row := none) (grown_of_below hb none) (by cases hv : v.ownBlock with
    | none => exact .inl rfl
    | some g => exact .inr (by simp))
def renS (l : List Int) : List Int := l.map fun x => 70 - 9 * x
end Go.Proofs.Ytfbgbbbfpkpfkaa
