/- Numbers of two words, further: compare, plus, minus, over, gcd; the reference's. -/
import Derived.Test.YthkppilelpaieaaWide
import Derived.Deep.QuietTactic
import Derived.BigQuiet
namespace Go.Proofs.Ythkppilelpaieaa
open Go.RowKit

theorem cmp_hi_ne {m n : Nat} (h : hiW m < hiW n ∨ hiW n < hiW m) : cmpI (hiW m) (hiW n) = cmpI m n := by
  unfold cmpI hiW at *
  rcases h with h | h
  · rw [if_pos h, if_pos (by omega)]
  · rw [if_neg (by omega), if_pos h, if_neg (by omega), if_pos (by omega)]
theorem cmp_hi_eq {m n : Nat} (h : hiW m = hiW n) : cmpI (loW m) (loW n) = cmpI m n := by
  unfold cmpI hiW loW at *
  by_cases h1 : m < n
  · rw [if_pos (by omega), if_pos (by omega)]
  · by_cases h2 : n < m
    · rw [if_neg (by omega), if_pos (by omega), if_neg (by omega), if_pos (by omega)]
    · rw [if_neg (by omega), if_neg (by omega), if_neg (by omega), if_neg (by omega)]
theorem cmp_ne {x y : Int} (h : x < y ∨ y < x) : (cmpI x y == 0) = false ∧ (cmpI x y != 0) = true := by
  unfold cmpI
  rcases h with h | h
  · rw [if_pos h]; exact ⟨rfl, rfl⟩
  · rw [if_neg (by omega), if_pos h]; exact ⟨rfl, rfl⟩
theorem cmp_eq (x : Int) : (cmpI x x == 0) = true ∧ (cmpI x x != 0) = false := by
  unfold cmpI
  rw [if_neg (by omega), if_neg (by omega)]; exact ⟨rfl, rfl⟩

theorem low_of (s t : Nat) (h : t < 18446744073709551616) : (s * 18446744073709551616 + t) % 18446744073709551616 = t := by omega
theorem high_of (s t : Nat) (h : t < 18446744073709551616) : (s * 18446744073709551616 + t) / 18446744073709551616 = s := by omega
end Go.Proofs.Ythkppilelpaieaa
