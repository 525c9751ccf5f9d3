/- Plain law of the digest. No program in sight. -/
import Derived.WalkKit
namespace Go.Proofs.Ytcliegeooooonaa
namespace Dg
def stepX (x : Nat) (c : UInt8) : Nat := (40014 * x + c.toNat + 1) % 2147483563
def stepY (y : Nat) (c : UInt8) : Nat := (40692 * y + c.toNat + 1) % 2147483399
def runX (l : List UInt8) : Nat := l.foldl stepX 41
def runY (l : List UInt8) : Nat := l.foldl stepY 43
def b4 (n : Nat) : List UInt8 := [UInt8.ofNat (n / 16777216), UInt8.ofNat (n / 65536), UInt8.ofNat (n / 256), UInt8.ofNat n]
def dig (l : List UInt8) : List UInt8 := b4 (runX l) ++ b4 (runY l)
theorem dig_len (l : List UInt8) : (dig l).length = 8 := rfl
theorem stepX_lt (x : Nat) (c : UInt8) : stepX x c < 2147483563 := Nat.mod_lt _ (by omega)
theorem stepY_lt (x : Nat) (c : UInt8) : stepY x c < 2147483399 := Nat.mod_lt _ (by omega)
theorem foldX_lt (l : List UInt8) (x : Nat) (h : x < 2147483563) : l.foldl stepX x < 2147483563 := by
  induction l generalizing x with
  | nil => exact h
  | cons c l ih => exact ih _ (stepX_lt _ _)
theorem foldY_lt (l : List UInt8) (x : Nat) (h : x < 2147483399) : l.foldl stepY x < 2147483399 := by
  induction l generalizing x with
  | nil => exact h
  | cons c l ih => exact ih _ (stepY_lt _ _)
theorem runX_lt (l : List UInt8) : runX l < 2147483563 := foldX_lt l _ (by omega)
theorem runY_lt (l : List UInt8) : runY l < 2147483399 := foldY_lt l _ (by omega)
theorem runX_snoc (l : List UInt8) (c : UInt8) : runX (l ++ [c]) = stepX (runX l) c := by unfold runX; rw [List.foldl_append]; rfl
theorem runY_snoc (l : List UInt8) (c : UInt8) : runY (l ++ [c]) = stepY (runY l) c := by unfold runY; rw [List.foldl_append]; rfl
/-- the cells of a digest -/
theorem dig_cell (l : List UInt8) (k : Nat) (hk : k < 4) : (((dig l).getD k 0).toNat : Int) = ((runX l : Int) / 2 ^ (24 - 8 * k)) % 256 ∧ (((dig l).getD (4 + k) 0).toNat : Int) = ((runY l : Int) / 2 ^ (24 - 8 * k)) % 256 := by
  obtain rfl | rfl | rfl | rfl : k = 0 ∨ k = 1 ∨ k = 2 ∨ k = 3 := by omega
  all_goals
    simp only [dig, b4, List.cons_append, List.nil_append, List.getD_cons_zero, List.getD_cons_succ, UInt8.toNat_ofNat', Nat.reduceAdd, Nat.reduceMul, Nat.reduceSub, Nat.reducePow, Int.reducePow]
    omega
end Dg
end Go.Proofs.Ytcliegeooooonaa
