/- Plain arithmetic of a division bit by bit. No program in sight. -/
import Derived.Test.YtfegkaflemcanaaWide2
namespace Go.Proofs.Ytfegkaflemcanaa
namespace Db
theorem and_pow (a i : Nat) (ha : a < 18446744073709551616) (hi : i < 64) : bits .and .u64 (a : Int) ((2 ^ i : Nat) : Int) = ((a / 2 ^ i % 2 * 2 ^ i : Nat) : Int) := by
  have hp : 2 ^ i < 18446744073709551616 := Nat.pow_lt_pow_right (by omega) hi
  rw [bits_and_u64_nat a _ ha hp]
  refine congrArg _ (Nat.eq_of_testBit_eq fun k => ?_)
  rw [Nat.testBit_and, Nat.testBit_two_pow, Nat.testBit_mul_two_pow]
  by_cases h1 : i = k
  · subst h1
    have := Nat.testBit_eq_decide_div_mod_eq (x := a) (i := i)
    simp [this, Nat.testBit_zero]
  · by_cases h2 : i ≤ k
    · have h3 : (a / 2 ^ i % 2).testBit (k - i) = false := by
        apply Nat.testBit_lt_two_pow
        have : 2 ^ 1 ≤ 2 ^ (k - i) := Nat.pow_le_pow_right (by omega) (by omega)
        omega
      simp [h1, h3]
    · simp [h1, h2]
theorem or_pow (s i : Nat) (ho : s * 2 ^ (i + 1) < 18446744073709551616) (hi : i < 64) : bits .or .u64 ((s * 2 ^ (i + 1) : Nat) : Int) ((2 ^ i : Nat) : Int) = ((s * 2 ^ (i + 1) + 2 ^ i : Nat) : Int) := by
  have hp : 2 ^ i < 18446744073709551616 := Nat.pow_lt_pow_right (by omega) hi
  have hl : 2 ^ i < 2 ^ (i + 1) := Nat.pow_lt_pow_right (by omega) (by omega)
  rw [bits_or_u64_nat _ _ ho hp, Nat.mul_comm s, ← Nat.two_pow_add_eq_or_of_lt hl]
/-- a bit of a number, out of its words -/
theorem bit_hi (N j : Nat) (h : 64 ≤ j) : N / 18446744073709551616 / 2 ^ (j - 64) % 2 = N / 2 ^ j % 2 := by
  rw [Nat.div_div_eq_div_mul, show (18446744073709551616 : Nat) = 2 ^ 64 from rfl, ← Nat.pow_add, show 64 + (j - 64) = j by omega]
theorem bit_lo (N j : Nat) (h : j < 64) : N % 18446744073709551616 / 2 ^ j % 2 = N / 2 ^ j % 2 := by
  have a := Nat.testBit_eq_decide_div_mod_eq (x := N % 2 ^ 64) (i := j)
  have b := Nat.testBit_eq_decide_div_mod_eq (x := N) (i := j)
  have c := Nat.testBit_mod_two_pow N 64 j
  rw [a, b] at c
  simp only [h, decide_true, Bool.true_and, decide_eq_decide] at c
  have : (18446744073709551616 : Nat) = 2 ^ 64 := rfl
  rw [this]
  omega
/-- the words of a quotient so far -/
theorem hi_hi (q j : Nat) (h : 64 ≤ j) : q * 2 ^ (j + 1) / 18446744073709551616 = q * 2 ^ (j - 64 + 1) ∧ q * 2 ^ (j + 1) % 18446744073709551616 = 0 := by
  have e : q * 2 ^ (j + 1) = q * 2 ^ (j - 64 + 1) * 18446744073709551616 := by
    rw [Nat.mul_assoc, show (18446744073709551616 : Nat) = 2 ^ 64 from rfl, ← Nat.pow_add, show j - 64 + 1 + 64 = j + 1 by omega]
  rw [e]
  exact ⟨Nat.mul_div_cancel _ (by omega), Nat.mul_mod_left _ _⟩
theorem lo_lo (q j : Nat) (h : j < 64) : q * 2 ^ (j + 1) % 18446744073709551616 = q % 2 ^ (63 - j) * 2 ^ (j + 1) ∧ q * 2 ^ (j + 1) / 18446744073709551616 = q / 2 ^ (63 - j) := by
  have e : (18446744073709551616 : Nat) = 2 ^ (63 - j) * 2 ^ (j + 1) := by
    rw [← Nat.pow_add, show 63 - j + (j + 1) = 64 by omega]
  rw [e]
  exact ⟨Nat.mul_mod_mul_right _ _ _, Nat.mul_div_mul_right _ _ (Nat.two_pow_pos _)⟩
theorem set_hi (q j : Nat) (h : 64 ≤ j) : (q * 2 ^ (j + 1) + 2 ^ j) / 18446744073709551616 = q * 2 ^ (j - 64 + 1) + 2 ^ (j - 64) ∧ (q * 2 ^ (j + 1) + 2 ^ j) % 18446744073709551616 = 0 := by
  have e : q * 2 ^ (j + 1) + 2 ^ j = (q * 2 ^ (j - 64 + 1) + 2 ^ (j - 64)) * 18446744073709551616 := by
    rw [Nat.add_mul, Nat.mul_assoc, show (18446744073709551616 : Nat) = 2 ^ 64 from rfl, ← Nat.pow_add, ← Nat.pow_add, show j - 64 + 1 + 64 = j + 1 by omega, show j - 64 + 64 = j by omega]
  rw [e]
  exact ⟨Nat.mul_div_cancel _ (by omega), Nat.mul_mod_left _ _⟩
theorem set_lo (q j : Nat) (h : j < 64) : (q * 2 ^ (j + 1) + 2 ^ j) % 18446744073709551616 = q % 2 ^ (63 - j) * 2 ^ (j + 1) + 2 ^ j ∧ (q * 2 ^ (j + 1) + 2 ^ j) / 18446744073709551616 = q / 2 ^ (63 - j) := by
  have e : (18446744073709551616 : Nat) = 2 ^ (63 - j) * 2 ^ (j + 1) := by
    rw [← Nat.pow_add, show 63 - j + (j + 1) = 64 by omega]
  have hq := Nat.div_add_mod q (2 ^ (63 - j))
  have hl := Nat.mod_lt q (Nat.two_pow_pos (63 - j))
  have hs : q % 2 ^ (63 - j) * 2 ^ (j + 1) + 2 ^ j < 18446744073709551616 := by
    have a1 : (q % 2 ^ (63 - j) + 1) * 2 ^ (j + 1) ≤ 2 ^ (63 - j) * 2 ^ (j + 1) := Nat.mul_le_mul_right _ hl
    have a2 : 2 ^ j < 2 ^ (j + 1) := Nat.pow_lt_pow_right (by omega) (by omega)
    rw [Nat.add_mul, Nat.one_mul] at a1
    rw [e]
    omega
  have hx : q * 2 ^ (j + 1) + 2 ^ j = q / 2 ^ (63 - j) * 18446744073709551616 + (q % 2 ^ (63 - j) * 2 ^ (j + 1) + 2 ^ j) := by
    conv => lhs; rw [← hq]
    rw [Nat.add_mul, Nat.mul_right_comm, e, Nat.mul_comm (q / 2 ^ (63 - j)), Nat.mul_right_comm, Nat.add_assoc]
  rw [hx]
  exact ⟨low_of _ _ hs, high_of _ _ hs⟩
/-- one bit more -/
theorem step (N j m : Nat) (hm : 1 ≤ m) :
    (m ≤ 2 * (N / 2 ^ (j + 1) % m) + N / 2 ^ j % 2 → N / 2 ^ j % m = 2 * (N / 2 ^ (j + 1) % m) + N / 2 ^ j % 2 - m ∧ N / 2 ^ j / m * 2 ^ j = N / 2 ^ (j + 1) / m * 2 ^ (j + 1) + 2 ^ j) ∧
    (2 * (N / 2 ^ (j + 1) % m) + N / 2 ^ j % 2 < m → N / 2 ^ j % m = 2 * (N / 2 ^ (j + 1) % m) + N / 2 ^ j % 2 ∧ N / 2 ^ j / m * 2 ^ j = N / 2 ^ (j + 1) / m * 2 ^ (j + 1)) := by
  have e : N / 2 ^ (j + 1) = N / 2 ^ j / 2 := by rw [Nat.pow_succ, Nat.div_div_eq_div_mul]
  rw [e]
  generalize N / 2 ^ j = x
  have hx := Nat.div_add_mod x 2
  have hq := Nat.div_add_mod (x / 2) m
  have hl := Nat.mod_lt (x / 2) (show 0 < m by omega)
  have hb : x % 2 < 2 := Nat.mod_lt _ (by omega)
  have key : x = m * (2 * (x / 2 / m)) + (2 * (x / 2 % m) + x % 2) := by
    conv => lhs; rw [← hx, ← hq]
    rw [Nat.mul_add, ← Nat.mul_assoc, Nat.mul_comm 2 m, Nat.mul_assoc]; omega
  refine ⟨fun h => ?_, fun h => ?_⟩
  · have k2 : x = m * (2 * (x / 2 / m) + 1) + (2 * (x / 2 % m) + x % 2 - m) := by
      rw [Nat.mul_add, Nat.mul_one]; omega
    have d1 : x / m = 2 * (x / 2 / m) + 1 := by
      conv => lhs; rw [k2]
      rw [Nat.mul_add_div (by omega), Nat.div_eq_of_lt (show 2 * (x / 2 % m) + x % 2 - m < m by omega), Nat.add_zero]
    have d2 : x % m = 2 * (x / 2 % m) + x % 2 - m := by
      conv => lhs; rw [k2]
      rw [Nat.mul_add_mod, Nat.mod_eq_of_lt (by omega)]
    refine ⟨d2, ?_⟩
    rw [d1, Nat.pow_succ, Nat.add_mul, Nat.one_mul, Nat.mul_comm 2, Nat.mul_assoc, Nat.mul_comm 2]
  · have d1 : x / m = 2 * (x / 2 / m) := by
      conv => lhs; rw [key]
      rw [Nat.mul_add_div (by omega), Nat.div_eq_of_lt h, Nat.add_zero]
    have d2 : x % m = 2 * (x / 2 % m) + x % 2 := by
      conv => lhs; rw [key]
      rw [Nat.mul_add_mod, Nat.mod_eq_of_lt h]
    refine ⟨d2, ?_⟩
    rw [d1, Nat.pow_succ, Nat.mul_comm 2, Nat.mul_assoc, Nat.mul_comm 2]
end Db
end Go.Proofs.Ytfegkaflemcanaa
