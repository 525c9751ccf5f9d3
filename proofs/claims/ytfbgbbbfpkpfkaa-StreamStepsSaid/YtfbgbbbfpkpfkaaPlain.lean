/- Plain facts on whole numbers: remainders, quotients, rounding. No program in sight. -/
import Derived.WalkKit
namespace Go.Proofs.Ytfbgbbbfpkpfkaa
open Go.RowKit

theorem tmod_bounds (n m : Int) (hm : 1 ≤ m) : -m < n.tmod m ∧ n.tmod m < m :=
  ⟨Int.lt_tmod_of_pos n (b := m) (by omega), Int.tmod_lt_of_pos n (b := m) (by omega)⟩

theorem mod_plain (n m : Int) (hm : 1 ≤ m) (hm2 : m ≤ 4611686018427387904) : (wrap64 (n.tmod m + m)).tmod m = n % m := by
  have h := tmod_bounds n m hm
  rw [IntWalk.wrap64_in _ (by omega)]
  rw [Int.tmod_eq_emod_of_nonneg (by omega), Int.add_emod_right, Int.tmod_eq_emod]
  split <;> rename_i h2
  · simp
  · rw [Int.natAbs_of_nonneg (by omega)]
    have := Int.add_mul_emod_self_left (n % m) m (-1)
    rw [Int.mul_neg, Int.mul_one, ← Int.sub_eq_add_neg] at this
    rw [this, Int.emod_emod]

theorem floor_of {a b q r : Int} (h : a = b * q + r) (h0 : 0 ≤ r) (h1 : r < b) : a / b = q ∧ a % b = r := by
  have hb : 0 < b := by omega
  have := (Int.ediv_emod_unique (a := a) (b := b) (r := r) (q := q) hb).2 ⟨by rw [h, Int.add_comm], h0, h1⟩
  exact this
theorem floor_neg0 (a b : Int) (ha : a < 0) (hb : 1 ≤ b) (h : ((a.natAbs : Int) % (b.natAbs : Int)) = 0) : -((a.natAbs : Int) / (b.natAbs : Int)) = a / b := by
  have hd := Int.mul_ediv_add_emod (a.natAbs : Int) (b.natAbs : Int)
  have eb : (b.natAbs : Int) = b := by omega
  have ea : (a.natAbs : Int) = -a := by omega
  rw [eb, ea] at hd h ⊢
  generalize -a / b = q at hd ⊢
  refine (floor_of (r := 0) ?_ (by omega) (by omega)).1.symm
  rw [h] at hd
  rw [Int.mul_neg]; omega
theorem floor_neg1 (a b : Int) (ha : a < 0) (hb : 1 ≤ b) (h : ((a.natAbs : Int) % (b.natAbs : Int)) ≠ 0) : -((a.natAbs : Int) / (b.natAbs : Int) + 1) = a / b := by
  have hd := Int.mul_ediv_add_emod (a.natAbs : Int) (b.natAbs : Int)
  have eb : (b.natAbs : Int) = b := by omega
  have ea : (a.natAbs : Int) = -a := by omega
  rw [eb, ea] at hd h ⊢
  have hr0 := Int.emod_nonneg (-a) (b := b) (by omega)
  have hr1 := Int.emod_lt_of_pos (-a) (b := b) (by omega)
  generalize -a % b = r at hd h hr0 hr1
  generalize -a / b = q at hd ⊢
  refine (floor_of (r := b - r) ?_ (by omega) (by omega)).1.symm
  rw [Int.mul_neg, Int.mul_add, Int.mul_one]; omega
theorem natAbs_div_le (a b : Int) (hb : 1 ≤ b) : 0 ≤ (a.natAbs : Int) / (b.natAbs : Int) ∧ (a.natAbs : Int) / (b.natAbs : Int) ≤ a.natAbs := by
  refine ⟨Int.ediv_nonneg (by omega) (by omega), Int.ediv_le_self _ (by omega)⟩
theorem floor_bounds (a b : Int) (hb : 1 ≤ b) : b * (a / b) ≤ a ∧ a < b * (a / b) + b ∧ -(a.natAbs : Int) ≤ a / b ∧ a / b ≤ a.natAbs := by
  have hd := Int.mul_ediv_add_emod a b
  have hr0 := Int.emod_nonneg a (b := b) (by omega)
  have hr1 := Int.emod_lt_of_pos a (b := b) (by omega)
  refine ⟨by omega, by omega, ?_, ?_⟩
  · have : -(a.natAbs : Int) ≤ a / b := by
      rw [Int.le_ediv_iff_mul_le (by omega)]
      have : (a.natAbs : Int) * 1 ≤ a.natAbs * b := Int.mul_le_mul_of_nonneg_left hb (by omega)
      rw [Int.neg_mul]; omega
    exact this
  · rw [Int.ediv_le_iff_le_mul (by omega)]
    have : (a.natAbs : Int) * 1 ≤ a.natAbs * b := Int.mul_le_mul_of_nonneg_left hb (by omega)
    omega

/-- The integer nearest to a / b, the greater one of two. -/
def roundI (a b : Int) : Int := if b - a % b ≤ a % b then a / b + 1 else a / b

/-- A number of two words with a sign as an int. -/
def wholeI (neg : Bool) (hi lo : Int) : Int × Bool :=
  if hi = 0 ∧ lo ≤ (if neg then 9223372036854775808 else 9223372036854775807) then (if neg then -lo else lo, true) else (0, false)

theorem ret1 {a b : Value} (h : a = b) : Ending.returned a = Ending.returned b := by rw [h]
theorem int_eq {k : IntKind} {a b : Int} (h : a = b) : Value.int k a = Value.int k b := by rw [h]
theorem bool_eq {a b : Bool} (h : a = b) : Value.bool a = Value.bool b := by rw [h]
theorem ret2 {a b c d : Value} (h : a = c) (h' : b = d) : Ending.returned (.tuple #[a, b]) = Ending.returned (.tuple #[c, d]) := by rw [h, h']

theorem wholeI_neg {lo : Int} (h : lo ≤ 9223372036854775808) : wholeI true 0 lo = (-lo, true) := by simp [wholeI, h]
theorem wholeI_pos {lo : Int} (h : lo ≤ 9223372036854775807) : wholeI false 0 lo = (lo, true) := by simp [wholeI, h]
theorem size_plain (n : Int) (h1 : -9223372036854775808 ≤ n) (hn : n < 0) : IntKind.u64.wrap (-IntKind.u64.wrap n) = n.natAbs := by
  simp only [IntKind.wrap_u64]
  omega
theorem tdiv_neg {a b : Int} (hb : 1 ≤ b) (h : a.tmod b < 0) : a / b = a.tdiv b - 1 ∧ a % b = a.tmod b + b := by
  have h0 := Int.mul_tdiv_add_tmod a b
  have h1 := tmod_bounds a b hb
  refine floor_of ?_ (by omega) (by omega)
  rw [Int.mul_sub, Int.mul_one]; omega
theorem tdiv_pos {a b : Int} (hb : 1 ≤ b) (h : 0 ≤ a.tmod b) : a / b = a.tdiv b ∧ a % b = a.tmod b := by
  have h0 := Int.mul_tdiv_add_tmod a b
  have h1 := tmod_bounds a b hb
  exact floor_of (by omega) (by omega) (by omega)
theorem floor_i64 {a b : Int} (hb : 1 ≤ b) (h1 : -9223372036854775808 ≤ a) (h2 : a ≤ 9223372036854775807) : -9223372036854775808 ≤ a / b ∧ a / b ≤ 9223372036854775807 := by
  have hf := floor_bounds a b hb
  refine ⟨by omega, ?_⟩
  by_cases hq : 0 ≤ a / b
  · have : 1 * (a / b) ≤ b * (a / b) := Int.mul_le_mul_of_nonneg_right (by omega) hq
    omega
  · omega
theorem roundI_le {a b : Int} (hb : 1 ≤ b) (h1 : -9223372036854775808 ≤ a) (h2 : a ≤ 9223372036854775807) (h : b - a % b ≤ a % b) : -9223372036854775808 ≤ a / b + 1 ∧ a / b + 1 ≤ 9223372036854775807 := by
  have hf := floor_bounds a b hb
  have hd := Int.mul_ediv_add_emod a b
  have hr1 := Int.emod_lt_of_pos a (b := b) (by omega)
  refine ⟨by omega, ?_⟩
  by_cases hq : 0 ≤ a / b
  · have : 2 * (a / b) ≤ b * (a / b) := Int.mul_le_mul_of_nonneg_right (by omega) hq
    omega
  · omega
theorem roundI_i64 {a b : Int} (hb : 1 ≤ b) (h1 : -9223372036854775808 ≤ a) (h2 : a ≤ 9223372036854775807) : -9223372036854775808 ≤ roundI a b ∧ roundI a b ≤ 9223372036854775807 := by
  unfold roundI
  have hf := floor_bounds a b hb
  split
  · exact roundI_le hb h1 h2 ‹_›
  · exact floor_i64 hb h1 h2
theorem roundI_hi {a b : Int} (hb : 1 ≤ b) (h1 : -9223372036854775808 ≤ a) (h2 : a ≤ 9223372036854775807) (h : b - a % b ≤ a % b) : wrap64 (a / b + 1) = roundI a b := by
  rw [roundI, if_pos h]; exact IntWalk.wrap64_in _ (roundI_le hb h1 h2 h)
end Go.Proofs.Ytfbgbbbfpkpfkaa
