/- Plain arithmetic of exact numbers: floors, ratios. No program in sight. -/
import Derived.WalkKit
namespace Go.Proofs.Ytfegkaflemcanaa
namespace Ex
def fitI (n : Int) : Option Int := if -9223372036854775808 ≤ n ∧ n ≤ 9223372036854775807 then some n else none
def sg (neg : Bool) (n : Nat) : Int := if neg then -(n : Int) else n
theorem ediv_of {a b q r : Int} (hb : 0 < b) (h1 : r + b * q = a) (h2 : 0 ≤ r) (h3 : r < b) : a / b = q :=
  ((Int.ediv_emod_unique hb).2 ⟨h1, h2, h3⟩).1
/-- the quotient of sizes, and one more where it is negative and something is left -/
theorem sg_floor (neg : Bool) (n c : Nat) (hc : 0 < c) :
    sg neg (n / c + if neg = true ∧ n % c ≠ 0 then 1 else 0) = sg neg n / (c : Int) := by
  have h := Nat.div_add_mod n c
  have hl := Nat.mod_lt n hc
  have h' : (c : Int) * ((n / c : Nat) : Int) + ((n % c : Nat) : Int) = (n : Int) := by exact_mod_cast h
  cases neg with
  | false => simp [sg]
  | true =>
    symm
    by_cases hz : n % c = 0
    · simp only [sg, hz, if_true, ne_eq, not_true_eq_false, and_false, if_false, Nat.add_zero]
      refine ediv_of (r := 0) (by omega) ?_ (by omega) (by omega)
      rw [hz] at h'
      rw [Int.mul_neg]
      omega
    · simp only [sg, hz, if_true, ne_eq, not_false_eq_true, and_self]
      refine ediv_of (r := (c : Int) - ((n % c : Nat) : Int)) (by omega) ?_ (by omega) (by omega)
      rw [Int.mul_neg, Int.natCast_add, Int.mul_add]
      simp only [Int.natCast_one, Int.mul_one]
      omega
/-- the sign of a product -/
theorem sg_mul (a b : Int) (neg : Bool) (h : neg = true → a < 0 ∧ 0 ≤ b ∨ 0 ≤ a ∧ b < 0) (h' : neg = false → a < 0 ∧ b < 0 ∨ 0 ≤ a ∧ 0 ≤ b ∨ a = 0 ∨ b = 0) :
    sg neg (a.natAbs * b.natAbs) = a * b := by
  cases neg with
  | true =>
    have := h rfl
    rcases this with ⟨h1, h2⟩ | ⟨h1, h2⟩
    · simp only [sg, if_true, Int.natCast_mul]
      rw [show ((a.natAbs : Nat) : Int) = -a by omega, show ((b.natAbs : Nat) : Int) = b by omega, Int.neg_mul, Int.neg_neg]
    · simp only [sg, if_true, Int.natCast_mul]
      rw [show ((a.natAbs : Nat) : Int) = a by omega, show ((b.natAbs : Nat) : Int) = -b by omega, Int.mul_neg, Int.neg_neg]
  | false =>
    simp only [sg, Bool.false_eq_true, if_false, Int.natCast_mul]
    rcases h' rfl with ⟨h1, h2⟩ | ⟨h1, h2⟩ | h1 | h1
    · rw [show ((a.natAbs : Nat) : Int) = -a by omega, show ((b.natAbs : Nat) : Int) = -b by omega, Int.neg_mul_neg]
    · rw [show ((a.natAbs : Nat) : Int) = a by omega, show ((b.natAbs : Nat) : Int) = b by omega]
    · subst h1; simp
    · subst h1; simp
/-- a quotient of two numbers by their sizes -/
theorem sg_fdiv (a b : Int) (hb : b ≠ 0) (neg : Bool) (h : neg = true → a < 0 ∧ 0 ≤ b ∨ 0 ≤ a ∧ b < 0) (h' : neg = false → a < 0 ∧ b < 0 ∨ 0 ≤ a ∧ 0 ≤ b ∨ a = 0) :
    sg neg a.natAbs / (b.natAbs : Int) = Int.fdiv a b := by
  have hb' : (0 : Int) < (b.natAbs : Int) := by omega
  rw [← Int.fdiv_eq_ediv_of_nonneg _ (by omega)]
  have key : ∀ x : Int, Int.fdiv (-x) (-b) = Int.fdiv x b := fun x => Int.neg_fdiv_neg x b
  by_cases hs : b < 0
  · have e : (b.natAbs : Int) = -b := by omega
    rw [e]
    cases neg with
    | true =>
      simp only [sg, if_true]
      rcases h rfl with ⟨h1, h2⟩ | ⟨h1, h2⟩
      · omega
      · rw [show ((a.natAbs : Nat) : Int) = a by omega]; exact key a
    | false =>
      simp only [sg, Bool.false_eq_true, if_false]
      rcases h' rfl with ⟨h1, h2⟩ | ⟨h1, h2⟩ | h1
      · rw [show ((a.natAbs : Nat) : Int) = -a by omega]; exact key a
      · omega
      · subst h1; simp
  · have e : (b.natAbs : Int) = b := by omega
    rw [e]
    cases neg with
    | true =>
      simp only [sg, if_true]
      rcases h rfl with ⟨h1, h2⟩ | ⟨h1, h2⟩
      · rw [show -((a.natAbs : Nat) : Int) = a by omega]
      · omega
    | false =>
      simp only [sg, Bool.false_eq_true, if_false]
      rcases h' rfl with ⟨h1, h2⟩ | ⟨h1, h2⟩ | h1
      · omega
      · rw [show ((a.natAbs : Nat) : Int) = a by omega]
      · subst h1; simp
/-! ## ratios -/
def fitR (q : Rat) : Option (Int × Int) :=
  if -9223372036854775808 ≤ q.num ∧ q.num ≤ 9223372036854775807 ∧ (q.den : Int) ≤ 9223372036854775807 then some (q.num, q.den) else none
/-- a ratio as a rational number -/
def rat (n d : Int) : Rat := mkRat n d.toNat
theorem rat_num_den (n d : Int) (hd : 1 ≤ d) : (rat n d).num = n / (Nat.gcd n.natAbs d.natAbs : Nat) ∧ (rat n d).den = d.natAbs / Nat.gcd n.natAbs d.natAbs := by
  have e : d.toNat = d.natAbs := by omega
  have hz : d.natAbs ≠ 0 := by omega
  unfold rat mkRat
  rw [e, dif_neg hz, Rat.normalize_eq hz]
  exact ⟨rfl, rfl⟩
/-! ## what the functions compute -/
def floS (a b : Int) : Option Int := if b = 0 then none else fitI (Int.fdiv a b)
def mdS (a b c : Int) : Option Int := if c < 1 then none else fitI (a * b / c)
/-- the quotient of sizes, with one more where something is left below zero -/
def up (neg : Bool) (n c : Nat) : Nat := n / c + if neg = true ∧ n % c ≠ 0 then 1 else 0
theorem up_false (n c : Nat) : up false n c = n / c := by simp [up]
theorem up_true0 (n c : Nat) (h : n % c = 0) : up true n c = n / c := by simp [up, h]
theorem up_true1 (n c : Nat) (h : n % c ≠ 0) : up true n c = n / c + 1 := by simp [up, h]
theorem flo_up (a b : Int) (hb : b ≠ 0) (neg : Bool) (h : neg = true → a < 0 ∧ 0 ≤ b ∨ 0 ≤ a ∧ b < 0) (h' : neg = false → a < 0 ∧ b < 0 ∨ 0 ≤ a ∧ 0 ≤ b ∨ a = 0) :
    fitI (sg neg (up neg a.natAbs b.natAbs)) = floS a b := by
  unfold floS up
  rw [if_neg hb, sg_floor neg _ _ (by omega), sg_fdiv a b hb neg h h']
theorem md_up (a b : Int) (c : Nat) (hc : 1 ≤ c) (neg : Bool) (h : neg = true → a < 0 ∧ 0 ≤ b ∨ 0 ≤ a ∧ b < 0) (h' : neg = false → a < 0 ∧ b < 0 ∨ 0 ≤ a ∧ 0 ≤ b ∨ a = 0 ∨ b = 0) :
    fitI (sg neg (up neg (a.natAbs * b.natAbs) c)) = mdS a b c := by
  unfold mdS up
  rw [if_neg (show ¬ ((c : Nat) : Int) < 1 by omega), sg_floor neg _ _ (by omega), sg_mul a b neg h h']
end Ex
end Go.Proofs.Ytfegkaflemcanaa
