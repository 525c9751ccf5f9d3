/- Plain arithmetic of sums and products of ratios. No program in sight. -/
import Derived.Test.YtfegkaflemcanaaExP
namespace Go.Proofs.Ytfegkaflemcanaa
namespace Ex
theorem rmul_parts (a b : Rat) : (a * b).num = (a.num / (Nat.gcd a.num.natAbs b.den : Nat)) * (b.num / (Nat.gcd b.num.natAbs a.den : Nat)) ∧ (a*b).den = (a.den / Nat.gcd b.num.natAbs a.den) * (b.den / Nat.gcd a.num.natAbs b.den) := by
  have : a * b = Rat.mul a b := rfl
  rw [this]
  unfold Rat.mul
  simp
theorem radd_parts (a b : Rat) : (a + b).num = (a.num * ↑(b.den / (Nat.gcd a.den b.den)) + b.num * ↑(a.den / (Nat.gcd a.den b.den))) / (Nat.gcd (a.num * ↑(b.den / (Nat.gcd a.den b.den)) + b.num * ↑(a.den / (Nat.gcd a.den b.den))).natAbs (Nat.gcd a.den b.den) : Nat) ∧
  (a + b).den = (a.den / (Nat.gcd a.den b.den) * b.den) / (Nat.gcd (a.num * ↑(b.den / (Nat.gcd a.den b.den)) + b.num * ↑(a.den / (Nat.gcd a.den b.den))).natAbs (Nat.gcd a.den b.den)) := by
  have : a + b = Rat.add a b := rfl
  rw [this]
  unfold Rat.add
  by_cases hg : a.den.gcd b.den = 1
  · simp [hg]
  · simp only [hg, dite_false, Rat.maybeNormalize_eq]
    simp
/-- an exact quotient, by its size -/
theorem exact_quo (x : Int) (g : Nat) (hg : 1 ≤ g) (h : g ∣ x.natAbs) : (x / (g : Int)).natAbs = x.natAbs / g ∧ (x < 0 → x / (g : Int) < 0) ∧ (0 ≤ x → 0 ≤ x / (g : Int)) ∧ (x = 0 → x / (g : Int) = 0) := by
  have hd : (g : Int) ∣ x := Int.ofNat_dvd_left.2 h
  obtain ⟨k, rfl⟩ := hd
  have e : (g : Int) * k / (g : Int) = k := Int.mul_ediv_cancel_left k (by omega)
  rw [e]
  refine ⟨?_, fun h => ?_, fun h => ?_, fun h => ?_⟩
  · rw [Int.natAbs_mul, Int.natAbs_natCast, Nat.mul_div_cancel_left _ (by omega)]
  · apply Int.lt_of_not_ge
    intro hk
    have := Int.mul_nonneg (show (0 : Int) ≤ g by omega) hk
    omega
  · apply Int.le_of_not_gt
    intro hk
    have := Int.mul_neg_of_pos_of_neg (show (0 : Int) < g by omega) hk
    omega
  · rcases Int.mul_eq_zero.1 h with h | h
    · omega
    · exact h
theorem sg_quo (neg : Bool) (t h : Nat) (x : Int) (hx : sg neg t = x) (hh : 1 ≤ h) (hd : h ∣ t) : sg neg (t / h) = x / (h : Int) := by
  obtain ⟨k, rfl⟩ := hd
  rw [Nat.mul_div_cancel_left _ (by omega), ← hx]
  cases neg
  · simp only [sg, Bool.false_eq_true, if_false, Int.natCast_mul]
    exact (Int.mul_ediv_cancel_left _ (by omega)).symm
  · simp only [sg, if_true, Int.natCast_mul]
    rw [← Int.mul_neg]
    exact (Int.mul_ediv_cancel_left _ (by omega)).symm
theorem mul_form (A B : Rat) (neg : Bool) (h : neg = true → A.num < 0 ∧ 0 ≤ B.num ∨ 0 ≤ A.num ∧ B.num < 0) (h' : neg = false → A.num < 0 ∧ B.num < 0 ∨ 0 ≤ A.num ∧ 0 ≤ B.num ∨ A.num = 0 ∨ B.num = 0) :
    sg neg (A.num.natAbs / Nat.gcd A.num.natAbs B.den * (B.num.natAbs / Nat.gcd B.num.natAbs A.den)) = (A * B).num ∧
    A.den / Nat.gcd B.num.natAbs A.den * (B.den / Nat.gcd A.num.natAbs B.den) = (A * B).den := by
  obtain ⟨e1, e2⟩ := rmul_parts A B
  refine ⟨?_, e2.symm⟩
  have g1 : 1 ≤ Nat.gcd A.num.natAbs B.den := Nat.gcd_pos_of_pos_right _ B.den_pos
  have g2 : 1 ≤ Nat.gcd B.num.natAbs A.den := Nat.gcd_pos_of_pos_right _ A.den_pos
  obtain ⟨a1, a2, a3, a4⟩ := exact_quo A.num _ g1 (Nat.gcd_dvd_left _ _)
  obtain ⟨b1, b2, b3, b4⟩ := exact_quo B.num _ g2 (Nat.gcd_dvd_left _ _)
  rw [← a1, ← b1, e1]
  refine sg_mul _ _ neg (fun hn => ?_) (fun hn => ?_)
  · rcases h hn with ⟨x, y⟩ | ⟨x, y⟩
    · exact Or.inl ⟨a2 x, b3 y⟩
    · exact Or.inr ⟨a3 x, b2 y⟩
  · rcases h' hn with ⟨x, y⟩ | ⟨x, y⟩ | x | x
    · exact Or.inl ⟨a2 x, b2 y⟩
    · exact Or.inr (Or.inl ⟨a3 x, b3 y⟩)
    · exact Or.inr (Or.inr (Or.inl (a4 x)))
    · exact Or.inr (Or.inr (Or.inr (b4 x)))
theorem sg_one (x : Int) (y : Nat) : x * (y : Int) = sg (decide (x < 0)) (x.natAbs * y) := by
  by_cases h : x < 0
  · simp only [h, decide_true, sg, if_true, Int.natCast_mul]
    rw [show ((x.natAbs : Nat) : Int) = -x by omega, Int.neg_mul, Int.neg_neg]
  · simp only [h, decide_false, sg, Bool.false_eq_true, if_false, Int.natCast_mul]
    rw [show ((x.natAbs : Nat) : Int) = x by omega]
theorem add_same (x y : Int) (a b : Nat) (h : decide (x < 0) = decide (y < 0)) : x * (a : Int) + y * (b : Int) = sg (decide (x < 0)) (x.natAbs * a + y.natAbs * b) := by
  rw [sg_one x a, sg_one y b, ← h]
  cases decide (x < 0) <;> simp [sg] <;> omega
theorem add_lt (x y : Int) (a b : Nat) (h : decide (x < 0) = !decide (y < 0)) (hl : x.natAbs * a < y.natAbs * b) : x * (a : Int) + y * (b : Int) = sg (decide (y < 0)) (y.natAbs * b - x.natAbs * a) := by
  rw [sg_one x a, sg_one y b, h]
  generalize x.natAbs * a = p at *
  generalize y.natAbs * b = q at *
  cases decide (y < 0) <;> simp [sg] <;> omega
theorem add_ge (x y : Int) (a b : Nat) (h : decide (x < 0) = !decide (y < 0)) (hl : y.natAbs * b ≤ x.natAbs * a) : x * (a : Int) + y * (b : Int) = sg (decide (x < 0)) (x.natAbs * a - y.natAbs * b) := by
  rw [sg_one x a, sg_one y b]
  have h2 : decide (y < 0) = !decide (x < 0) := by rw [h]; simp
  rw [h2]
  generalize x.natAbs * a = p at *
  generalize y.natAbs * b = q at *
  cases decide (x < 0) <;> simp [sg] <;> omega
/-- a sum, by the way of the program -/
theorem add_form (A B : Rat) (neg : Bool) (t : Nat) (ht : A.num * ((B.den / Nat.gcd A.den B.den : Nat) : Int) + B.num * ((A.den / Nat.gcd A.den B.den : Nat) : Int) = sg neg t) :
    sg neg (t / Nat.gcd (t % Nat.gcd A.den B.den) (Nat.gcd A.den B.den)) = (A + B).num ∧
    A.den / Nat.gcd A.den B.den * (B.den / Nat.gcd (t % Nat.gcd A.den B.den) (Nat.gcd A.den B.den)) = (A + B).den ∧ 1 ≤ Nat.gcd (t % Nat.gcd A.den B.den) (Nat.gcd A.den B.den) := by
  obtain ⟨e1, e2⟩ := radd_parts A B
  have hg : 1 ≤ Nat.gcd A.den B.den := Nat.gcd_pos_of_pos_left _ A.den_pos
  have hgd : Nat.gcd A.den B.den ∣ B.den := Nat.gcd_dvd_right _ _
  generalize Nat.gcd A.den B.den = g at *
  have hm : Nat.gcd (t % g) g = Nat.gcd t g := by rw [← Nat.gcd_rec, Nat.gcd_comm]
  have hta : (sg neg t).natAbs = t := by cases neg <;> simp [sg]
  rw [ht, hta] at e1 e2
  rw [hm]
  have hh : 1 ≤ Nat.gcd t g := Nat.gcd_pos_of_pos_right _ hg
  refine ⟨?_, ?_, hh⟩
  · rw [sg_quo neg t _ _ rfl hh (Nat.gcd_dvd_left _ _), e1]
  · rw [e2, Nat.mul_div_assoc _ (Nat.dvd_trans (Nat.gcd_dvd_right t g) hgd)]
/-- a pair of numbers of which both are ints -/
def ratS (neg : Bool) (n d : Nat) : Option (Int × Int) :=
  match fitI (sg neg n), fitI (sg false d) with
  | some a, some b => some (a, b)
  | _, _ => none
theorem ratS_fit (neg : Bool) (n d : Nat) (q : Rat) (h1 : sg neg n = q.num) (h2 : d = q.den) : ratS neg n d = fitR q := by
  unfold ratS
  rw [h1, h2]
  unfold fitR fitI sg
  have hd := q.den_pos
  simp only [Bool.false_eq_true, if_false]
  by_cases a : -9223372036854775808 ≤ q.num ∧ q.num ≤ 9223372036854775807
  · by_cases b : (q.den : Int) ≤ 9223372036854775807
    · rw [if_pos a, if_pos (by omega), if_pos ⟨a.1, a.2, b⟩]
    · rw [if_pos a, if_neg (by omega), if_neg (by omega)]
  · rw [if_neg a, if_neg (show ¬ (-9223372036854775808 ≤ q.num ∧ q.num ≤ 9223372036854775807 ∧ (q.den : Int) ≤ 9223372036854775807) from fun h => a ⟨h.1, h.2.1⟩)]
def numR (o : Option (Int × Int)) : Int := (o.map Prod.fst).getD 0
def denR (o : Option (Int × Int)) : Int := (o.map Prod.snd).getD 0
def okR (o : Option (Int × Int)) : Bool := o.isSome
def sumS (xn xd yn yd : Int) : Option (Int × Int) := if xd < 1 ∨ yd < 1 then none else fitR (rat xn xd + rat yn yd)
def mulS (xn xd yn yd : Int) : Option (Int × Int) := if xd < 1 ∨ yd < 1 then none else fitR (rat xn xd * rat yn yd)
def lowS (xn xd : Int) : Option (Int × Int) := if xd < 1 then none else some ((rat xn xd).num, ((rat xn xd).den : Int))
end Ex
end Go.Proofs.Ytfegkaflemcanaa
