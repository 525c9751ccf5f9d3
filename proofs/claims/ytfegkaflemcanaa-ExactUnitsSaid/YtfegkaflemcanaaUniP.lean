/- Plain arithmetic of ExactUnits and ExactSums: rational numbers in lowest terms. No program in sight. -/
import Derived.Test.YtfegkaflemcanaaExQ
import Derived.Test.YtfegkaflemcanaaExC
namespace Go.Proofs.Ytfegkaflemcanaa
namespace Ex
theorem rat_bd (n d : Int) (hd : 1 ≤ d) : (rat n d).num.natAbs ≤ n.natAbs ∧ ((rat n d).den : Int) ≤ d ∧ (n < 0 → (rat n d).num ≤ 0) ∧ (0 ≤ n → 0 ≤ (rat n d).num) := by
  obtain ⟨h1, h2⟩ := rat_num_den n d hd
  have hg : 1 ≤ Nat.gcd n.natAbs d.natAbs := Nat.gcd_pos_of_pos_right _ (by omega)
  obtain ⟨a1, a2, a3, a4⟩ := exact_quo n _ hg (Nat.gcd_dvd_left _ _)
  rw [h1, h2]
  refine ⟨by rw [a1]; exact Nat.div_le_self _ _, ?_, fun h => by have := a2 h; omega, a3⟩
  have := Nat.div_le_self d.natAbs (Nat.gcd n.natAbs d.natAbs)
  omega
theorem rat_self (q : Rat) : rat q.num q.den = q := by
  unfold rat
  rw [Int.toNat_natCast]
  exact Rat.mkRat_self q
theorem rat_fits {n d : Int} (hn : -9223372036854775808 ≤ n ∧ n ≤ 9223372036854775807) (hd : 1 ≤ d) (hd2 : d ≤ 9223372036854775807) : fitR (rat n d) = some ((rat n d).num, ((rat n d).den : Int)) := by
  obtain ⟨h1, h2, h3, h4⟩ := rat_bd n d hd
  unfold fitR
  rw [if_pos]
  refine ⟨?_, ?_, ?_⟩ <;> omega
theorem fit_low {n d : Int} (hn : -9223372036854775808 ≤ n ∧ n ≤ 9223372036854775807) (hd2 : d ≤ 9223372036854775807) (hd : 1 ≤ d) : fitR (rat n d) = lowS n d := by
  rw [rat_fits hn hd hd2]; unfold lowS; rw [if_neg (by omega)]
theorem rat_zero (d : Int) : rat 0 d = 0 := by unfold rat; exact Rat.zero_mkRat _
theorem rat_one : rat 3 3 = 1 := by kernel_rfl
theorem rat_int (n : Int) : rat n 1 = (n : Rat) := by
  unfold rat
  exact Rat.mkRat_one n
theorem fit_int (n : Int) : fitR (n : Rat) = if -9223372036854775808 ≤ n ∧ n ≤ 9223372036854775807 then some (n, 1) else none := by
  unfold fitR
  have e1 : ((n : Rat)).num = n := rfl
  have e2 : ((n : Rat)).den = 1 := rfl
  rw [e1, e2]
  by_cases h : -9223372036854775808 ≤ n ∧ n ≤ 9223372036854775807
  · rw [if_pos h, if_pos ⟨h.1, h.2, by omega⟩]; rfl
  · rw [if_neg h, if_neg (fun k => h ⟨k.1, k.2.1⟩)]
theorem sum_zero {n d : Int} (hn : -9223372036854775808 ≤ n ∧ n ≤ 9223372036854775807) (hd2 : d ≤ 9223372036854775807) : sumS n d 0 5 = lowS n d := by
  by_cases hd : d < 1
  · unfold sumS lowS; rw [if_pos (Or.inl hd), if_pos hd]
  · unfold sumS
    rw [if_neg (by omega), rat_zero, Rat.add_zero, fit_low hn hd2 (by omega)]
theorem mul_one {n d : Int} (hn : -9223372036854775808 ≤ n ∧ n ≤ 9223372036854775807) (hd2 : d ≤ 9223372036854775807) : mulS 3 3 n d = lowS n d := by
  by_cases hd : d < 1
  · unfold mulS lowS; rw [if_pos (Or.inr hd), if_pos hd]
  · unfold mulS
    rw [if_neg (by omega), rat_one, Rat.one_mul, fit_low hn hd2 (by omega)]
theorem sum_comm (a b c d : Int) : sumS a b c d = sumS c d a b := by
  unfold sumS
  by_cases h : b < 1 ∨ d < 1
  · rw [if_pos h, if_pos (Or.symm h)]
  · rw [if_neg h, if_neg (fun k => h (Or.symm k)), Rat.add_comm]
theorem mul_comm (a b c d : Int) : mulS a b c d = mulS c d a b := by
  unfold mulS
  by_cases h : b < 1 ∨ d < 1
  · rw [if_pos h, if_pos (Or.symm h)]
  · rw [if_neg h, if_neg (fun k => h (Or.symm k)), Rat.mul_comm]
theorem sum_ok {a b c d : Int} (h : okR (sumS a b c d) = true) : 1 ≤ b ∧ 1 ≤ d := by
  by_cases hb : b < 1 ∨ d < 1
  · unfold sumS at h; rw [if_pos hb] at h; cases h
  · omega
theorem low_ok (n d : Int) : okR (lowS n d) = decide (1 ≤ d) := by
  unfold lowS
  by_cases h : d < 1
  · rw [if_pos h]; simp [okR]; omega
  · rw [if_neg h]; simp [okR]; omega
theorem sum_int (n m : Int) : sumS n 1 m 1 = if -9223372036854775808 ≤ n + m ∧ n + m ≤ 9223372036854775807 then some (n + m, 1) else none := by
  unfold sumS
  rw [if_neg (by omega), rat_int, rat_int, ← Rat.intCast_add, fit_int]
theorem mul_int (n m : Int) : mulS n 1 m 1 = if -9223372036854775808 ≤ n * m ∧ n * m ≤ 9223372036854775807 then some (n * m, 1) else none := by
  unfold mulS
  rw [if_neg (by omega), rat_int, rat_int, ← Rat.intCast_mul, fit_int]
theorem md_int (n m : Int) : mdS n m 1 = if -9223372036854775808 ≤ n * m ∧ n * m ≤ 9223372036854775807 then some (n * m) else none := by
  unfold mdS fitI
  rw [if_neg (by omega), Int.ediv_one]

/-! ## small ratios -/
/-- the parts of a rational number that are small -/
def Sml (q : Rat) (a b : Nat) : Prop := q.num.natAbs ≤ a ∧ q.den ≤ b
theorem Sml.rat {n d : Int} {a b : Nat} (hn : n.natAbs ≤ a) (hd : 1 ≤ d) (hd2 : d ≤ (b : Int)) : Sml (rat n d) a b := by
  obtain ⟨h1, h2, _⟩ := rat_bd n d hd
  exact ⟨by omega, by omega⟩
theorem Sml.mul {p q : Rat} {a b c d : Nat} (hp : Sml p a b) (hq : Sml q c d) : Sml (p * q) (a * c) (b * d) := by
  obtain ⟨e1, e2⟩ := rmul_parts p q
  have g1 : 1 ≤ Nat.gcd p.num.natAbs q.den := Nat.gcd_pos_of_pos_right _ q.den_pos
  have g2 : 1 ≤ Nat.gcd q.num.natAbs p.den := Nat.gcd_pos_of_pos_right _ p.den_pos
  obtain ⟨a1, _⟩ := exact_quo p.num _ g1 (Nat.gcd_dvd_left _ _)
  obtain ⟨b1, _⟩ := exact_quo q.num _ g2 (Nat.gcd_dvd_left _ _)
  refine ⟨?_, ?_⟩
  · rw [e1, Int.natAbs_mul, a1, b1]
    exact Nat.mul_le_mul (Nat.le_trans (Nat.div_le_self _ _) hp.1) (Nat.le_trans (Nat.div_le_self _ _) hq.1)
  · rw [e2]
    exact Nat.mul_le_mul (Nat.le_trans (Nat.div_le_self _ _) hp.2) (Nat.le_trans (Nat.div_le_self _ _) hq.2)
theorem Sml.add {p q : Rat} {a b c d : Nat} (hp : Sml p a b) (hq : Sml q c d) : Sml (p + q) (a * d + c * b) (b * d) := by
  have e : p + q = mkRat (p.num * q.den + q.num * p.den) (p.den * q.den) := by
    rw [Rat.add_def']
  have hz : 1 ≤ p.den * q.den := Nat.mul_pos p.den_pos q.den_pos
  have hr : p + q = Ex.rat (p.num * q.den + q.num * p.den) ((p.den * q.den : Nat) : Int) := by
    rw [e]; unfold Ex.rat; rw [Int.toNat_natCast]
  rw [hr]
  refine Sml.rat ?_ (by omega) (by exact_mod_cast Nat.mul_le_mul hp.2 hq.2)
  have h1 : (p.num * (q.den : Int)).natAbs ≤ a * d := by rw [Int.natAbs_mul, Int.natAbs_natCast]; exact Nat.mul_le_mul hp.1 hq.2
  have h2 : (q.num * (p.den : Int)).natAbs ≤ c * b := by rw [Int.natAbs_mul, Int.natAbs_natCast]; exact Nat.mul_le_mul hq.1 hp.2
  have h3 := Int.natAbs_add_le (p.num * (q.den : Int)) (q.num * (p.den : Int))
  omega
/-- both parts of a rational number are ints -/
def In63 (q : Rat) : Prop := Sml q 9223372036854775807 9223372036854775807
theorem Sml.in63 {q : Rat} {a b : Nat} (h : Sml q a b) (ha : a ≤ 9223372036854775807) (hb : b ≤ 9223372036854775807) : In63 q := ⟨Nat.le_trans h.1 ha, Nat.le_trans h.2 hb⟩
theorem fit_in63 {q : Rat} (h : In63 q) : fitR q = some (q.num, (q.den : Int)) := by
  unfold fitR
  obtain ⟨h1, h2⟩ := h
  rw [if_pos]
  refine ⟨?_, ?_, ?_⟩ <;> omega
/-- a pair stands for a rational number -/
def For (n d : Int) (q : Rat) : Prop := 1 ≤ d ∧ rat n d = q
theorem For.rat {n d : Int} (h : 1 ≤ d) : For n d (rat n d) := ⟨h, rfl⟩
theorem For.low (q : Rat) : For q.num (q.den : Int) q := ⟨by have := q.den_pos; omega, rat_self q⟩
theorem sum_for {a b c d : Int} {p q : Rat} (hp : For a b p) (hq : For c d q) (h : In63 (p + q)) : sumS a b c d = some ((p + q).num, ((p + q).den : Int)) := by
  unfold sumS
  rw [if_neg (by have := hp.1; have := hq.1; omega), hp.2, hq.2, fit_in63 h]
theorem mul_for {a b c d : Int} {p q : Rat} (hp : For a b p) (hq : For c d q) (h : In63 (p * q)) : mulS a b c d = some ((p * q).num, ((p * q).den : Int)) := by
  unfold mulS
  rw [if_neg (by have := hp.1; have := hq.1; omega), hp.2, hq.2, fit_in63 h]
theorem For.neg {n d : Int} (h : 1 ≤ d) : For (-n) d (-(Ex.rat n d)) := ⟨h, by unfold Ex.rat; rw [Rat.neg_mkRat]⟩
theorem sgn_mul (x : Int) (k : Nat) (hk : 1 ≤ k) : sgnI (x * (k : Int)) = sgnI x := by
  unfold sgnI
  by_cases h1 : x < 0
  · have := Int.mul_neg_of_neg_of_pos h1 (show (0 : Int) < k by omega)
    rw [if_pos h1, if_pos this]
  · by_cases h2 : 0 < x
    · have := Int.mul_pos h2 (show (0 : Int) < k by omega)
      rw [if_neg h1, if_pos h2, if_neg (by omega), if_pos this]
    · have : x = 0 := by omega
      subst this; simp
theorem rat_sgn (n : Int) (d : Nat) (hd : 1 ≤ d) : sgnI (mkRat n d).num = sgnI n := by
  obtain ⟨h1, _⟩ := rat_num_den n (d : Int) (by omega)
  unfold rat at h1
  rw [Int.toNat_natCast] at h1
  have hg : 1 ≤ Nat.gcd n.natAbs (d : Int).natAbs := Nat.gcd_pos_of_pos_right _ (by omega)
  have hd : ((Nat.gcd n.natAbs (d : Int).natAbs : Nat) : Int) ∣ n := Int.ofNat_dvd_left.2 (Nat.gcd_dvd_left _ _)
  generalize Nat.gcd n.natAbs (d : Int).natAbs = g at *
  have e := Int.ediv_mul_cancel hd
  rw [h1]
  have := sgn_mul (n / (g : Int)) g hg
  rw [e] at this
  exact this.symm
theorem cmp_for {a b c d : Int} {p q : Rat} (hp : For a b p) (hq : For c d q) : cmpS a b c d = sgnI (p - q).num := by
  obtain ⟨h1, rfl⟩ := hp
  obtain ⟨h2, rfl⟩ := hq
  unfold cmpS
  rw [if_neg (by omega), ord_sub]
  have e : rat a b - rat c d = mkRat (a * d - c * b) (b.toNat * d.toNat) := by
    have h3 : b.toNat ≠ 0 := by omega
    have h4 : d.toNat ≠ 0 := by omega
    unfold rat
    rw [Rat.sub_eq_add_neg, Rat.neg_mkRat, Rat.mkRat_add_mkRat _ _ h3 h4]
    congr 1
    rw [Int.toNat_of_nonneg (show 0 ≤ b by omega), Int.toNat_of_nonneg (show 0 ≤ d by omega), Int.neg_mul]
    omega
  rw [e, rat_sgn _ _ (Nat.mul_pos (by omega) (by omega))]
end Ex
end Go.Proofs.Ytfegkaflemcanaa
