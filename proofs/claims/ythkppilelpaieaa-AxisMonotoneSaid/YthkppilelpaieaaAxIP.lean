/- Axes: the plain laws of a single axis. -/
import Derived.Test.YthkppilelpaieaaAx14
namespace Go.Proofs.Ythkppilelpaieaa
open Go.RowKit
theorem round_ineq (a b : Int) (hb : 1 ≤ b) : 2 * b * roundI a b ≤ 2 * a + b ∧ 2 * a + b < 2 * b * (roundI a b + 1) := by
  unfold roundI
  have e := Int.mul_ediv_add_emod a b
  have h1 := Int.emod_nonneg a (show b ≠ 0 by omega)
  have h2 := Int.emod_lt_of_pos a (show 0 < b by omega)
  split
  · have h3 : b * (a / b + 1) = b * (a / b) + b := by rw [Int.mul_add, Int.mul_one]
    have h4 : b * (a / b + 1 + 1) = b * (a / b) + b + b := by rw [Int.mul_add, h3, Int.mul_one]
    rw [Int.mul_assoc, Int.mul_assoc, h3, h4]
    omega
  · have h3 : b * (a / b + 1) = b * (a / b) + b := by rw [Int.mul_add, Int.mul_one]
    rw [Int.mul_assoc, Int.mul_assoc, h3]
    omega
theorem round_eq {a b q : Int} (hb : 1 ≤ b) (h1 : 2 * b * q ≤ 2 * a + b) (h2 : 2 * a + b < 2 * b * (q + 1)) : roundI a b = q := by
  obtain ⟨h3, h4⟩ := round_ineq a b hb
  have h5 : roundI a b < q + 1 := Int.lt_of_mul_lt_mul_left (Int.lt_of_le_of_lt h3 h2) (by omega)
  have h6 : q < roundI a b + 1 := Int.lt_of_mul_lt_mul_left (Int.lt_of_le_of_lt h1 h4) (by omega)
  omega
/-- narrow: back from the rounded share -/
theorem share_back {x d : Int} (hx : 1 ≤ x) (hxd : x ≤ d) (hd : d ≤ 64) : roundI (roundI (64 * x) d * d) 64 = x ∧ 1 ≤ roundI (64 * x) d ∧ roundI (64 * x) d ≤ 64 := by
  obtain ⟨h1, h2⟩ := round_ineq (64 * x) d (by omega)
  obtain ⟨r, hr⟩ : ∃ r, roundI (64 * x) d = r := ⟨_, rfl⟩
  rw [hr] at h1 h2 ⊢
  have hr0 : 1 ≤ r := by
    rcases Int.lt_or_le 0 r with h | h
    · omega
    · exfalso
      have : d * (r + 1) ≤ d * 1 := Int.mul_le_mul_of_nonneg_left (by omega) (by omega)
      rw [Int.mul_assoc] at h2
      omega
  have hr1 : r ≤ 64 := by
    rcases Int.lt_or_le 64 r with h | h
    · exfalso
      have : d * 65 ≤ d * r := Int.mul_le_mul_of_nonneg_left (by omega) (by omega)
      rw [Int.mul_assoc] at h1
      omega
    · exact h
  refine ⟨?_, hr0, hr1⟩
  obtain ⟨p, hp⟩ : ∃ p, d * r = p := ⟨_, rfl⟩
  have e1 : 2 * d * r = 2 * p := by rw [Int.mul_assoc, hp]
  have e2 : 2 * d * (r + 1) = 2 * p + 2 * d := by rw [Int.mul_add, e1, Int.mul_one]
  have e3 : r * d = p := by rw [Int.mul_comm, hp]
  rw [e1] at h1
  rw [e2] at h2
  rw [e3]
  by_cases h64 : d = 64
  · subst h64
    exact round_eq (by omega) (by omega) (by omega)
  · exact round_eq (by omega) (by omega) (by omega)
/-- wide: back from the rounded length -/
theorem length_back {m D : Int} (hm : 1 ≤ m) (hm2 : m ≤ 64) (hD : 64 ≤ D) : roundI (64 * roundI (m * D) 64) D = m ∧ 1 ≤ roundI (m * D) 64 ∧ roundI (m * D) 64 ≤ D := by
  obtain ⟨h1, h2⟩ := round_ineq (m * D) 64 (by omega)
  obtain ⟨s, hs⟩ : ∃ s, roundI (m * D) 64 = s := ⟨_, rfl⟩
  rw [hs] at h1 h2 ⊢
  have q1 : 1 * D ≤ m * D := Int.mul_le_mul_of_nonneg_right hm (by omega)
  have q2 : m * D ≤ 64 * D := Int.mul_le_mul_of_nonneg_right hm2 (by omega)
  obtain ⟨p, hp⟩ : ∃ p, m * D = p := ⟨_, rfl⟩
  rw [hp] at h1 h2 q1 q2
  refine ⟨?_, by omega, by omega⟩
  have e1 : 2 * D * m = 2 * p := by rw [Int.mul_assoc, Int.mul_comm D, hp]
  have e2 : 2 * D * (m + 1) = 2 * p + 2 * D := by rw [Int.mul_add, e1, Int.mul_one]
  by_cases h64 : D = 64
  · subst h64
    exact round_eq (by omega) (by rw [e1]; omega) (by rw [e2]; omega)
  · exact round_eq (by omega) (by rw [e1]; omega) (by rw [e2]; omega)
theorem near_of {n : Int} (h : -1000 ≤ n ∧ n ≤ 1000) : near n = true := decide_eq_true h
theorem axCheck_one {a : Axis} (h : AxV a) : axCheck [a] = 0 := by
  obtain ⟨h1, h2, h3, h4, h5⟩ := h
  refine axCheck_ok (by simp) fun i hi => ?_
  obtain rfl : i = 0 := by simp at hi; omega
  show axErr [] a = 0
  unfold axErr
  rw [h1, if_neg (by decide), if_neg (by simp [twice]), if_neg, if_neg (by omega)]
  rw [near_of ⟨h2, by omega⟩, near_of ⟨by omega, by omega⟩, near_of ⟨by omega, h5⟩]
  decide
theorem normS_one {a : Axis} (h : AxV a) (u : Int) : normS [a] [u] = ([normA a u], 0) := normS_ok (axCheck_one h) rfl
theorem userS_one {a : Axis} (h : AxV a) (n : Int) : userS a n = userM a.2.1 a.2.2.1 a.2.2.2 (limS n) := if_pos (axCheck_one h)
theorem limS_id {n : Int} (h : -64 ≤ n ∧ n ≤ 64) : limS n = n := by unfold limS; split <;> split <;> omega
theorem clamp_id {lo hi u : Int} (h : lo ≤ u ∧ u ≤ hi) : clampI lo hi u = u := by unfold clampI; split <;> split <;> omega
theorem narrow_back {s : ByteArray} {lo us hi p : Int} (h : AxV (s, lo, us, hi)) (h1 : us - 64 ≤ lo) (h2 : hi ≤ us + 64) (hp : lo ≤ p ∧ p ≤ hi) : userS (s, lo, us, hi) (normA (s, lo, us, hi) p) = p := by
  rw [userS_one h]
  have hv : -1000 ≤ lo ∧ lo ≤ us ∧ us ≤ hi ∧ hi ≤ 1000 := h.2
  show userM lo us hi (limS (normU lo us hi (clampI lo hi p))) = p
  rw [clamp_id hp]
  unfold normU
  split
  · rename_i hlt
    obtain ⟨q1, q2, q3⟩ := share_back (x := us - p) (d := us - lo) (by omega) (by omega) (by omega)
    rw [limS_id (by omega)]
    unfold userM
    rw [if_pos (by omega), Int.neg_neg, q1]
    omega
  · split
    · rename_i hlt
      obtain ⟨q1, q2, q3⟩ := share_back (x := p - us) (d := hi - us) (by omega) (by omega) (by omega)
      rw [limS_id (by omega)]
      unfold userM
      rw [if_neg (by omega), q1]
      omega
    · rw [limS_id (by omega)]
      unfold userM
      rw [if_neg (by omega), Int.zero_mul, show roundI 0 64 = 0 by decide]
      omega
theorem wide_back {s : ByteArray} {lo us hi n : Int} (h : AxV (s, lo, us, hi)) (h1 : lo ≤ us - 64) (h2 : us + 64 ≤ hi) (hn : -64 ≤ n ∧ n ≤ 64) : normA (s, lo, us, hi) (userS (s, lo, us, hi) n) = n := by
  rw [userS_one h, limS_id hn]
  have hv : -1000 ≤ lo ∧ lo ≤ us ∧ us ≤ hi ∧ hi ≤ 1000 := h.2
  show normU lo us hi (clampI lo hi (userM lo us hi n)) = n
  unfold userM
  split
  · rename_i hlt
    obtain ⟨q1, q2, q3⟩ := length_back (m := -n) (D := us - lo) (by omega) (by omega) (by omega)
    rw [clamp_id (by omega)]
    unfold normU
    rw [if_pos (by omega), show us - (us - roundI (-n * (us - lo)) 64) = roundI (-n * (us - lo)) 64 by omega, q1]
    omega
  · by_cases h0 : n = 0
    · subst h0
      rw [Int.zero_mul, show roundI 0 64 = 0 by decide, clamp_id (by omega)]
      unfold normU
      rw [if_neg (by omega), if_neg (by omega)]
    · obtain ⟨q1, q2, q3⟩ := length_back (m := n) (D := hi - us) (by omega) (by omega) (by omega)
      rw [clamp_id (by omega)]
      unfold normU
      rw [if_neg (by omega), if_pos (by omega), show us + roundI (n * (hi - us)) 64 - us = roundI (n * (hi - us)) 64 by omega, q1]
end Go.Proofs.Ythkppilelpaieaa
