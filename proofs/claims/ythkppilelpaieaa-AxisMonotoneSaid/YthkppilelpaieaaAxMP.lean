/- AxisMonotone: the plain laws of the normalized position. -/
import Derived.Test.YthkppilelpaieaaAxIP
namespace Go.Proofs.Ythkppilelpaieaa
open Go.RowKit
theorem round_mono {a b d : Int} (hd : 1 ≤ d) (h : a ≤ b) : roundI a d ≤ roundI b d := by
  have h1 := round_ineq a d hd
  have h2 := round_ineq b d hd
  by_cases h3 : roundI b d < roundI a d
  · have := Int.mul_le_mul_of_nonneg_left (show roundI b d + 1 ≤ roundI a d by omega) (show 0 ≤ 2 * d by omega)
    omega
  · omega
theorem round_zero {d : Int} (hd : 1 ≤ d) : roundI 0 d = 0 := round_eq hd (by rw [Int.mul_zero]; omega) (by rw [Int.zero_add, Int.mul_one]; omega)
theorem round_full {d : Int} (hd : 1 ≤ d) : roundI (64 * d) d = 64 := round_eq hd (by omega) (by omega)
theorem normU_mono {lo us hi u v : Int} (h1 : lo ≤ u) (h2 : u ≤ v) (h3 : v ≤ hi) : normU lo us hi u ≤ normU lo us hi v := by
  have up : ∀ x, us < x → x ≤ hi → 0 ≤ roundI (64 * (x - us)) (hi - us) := fun x hx hy => by
    have := round_mono (a := 0) (b := 64 * (x - us)) (d := hi - us) (by omega) (by omega)
    rw [round_zero (by omega)] at this
    exact this
  have dn : ∀ x, x < us → lo ≤ x → 0 ≤ roundI (64 * (us - x)) (us - lo) := fun x hx hy => by
    have := round_mono (a := 0) (b := 64 * (us - x)) (d := us - lo) (by omega) (by omega)
    rw [round_zero (by omega)] at this
    exact this
  unfold normU
  by_cases a1 : u < us
  · rw [if_pos a1]
    have d1 := dn u a1 h1
    by_cases b1 : v < us
    · rw [if_pos b1]
      have := round_mono (a := 64 * (us - v)) (b := 64 * (us - u)) (d := us - lo) (by omega) (by omega)
      omega
    · rw [if_neg b1]
      by_cases b2 : us < v
      · rw [if_pos b2]
        have := up v b2 h3
        omega
      · rw [if_neg b2]
        omega
  · rw [if_neg a1, if_neg (show ¬ v < us by omega)]
    by_cases b2 : us < v
    · rw [if_pos b2]
      have u2 := up v b2 h3
      by_cases a2 : us < u
      · rw [if_pos a2]
        exact round_mono (by omega) (by omega)
      · rw [if_neg a2]
        exact u2
    · rw [if_neg b2, if_neg (show ¬ us < u by omega)]
      omega
theorem clamp_mono {lo hi u v : Int} (h : u ≤ v) : clampI lo hi u ≤ clampI lo hi v := by
  unfold clampI
  repeat' split
  all_goals omega
theorem normA_mono {a : Axis} (h : AxV a) {u v : Int} (huv : u ≤ v) : normA a u ≤ normA a v := by
  obtain ⟨_, h1, h2, h3, h4⟩ := h
  exact normU_mono (clampI_rng (by omega)).1 (clamp_mono huv) (clampI_rng (by omega)).2
theorem normA_same {a : Axis} {u v : Int} (h : clampI a.2.1 a.2.2.2 u = clampI a.2.1 a.2.2.2 v) : normA a u = normA a v := by
  unfold normA
  rw [h]
theorem normA_least {a : Axis} (h : AxV a) (u : Int) : normA a a.2.1 ≤ normA a u := by
  obtain ⟨_, h1, h2, h3, h4⟩ := h
  refine normU_mono (clampI_rng (by omega)).1 ?_ (clampI_rng (by omega)).2
  rw [clamp_id (u := a.2.1) (by omega)]
  exact (clampI_rng (by omega)).1
theorem normA_most {a : Axis} (h : AxV a) (u : Int) : normA a u ≤ normA a a.2.2.2 := by
  obtain ⟨_, h1, h2, h3, h4⟩ := h
  refine normU_mono (clampI_rng (by omega)).1 ?_ (clampI_rng (by omega)).2
  rw [clamp_id (u := a.2.2.2) (by omega)]
  exact (clampI_rng (by omega)).2
theorem normA_usual {a : Axis} (h : AxV a) : normA a a.2.2.1 = 0 := by
  obtain ⟨_, h1, h2, h3, h4⟩ := h
  unfold normA normU
  rw [clamp_id (by omega), if_neg (by omega), if_neg (by omega)]
theorem normA_low {a : Axis} (h : AxV a) : (normA a a.2.1 != (-64)) = (a.2.1 == a.2.2.1) := by
  obtain ⟨_, h1, h2, h3, h4⟩ := h
  unfold normA normU
  rw [clamp_id (by omega)]
  by_cases e : a.2.1 = a.2.2.1
  · rw [if_neg (by omega), if_neg (by omega), e]
    simp
  · rw [if_pos (by omega), round_full (by omega)]
    simp [e]
theorem normA_high {a : Axis} (h : AxV a) : (normA a a.2.2.2 != 64) = (a.2.2.2 == a.2.2.1) := by
  obtain ⟨_, h1, h2, h3, h4⟩ := h
  unfold normA normU
  rw [clamp_id (by omega), if_neg (by omega)]
  by_cases e : a.2.2.2 = a.2.2.1
  · rw [if_neg (by omega), e]
    simp
  · rw [if_pos (by omega), round_full (by omega)]
    simp [e]
end Go.Proofs.Ythkppilelpaieaa
