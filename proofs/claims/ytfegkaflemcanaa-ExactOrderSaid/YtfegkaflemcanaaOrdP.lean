/- Plain arithmetic of ExactOrder: comparing ratios is an order. No program in sight. -/
import Derived.Test.YtfegkaflemcanaaExC
namespace Go.Proofs.Ytfegkaflemcanaa
namespace Ex
theorem cross {xn xd yn yd zn zd : Int} (hx : 1 ≤ xd) (hy : 1 ≤ yd) (hz : 1 ≤ zd) (h1 : xn * yd ≤ yn * xd) (h2 : yn * zd ≤ zn * yd) :
    xn * zd ≤ zn * xd ∧ (xn * yd < yn * xd ∨ yn * zd < zn * yd → xn * zd < zn * xd) := by
  have a1 : xn * zd * yd = xn * yd * zd := Int.mul_right_comm _ _ _
  have a2 : yn * xd * zd = yn * zd * xd := Int.mul_right_comm _ _ _
  have a3 : zn * yd * xd = zn * xd * yd := Int.mul_right_comm _ _ _
  have b1 : xn * yd * zd ≤ yn * xd * zd := Int.mul_le_mul_of_nonneg_right h1 (by omega)
  have b2 : yn * zd * xd ≤ zn * yd * xd := Int.mul_le_mul_of_nonneg_right h2 (by omega)
  refine ⟨Int.le_of_mul_le_mul_right (show xn * zd * yd ≤ zn * xd * yd by omega) (by omega), fun h => ?_⟩
  refine Int.lt_of_mul_lt_mul_right (show xn * zd * yd < zn * xd * yd from ?_) (show 0 ≤ yd by omega)
  rcases h with h | h
  · have := Int.mul_lt_mul_of_pos_right h (show 0 < zd by omega)
    omega
  · have := Int.mul_lt_mul_of_pos_right h (show 0 < xd by omega)
    omega
theorem ord_le {x y : Int} : ordI x y ≤ 0 ↔ x ≤ y := by unfold ordI; split; omega; split <;> omega
theorem ord_lt {x y : Int} : ordI x y < 0 ↔ x < y := by unfold ordI; split; omega; split <;> omega
theorem ord_ge {x y : Int} : 0 ≤ ordI x y ↔ y ≤ x := by unfold ordI; split; omega; split <;> omega
theorem ord_gt {x y : Int} : 0 < ordI x y ↔ y < x := by unfold ordI; split; omega; split <;> omega
theorem ord_swap (x y : Int) : ordI y x = -ordI x y := by
  unfold ordI
  by_cases h1 : x < y
  · rw [if_neg (by omega), if_pos h1, if_pos h1]; rfl
  · by_cases h2 : y < x
    · rw [if_pos h2, if_neg h1, if_pos h2]
    · rw [if_neg h2, if_neg h1, if_neg h1, if_neg h2]; rfl
theorem cmp_good {xn xd yn yd : Int} (hx : 1 ≤ xd) (hy : 1 ≤ yd) : cmpS xn xd yn yd = ordI (xn * yd) (yn * xd) := by unfold cmpS; rw [if_neg (by omega)]
theorem order_laws {xn xd yn yd zn zd : Int} (hx : 1 ≤ xd) (hy : 1 ≤ yd) (hz : 1 ≤ zd) :
    cmpS yn yd xn xd = -cmpS xn xd yn yd ∧ (cmpS xn xd yn yd = 0 → cmpS yn yd zn zd = cmpS xn xd zn zd) ∧
    (0 < cmpS xn xd yn yd → 0 < cmpS yn yd zn zd → 0 < cmpS xn xd zn zd) ∧ (cmpS xn xd yn yd < 0 → cmpS yn yd zn zd < 0 → cmpS xn xd zn zd < 0) ∧ cmpS xn xd xn xd = 0 := by
  rw [cmp_good hx hy, cmp_good hy hx, cmp_good hy hz, cmp_good hx hz, cmp_good hx hx]
  refine ⟨ord_swap _ _, fun h => ?_, fun h1 h2 => ?_, fun h1 h2 => ?_, ?_⟩
  · have e1 := ord_le.1 (show ordI (xn * yd) (yn * xd) ≤ 0 by omega)
    have e2 := ord_ge.1 (show 0 ≤ ordI (xn * yd) (yn * xd) by omega)
    by_cases c1 : yn * zd < zn * yd
    · have := (cross hx hy hz e1 (by omega)).2 (Or.inr c1)
      unfold ordI; rw [if_pos c1, if_pos this]
    · by_cases c2 : zn * yd < yn * zd
      · have := (cross hz hy hx (by omega) e2).2 (Or.inl c2)
        have t : ¬ xn * zd < zn * xd := by omega
        unfold ordI; rw [if_neg c1, if_pos c2, if_neg t, if_pos this]
      · have a := (cross hx hy hz e1 (show yn * zd ≤ zn * yd by omega)).1
        have b := (cross hz hy hx (show zn * yd ≤ yn * zd by omega) e2).1
        have t1 : ¬ xn * zd < zn * xd := by omega
        have t2 : ¬ zn * xd < xn * zd := by omega
        unfold ordI; rw [if_neg c1, if_neg c2, if_neg t1, if_neg t2]
  · have e1 := ord_gt.1 h1
    have e2 := ord_gt.1 h2
    exact ord_gt.2 ((cross hz hy hx (by omega) (by omega)).2 (Or.inl e2))
  · have e1 := ord_lt.1 h1
    have e2 := ord_lt.1 h2
    exact ord_lt.2 ((cross hx hy hz (by omega) (by omega)).2 (Or.inl e1))
  · unfold ordI; rw [if_neg (by omega), if_neg (by omega)]
end Ex
end Go.Proofs.Ytfegkaflemcanaa
