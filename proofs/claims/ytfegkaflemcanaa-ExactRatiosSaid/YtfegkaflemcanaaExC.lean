/- Plain arithmetic of comparing. No program in sight. -/
import Derived.WalkKit
namespace Go.Proofs.Ytfegkaflemcanaa
namespace Ex
def sgnI (x : Int) : Int := if x < 0 then -1 else if 0 < x then 1 else 0
def ordI (x y : Int) : Int := if x < y then -1 else if y < x then 1 else 0
theorem ord_sign (x : Int) : ordI x 0 = sgnI x := rfl
theorem ord_sub (x y : Int) : ordI x y = sgnI (x - y) := by
  unfold ordI sgnI
  by_cases h1 : x < y
  · rw [if_pos h1, if_pos (by omega)]
  · by_cases h2 : y < x
    · rw [if_neg h1, if_pos h2, if_neg (by omega), if_pos (by omega)]
    · rw [if_neg h1, if_neg h2, if_neg (by omega), if_neg (by omega)]
def cmpS (xn xd yn yd : Int) : Int := if xd < 1 ∨ yd < 1 then 0 else ordI (xn * yd) (yn * xd)
theorem cmp_diff (xn xd yn yd : Int) (hx : 1 ≤ xd) (hy : 1 ≤ yd) (h : ordI xn 0 ≠ ordI yn 0) : ordI (ordI xn 0) (ordI yn 0) = ordI (xn * yd) (yn * xd) := by
  have pn : ∀ a b : Int, a < 0 → 1 ≤ b → a * b < 0 := fun a b h1 h2 => Int.mul_neg_of_neg_of_pos h1 (by omega)
  have pp : ∀ a b : Int, 0 < a → 1 ≤ b → 0 < a * b := fun a b h1 h2 => Int.mul_pos h1 (by omega)
  have hxx : xn < 0 ∨ xn = 0 ∨ 0 < xn := by omega
  have hyy : yn < 0 ∨ yn = 0 ∨ 0 < yn := by omega
  have m1 : ∀ a : Int, a < 0 → ordI a 0 = -1 := fun a h => by unfold ordI; rw [if_pos h]
  have m0 : ordI 0 0 = 0 := rfl
  have mp : ∀ a : Int, 0 < a → ordI a 0 = 1 := fun a h => by unfold ordI; rw [if_neg (by omega), if_pos h]
  rcases hxx with hx1 | hx1 | hx1 <;> rcases hyy with hy1 | hy1 | hy1
  · exact absurd (by rw [m1 _ hx1, m1 _ hy1]) h
  · subst hy1; rw [m1 _ hx1, m0, Int.zero_mul, m1 _ (pn _ _ hx1 hy)]; rfl
  · rw [m1 _ hx1, mp _ hy1]
    have a := pn _ _ hx1 hy; have b := pp _ _ hy1 hx
    unfold ordI; rw [if_pos (by omega), if_pos (by omega)]
  · subst hx1; rw [m0, m1 _ hy1, Int.zero_mul]
    have b := pn _ _ hy1 hx
    unfold ordI; rw [if_neg (by omega), if_pos (by omega), if_neg (by omega), if_pos (by omega)]
  · subst hx1; subst hy1; exact absurd rfl h
  · subst hx1; rw [m0, mp _ hy1, Int.zero_mul]
    have b := pp _ _ hy1 hx
    unfold ordI; rw [if_pos (by omega), if_pos (by omega)]
  · rw [mp _ hx1, m1 _ hy1]
    have a := pp _ _ hx1 hy; have b := pn _ _ hy1 hx
    unfold ordI; rw [if_neg (by omega), if_pos (by omega), if_neg (by omega), if_pos (by omega)]
  · subst hy1; rw [mp _ hx1, m0, Int.zero_mul]
    have a := pp _ _ hx1 hy
    unfold ordI; rw [if_neg (by omega), if_pos (by omega), if_neg (by omega), if_pos (by omega)]
  · exact absurd (by rw [mp _ hx1, mp _ hy1]) h
theorem ord_neg (a b : Int) : ordI (-a) (-b) = -ordI a b := by
  unfold ordI
  by_cases h1 : a < b
  · rw [if_pos h1, if_neg (by omega), if_pos (by omega)]; rfl
  · by_cases h2 : b < a
    · rw [if_neg h1, if_pos h2, if_pos (by omega)]
    · rw [if_neg h1, if_neg h2, if_neg (by omega), if_neg (by omega)]; rfl
theorem cmp_same (xn xd yn yd : Int) (hx : 1 ≤ xd) (hy : 1 ≤ yd) (h : ordI xn 0 = ordI yn 0) :
    ordI xn 0 * ordI ((xn.natAbs * yd.natAbs : Nat) : Int) ((yn.natAbs * xd.natAbs : Nat) : Int) = ordI (xn * yd) (yn * xd) := by
  have m1 : ∀ a : Int, a < 0 → ordI a 0 = -1 := fun a h => by unfold ordI; rw [if_pos h]
  have m0 : ordI 0 0 = 0 := rfl
  have mp : ∀ a : Int, 0 < a → ordI a 0 = 1 := fun a h => by unfold ordI; rw [if_neg (by omega), if_pos h]
  have ey : (yd.natAbs : Int) = yd := by omega
  have ex : (xd.natAbs : Int) = xd := by omega
  have hxx : xn < 0 ∨ xn = 0 ∨ 0 < xn := by omega
  have hyy : yn < 0 ∨ yn = 0 ∨ 0 < yn := by omega
  rw [Int.natCast_mul, Int.natCast_mul, ex, ey]
  rcases hxx with hx1 | hx1 | hx1 <;> rcases hyy with hy1 | hy1 | hy1
  · rw [m1 _ hx1, show ((xn.natAbs : Nat) : Int) = -xn by omega, show ((yn.natAbs : Nat) : Int) = -yn by omega, show (-xn) * yd = -(xn * yd) from Int.neg_mul _ _, show (-yn) * xd = -(yn * xd) from Int.neg_mul _ _, ord_neg]; omega
  · subst hy1; rw [m1 _ hx1, m0] at h; omega
  · rw [m1 _ hx1, mp _ hy1] at h; omega
  · subst hx1; rw [m1 _ hy1, m0] at h; omega
  · subst hx1; subst hy1; rw [m0]; simp [ordI]
  · subst hx1; rw [mp _ hy1, m0] at h; omega
  · rw [mp _ hx1, m1 _ hy1] at h; omega
  · subst hy1; rw [mp _ hx1, m0] at h; omega
  · rw [mp _ hx1, show ((xn.natAbs : Nat) : Int) = xn by omega, show ((yn.natAbs : Nat) : Int) = yn by omega]; omega
theorem ord_bd (x y : Int) : -1 ≤ ordI x y ∧ ordI x y ≤ 1 := by unfold ordI; split; omega; split <;> omega
end Ex
end Go.Proofs.Ytfegkaflemcanaa
