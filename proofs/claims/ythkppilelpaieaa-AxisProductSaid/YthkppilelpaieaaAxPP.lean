/- Tents: the plain laws of a region of three tents. -/
import Derived.Test.YthkppilelpaieaaAxTP
namespace Go.Proofs.Ythkppilelpaieaa
open Go.RowKit
theorem rmul_cross (a b : Rat) : (a * b).num * ((a.den : Int) * (b.den : Int)) = a.num * b.num * ((a * b).den : Int) := by
  have h : a * b = Ex.rat (a.num * b.num) ((a.den * b.den : Nat) : Int) := by
    unfold Ex.rat
    rw [Int.toNat_natCast, Rat.mul_def, Rat.normalize_eq_mkRat]
  have hp : 0 < a.den * b.den := Nat.mul_pos a.den_pos b.den_pos
  have := rat_cross (a.num * b.num) ((a.den * b.den : Nat) : Int) (by omega)
  rw [← h, Int.natCast_mul] at this
  exact this
theorem rmul3 (a b c : Rat) : (a * b * c).num * ((a.den : Int) * (b.den : Int) * (c.den : Int)) = a.num * b.num * c.num * ((a * b * c).den : Int) := by
  have h1 := rmul_cross (a * b) c
  have h2 := rmul_cross a b
  have hm : (((a * b).den : Nat) : Int) ≠ 0 := by have := (a * b).den_pos; omega
  generalize (a * b * c).num = X at *
  generalize ((a * b * c).den : Int) = Y at *
  generalize (a * b).num = Z at *
  generalize ((a * b).den : Int) = M at *
  refine Int.eq_of_mul_eq_mul_right hm ?_
  rw [show X * ((a.den : Int) * (b.den : Int) * (c.den : Int)) * M = X * (M * (c.den : Int)) * ((a.den : Int) * (b.den : Int)) by simp only [Int.mul_comm, Int.mul_left_comm, Int.mul_assoc], h1, show Z * c.num * Y * ((a.den : Int) * (b.den : Int)) = Z * ((a.den : Int) * (b.den : Int)) * (c.num * Y) by simp only [Int.mul_comm, Int.mul_left_comm, Int.mul_assoc], h2]
  simp only [Int.mul_comm, Int.mul_left_comm]
theorem scalS_three {t0 t1 t2 : Tent} {p0 p1 p2 : Int} (h : allV [t0, t1, t2] = true) (h0 : -64 ≤ p0 ∧ p0 ≤ 64) (h1 : -64 ≤ p1 ∧ p1 ≤ 64) (h2 : -64 ≤ p2 ∧ p2 ≤ 64) :
    scalS [t0, t1, t2] [p0, p1, p2] = ((tq t0 p0 * tq t1 p1 * tq t2 p2).num, ((tq t0 p0 * tq t1 p1 * tq t2 p2).den : Int)) := by
  have e0 : posAt [p0, p1, p2] 0 = p0 := limS_id h0
  have e1 : posAt [p0, p1, p2] 1 = p1 := limS_id h1
  have e2 : posAt [p0, p1, p2] 2 = p2 := limS_id h2
  have : scalP [t0, t1, t2] [p0, p1, p2] 3 = tq t0 p0 * tq t1 p1 * tq t2 p2 := by
    rw [scalP_succ (t := t2) rfl, scalP_succ (t := t1) rfl, scalP_succ (t := t0) rfl, e0, e1, e2, show scalP [t0, t1, t2] [p0, p1, p2] 0 = 1 from rfl, Rat.one_mul]
  unfold scalS
  rw [if_pos h]
  show ((scalP [t0, t1, t2] [p0, p1, p2] 3).num, ((scalP [t0, t1, t2] [p0, p1, p2] 3).den : Int)) = _
  rw [this]
/-- missing positions count as 0 -/
theorem scalS_less (t0 t1 t2 : Tent) (p0 : Int) : scalS [t0, t1, t2] [p0] = scalS [t0, t1, t2] [p0, 0, 0] := by
  have h : scalP [t0, t1, t2] [p0] 3 = scalP [t0, t1, t2] [p0, 0, 0] 3 := by
    rw [scalP_succ (t := t2) rfl, scalP_succ (t := t1) rfl, scalP_succ (t := t0) rfl, scalP_succ (t := t2) rfl, scalP_succ (t := t1) rfl, scalP_succ (t := t0) rfl]
    rfl
  unfold scalS
  split
  · show ((scalP [t0, t1, t2] [p0] 3).num, ((scalP [t0, t1, t2] [p0] 3).den : Int)) = ((scalP [t0, t1, t2] [p0, 0, 0] 3).num, ((scalP [t0, t1, t2] [p0, 0, 0] 3).den : Int))
    rw [h]
  · rfl
/-- no divisor from 2 on divides both parts -/
theorem low_div (q : Rat) {k : Int} (hk : 2 ≤ k) (h1 : Int.tmod q.num k = 0) (h2 : Int.tmod (q.den : Int) k = 0) : False := by
  have d1 : k ∣ q.num := Int.dvd_of_tmod_eq_zero h1
  have d2 : k ∣ (q.den : Int) := Int.dvd_of_tmod_eq_zero h2
  have g1 : k.natAbs ∣ q.num.natAbs := Int.natAbs_dvd_natAbs.2 d1
  have g2 : k.natAbs ∣ q.den := by simpa using Int.natAbs_dvd_natAbs.2 d2
  have hg := Nat.dvd_gcd g1 g2
  rw [q.reduced] at hg
  have := Nat.dvd_one.1 hg
  omega
theorem num_zero (q : Rat) (h : q.num = 0) : q.den = 1 := by
  have := q.reduced
  rw [h] at this
  simpa [Nat.Coprime] using this
end Go.Proofs.Ythkppilelpaieaa
