/- Tents: the plain laws of a single tent. -/
import Derived.Test.YthkppilelpaieaaAxIP
namespace Go.Proofs.Ythkppilelpaieaa
open Go.RowKit
theorem rat_cross (n d : Int) (hd : 1 ≤ d) : (Ex.rat n d).num * d = n * ((Ex.rat n d).den : Int) := by
  obtain ⟨e1, e2⟩ := Ex.rat_num_den n d hd
  have hg := Nat.gcd_pos_of_pos_right n.natAbs (show 0 < d.natAbs by omega)
  have g1 : ((Nat.gcd n.natAbs d.natAbs : Nat) : Int) ∣ n := Int.ofNat_dvd_left.2 (Nat.gcd_dvd_left _ _)
  have g2 : ((Nat.gcd n.natAbs d.natAbs : Nat) : Int) ∣ d := Int.ofNat_dvd_left.2 (Nat.gcd_dvd_right _ _)
  rw [e1, e2, Int.natCast_ediv, show ((d.natAbs : Nat) : Int) = d by omega]
  generalize Nat.gcd n.natAbs d.natAbs = G at *
  obtain ⟨a, ha⟩ := g1
  obtain ⟨b, hb⟩ := g2
  rw [ha, hb, Int.mul_ediv_cancel_left _ (by omega), Int.mul_ediv_cancel_left _ (by omega), Int.mul_assoc, Int.mul_left_comm]
theorem valid_of {l : List Tent} (h : allV l = true) {k : Nat} {t : Tent} (hk : l[k]? = some t) : validS t.1 t.2.1 t.2.2 = true :=
  List.all_eq_true.1 h t (List.mem_of_getElem? hk)
theorem scalS_one {t : Tent} {v : Int} (h : allV [t] = true) (hv : -64 ≤ v ∧ v ≤ 64) : scalS [t] [v] = ((tq t v).num, ((tq t v).den : Int)) := by
  have hp : posAt [v] 0 = v := limS_id hv
  have : scalP [t] [v] 1 = tq t v := by rw [scalP_succ (t := t) rfl, hp]; exact Rat.one_mul _
  unfold scalS
  rw [if_pos h]
  show ((scalP [t] [v] 1).num, ((scalP [t] [v] 1).den : Int)) = _
  rw [this]
theorem tq_peak {t : Tent} {v : Int} (h : t.2.1 = 0 ∨ v = t.2.1) : (tq t v).num = 1 ∧ (tq t v).den = 1 := by
  unfold tq valS
  rw [if_pos h]
  exact ⟨rfl, rfl⟩
theorem tq_out {t : Tent} {v : Int} (h : ¬ (t.2.1 = 0 ∨ v = t.2.1)) (h2 : v ≤ t.1 ∨ t.2.2 ≤ v) : (tq t v).num = 0 := by
  unfold tq valS
  rw [if_neg h, if_pos h2]
  rfl
theorem cross_of {N D a d : Int} (hD : 1 ≤ D) (h : N * d = a * D) : (Ex.rat N D).num * d = a * ((Ex.rat N D).den : Int) := by
  have h1 := rat_cross N D hD
  refine Int.eq_of_mul_eq_mul_right (show D ≠ 0 by omega) ?_
  rw [Int.mul_right_comm, h1, Int.mul_right_comm, h, Int.mul_right_comm]
theorem tq_left {t : Tent} {v : Int} (h : validS t.1 t.2.1 t.2.2 = true) (h0 : t.2.1 ≠ 0) (h1 : t.1 ≤ v) (h2 : v ≤ t.2.1) (h3 : t.1 < t.2.1) : (tq t v).num * (t.2.1 - t.1) = (v - t.1) * ((tq t v).den : Int) := by
  refine cross_of (valS_bd h).2.2.1 ?_
  obtain ⟨q1, q2, q3, q4, _⟩ := valid_facts h
  unfold valS
  split
  · show 1 * (t.2.1 - t.1) = (v - t.1) * 1
    omega
  · split
    · show 0 * (t.2.1 - t.1) = (v - t.1) * 1
      omega
    · rw [if_pos (by omega)]
theorem tq_right {t : Tent} {v : Int} (h : validS t.1 t.2.1 t.2.2 = true) (h0 : t.2.1 ≠ 0) (h1 : t.2.1 ≤ v) (h2 : v ≤ t.2.2) (h3 : t.2.1 < t.2.2) : (tq t v).num * (t.2.2 - t.2.1) = (t.2.2 - v) * ((tq t v).den : Int) := by
  refine cross_of (valS_bd h).2.2.1 ?_
  obtain ⟨q1, q2, q3, q4, _⟩ := valid_facts h
  unfold valS
  split
  · show 1 * (t.2.2 - t.2.1) = (t.2.2 - v) * 1
    omega
  · split
    · show 0 * (t.2.2 - t.2.1) = (t.2.2 - v) * 1
      omega
    · rw [if_neg (by omega)]
theorem line3 {N0 D0 N1 D1 N2 D2 d a0 a1 a2 : Int} (hd : d ≠ 0) (h0 : N0 * d = a0 * D0) (h1 : N1 * d = a1 * D1) (h2 : N2 * d = a2 * D2) (h : 2 * a0 = a1 + a2) : 2 * N0 * D1 * D2 = D0 * (N1 * D2 + N2 * D1) := by
  refine Int.eq_of_mul_eq_mul_right hd ?_
  have e1 : 2 * N0 * D1 * D2 * d = 2 * a0 * (D0 * D1 * D2) := by
    rw [show 2 * N0 * D1 * D2 * d = 2 * (N0 * d) * D1 * D2 by simp only [Int.mul_comm, Int.mul_left_comm, Int.mul_assoc], h0]
    simp only [Int.mul_comm, Int.mul_left_comm, Int.mul_assoc]
  have e2 : D0 * (N1 * D2 + N2 * D1) * d = D0 * ((N1 * d) * D2 + (N2 * d) * D1) := by
    simp only [Int.mul_comm, Int.mul_left_comm, Int.mul_add]
  have e3 : D0 * (a1 * D1 * D2 + a2 * D2 * D1) = (a1 + a2) * (D0 * D1 * D2) := by
    simp only [Int.mul_comm, Int.mul_left_comm, Int.mul_add]
  rw [e1, e2, h1, h2, e3, h]
theorem tq_line {t : Tent} {v : Int} (h : validS t.1 t.2.1 t.2.2 = true) (h0 : t.2.1 ≠ 0) (h1 : v ≠ t.2.1) (h2 : t.1 ≤ v - 1) (h3 : v + 1 ≤ t.2.2) :
    2 * (tq t v).num * ((tq t (v - 1)).den : Int) * ((tq t (v + 1)).den : Int) = ((tq t v).den : Int) * ((tq t (v - 1)).num * ((tq t (v + 1)).den : Int) + (tq t (v + 1)).num * ((tq t (v - 1)).den : Int)) := by
  obtain ⟨q1, q2, q3, q4, _⟩ := valid_facts h
  by_cases hlt : v < t.2.1
  · exact line3 (show t.2.1 - t.1 ≠ 0 by omega) (tq_left h h0 (by omega) (by omega) (by omega)) (tq_left h h0 (by omega) (by omega) (by omega)) (tq_left h h0 (by omega) (by omega) (by omega)) (by omega)
  · exact line3 (show t.2.2 - t.2.1 ≠ 0 by omega) (tq_right h h0 (by omega) (by omega) (by omega)) (tq_right h h0 (by omega) (by omega) (by omega)) (tq_right h h0 (by omega) (by omega) (by omega)) (by omega)
end Go.Proofs.Ythkppilelpaieaa
