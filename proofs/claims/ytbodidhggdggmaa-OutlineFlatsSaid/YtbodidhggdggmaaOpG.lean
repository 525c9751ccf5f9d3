/- OutlineFlats: the polygon lies in the box; the contract of curve. -/
import Derived.Test.YtbodidhggdggmaaOpF
namespace Go.Proofs.Ytbodidhggdggmaa
open Go.RowKit
theorem box_spec (l : List Pt) : ∀ r : Rct, (l.foldl boxUp r).1 ≤ r.1 ∧ (l.foldl boxUp r).2.1 ≤ r.2.1 ∧ r.2.2.1 ≤ (l.foldl boxUp r).2.2.1 ∧ r.2.2.2 ≤ (l.foldl boxUp r).2.2.2 ∧
    ∀ p ∈ l, (l.foldl boxUp r).1 ≤ p.1 ∧ (l.foldl boxUp r).2.1 ≤ p.2.1 ∧ p.1 ≤ (l.foldl boxUp r).2.2.1 ∧ p.2.1 ≤ (l.foldl boxUp r).2.2.2 := by
  induction l with
  | nil => intro r; exact ⟨Int.le_refl _, Int.le_refl _, Int.le_refl _, Int.le_refl _, fun p h => by simp at h⟩
  | cons q l ih =>
    intro r
    obtain ⟨h1, h2, h3, h4, h5⟩ := ih (boxUp r q)
    have a1 : (boxUp r q).1 ≤ r.1 ∧ (boxUp r q).1 ≤ q.1 := ⟨Int.min_le_left _ _, Int.min_le_right _ _⟩
    have a2 : (boxUp r q).2.1 ≤ r.2.1 ∧ (boxUp r q).2.1 ≤ q.2.1 := ⟨Int.min_le_left _ _, Int.min_le_right _ _⟩
    have a3 : r.2.2.1 ≤ (boxUp r q).2.2.1 ∧ q.1 ≤ (boxUp r q).2.2.1 := ⟨Int.le_max_left _ _, Int.le_max_right _ _⟩
    have a4 : r.2.2.2 ≤ (boxUp r q).2.2.2 ∧ q.2.1 ≤ (boxUp r q).2.2.2 := ⟨Int.le_max_left _ _, Int.le_max_right _ _⟩
    rw [List.foldl_cons]
    refine ⟨by omega, by omega, by omega, by omega, fun p hp => ?_⟩
    rcases List.mem_cons.1 hp with rfl | hp
    · omega
    · exact h5 p hp
theorem box_bd (l : List Pt) (a b c d : Int) (hl : ∀ p ∈ l, a ≤ p.1 ∧ b ≤ p.2.1 ∧ p.1 ≤ c ∧ p.2.1 ≤ d) : ∀ r : Rct, (a ≤ r.1 ∧ b ≤ r.2.1 ∧ r.2.2.1 ≤ c ∧ r.2.2.2 ≤ d) → a ≤ (l.foldl boxUp r).1 ∧ b ≤ (l.foldl boxUp r).2.1 ∧ (l.foldl boxUp r).2.2.1 ≤ c ∧ (l.foldl boxUp r).2.2.2 ≤ d := by
  induction l with
  | nil => intro r h; exact h
  | cons q l ih =>
    intro r h
    rw [List.foldl_cons]
    obtain ⟨q1, q2, q3, q4⟩ := hl q (by simp)
    exact ih (fun p hp => hl p (by simp [hp])) _ ⟨Int.le_min.2 ⟨h.1, q1⟩, Int.le_min.2 ⟨h.2.1, q2⟩, Int.max_le.2 ⟨h.2.2.1, q3⟩, Int.max_le.2 ⟨h.2.2.2, q4⟩⟩
theorem boxS_mem {l : List Pt} {p : Pt} (hp : p ∈ l) : (boxS l).1 ≤ p.1 ∧ (boxS l).2.1 ≤ p.2.1 ∧ p.1 ≤ (boxS l).2.2.1 ∧ p.2.1 ≤ (boxS l).2.2.2 := by
  cases l with
  | nil => simp at hp
  | cons q l =>
    obtain ⟨h1, h2, h3, h4, h5⟩ := box_spec l (q.1, q.2.1, q.1, q.2.1)
    rcases List.mem_cons.1 hp with rfl | hp
    · exact ⟨h1, h2, h3, h4⟩
    · exact h5 p hp
theorem boxS_bd {l : List Pt} {a b c d : Int} (h0 : l ≠ []) (hl : ∀ p ∈ l, a ≤ p.1 ∧ b ≤ p.2.1 ∧ p.1 ≤ c ∧ p.2.1 ≤ d) : a ≤ (boxS l).1 ∧ b ≤ (boxS l).2.1 ∧ (boxS l).2.2.1 ≤ c ∧ (boxS l).2.2.2 ≤ d := by
  cases l with
  | nil => exact absurd rfl h0
  | cons q l =>
    obtain ⟨q1, q2, q3, q4⟩ := hl q (by simp)
    exact box_bd l a b c d (fun p hp => hl p (by simp [hp])) _ ⟨q1, q2, q3, q4⟩
theorem pAt_mem {c : List Pt} {i : Nat} (hi : i < c.length) : pAt c i ∈ c := by
  have e : c[i]? = some (c[i]'hi) := List.getElem?_eq_getElem hi
  rw [pAt_some e]
  exact List.getElem_mem hi
theorem endS_box {p q : Pt} {is : Bool} {x0 y0 x1 y1 : Int} (hp : 0 ≤ p.1 ∧ p.1 ≤ 48 ∧ 0 ≤ p.2.1 ∧ p.2.1 ≤ 48) (hq : 0 ≤ q.1 ∧ q.1 ≤ 48 ∧ 0 ≤ q.2.1 ∧ q.2.1 ≤ 48)
    (bp : x0 ≤ p.1 ∧ y0 ≤ p.2.1 ∧ p.1 ≤ x1 ∧ p.2.1 ≤ y1) (bq : x0 ≤ q.1 ∧ y0 ≤ q.2.1 ∧ q.1 ≤ x1 ∧ q.2.1 ≤ y1) :
    2 * x0 ≤ (endS p q is).1 ∧ (endS p q is).1 ≤ 2 * x1 ∧ 2 * y0 ≤ (endS p q is).2 ∧ (endS p q is).2 ≤ 2 * y1 := by
  rw [(endS_good hp hq).1]
  cases is <;> simp only [Bool.false_eq_true, if_false, if_true] <;> omega
theorem quad_box {A B C x0 x1 : Int} {t : Nat} (ht : t ≤ 4) (hA : 2 * x0 ≤ A ∧ A ≤ 2 * x1) (hB : x0 ≤ B ∧ B ≤ x1) (hC : 2 * x0 ≤ C ∧ C ≤ 2 * x1) : 32 * x0 ≤ quad A B C t ∧ quad A B C t ≤ 32 * x1 := by
  unfold quad
  have h : t = 0 ∨ t = 1 ∨ t = 2 ∨ t = 3 ∨ t = 4 := by omega
  rcases h with rfl | rfl | rfl | rfl | rfl <;> omega
theorem poly_in {c : List Pt} (h : GoodC c) {p : Pt} (hp : p ∈ polyS c) : 32 * (boxS c).1 ≤ p.1 ∧ 32 * (boxS c).2.1 ≤ p.2.1 ∧ p.1 ≤ 32 * (boxS c).2.2.1 ∧ p.2.1 ≤ 32 * (boxS c).2.2.2 := by
  unfold polyS at hp
  obtain ⟨i, hi, hpi⟩ := List.mem_flatMap.1 hp
  rw [List.mem_range] at hi
  obtain ⟨_, gi⟩ := good_at h hi
  obtain ⟨b1, b2, b3, b4⟩ := boxS_mem (pAt_mem hi)
  by_cases ho : onAt c i = true
  · unfold segS at hpi
    rw [onS_good h, ho, if_pos rfl, wrap_small (by omega) (by omega), wrap_small (by omega) (by omega)] at hpi
    simp at hpi
    subst hpi
    simp only
    omega
  · have ho' : onAt c i = false := by cases hh : onAt c i <;> simp_all
    rw [seg_off h ho'] at hpi
    obtain ⟨t, ht, rfl⟩ := List.mem_map.1 hpi
    rw [List.mem_range] at ht
    have ht4 : t + 1 ≤ 4 := by split at ht <;> omega
    have hnxn : (i + 1) % c.length < c.length := Nat.mod_lt _ (by omega)
    have hjn : i - 1 < c.length := by omega
    obtain ⟨_, gj⟩ := good_at h hjn
    obtain ⟨_, gn⟩ := good_at h hnxn
    have bj := boxS_mem (pAt_mem hjn)
    have bn := boxS_mem (pAt_mem hnxn)
    obtain ⟨_, a1, a2, a3, a4⟩ := endS_good (is := onAt c (i - 1)) gi gj
    obtain ⟨_, c1, c2, c3, c4⟩ := endS_good (is := onAt c ((i + 1) % c.length)) gi gn
    obtain ⟨d1, d2, d3, d4⟩ := endS_box (is := onAt c (i - 1)) gi gj ⟨b1, b2, b3, b4⟩ bj
    obtain ⟨e1, e2, e3, e4⟩ := endS_box (is := onAt c ((i + 1) % c.length)) gi gn ⟨b1, b2, b3, b4⟩ bn
    unfold curveP
    simp only
    rw [(quad_at ⟨a1, a2⟩ ⟨gi.1, gi.2.1⟩ ⟨c1, c2⟩ ht4).1, (quad_at ⟨a3, a4⟩ ⟨gi.2.2.1, gi.2.2.2⟩ ⟨c3, c4⟩ ht4).1]
    obtain ⟨q1, q2⟩ := quad_box ht4 ⟨d1, d2⟩ ⟨b1, b3⟩ ⟨e1, e2⟩
    obtain ⟨q3, q4⟩ := quad_box ht4 ⟨d3, d4⟩ ⟨b2, b4⟩ ⟨e3, e4⟩
    exact ⟨q1, q3, q2, q4⟩
theorem flat_box {c : List Pt} (h : GoodC c) (hl : 1 ≤ c.length) : (32 * (boxS c).1 ≤ (boxS (polyS c)).1 ∧ 32 * (boxS c).2.1 ≤ (boxS (polyS c)).2.1 ∧ (boxS (polyS c)).2.2.1 ≤ 32 * (boxS c).2.2.1 ∧ (boxS (polyS c)).2.2.2 ≤ 32 * (boxS c).2.2.2) ∧
    (0 ≤ (boxS c).1 ∧ 0 ≤ (boxS c).2.1 ∧ (boxS c).2.2.1 ≤ 48 ∧ (boxS c).2.2.2 ≤ 48) ∧ (boxS c).1 ≤ 48 ∧ (boxS c).2.1 ≤ 48 ∧ 0 ≤ (boxS c).2.2.1 ∧ 0 ≤ (boxS c).2.2.2 := by
  have hc : c ≠ [] := fun e => by subst e; simp at hl
  have hp : polyS c ≠ [] := fun e => by
    have := (flat_on h (show 0 < c.length by omega) h.1).1
    rw [e] at this
    simp at this
  have m0 := boxS_mem (pAt_mem (show 0 < c.length by omega))
  obtain ⟨_, g0⟩ := good_at h (show 0 < c.length by omega)
  exact ⟨boxS_bd hp (fun p hp => poly_in h hp), boxS_bd hc (fun p hp => by obtain ⟨h1, h2, h3, h4⟩ := h.2 p hp; exact ⟨h1, h3, h2, h4⟩), by omega, by omega, by omega, by omega⟩
end Go.Proofs.Ytbodidhggdggmaa
