/- OutlineFlats: the plain law. -/
import Derived.Test.YtbodidhggdggmaaOlR
import Derived.Test.YtbodidhggdggmaaOp1
namespace Go.Proofs.Ytbodidhggdggmaa
open Go.RowKit
def offS (c : List Pt) (i : Nat) : Nat := ((List.range i).flatMap (segS c)).length
def quad (A B C t : Int) : Int := A * (4 - t) * (4 - t) + 4 * B * t * (4 - t) + C * t * t
theorem offS_succ (c : List Pt) (i : Nat) : offS c (i + 1) = offS c i + (segS c i).length := by unfold offS; rw [poly_next, List.length_append]
theorem offS_le (c : List Pt) (i : Nat) : offS c i ≤ 4 * i := poly_len c i
theorem range_cut {i n : Nat} (h : i < n) : ∃ r, List.range n = List.range (i + 1) ++ r := by
  refine ⟨(List.range (n - (i + 1))).map (fun x => i + 1 + x), ?_⟩
  have := List.range_add (n := i + 1) (m := n - (i + 1))
  rwa [show i + 1 + (n - (i + 1)) = n by omega] at this
theorem poly_at {c : List Pt} {i m : Nat} {p : Pt} (hi : i < c.length) (h : (segS c i)[m]? = some p) : (polyS c)[offS c i + m]? = some p := by
  obtain ⟨r, hr⟩ := range_cut hi
  have hm := (List.getElem?_eq_some_iff.1 h).1
  unfold polyS
  rw [hr, List.flatMap_append, poly_next, List.append_assoc, List.getElem?_append_right (by unfold offS; omega)]
  rw [show offS c i + m - ((List.range i).flatMap (segS c)).length = m by unfold offS; omega, List.getElem?_append_left hm, h]
theorem offS_all (c : List Pt) : offS c c.length = (polyS c).length := rfl
theorem offS_mono (c : List Pt) {i j : Nat} (h : i ≤ j) : offS c i ≤ offS c j := by
  induction j with
  | zero => obtain rfl : i = 0 := by omega
            exact Nat.le_refl _
  | succ j ih =>
    rcases Nat.lt_or_ge i (j + 1) with h' | h'
    · rw [offS_succ]
      have := ih (by omega)
      omega
    · obtain rfl : i = j + 1 := by omega
      exact Nat.le_refl _
theorem onS_good {c : List Pt} (h : GoodC c) (i : Nat) : onS c i = onAt c i := by
  unfold onS
  cases i with
  | zero => rw [h.1]; rfl
  | succ i => rfl
theorem wrap_small {x : Int} (h1 : -1000000 ≤ x) (h2 : x ≤ 1000000) : wrap64 x = x := by unfold wrap64; omega
theorem good_at {c : List Pt} (h : GoodC c) {i : Nat} (hi : i < c.length) : c[i]? = some (pAt c i) ∧ 0 ≤ (pAt c i).1 ∧ (pAt c i).1 ≤ 48 ∧ 0 ≤ (pAt c i).2.1 ∧ (pAt c i).2.1 ≤ 48 := by
  have e : c[i]? = some (c[i]'hi) := List.getElem?_eq_getElem hi
  rw [pAt_some e]
  exact ⟨e, h.2 _ (List.getElem_mem hi)⟩
theorem endS_good {p q : Pt} {is : Bool} (hp : 0 ≤ p.1 ∧ p.1 ≤ 48 ∧ 0 ≤ p.2.1 ∧ p.2.1 ≤ 48) (hq : 0 ≤ q.1 ∧ q.1 ≤ 48 ∧ 0 ≤ q.2.1 ∧ q.2.1 ≤ 48) :
    endS p q is = ((if is then q.1 else p.1) + q.1, (if is then q.2.1 else p.2.1) + q.2.1) ∧ 0 ≤ (endS p q is).1 ∧ (endS p q is).1 ≤ 96 ∧ 0 ≤ (endS p q is).2 ∧ (endS p q is).2 ≤ 96 := by
  have e : endS p q is = ((if is then q.1 else p.1) + q.1, (if is then q.2.1 else p.2.1) + q.2.1) := by
    unfold endS
    cases is <;> simp only [Bool.false_eq_true, if_false, if_true] <;> rw [wrap_small (by omega) (by omega), wrap_small (by omega) (by omega)]
  refine ⟨e, ?_⟩
  rw [e]
  cases is <;> simp only [Bool.false_eq_true, if_false, if_true] <;> omega
theorem quad_at {A B C : Int} (hA : 0 ≤ A ∧ A ≤ 96) (hB : 0 ≤ B ∧ B ≤ 48) (hC : 0 ≤ C ∧ C ≤ 96) {t : Nat} (ht : t ≤ 4) : atS A B C t = quad A B C t ∧ 0 ≤ quad A B C t ∧ quad A B C t ≤ 10000 := by
  unfold atS quad
  have h : t = 0 ∨ t = 1 ∨ t = 2 ∨ t = 3 ∨ t = 4 := by omega
  rcases h with rfl | rfl | rfl | rfl | rfl <;> refine ⟨wrap_small ?_ ?_, ?_, ?_⟩ <;> omega
/-- what a point on the curve becomes -/
theorem flat_on {c : List Pt} (h : GoodC c) {i : Nat} (hi : i < c.length) (ho : onAt c i = true) : (polyS c)[offS c i]? = some (32 * (pAt c i).1, 32 * (pAt c i).2.1, true) ∧ offS c (i + 1) = offS c i + 1 := by
  have hs : segS c i = [(32 * (pAt c i).1, 32 * (pAt c i).2.1, true)] := by
    unfold segS
    obtain ⟨_, h1, h2, h3, h4⟩ := good_at h hi
    rw [onS_good h, ho, if_pos rfl, wrap_small (by omega) (by omega), wrap_small (by omega) (by omega)]
  exact ⟨poly_at (m := 0) hi (by rw [hs]; rfl), by rw [offS_succ, hs]; rfl⟩
/-- what a point off the curve becomes -/
structure CurveAt (c : List Pt) (i : Nat) (P : Nat → Pt) : Prop where
  pos : 1 ≤ offS c i
  at_ : ∀ t, t < 5 → (polyS c)[(offS c i - 1 + t) % (polyS c).length]? = some (P t)
  lo : ∀ t, t < 5 → 0 ≤ (P t).1 ∧ (P t).1 ≤ 10000 ∧ 0 ≤ (P t).2.1 ∧ (P t).2.1 ≤ 10000
  dx : ∀ t, t < 2 → (P t).1 - 2 * (P (t + 1)).1 + (P (t + 2)).1 = (P (t + 1)).1 - 2 * (P (t + 2)).1 + (P (t + 3)).1
  dy : ∀ t, t < 2 → (P t).2.1 - 2 * (P (t + 1)).2.1 + (P (t + 2)).2.1 = (P (t + 1)).2.1 - 2 * (P (t + 2)).2.1 + (P (t + 3)).2.1
  mx : 4 * (P 2).1 = (P 0).1 + 64 * (pAt c i).1 + (P 4).1
  my : 4 * (P 2).2.1 = (P 0).2.1 + 64 * (pAt c i).2.1 + (P 4).2.1
theorem seg_off {c : List Pt} (h : GoodC c) {i : Nat} (ho : onAt c i = false) : segS c i = (List.range (if onAt c ((i + 1) % c.length) then 3 else 4)).map fun t => curveP (pAt c i) (endS (pAt c i) (pAt c (i - 1)) (onAt c (i - 1))) (endS (pAt c i) (pAt c ((i + 1) % c.length)) (onAt c ((i + 1) % c.length))) (t + 1) := by
  unfold segS
  rw [if_neg (by rw [onS_good h, ho]; decide)]
  simp only [onS_good h]
theorem off_pos {c : List Pt} (h : GoodC c) {i : Nat} (ho : onAt c i = false) : ∃ j, i = j + 1 := by
  cases i with
  | zero => rw [h.1] at ho; cases ho
  | succ i => exact ⟨i, rfl⟩
theorem seg_last {c : List Pt} (h : GoodC c) {j : Nat} (hj : j + 1 < c.length) (ho : onAt c (j + 1) = false) :
    1 ≤ (segS c j).length ∧ (segS c j)[(segS c j).length - 1]? = some (16 * (endS (pAt c (j + 1)) (pAt c j) (onAt c j)).1, 16 * (endS (pAt c (j + 1)) (pAt c j) (onAt c j)).2, true) := by
  have hm : (j + 1) % c.length = j + 1 := Nat.mod_eq_of_lt hj
  obtain ⟨_, p1⟩ := good_at h (show j < c.length by omega)
  obtain ⟨_, p2⟩ := good_at h hj
  by_cases hoj : onAt c j = true
  · have hs : segS c j = [(32 * (pAt c j).1, 32 * (pAt c j).2.1, true)] := by
      unfold segS
      rw [onS_good h, hoj, if_pos rfl, wrap_small (by omega) (by omega), wrap_small (by omega) (by omega)]
    rw [hs, hoj]
    refine ⟨Nat.le_refl _, ?_⟩
    show some _ = some _
    rw [(endS_good (is := true) p2 p1).1]
    simp only [if_true]
    congr 2
    · omega
    · congr 1; omega
  · have hoj' : onAt c j = false := by cases hh : onAt c j <;> simp_all
    have hs := seg_off h hoj'
    rw [hm, ho] at hs
    simp only [Bool.false_eq_true, if_false] at hs
    rw [hs, hoj']
    refine ⟨by simp, ?_⟩
    show some _ = some _
    obtain ⟨e1, b1⟩ := endS_good (is := false) p1 p2
    obtain ⟨e2, b2⟩ := endS_good (is := false) p2 p1
    unfold curveP
    have hq := fun (A B C : Int) (hA : 0 ≤ A ∧ A ≤ 96) (hB : 0 ≤ B ∧ B ≤ 48) (hC : 0 ≤ C ∧ C ≤ 96) => (quad_at hA hB hC (t := 4) (by omega)).1
    have hend : ∀ A B C : Int, quad A B C ((4 : Nat) : Int) = 16 * C := fun A B C => by unfold quad; omega
    have ha : ∀ is, 0 ≤ (endS (pAt c j) (pAt c (j - 1)) is).1 ∧ (endS (pAt c j) (pAt c (j - 1)) is).1 ≤ 96 ∧ 0 ≤ (endS (pAt c j) (pAt c (j - 1)) is).2 ∧ (endS (pAt c j) (pAt c (j - 1)) is).2 ≤ 96 := fun is => (endS_good p1 (good_at h (show j - 1 < c.length by omega)).2).2
    obtain ⟨a1, a2, a3, a4⟩ := ha (onAt c (j - 1))
    show some (atS _ _ _ ((3 + 1 : Nat) : Int), atS _ _ _ ((3 + 1 : Nat) : Int), true) = _
    rw [hq _ _ _ ⟨a1, a2⟩ ⟨p1.1, p1.2.1⟩ ⟨b1.1, b1.2.1⟩, hq _ _ _ ⟨a3, a4⟩ ⟨p1.2.2.1, p1.2.2.2⟩ ⟨b1.2.2.1, b1.2.2.2⟩, hend, hend, e1, e2]
    simp only [Bool.false_eq_true, if_false, Int.add_comm]
theorem quad0 (A B C : Int) : quad A B C ((0 : Nat) : Int) = 16 * A := by unfold quad; omega
theorem quad4 (A B C : Int) : quad A B C ((4 : Nat) : Int) = 16 * C := by unfold quad; omega
theorem flat_off {c : List Pt} (h : GoodC c) {i : Nat} (hi : i < c.length) (ho : onAt c i = false) :
    (∃ P, CurveAt c i P) ∧ (onAt c ((i + 1) % c.length) = true → offS c (i + 1) = offS c i + 3) ∧
      (onAt c ((i + 1) % c.length) = false → offS c (i + 1) = offS c i + 4 ∧ (polyS c)[offS c i + 3]? = some (16 * ((pAt c i).1 + (pAt c ((i + 1) % c.length)).1), 16 * ((pAt c i).2.1 + (pAt c ((i + 1) % c.length)).2.1), true)) := by
  obtain ⟨j, rfl⟩ := off_pos h ho
  obtain ⟨nx, hnx⟩ : ∃ nx, (j + 1 + 1) % c.length = nx := ⟨_, rfl⟩
  have hnxn : nx < c.length := by rw [← hnx]; exact Nat.mod_lt _ (by omega)
  obtain ⟨_, pi⟩ := good_at h hi
  obtain ⟨_, pj⟩ := good_at h (show j < c.length by omega)
  obtain ⟨_, pn⟩ := good_at h hnxn
  obtain ⟨eA, bA⟩ := endS_good (is := onAt c j) pi pj
  obtain ⟨eC, bC⟩ := endS_good (is := onAt c nx) pi pn
  have hs := seg_off h ho
  rw [hnx, Nat.add_sub_cancel] at hs
  rw [hnx]
  obtain ⟨A, hA⟩ : ∃ A, endS (pAt c (j + 1)) (pAt c j) (onAt c j) = A := ⟨_, rfl⟩
  obtain ⟨C, hC⟩ : ∃ C, endS (pAt c (j + 1)) (pAt c nx) (onAt c nx) = C := ⟨_, rfl⟩
  rw [hA] at hs bA
  rw [hC] at hs bC eC
  obtain ⟨l1, l2⟩ := seg_last h hi ho
  rw [hA] at l2
  have hsl : (segS c (j + 1)).length = if onAt c nx then 3 else 4 := by rw [hs, List.length_map, List.length_range]
  have h34 : 3 ≤ (segS c (j + 1)).length := by rw [hsl]; split <;> omega
  have hoj := offS_succ c j
  have hoi := offS_succ c (j + 1)
  have hle : offS c (j + 1 + 1) ≤ (polyS c).length := by rw [← offS_all]; exact offS_mono c (by omega)
  have hQ : ∀ t : Nat, t ≤ 4 → (atS A.1 (pAt c (j + 1)).1 C.1 t, atS A.2 (pAt c (j + 1)).2.1 C.2 t, true) = (quad A.1 (pAt c (j + 1)).1 C.1 t, quad A.2 (pAt c (j + 1)).2.1 C.2 t, true) ∧ 0 ≤ quad A.1 (pAt c (j + 1)).1 C.1 t ∧ quad A.1 (pAt c (j + 1)).1 C.1 t ≤ 10000 ∧ 0 ≤ quad A.2 (pAt c (j + 1)).2.1 C.2 t ∧ quad A.2 (pAt c (j + 1)).2.1 C.2 t ≤ 10000 := fun t ht => by
    obtain ⟨x1, x2, x3⟩ := quad_at (A := A.1) (B := (pAt c (j + 1)).1) (C := C.1) ⟨bA.1, bA.2.1⟩ ⟨pi.1, pi.2.1⟩ ⟨bC.1, bC.2.1⟩ ht
    obtain ⟨y1, y2, y3⟩ := quad_at (A := A.2) (B := (pAt c (j + 1)).2.1) (C := C.2) ⟨bA.2.2.1, bA.2.2.2⟩ ⟨pi.2.2.1, pi.2.2.2⟩ ⟨bC.2.2.1, bC.2.2.2⟩ ht
    exact ⟨by rw [x1, y1], x2, x3, y2, y3⟩
  have hseg : ∀ m, m < (segS c (j + 1)).length → (segS c (j + 1))[m]? = some (quad A.1 (pAt c (j + 1)).1 C.1 ((m + 1 : Nat) : Int), quad A.2 (pAt c (j + 1)).2.1 C.2 ((m + 1 : Nat) : Int), true) := fun m hm => by
    have hm2 := hm
    rw [hsl] at hm2
    have hm4 : m + 1 ≤ 4 := by split at hm2 <;> omega
    rw [hs, List.getElem?_map, List.getElem?_range hm2]
    show some (curveP _ _ _ _) = _
    unfold curveP
    rw [(hQ (m + 1) hm4).1]
  have hp4 : (polyS c)[(offS c (j + 1) + 3) % (polyS c).length]? = some (quad A.1 (pAt c (j + 1)).1 C.1 ((4 : Nat) : Int), quad A.2 (pAt c (j + 1)).2.1 C.2 ((4 : Nat) : Int), true) := by
    by_cases hon : onAt c nx = true
    · rw [hon] at hsl eC
      simp only [if_true] at hsl eC
      rw [quad4, quad4, ← hC, hon, (endS_good (is := true) pi pn).1]
      simp only [if_true]
      have e32 : ∀ x : Int, 16 * (x + x) = 32 * x := fun x => by omega
      rw [e32, e32]
      by_cases hw : j + 1 + 1 < c.length
      · have hnx' : nx = j + 1 + 1 := by rw [← hnx]; exact Nat.mod_eq_of_lt hw
        subst hnx'
        obtain ⟨f1, f2⟩ := flat_on h hw hon
        have hlt := (List.getElem?_eq_some_iff.1 f1).1
        rw [show offS c (j + 1) + 3 = offS c (j + 1 + 1) by omega, Nat.mod_eq_of_lt hlt, f1]
      · have hn : j + 1 + 1 = c.length := by omega
        have hnx' : nx = 0 := by rw [← hnx, hn, Nat.mod_self]
        subst hnx'
        obtain ⟨f1, _⟩ := flat_on h hnxn hon
        rw [show offS c (j + 1) + 3 = (polyS c).length by rw [← offS_all, ← hn]; omega, Nat.mod_self]
        exact f1
    · have hon' : onAt c nx = false := by cases hh : onAt c nx <;> simp_all
      rw [hon'] at hsl
      simp only [Bool.false_eq_true, if_false] at hsl
      rw [Nat.mod_eq_of_lt (by omega)]
      exact poly_at (m := 3) hi (hseg 3 (by omega))
  refine ⟨⟨fun t => (quad A.1 (pAt c (j + 1)).1 C.1 t, quad A.2 (pAt c (j + 1)).2.1 C.2 t, true), ?_, fun t ht => ?_, fun t ht => (hQ t (by omega)).2, fun t ht => ?_, fun t ht => ?_, ?_, ?_⟩, fun hon => ?_, fun hon => ?_⟩
  · omega
  · have h5 : t = 0 ∨ t = 4 ∨ (1 ≤ t ∧ t ≤ 3) := by omega
    rcases h5 with rfl | rfl | ⟨h1, h3⟩
    · have := poly_at (c := c) (i := j) (m := (segS c j).length - 1) (by omega) l2
      rw [show offS c (j + 1) - 1 + 0 = offS c j + ((segS c j).length - 1) by omega, Nat.mod_eq_of_lt (by omega), this, quad0, quad0]
    · rw [show offS c (j + 1) - 1 + 4 = offS c (j + 1) + 3 by omega]
      exact hp4
    · have := poly_at (c := c) (i := j + 1) (m := t - 1) hi (hseg (t - 1) (by omega))
      rw [show offS c (j + 1) - 1 + t = offS c (j + 1) + (t - 1) by omega, Nat.mod_eq_of_lt (by omega), this, show t - 1 + 1 = t by omega]
  · have : t = 0 ∨ t = 1 := by omega
    rcases this with rfl | rfl <;> (simp only; unfold quad; omega)
  · have : t = 0 ∨ t = 1 := by omega
    rcases this with rfl | rfl <;> (simp only; unfold quad; omega)
  · simp only; unfold quad; omega
  · simp only; unfold quad; omega
  · rw [hon] at hsl
    simp only [if_true] at hsl
    omega
  · rw [hon] at hsl eC
    simp only [Bool.false_eq_true, if_false] at hsl eC
    refine ⟨by omega, ?_⟩
    rw [poly_at (m := 3) hi (hseg 3 (by omega))]
    show some (quad _ _ _ ((4 : Nat) : Int), quad _ _ _ ((4 : Nat) : Int), true) = _
    rw [quad4, quad4, eC]
end Go.Proofs.Ytbodidhggdggmaa
