/- OutlineShifts: the plain law. -/
import Derived.Test.YtbodidhggdggmaaOlR
import Derived.Test.YtbodidhggdggmaaOlV
namespace Go.Proofs.Ytbodidhggdggmaa
open Go.RowKit
theorem onS_map {f : Pt → Pt} (hf : ∀ p, (f p).2.2 = p.2.2) (c : List Pt) (i : Nat) : onS (c.map f) i = onS c i := by
  unfold onS onAt
  rw [List.getElem?_map]
  cases c[i]? with
  | none => rfl
  | some p => simp [hf]
theorem pAt_map {f : Pt → Pt} {c : List Pt} {i : Nat} (hi : i < c.length) : pAt (c.map f) i = f (pAt c i) := by
  have e : c[i]? = some (c[i]'hi) := List.getElem?_eq_getElem hi
  rw [pAt_some e, pAt_some (c := c.map f) (i := i) (p := f (c[i]'hi)) (by rw [List.getElem?_map, e]; rfl)]
theorem endS_shift (x y : Int) (p q : Pt) (is : Bool) : endS (shP x y p) (shP x y q) is = (wrap64 ((endS p q is).1 + 2 * x), wrap64 ((endS p q is).2 + 2 * y)) := by
  unfold endS shP
  cases is <;> simp only [Bool.false_eq_true, if_false, if_true, wrap_add_l, wrap_add_r] <;> (congr 1 <;> (congr 1; omega))
theorem endS_scale (m : Int) (p q : Pt) (is : Bool) : endS (scP m p) (scP m q) is = (wrap64 ((endS p q is).1 * m), wrap64 ((endS p q is).2 * m)) := by
  unfold endS scP
  cases is <;> simp only [Bool.false_eq_true, if_false, if_true, wrap_add_l, wrap_add_r, wrap_mul_l, Int.add_mul]
theorem atS_wrap (A B C : Int) (t : Nat) (ht : t ≤ 4) : atS (wrap64 A) (wrap64 B) (wrap64 C) t = wrap64 (A * (4 - (t : Int)) * (4 - (t : Int)) + 4 * B * (t : Int) * (4 - (t : Int)) + C * (t : Int) * (t : Int)) := by
  unfold atS
  obtain ⟨k1, h1, _⟩ := wrap_spec A
  obtain ⟨k2, h2, _⟩ := wrap_spec B
  obtain ⟨k3, h3, _⟩ := wrap_spec C
  rw [h1, h2, h3]
  have h : t = 0 ∨ t = 1 ∨ t = 2 ∨ t = 3 ∨ t = 4 := by omega
  rcases h with rfl | rfl | rfl | rfl | rfl
  · exact wrap_mod (k := 16 * k1) (by omega)
  · exact wrap_mod (k := 9 * k1 + 12 * k2 + k3) (by omega)
  · exact wrap_mod (k := 4 * k1 + 16 * k2 + 4 * k3) (by omega)
  · exact wrap_mod (k := k1 + 12 * k2 + 9 * k3) (by omega)
  · exact wrap_mod (k := 16 * k3) (by omega)
theorem atS_shift (a b c x : Int) (t : Nat) (ht : t ≤ 4) : atS (wrap64 (a + 2 * x)) (wrap64 (b + x)) (wrap64 (c + 2 * x)) t = wrap64 (atS a b c t + 32 * x) := by
  rw [atS_wrap _ _ _ t ht]
  unfold atS
  rw [wrap_add_l]
  congr 1
  have h : t = 0 ∨ t = 1 ∨ t = 2 ∨ t = 3 ∨ t = 4 := by omega
  rcases h with rfl | rfl | rfl | rfl | rfl <;> omega
theorem poly_scale (a b c m : Int) (t : Nat) (ht : t ≤ 4) : (a * m) * (4 - (t : Int)) * (4 - (t : Int)) + 4 * (b * m) * (t : Int) * (4 - (t : Int)) + (c * m) * (t : Int) * (t : Int) = (a * (4 - (t : Int)) * (4 - (t : Int)) + 4 * b * (t : Int) * (4 - (t : Int)) + c * (t : Int) * (t : Int)) * m := by
  obtain ⟨A, hA⟩ : ∃ A, a * m = A := ⟨_, rfl⟩
  obtain ⟨B, hB⟩ : ∃ B, b * m = B := ⟨_, rfl⟩
  obtain ⟨C, hC⟩ : ∃ C, c * m = C := ⟨_, rfl⟩
  have h : t = 0 ∨ t = 1 ∨ t = 2 ∨ t = 3 ∨ t = 4 := by omega
  rw [hA, hB, hC]
  rcases h with rfl | rfl | rfl | rfl | rfl
  · have e : (a * (4 - ((0 : Nat) : Int)) * (4 - ((0 : Nat) : Int)) + 4 * b * ((0 : Nat) : Int) * (4 - ((0 : Nat) : Int)) + c * ((0 : Nat) : Int) * ((0 : Nat) : Int)) = 16 * a := by omega
    rw [e, Int.mul_assoc 16, hA]
    omega
  · have e : (a * (4 - ((1 : Nat) : Int)) * (4 - ((1 : Nat) : Int)) + 4 * b * ((1 : Nat) : Int) * (4 - ((1 : Nat) : Int)) + c * ((1 : Nat) : Int) * ((1 : Nat) : Int)) = 9 * a + 12 * b + c := by omega
    rw [e, Int.add_mul, Int.add_mul, Int.mul_assoc 9, Int.mul_assoc 12, hA, hB, hC]
    omega
  · have e : (a * (4 - ((2 : Nat) : Int)) * (4 - ((2 : Nat) : Int)) + 4 * b * ((2 : Nat) : Int) * (4 - ((2 : Nat) : Int)) + c * ((2 : Nat) : Int) * ((2 : Nat) : Int)) = 4 * a + 16 * b + 4 * c := by omega
    rw [e, Int.add_mul, Int.add_mul, Int.mul_assoc 4 a, Int.mul_assoc 16, Int.mul_assoc 4 c, hA, hB, hC]
    omega
  · have e : (a * (4 - ((3 : Nat) : Int)) * (4 - ((3 : Nat) : Int)) + 4 * b * ((3 : Nat) : Int) * (4 - ((3 : Nat) : Int)) + c * ((3 : Nat) : Int) * ((3 : Nat) : Int)) = a + 12 * b + 9 * c := by omega
    rw [e, Int.add_mul, Int.add_mul, Int.mul_assoc 12, Int.mul_assoc 9, hA, hB, hC]
    omega
  · have e : (a * (4 - ((4 : Nat) : Int)) * (4 - ((4 : Nat) : Int)) + 4 * b * ((4 : Nat) : Int) * (4 - ((4 : Nat) : Int)) + c * ((4 : Nat) : Int) * ((4 : Nat) : Int)) = 16 * c := by omega
    rw [e, Int.mul_assoc 16, hC]
    omega
theorem atS_scale (a b c m : Int) (t : Nat) (ht : t ≤ 4) : atS (wrap64 (a * m)) (wrap64 (b * m)) (wrap64 (c * m)) t = wrap64 (atS a b c t * m) := by
  rw [atS_wrap _ _ _ t ht, poly_scale a b c m t ht]
  unfold atS
  rw [wrap_mul_l]
theorem seg_map {f F : Pt → Pt} (hf : ∀ p, (f p).2.2 = p.2.2) (hon : ∀ p : Pt, (wrap64 (32 * (f p).1), wrap64 (32 * (f p).2.1), true) = F (wrap64 (32 * p.1), wrap64 (32 * p.2.1), true))
    (hoff : ∀ (p q r : Pt) (b1 b2 : Bool) (t : Nat), t ≤ 4 → curveP (f p) (endS (f p) (f q) b1) (endS (f p) (f r) b2) t = F (curveP p (endS p q b1) (endS p r b2) t)) {c : List Pt} {i : Nat} (hi : i < c.length) : segS (c.map f) i = (segS c i).map F := by
  unfold segS
  simp only [onS_map hf, List.length_map]
  have hn : (i + 1) % c.length < c.length := Nat.mod_lt _ (by omega)
  have hj : i - 1 < c.length := by omega
  rw [pAt_map hi, pAt_map hn, pAt_map hj]
  by_cases ho : onS c i = true
  · rw [if_pos ho, if_pos ho, hon]; rfl
  · rw [if_neg ho, if_neg ho, List.map_map]
    refine List.map_congr_left fun t ht => ?_
    rw [List.mem_range] at ht
    exact hoff _ _ _ _ _ _ (by split at ht <;> omega)
theorem poly_map {f F : Pt → Pt} (hf : ∀ p, (f p).2.2 = p.2.2) (hon : ∀ p : Pt, (wrap64 (32 * (f p).1), wrap64 (32 * (f p).2.1), true) = F (wrap64 (32 * p.1), wrap64 (32 * p.2.1), true))
    (hoff : ∀ (p q r : Pt) (b1 b2 : Bool) (t : Nat), t ≤ 4 → curveP (f p) (endS (f p) (f q) b1) (endS (f p) (f r) b2) t = F (curveP p (endS p q b1) (endS p r b2) t)) (c : List Pt) : polyS (c.map f) = (polyS c).map F := by
  unfold polyS
  rw [List.length_map, List.map_flatMap]
  have key : ∀ k, k ≤ c.length → (List.range k).flatMap (segS (c.map f)) = (List.range k).flatMap (fun i => (segS c i).map F) := by
    intro k
    induction k with
    | zero => intro _; rfl
    | succ k ih =>
      intro hk
      rw [List.range_succ, List.flatMap_append, List.flatMap_append, ih (by omega)]
      congr 1
      simp only [List.flatMap_cons, List.flatMap_nil, List.append_nil]
      exact seg_map hf hon hoff (by omega)
  exact key _ (Nat.le_refl _)
theorem flat_shift (x y : Int) (o : Ot) : flatS (o.map (List.map (shP x y))) = (flatS o).map (List.map (shP (wrap64 (32 * x)) (wrap64 (32 * y)))) := by
  unfold flatS
  rw [List.map_map, List.map_map]
  refine List.map_congr_left fun c _ => ?_
  refine poly_map (f := shP x y) (F := shP (wrap64 (32 * x)) (wrap64 (32 * y))) (fun p => rfl) (fun p => ?_) (fun p q r b1 b2 t ht => ?_) c
  · unfold shP
    simp only [wrap_mul_r, wrap_add_l, wrap_add_r, Int.mul_add]
  · rw [endS_shift, endS_shift]
    unfold curveP
    simp only
    have e1 := atS_shift (endS p q b1).1 p.1 (endS p r b2).1 x t ht
    have e2 := atS_shift (endS p q b1).2 p.2.1 (endS p r b2).2 y t ht
    show (atS _ (wrap64 (p.1 + x)) _ _, atS _ (wrap64 (p.2.1 + y)) _ _, true) = (wrap64 (_ + wrap64 (32 * x)), wrap64 (_ + wrap64 (32 * y)), true)
    rw [e1, e2, wrap_add_r, wrap_add_r]
theorem flat_scale (m : Int) (o : Ot) : flatS (o.map (List.map (scP m))) = (flatS o).map (List.map (scP m)) := by
  unfold flatS
  rw [List.map_map, List.map_map]
  refine List.map_congr_left fun c _ => ?_
  refine poly_map (f := scP m) (F := scP m) (fun p => rfl) (fun p => ?_) (fun p q r b1 b2 t ht => ?_) c
  · unfold scP
    simp only [wrap_mul_r, wrap_mul_l, Int.mul_assoc]
  · rw [endS_scale, endS_scale]
    unfold curveP
    simp only
    have e1 := atS_scale (endS p q b1).1 p.1 (endS p r b2).1 m t ht
    have e2 := atS_scale (endS p q b1).2 p.2.1 (endS p r b2).2 m t ht
    show (atS _ (wrap64 (p.1 * m)) _ _, atS _ (wrap64 (p.2.1 * m)) _ _, true) = (wrap64 (_ * m), wrap64 (_ * m), true)
    rw [e1, e2]
theorem rowN_shift (l : List Dl) (u : List Int) (x y : Int) (n : Nat) (c : List Pt) : rowN (instP l u) n (c.map (shP x y)) = (rowN (instP l u) n c).map (shP x y) := by
  unfold rowN
  refine List.ext_getElem? fun i => ?_
  simp only [List.getElem?_mapIdx, List.getElem?_map]
  cases c[i]? with
  | none => rfl
  | some p =>
    simp only [Option.map_some]
    unfold instP shP
    simp only [wrap_add_l]
    congr 2
    · congr 1; omega
    · congr 2; omega
theorem img_shift (l : List Dl) (u : List Int) (x y : Int) (o : Ot) : ∀ n, imgO (instP l u) n (o.map (List.map (shP x y))) = (imgO (instP l u) n o).map (List.map (shP x y)) := by
  induction o with
  | nil => intro n; rfl
  | cons c o ih =>
    intro n
    rw [List.map_cons, imgO, imgO, List.map_cons, rowN_shift, List.length_map, ih]
end Go.Proofs.Ytbodidhggdggmaa
