/- Drawn regions: quiet operations in front (their callees may make memory), a forced tail: one walk in the order of the text. -/
import Derived.Test.YtfegkaflemcanaaFront
import Derived.Test.YtfegkaflemcanaaPre
namespace Go.Proofs.Ytfegkaflemcanaa
open Go.RowKit
section
variable {P : Program} {l : List Oper} {Q : Exit → Act → World → Prop}

theorem front_facts {m : Nat} (hB : frontB .any l m = true) (i : Nat) (hi : i < m) :
    ∃ o, l[i]? = some o ∧ plainOp o = true ∧ (∀ j, depsOf .any l i j = true → j < i) ∧
      (∀ j, j < m → ∀ o', l[j]? = some o' → (j ≠ i → o.dst = none ∨ o.dst ≠ o'.dst) ∧ ∀ t, .tmp t ∈ o.op.operands → o'.dst = some t → depsOf .any l i j = true) := by
  simp only [frontB, Bool.and_eq_true, List.all_eq_true, List.mem_range] at hB
  have h := hB.1.1.2 i hi
  cases ho : l[i]? with
  | none => simp [ho] at h
  | some o =>
    simp only [ho, Bool.and_eq_true] at h
    obtain ⟨⟨h1, h2⟩, h3⟩ := h
    refine ⟨o, rfl, h2, fun j hj => ?_, fun j hj o' ho' => ?_⟩
    · simp only [depsOf, ho, Array.any_eq_true', Bool.and_eq_true, beq_iff_eq] at hj
      obtain ⟨e, he, hb, rfl⟩ := hj
      have := (Array.all_eq_true'.1 h1) e he
      simpa [hb] using this
    · have hj2 := (List.all_eq_true.1 h3) j (List.mem_range.2 hj)
      simp only [ho', Bool.and_eq_true, Bool.or_eq_true, beq_iff_eq, bne_iff_ne, ne_eq, Option.isNone_iff_eq_none] at hj2
      refine ⟨fun hne => ?_, fun t ht hd => ?_⟩
      · rcases hj2.1 with (h | h) | h
        · exact absurd h hne
        · exact Or.inl h
        · exact Or.inr h
      · have h5 := (Array.all_eq_true'.1 hj2.2) _ ht
        simp only [Bool.or_eq_true, bne_iff_ne, ne_eq] at h5
        rcases h5 with h5 | h5
        · exact absurd hd h5
        · exact h5

theorem plain_wanted {o : Oper} (hp : plainOp o = true) (y : Nat → Option Bool) : Region.wanted o y = true := by
  simp only [plainOp, Bool.and_eq_true, Option.isNone_iff_eq_none] at hp
  simp [Region.wanted, hp.1]

theorem lexv {m : Nat} {C : World → Prop} {K : Act → Prop} {a : Act} (hB : frontB .any l m = true) (hml : m ≤ l.length) : ∀ (n k : Nat) (vs : Nat → Value), k + n = m →
    wpQuiet P l.toArray C K ((l.take m).drop k) (putSome l (fun j => decide (j < k)) vs a (List.range m)) →
    ∃ vs' : Nat → Value, (∀ j, j < k → vs' j = vs j) ∧ (∀ i, k ≤ i → i < m → ∀ o, l[i]? = some o → ∀ w, C w → o.quietAt P (putSome l (fun j => decide (j < i)) vs' a (List.range m)) C w (vs' i)) ∧
      K (putSome l (fun j => decide (j < m)) vs' a (List.range m)) := by
  intro n
  induction n with
  | zero =>
    intro k vs hk h
    obtain rfl : k = m := by omega
    rw [List.drop_of_length_le (by simp; omega)] at h
    exact ⟨vs, fun _ _ => rfl, fun i h1 h2 => by omega, h⟩
  | succ n ih =>
    intro k vs hk h
    obtain ⟨o, ho, hp, hdl, hd⟩ := front_facts hB k (by omega)
    have hcons : (l.take m).drop k = o :: (l.take m).drop (k + 1) := by
      have hlt : k < (l.take m).length := by simp; omega
      rw [List.drop_eq_getElem_cons hlt]
      congr 1
      rw [List.getElem_take]
      exact Option.some.inj ((List.getElem?_eq_getElem (by omega)).symm.trans ho)
    rw [hcons] at h
    unfold wpQuiet at h
    rw [plain_wanted hp, if_pos rfl] at h
    obtain ⟨v, hv, hn⟩ := h
    have hmore := putSome_more (front := l) (l := fun j => decide (j < k)) (vs := vs) (i := k) (o := o) (v := v) ho (js := List.range m) List.nodup_range (List.mem_range.2 (by omega)) (by simp)
      (fun j hj o' ho' hne => (hd j (List.mem_range.1 hj) o' ho').1 hne) a
    rw [← hmore] at hn
    have hc : putSome l (fun j => decide (j < k) || j == k) (fun j => if j = k then v else vs j) a (List.range m) = putSome l (fun j => decide (j < k + 1)) (fun j => if j = k then v else vs j) a (List.range m) :=
      putSome_congr (fun i _ => ⟨by rw [Bool.eq_iff_iff]; simp; omega, fun _ => rfl⟩) a
    rw [hc] at hn
    obtain ⟨vs', h1, h2, h3⟩ := ih (k + 1) _ (by omega) hn
    refine ⟨vs', fun j hj => ?_, fun i hki him o' ho' w hw => ?_, h3⟩
    · rw [h1 j (by omega), if_neg (by omega)]
    · by_cases hik : i = k
      · subst hik
        obtain rfl : o = o' := Option.some.inj (ho.symm.trans ho')
        have e1 : vs' i = v := by rw [h1 i (by omega), if_pos rfl]
        have e2 : putSome l (fun j => decide (j < i)) vs' a (List.range m) = putSome l (fun j => decide (j < i)) vs a (List.range m) :=
          putSome_congr (fun j _ => ⟨rfl, fun hj => by
            have hj := of_decide_eq_true hj
            rw [h1 j (by omega), if_neg (by omega)]⟩) a
        rw [e1, e2]
        exact hv w hw
      · exact h2 i (by omega) him o' ho' w hw

/-- A region that draws its order: its first m operations are quiet over a class of worlds; the others come last, in order. -/
theorem wp_region_tail {id : Nat} {a : Act} {w : World} (m : Nat) (C : World → Prop)
    (hm : P.follows .mixedOrders = true) (hB : frontB .any l m = true) (hC : C { w with drawn := w.drawn + 1 })
    (h : wpQuiet P l.toArray C (fun a' => ∀ w', C w' → wpList P l.toArray Q (l.drop m) a' w') (l.take m) a) :
    (Code.region id l.toArray true).wp P Q a w := by
  have hml : m ≤ l.length := by
    have := hB
    simp only [frontB, Bool.and_eq_true, decide_eq_true_eq] at this
    exact this.1.1.1
  have h0 : putSome l (fun j => decide (j < 0)) (fun _ => undef) a (List.range m) = a := by
    rw [putSome_list, List.filter_eq_nil_iff.2 (by simp)]; rfl
  obtain ⟨vs, _, hq, hK⟩ := lexv (P := P) (C := C) (a := a) hB hml m 0 (fun _ => undef) (by omega) (by rw [h0, List.drop_zero]; exact h)
  refine wp_region_front m (fun _ _ w' => C w') (fun _ _ => True) (fun i v _ => v = vs i) hm hB hC (fun _ _ _ _ _ h => h) ?_ ?_
  · intro i hi o ho vs' L w1 _ hC1 hf
    obtain ⟨o', ho', hp, hdl, hd⟩ := front_facts hB i hi
    obtain rfl : o = o' := Option.some.inj (ho.symm.trans ho')
    have e1 : putSome l (depsOf .any l i) vs' a (List.range m) = putSome l (depsOf .any l i) vs a (List.range m) :=
      putSome_congr (fun j hj => ⟨rfl, fun hdj => hf j (List.mem_range.1 hj) hdj⟩) a
    rw [e1]
    generalize hb : putSome l (depsOf .any l i) vs a (List.range m) = b
    have hev : execOp b.eval o = execOp (putSome l (fun j => decide (j < i)) vs a (List.range m)).eval o := by
      refine execOp_same hp fun t ht => ?_
      rw [← hb]
      refine putSome_at (fun j hj o'' ho'' hdt => ?_) a a rfl rfl
      have hdep := (hd j (List.mem_range.1 hj) o'' ho'').2 t ht hdt
      rw [hdep]
      have := hdl j hdep
      simp [this]
    unfold wpList
    rw [plain_wanted hp, if_pos rfl]
    refine Or.inl (Oper.wp_of_quiet (C := C) (K := fun a' => a' = b.put o.dst (vs i)) hC1 ?_ ⟨vs i, fun w hw => ?_, rfl⟩)
    · rintro a' w' hw' rfl
      exact ⟨rfl, vs i, rfl, hw', trivial, rfl⟩
    · have := hq i (by omega) hi o ho w hw
      unfold Oper.quietAt at *
      rw [hev]
      exact this
  · intro vs' L w' _ hC' hf
    have e1 : putSome l (fun _ => true) vs' a (List.range m) = putSome l (fun j => decide (j < m)) vs a (List.range m) :=
      putSome_congr (fun j hj => ⟨by have := List.mem_range.1 hj; simp [this], fun _ => hf j (List.mem_range.1 hj)⟩) a
    rw [e1]
    exact hK w' hC'
end

/-- The same, where the callees make memory alone: the class of the worlds that grew out of this one. -/
theorem wp_region_ext_tail {P : Program} {id : Nat} {Q : Exit → Act → World → Prop} {a : Act} {w : World} {l : List Oper} (m : Nat) (hm : P.follows .mixedOrders = true) (hB : frontB .any l m = true)
    (h : wpQuiet P l.toArray (fun w' => ∃ x : Ext w, w' = x.get) (fun a' => ∀ w', (∃ x : Ext w, w' = x.get) → wpList P l.toArray Q (l.drop m) a' w') (l.take m) a) : (Code.region id l.toArray true).wp P Q a w :=
  wp_region_tail (C := fun w' => ∃ x : Ext w, w' = x.get) m hm hB ⟨⟨w.drew, (Below.refl _ _).drew⟩, rfl⟩ h
end Go.Proofs.Ytfegkaflemcanaa
