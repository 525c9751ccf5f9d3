/- SubstStands, the plain law. -/
import Derived.Test.YtmlnjbljdincjaaSb18
namespace Go.Proofs.Ytmlnjbljdincjaa
open Go.RowKit
theorem stepL_ge (x : List Sub) (g : List Int) : ∀ f i, ∀ q ∈ stepL x g f i, i ≤ q.1 := by
  intro f
  induction f with
  | zero => intro i q hq; cases hq
  | succ f ih =>
    intro i q hq
    unfold stepL at hq
    split at hq
    · rcases List.mem_cons.1 hq with rfl | hq
      · exact Nat.le_refl _
      · have := ih _ q hq
        have := nextI_gt x g i
        omega
    · cases hq
theorem stepL_inc (x : List Sub) (g : List Int) : ∀ f i, (stepL x g f i).Pairwise fun p q => p.1 < q.1 := by
  intro f
  induction f with
  | zero => intro i; exact List.Pairwise.nil
  | succ f ih =>
    intro i
    unfold stepL
    split
    · refine List.Pairwise.cons (fun q hq => ?_) (ih _)
      have := stepL_ge x g f _ q hq
      have := nextI_gt x g i
      show i < q.1
      omega
    · exact List.Pairwise.nil
theorem stepL_m (x : List Sub) (g : List Int) : ∀ f i, ∀ q ∈ stepL x g f i, q.2 = matchS x g q.1 := by
  intro f
  induction f with
  | zero => intro i q hq; cases hq
  | succ f ih =>
    intro i q hq
    unfold stepL at hq
    split at hq
    · rcases List.mem_cons.1 hq with rfl | hq
      · rfl
      · exact ih _ q hq
    · cases hq
/-- what holds of the glyphs and their first indices -/
structure SInv (X : List Int) (T : Int → Prop) (st : List Int × List Int) : Prop where
  len : st.1.length = st.2.length
  le : st.1.length ≤ X.length
  inc : st.2.Pairwise fun a b => a < b
  rng : ∀ j ∈ st.2, 0 ≤ j ∧ j < (X.length : Int)
  hd : ∀ j, st.2[0]? = some j → j = 0
  ne : st.1.length = 0 ↔ X.length = 0
  el : ∀ (k : Nat) g f, st.1[k]? = some g → st.2[k]? = some f → X[f.toNat]? = some g ∨ T g
theorem SInv.start (X : List Int) (T : Int → Prop) : SInv X T (X, iota X.length) := by
  have hg : ∀ (k : Nat) f, (iota X.length)[k]? = some f → f = (k : Int) ∧ k < X.length := fun k f h => by
    unfold iota at h
    rw [List.getElem?_map] at h
    cases hk : (List.range X.length)[k]? with
    | none => rw [hk] at h; cases h
    | some i =>
      rw [hk] at h
      obtain ⟨h1, h2⟩ := List.getElem?_eq_some_iff.1 hk
      rw [List.getElem_range] at h2
      rw [List.length_range] at h1
      simp at h
      exact ⟨by omega, h1⟩
  refine ⟨(iota_len _).symm, Nat.le_refl _, ?_, fun j hj => ?_, fun j hj => (hg 0 j hj).1, Iff.rfl, fun k g f h1 h2 => ?_⟩
  · rw [List.pairwise_iff_getElem]
    intro i j h1 h2 hij
    have e1 := hg i _ (List.getElem?_eq_getElem h1)
    have e2 := hg j _ (List.getElem?_eq_getElem h2)
    rw [e1.1, e2.1]
    omega
  · obtain ⟨k, hk, rfl⟩ := List.mem_iff_getElem.1 hj
    have := hg k _ (List.getElem?_eq_getElem hk)
    omega
  · obtain ⟨rfl, _⟩ := hg k f h2
    rw [Int.toNat_natCast]
    exact .inl h1
theorem getD_of_lt {l : List Int} {k : Nat} (h : k < l.length) : l.getD k 0 = l[k] := by rw [List.getD_eq_getElem?_getD, List.getElem?_eq_getElem h]; rfl
theorem SInv.step {X : List Int} {T : Int → Prop} {st : List Int × List Int} {x : List Sub} (h : SInv X T st) (hT : ∀ s ∈ x, T s.2.2.2) : SInv X T (apply1 x st) := by
  obtain ⟨G, F⟩ := st
  have hl := h.len
  simp only at hl
  have h1 := apply1_len x (G, F)
  have hlt := stepL_lt x G G.length 0
  have hinc := stepL_inc x G G.length 0
  have hFi := List.pairwise_iff_getElem.1 h.inc
  refine ⟨h1.1, Nat.le_trans h1.2 h.le, ?_, fun j hj => ?_, fun j hj => ?_, ?_, fun k g f hg hf => ?_⟩
  · show (fstS F (stepsS x G)).Pairwise fun a b => a < b
    unfold fstS
    rw [List.pairwise_map]
    refine List.Pairwise.imp_of_mem (fun {p q} hp hq hpq => ?_) hinc
    have lp : p.1 < F.length := by have := hlt p hp; omega
    have lq : q.1 < F.length := by have := hlt q hq; omega
    rw [getD_of_lt lp, getD_of_lt lq]
    exact hFi p.1 q.1 lp lq hpq
  · obtain ⟨q, hq, rfl⟩ := List.mem_map.1 hj
    have lq : q.1 < F.length := by have := hlt q hq; omega
    show 0 ≤ F.getD q.1 0 ∧ F.getD q.1 0 < _
    rw [getD_of_lt lq]
    exact h.rng _ (List.getElem_mem lq)
  · have hj' : (fstS F (stepsS x G))[0]? = some j := hj
    unfold fstS stepsS at hj'
    rw [List.getElem?_map] at hj'
    cases hG : G.length with
    | zero =>
      rw [hG] at hj'
      simp [stepL] at hj'
    | succ n =>
      rw [hG] at hj'
      unfold stepL at hj'
      rw [if_pos (by omega)] at hj'
      simp only [List.getElem?_cons_zero, Option.map_some] at hj'
      have hF0 : 0 < F.length := by omega
      have e := Option.some.inj hj'
      rw [getD_of_lt hF0] at e
      rw [← e]
      exact h.hd _ (List.getElem?_eq_getElem hF0)
  · show (outS x G (stepsS x G)).length = 0 ↔ X.length = 0
    rw [outS_len, ← h.ne]
    unfold stepsS
    show _ ↔ G.length = 0
    cases hG : G.length with
    | zero => simp [stepL]
    | succ n =>
      unfold stepL
      rw [if_pos (by omega)]
      simp
  · have hg' : (outS x G (stepsS x G))[k]? = some g := hg
    have hf' : (fstS F (stepsS x G))[k]? = some f := hf
    unfold outS at hg'
    unfold fstS at hf'
    rw [List.getElem?_map] at hg' hf'
    cases hk : (stepsS x G)[k]? with
    | none => rw [hk] at hg'; cases hg'
    | some q =>
      rw [hk] at hg' hf'
      simp only [Option.map_some] at hg' hf'
      have hq := List.mem_of_getElem? hk
      have lq : q.1 < G.length := hlt q hq
      have lF : q.1 < F.length := by omega
      have e1 := Option.some.inj hg'
      have e2 := Option.some.inj hf'
      have hm := stepL_m x G G.length 0 q hq
      by_cases h0 : 0 ≤ q.2
      · rw [if_pos h0] at e1
        right
        rcases matchS_inv (x := x) (g := G) (i := (q.1 : Int)) with hn | ⟨j, s, h3, h4, _⟩
        · rw [hm, hn] at h0; omega
        · rw [hm, h3] at e1
          unfold toS at e1
          rw [Int.toNat_natCast, h4] at e1
          rw [← e1]
          exact hT s (List.mem_of_getElem? h4)
      · rw [if_neg h0, getD_of_lt lq] at e1
        rw [getD_of_lt lF] at e2
        exact h.el q.1 g f (by rw [List.getElem?_eq_getElem lq, e1]) (by rw [List.getElem?_eq_getElem lF, e2])
theorem SInv.at_ {X : List Int} {T : Int → Prop} {st : List Int × List Int} (h : SInv X T st) {k : Nat} {f : Int} (hf : st.2[k]? = some f) : (k = 0 ∧ f = 0) ∨ ∃ r y, k = r + 1 ∧ st.2[r]? = some y ∧ y < f := by
  cases k with
  | zero => exact .inl ⟨rfl, h.hd f hf⟩
  | succ r =>
    obtain ⟨h1, h2⟩ := List.getElem?_eq_some_iff.1 hf
    have h3 : r < st.2.length := by omega
    refine .inr ⟨r, st.2[r], rfl, List.getElem?_eq_getElem h3, ?_⟩
    rw [← h2]
    exact List.pairwise_iff_getElem.1 h.inc r (r + 1) h3 h1 (by omega)
theorem sinv_all (l : List (List Sub)) (X : List Int) : SInv X (fun g => ∃ x ∈ l, ∃ s ∈ x, s.2.2.2 = g) (applyS l X) := by
  have go : ∀ (m : List (List Sub)) st, (∀ x ∈ m, x ∈ l) → SInv X (fun g => ∃ x ∈ l, ∃ s ∈ x, s.2.2.2 = g) st → SInv X (fun g => ∃ x ∈ l, ∃ s ∈ x, s.2.2.2 = g) (m.foldl (fun st x => apply1 x st) st) := by
    intro m
    induction m with
    | nil => intro st _ h; exact h
    | cons x m ih =>
      intro st hm h
      exact ih _ (fun y hy => hm y (by simp [hy])) (h.step (fun s hs => ⟨x, hm x (by simp), s, hs, rfl⟩))
  exact go l _ (fun _ h => h) (SInv.start X _)
end Go.Proofs.Ytmlnjbljdincjaa
