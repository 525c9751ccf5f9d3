/- Streams: what comes out of all calls is what Apply returns; in plain Lean. -/
import Derived.Test.YtfbgbbbfpkpfkaaTr0
namespace Go.Proofs.Ytfbgbbbfpkpfkaa
open Go.RowKit
theorem stepL_fuel (x : List Sub) (g : List Int) : ∀ f f' i, g.length ≤ f + i → g.length ≤ f' + i → stepL x g f i = stepL x g f' i := by
  intro f
  induction f with
  | zero => intro f' i h _; rw [stepL_end x g 0 i (by omega), stepL_end x g f' i (by omega)]
  | succ f ih =>
    intro f' i h h'
    by_cases hi : i < g.length
    · cases f' with
      | zero => omega
      | succ f' =>
        have hn := nextI_gt x g i
        rw [stepL, stepL, if_pos hi, if_pos hi, ih f' (nextI x g i) (by omega) (by omega)]
    · rw [stepL_end x g _ i (by omega), stepL_end x g _ i (by omega)]
/-- the results from a glyph on -/
def OF (x : List Sub) (g : List Int) (i : Nat) : List Int := outS x g (stepL x g (g.length - i) i)
theorem OF_end (x : List Sub) (g : List Int) (i : Nat) (h : g.length ≤ i) : OF x g i = [] := by
  unfold OF
  rw [stepL_end x g _ i h]
  rfl
theorem OF_step (x : List Sub) (g : List Int) (i : Nat) (h : i < g.length) : OF x g i = (if 0 ≤ matchS x g i then toS x (matchS x g i) else g.getD i 0) :: OF x g (nextI x g i) := by
  have hn := nextI_gt x g i
  unfold OF
  rw [show g.length - i = (g.length - i - 1) + 1 by omega, stepL, if_pos h]
  unfold outS
  rw [List.map_cons]
  congr 1
  rw [stepL_fuel x g (g.length - i - 1) (g.length - nextI x g i) (nextI x g i) (by omega) (by omega)]
theorem OF_zero (x : List Sub) (g : List Int) : OF x g 0 = outS x g (stepsS x g) := by unfold OF stepsS; rw [Nat.sub_zero]

theorem findSub_congr {g g' : List Int} {i i' : Int} : ∀ (x : List Sub) (k : Nat), (∀ s ∈ x, subAt s g i = subAt s g' i') → findSub g i x k = findSub g' i' x k := by
  intro x
  induction x with
  | nil => intro k _; rfl
  | cons s x ih =>
    intro k h
    rw [findSub, findSub, h s (by simp), ih (k + 1) (fun t ht => h t (by simp [ht]))]
/-- a stage between glyphs -/
def stA (p : List Int) (i : Nat) : Stg := (last2 (p.take i), p.drop i)
theorem last2_take (p : List Int) (i : Nat) (h : i ≤ p.length) : last2 (p.take i) ++ p.drop i = p.drop (i - 2) ∧ (last2 (p.take i)).length = i - (i - 2) := by
  unfold last2
  rw [List.length_take, Nat.min_eq_left h]
  constructor
  · have h1 : p.drop (i - 2) = (p.take i ++ p.drop i).drop (i - 2) := by rw [List.take_append_drop]
    rw [h1, List.drop_append_of_le_length (by rw [List.length_take]; omega)]
  · rw [List.length_drop, List.length_take]
    omega
theorem subAt_stA {s : Sub} {p r : List Int} {i : Nat} (hi : i ≤ p.length) (hb : s.1.length ≤ 2) (hw : s.2.1.length + s.2.2.1.length ≤ p.length - i ∨ r = []) :
    subAt s (last2 (p.take i) ++ p.drop i) ((last2 (p.take i)).length : Nat) = subAt s (p ++ r) (i : Nat) := by
  obtain ⟨e1, e2⟩ := last2_take p i hi
  rw [e1, e2, Bool.eq_iff_iff, subAt_iff, subAt_iff]
  have hl : (p.drop (i - 2)).length = p.length - (i - 2) := List.length_drop
  have hall := allOf_len s
  constructor
  · rintro ⟨h1, h2, h3, h4⟩
    refine ⟨h1, by omega, by rw [List.length_append]; omega, fun k hk => ?_⟩
    have h5 := h4 k hk
    rw [List.getElem?_drop] at h5
    rw [List.getElem?_append_left (by omega), ← h5]
    congr 1
    omega
  · rintro ⟨h1, h2, h3, h4⟩
    rw [List.length_append] at h3
    have h6 : i + s.2.1.length + s.2.2.1.length ≤ p.length := by
      rcases hw with hw | rfl
      · omega
      · simpa using h3
    refine ⟨h1, by omega, by omega, fun k hk => ?_⟩
    have h5 := h4 k hk
    rw [List.getElem?_append_left (by omega)] at h5
    rw [List.getElem?_drop, ← h5]
    congr 1
    omega
theorem decK_stA {x : List Sub} {p r : List Int} {i : Nat} (hi : i < p.length) (hb : ∀ s ∈ x, s.1.length ≤ 2) (hw : winS x ≤ p.length - i ∨ r = []) : decK x (stA p i) = matchS x (p ++ r) (i : Nat) := by
  obtain ⟨e1, e2⟩ := last2_take p i (by omega)
  unfold decK stA matchS
  simp only
  rw [if_pos (by rw [e1, e2, List.length_drop]; omega), if_pos (by rw [List.length_append]; omega)]
  refine findSub_congr x 0 (fun s hs => subAt_stA (by omega) (hb s hs) ?_)
  rcases hw with hw | hw
  · exact .inl (Nat.le_trans (winS_mem hs) hw)
  · exact .inr hw
theorem dec_stA {x : List Sub} {p r : List Int} {i : Nat} (hi : i < p.length) (hb : ∀ s ∈ x, s.1.length ≤ 2) (hw : winS x ≤ p.length - i ∨ r = []) :
    decO x (stA p i) = (if 0 ≤ matchS x (p ++ r) i then toS x (matchS x (p ++ r) i) else (p ++ r).getD i 0) ∧ decS x (stA p i) = stA p (nextI x (p ++ r) i) ∧ nextI x (p ++ r) i ≤ p.length := by
  have hk := decK_stA (r := r) hi hb hw
  obtain ⟨e1, e2⟩ := last2_take p i (by omega)
  have hdl : (stA p i).2.length = p.length - i := by unfold stA; rw [List.length_drop]
  have hN : decN x (stA p i) = nextI x (p ++ r) i - i ∧ nextI x (p ++ r) i ≤ p.length := by
    unfold decN nextI
    rw [hk]
    rcases matchS_inv (x := x) (g := (stA p i).1 ++ (stA p i).2) (i := (((stA p i).1.length : Nat) : Int)) with h | ⟨k, s, h1, h2, h3, _⟩
    · have : matchS x (p ++ r) i = -1 := by rw [← hk]; exact h
      rw [this]
      simp
      omega
    · have h4 : matchS x (p ++ r) i = k := by rw [← hk]; exact h1
      rw [h4, if_pos (by omega), if_pos (by omega)]
      have hf : fromL x (k : Int) = s.2.1.length := by unfold fromL; rw [Int.toNat_natCast, h2]
      rw [hf, hdl]
      have h5 := (subAt_iff _ _ _).1 h3
      unfold stA at h5
      simp only at h5
      rw [e1, e2, List.length_drop] at h5
      omega
  have hgt := nextI_gt x (p ++ r) i
  refine ⟨?_, ?_, hN.2⟩
  · unfold decO
    rw [hk]
    split
    · rfl
    · unfold stA
      simp only
      rw [List.getD_eq_getElem?_getD, List.getD_eq_getElem?_getD, List.getElem?_drop, Nat.add_zero, List.getElem?_append_left hi]
  · unfold decS
    rw [hN.1]
    generalize nextI x (p ++ r) i = j at *
    unfold stA
    simp only [Prod.mk.injEq]
    constructor
    · have h1 : last2 (p.take i) ++ (p.drop i).take (j - i) = (p.drop (i - 2)).take (j - (i - 2)) := by
        rw [← e1, List.take_append (l₁ := last2 (p.take i)) (l₂ := p.drop i), e2, List.take_of_length_le (l := last2 (p.take i)) (by rw [e2]; omega), show j - (i - 2) - (i - (i - 2)) = j - i by omega]
      rw [h1]
      unfold last2
      rw [List.length_take, List.length_drop, List.length_take, List.take_drop, show i - 2 + (j - (i - 2)) = j by omega, List.drop_drop]
      congr 1
      omega
    · rw [List.drop_drop]
      congr 1
      omega
theorem loop_one {x : List Sub} {p r : List Int} (hb : ∀ s ∈ x, s.1.length ≤ 2) (M : Nat) (hM1 : 1 ≤ M) (hM : winS x ≤ M ∨ r = []) : ∀ (f i : Nat), i ≤ p.length → ∃ i', i ≤ i' ∧ i' ≤ p.length ∧ (loopS M x (feedS []) f (stA p i) []).1 = (stA p i', []) ∧ OF x (p ++ r) i = (loopS M x (feedS []) f (stA p i) []).2 ++ OF x (p ++ r) i' ∧ (p.length - i ≤ f → p.length - i' < M) := by
  intro f
  induction f with
  | zero => intro i hi; exact ⟨i, Nat.le_refl _, hi, rfl, rfl, fun h => by omega⟩
  | succ f ih =>
    intro i hi
    have hdl : (stA p i).2.length = p.length - i := by unfold stA; rw [List.length_drop]
    by_cases hg : M ≤ (stA p i).2.length
    · obtain ⟨d1, d2, d3⟩ := dec_stA (x := x) (r := r) (i := i) (p := p) (by omega) hb (by rcases hM with h | h; exact .inl (by omega); exact .inr h)
      have hgt := nextI_gt x (p ++ r) i
      obtain ⟨i', h1, h2, h3, h4, h5⟩ := ih (nextI x (p ++ r) i) d3
      refine ⟨i', by omega, h2, ?_, ?_, fun h => h5 (by omega)⟩
      · rw [loopS, if_pos hg, d2]
        exact h3
      · rw [loopS, if_pos hg, d2, d1, OF_step _ _ _ (by rw [List.length_append]; omega), h4]
        rfl
    · refine ⟨i, Nat.le_refl _, hi, ?_, ?_, fun _ => by omega⟩
      · rw [loopS, if_neg hg]
      · rw [loopS, if_neg hg]
        simp
theorem feedS_one (x : List Sub) (s : Stg) (y : Int) : feedS [x] [s] y = ((loopS (winS x) x (feedS []) (s.2.length + 1) (s.1, s.2 ++ [y]) []).1.1 :: (loopS (winS x) x (feedS []) (s.2.length + 1) (s.1, s.2 ++ [y]) []).1.2, (loopS (winS x) x (feedS []) (s.2.length + 1) (s.1, s.2 ++ [y]) []).2) := rfl
theorem feed_one {x : List Sub} (hb : ∀ s ∈ x, s.1.length ≤ 2) : ∀ (rest p : List Int) (i : Nat), i ≤ p.length → ∃ i', i' ≤ (p ++ rest).length ∧ (feedAll [x] [stA p i] rest).1 = [stA (p ++ rest) i'] ∧ OF x (p ++ rest) i = (feedAll [x] [stA p i] rest).2 ++ OF x (p ++ rest) i' := by
  intro rest
  induction rest with
  | nil =>
    intro p i hi
    rw [List.append_nil]
    exact ⟨i, hi, rfl, by simp [feedAll]⟩
  | cons y rest ih =>
    intro p i hi
    have hst : ((stA p i).1, (stA p i).2 ++ [y]) = stA (p ++ [y]) i := by
      unfold stA
      rw [List.take_append_of_le_length hi, List.drop_append_of_le_length hi]
    have hpr : p ++ y :: rest = (p ++ [y]) ++ rest := by simp
    obtain ⟨i1, h1, h2, h3, h4, _⟩ := loop_one (x := x) (p := p ++ [y]) (r := rest) hb (winS x) (winS_pos x) (.inl (Nat.le_refl _)) ((stA p i).2.length + 1) i (by rw [List.length_append]; omega)
    obtain ⟨i2, g1, g2, g3⟩ := ih (p ++ [y]) i1 h2
    have hf : feedS [x] [stA p i] y = ([stA (p ++ [y]) i1], (loopS (winS x) x (feedS []) ((stA p i).2.length + 1) (stA (p ++ [y]) i) []).2) := by
      rw [← hst] at h3 ⊢
      rw [feedS_one, h3]
    rw [hpr]
    refine ⟨i2, g1, ?_, ?_⟩
    · simp only [feedAll]
      rw [hf]
      exact g2
    · simp only [feedAll]
      rw [hf, h4, g3]
      exact (List.append_assoc _ _ _).symm
theorem all_one {x : List Sub} (hb : ∀ s ∈ x, s.1.length ≤ 2) (g : List Int) : allS [x] g = outS x g (stepsS x g) := by
  have h0 : startS [x] = [stA [] 0] := rfl
  obtain ⟨i, h1, h2, h3⟩ := feed_one hb g [] 0 (Nat.le_refl _)
  rw [List.nil_append] at h1 h2 h3
  obtain ⟨i', _, g2, g3, g4, g5⟩ := loop_one (x := x) (p := g) (r := []) hb 1 (Nat.le_refl _) (.inr rfl) (stA g i).2.length i h1
  rw [List.append_nil] at g4
  have hdl : (stA g i).2.length = g.length - i := by unfold stA; rw [List.length_drop]
  have hi' : i' = g.length := by have := g5 (by omega); omega
  unfold allS
  rw [h0, h2]
  simp only [endS]
  rw [List.append_nil, ← OF_zero, h3, g4, hi', OF_end x g _ (Nat.le_refl _), List.append_nil]
theorem foldl_fst (l : List (List Sub)) : ∀ (a b c : List Int), (l.foldl (fun st x => apply1 x st) (a, b)).1 = (l.foldl (fun st x => apply1 x st) (a, c)).1 := by
  induction l with
  | nil => intro a b c; rfl
  | cons x l ih => intro a b c; exact ih _ _ _
theorem allS_nil (g : List Int) : allS [] g = g := by
  have h : ∀ g : List Int, feedAll [] [] g = ([], g) := by
    intro g
    induction g with
    | nil => rfl
    | cons y g ih => simp [feedAll, feedS, ih]
  unfold allS
  rw [show startS [] = [] from rfl, h]
  simp [endS]
/-- StreamApplies -/
theorem applies_plain : ∀ (l : List (List Sub)) (g : List Int), (∀ x ∈ l, ∀ s ∈ x, s.1.length ≤ 2) → allS l g = (applyS l g).1 := by
  intro l
  induction l with
  | nil => intro g _; rw [allS_nil]; rfl
  | cons x xs ih =>
    intro g h
    rw [show x :: xs = [x] ++ xs from rfl, allS_chain, all_one (h x (by simp)), ih _ (fun y hy => h y (by simp [hy]))]
    unfold applyS
    rw [List.foldl_append]
    exact foldl_fst xs _ _ _
/-- StreamPrefix -/
theorem prefix_plain (l : List (List Sub)) (g m : List Int) (h : ∀ x ∈ l, ∀ s ∈ x, s.1.length ≤ 2) : ∃ t, (applyS l (g ++ m)).1 = (feedAll l (startS l) g).2 ++ t := by
  rw [← applies_plain l (g ++ m) h]
  unfold allS
  rw [feedAll_app]
  exact ⟨_, List.append_assoc _ _ _⟩
end Go.Proofs.Ytfbgbbbfpkpfkaa
