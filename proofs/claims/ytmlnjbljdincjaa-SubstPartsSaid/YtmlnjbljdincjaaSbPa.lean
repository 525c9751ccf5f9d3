/- SubstParts, the plain law: other numbers; two independent parts. -/
import Derived.Test.YtmlnjbljdincjaaSbS0
namespace Go.Proofs.Ytmlnjbljdincjaa
open Go.RowKit
def renSub (s : Sub) : Sub := (renS s.1, renS s.2.1, renS s.2.2.1, 70 - 9 * s.2.2.2)
def renX (x : List Sub) : List Sub := x.map renSub
def renL (l : List (List Sub)) : List (List Sub) := l.map renX
theorem renS_len (l : List Int) : (renS l).length = l.length := by unfold renS; simp
theorem renS_at (l : List Int) (k : Nat) : (renS l)[k]? = (l[k]?).map fun x => 70 - 9 * x := by unfold renS; rw [List.getElem?_map]
theorem ren_inj {a b : Option Int} : (a.map fun x => 70 - 9 * x) = (b.map fun x => 70 - 9 * x) ↔ a = b := by
  cases a <;> cases b <;> simp
  omega
theorem stands_ren (l g : List Int) (i : Int) : standsS (renS l) (renS g) i = standsS l g i := by
  unfold standsS
  rw [decide_eq_decide, renS_len, renS_len]
  refine ⟨fun ⟨h1, h2, h3⟩ => ⟨h1, h2, fun k hk => ?_⟩, fun ⟨h1, h2, h3⟩ => ⟨h1, h2, fun k hk => ?_⟩⟩
  · have := h3 k hk
    rw [renS_at, renS_at] at this
    exact ren_inj.1 this
  · rw [renS_at, renS_at]
    exact ren_inj.2 (h3 k hk)
theorem subAt_ren (s : Sub) (g : List Int) (i : Int) : subAt (renSub s) (renS g) i = subAt s g i := by
  unfold subAt renSub
  simp only [stands_ren, renS_len]
theorem findSub_ren (g : List Int) (i : Int) (x : List Sub) : ∀ k, findSub (renS g) i (renX x) k = findSub g i x k := by
  induction x with
  | nil => intro k; rfl
  | cons s x ih =>
    intro k
    show (if subAt (renSub s) (renS g) i then (k : Int) else findSub (renS g) i (renX x) (k + 1)) = _
    rw [subAt_ren, ih (k + 1), findSub]
theorem matchS_ren (x : List Sub) (g : List Int) (i : Int) : matchS (renX x) (renS g) i = matchS x g i := by
  unfold matchS
  rw [renS_len, findSub_ren]
theorem fromL_ren (x : List Sub) (k : Int) : fromL (renX x) k = fromL x k := by
  unfold fromL renX
  rw [List.getElem?_map]
  cases x[k.toNat]? with
  | none => rfl
  | some s => exact renS_len _
theorem stepL_ren (x : List Sub) (g : List Int) : ∀ f i, stepL (renX x) (renS g) f i = stepL x g f i := by
  intro f
  induction f with
  | zero => intro i; rfl
  | succ f ih =>
    intro i
    unfold stepL
    rw [renS_len, matchS_ren]
    have : nextI (renX x) (renS g) i = nextI x g i := by
      unfold nextI
      rw [matchS_ren, fromL_ren]
    rw [this, ih]
theorem apply1_ren (x : List Sub) (g f : List Int) : apply1 (renX x) (renS g, f) = (renS (apply1 x (g, f)).1, (apply1 x (g, f)).2) := by
  have e : stepsS (renX x) (renS g) = stepsS x g := by
    unfold stepsS
    rw [renS_len, stepL_ren]
  unfold apply1
  rw [e]
  refine Prod.ext ?_ rfl
  show outS (renX x) (renS g) (stepsS x g) = renS (outS x g (stepsS x g))
  unfold outS
  show _ = List.map _ (List.map _ _)
  rw [List.map_map]
  refine List.map_congr_left fun q hq => ?_
  have hlt := stepL_lt x g _ _ q hq
  have hm := stepL_m x g _ _ q hq
  show (if 0 ≤ q.2 then toS (renX x) q.2 else (renS g).getD q.1 0) = 70 - 9 * (if 0 ≤ q.2 then toS x q.2 else g.getD q.1 0)
  split
  · rename_i h0
    rcases matchS_inv (x := x) (g := g) (i := (q.1 : Int)) with h | ⟨k, s, h1, h2, _⟩
    · rw [hm, h] at h0
      omega
    · unfold toS renX
      rw [hm, h1, Int.toNat_natCast, List.getElem?_map, h2]
      rfl
  · rw [List.getD_eq_getElem?_getD, renS_at, List.getD_eq_getElem?_getD, List.getElem?_eq_getElem hlt]
    rfl
theorem foldl_ren (l : List (List Sub)) : ∀ g f : List Int, (renL l).foldl (fun st x => apply1 x st) (renS g, f) = (renS (l.foldl (fun st x => apply1 x st) (g, f)).1, (l.foldl (fun st x => apply1 x st) (g, f)).2) := by
  induction l with
  | nil => intro g f; rfl
  | cons x l ih =>
    intro g f
    show (renL l).foldl _ (apply1 (renX x) (renS g, f)) = _
    rw [apply1_ren]
    exact ih _ _
/-- other numbers of glyphs play no part -/
theorem applyS_ren (l : List (List Sub)) (g : List Int) : applyS (renL l) (renS g) = (renS (applyS l g).1, (applyS l g).2) := by
  unfold applyS
  rw [renS_len]
  exact foldl_ren l _ _
/-- no substitution looks at 4 -/
def No4 (x : List Sub) : Prop := ∀ s ∈ x, ∀ y ∈ allOf s, y ≠ 4
section
variable {x : List Sub} {G H : List Int}
theorem at_left {i : Nat} (h : i < G.length) : (G ++ 4 :: H)[i]? = G[i]? := List.getElem?_append_left h
theorem at_mid : (G ++ (4 : Int) :: H)[G.length]? = some 4 := by rw [List.getElem?_append_right (Nat.le_refl _), Nat.sub_self]; rfl
theorem at_right {j : Nat} : (G ++ (4 : Int) :: H)[G.length + 1 + j]? = H[j]? := by
  rw [List.getElem?_append_right (by omega), show G.length + 1 + j - G.length = j + 1 by omega]
  rfl
theorem no_mid {s : Sub} (hs : ∀ y ∈ allOf s, y ≠ 4) {a : Nat} (ha : a ≤ G.length) (hb : G.length < a + (allOf s).length) (hk : ∀ k, k < (allOf s).length → (G ++ (4 : Int) :: H)[a + k]? = (allOf s)[k]?) : False := by
  have := hk (G.length - a) (by omega)
  rw [show a + (G.length - a) = G.length by omega, at_mid] at this
  exact hs 4 (List.mem_of_getElem? this.symm) rfl
theorem subAt_left {s : Sub} (hs : ∀ y ∈ allOf s, y ≠ 4) {i : Nat} (hi : i < G.length) : subAt s (G ++ (4 : Int) :: H) i = subAt s G i := by
  rw [Bool.eq_iff_iff, subAt_iff, subAt_iff]
  have hl := allOf_len s
  constructor
  · rintro ⟨h1, h2, h3, h4⟩
    have h5 : i + s.2.1.length + s.2.2.1.length ≤ G.length := by
      rcases Nat.lt_or_ge G.length (i + s.2.1.length + s.2.2.1.length) with h | h
      · exact (no_mid hs (a := i - s.1.length) (by omega) (by omega) h4).elim
      · exact h
    exact ⟨h1, h2, h5, fun k hk => (at_left (by omega)).symm.trans (h4 k hk)⟩
  · rintro ⟨h1, h2, h3, h4⟩
    exact ⟨h1, h2, by simp; omega, fun k hk => (at_left (by omega)).trans (h4 k hk)⟩
theorem subAt_mid {s : Sub} (hs : ∀ y ∈ allOf s, y ≠ 4) : subAt s (G ++ (4 : Int) :: H) G.length = false := by
  rw [Bool.eq_false_iff]
  intro h
  obtain ⟨h1, h2, h3, h4⟩ := (subAt_iff _ _ _).1 h
  have hl := allOf_len s
  exact no_mid hs (a := G.length - s.1.length) (by omega) (by omega) h4
theorem subAt_right {s : Sub} (hs : ∀ y ∈ allOf s, y ≠ 4) {j : Nat} : subAt s (G ++ (4 : Int) :: H) ((G.length + 1 + j : Nat) : Int) = subAt s H j := by
  rw [Bool.eq_iff_iff, subAt_iff, subAt_iff]
  have hl := allOf_len s
  have hw : (G ++ (4 : Int) :: H).length = G.length + 1 + H.length := by simp; omega
  constructor
  · rintro ⟨h1, h2, h3, h4⟩
    have h5 : s.1.length ≤ j := by
      rcases Nat.lt_or_ge j s.1.length with h | h
      · exact (no_mid hs (a := G.length + 1 + j - s.1.length) (by omega) (by omega) h4).elim
      · exact h
    refine ⟨h1, h5, by omega, fun k hk => ?_⟩
    rw [← h4 k hk, show G.length + 1 + j - s.1.length + k = G.length + 1 + (j - s.1.length + k) by omega, at_right]
  · rintro ⟨h1, h2, h3, h4⟩
    refine ⟨h1, by omega, by omega, fun k hk => ?_⟩
    rw [← h4 k hk, show G.length + 1 + j - s.1.length + k = G.length + 1 + (j - s.1.length + k) by omega, at_right]
theorem findSub_eq {g g' : List Int} {i i' : Int} : ∀ {x : List Sub}, (∀ s ∈ x, subAt s g i = subAt s g' i') → ∀ k, findSub g i x k = findSub g' i' x k := by
  intro x
  induction x with
  | nil => intro _ k; rfl
  | cons s x ih =>
    intro h k
    rw [findSub, findSub, h s (by simp), ih (fun t ht => h t (by simp [ht]))]
theorem matchS_left (hx : No4 x) {i : Nat} (hi : i < G.length) : matchS x (G ++ (4 : Int) :: H) i = matchS x G i := by
  unfold matchS
  rw [if_pos ⟨by omega, by simp; omega⟩, if_pos ⟨by omega, by omega⟩]
  exact findSub_eq (fun s hs => subAt_left (hx s hs) hi) 0
theorem matchS_mid (hx : No4 x) : matchS x (G ++ (4 : Int) :: H) G.length = -1 := matchS_none fun _ s _ hs => subAt_mid (hx s (List.mem_of_getElem? hs))
theorem matchS_right (hx : No4 x) {j : Nat} (hj : j < H.length) : matchS x (G ++ (4 : Int) :: H) ((G.length + 1 + j : Nat) : Int) = matchS x H j := by
  unfold matchS
  rw [if_pos ⟨by omega, by simp; omega⟩, if_pos ⟨by omega, by omega⟩]
  exact findSub_eq (fun s hs => subAt_right (hx s hs)) 0
theorem stepL_fuel (x : List Sub) (g : List Int) : ∀ f f' i, g.length - i ≤ f → g.length - i ≤ f' → stepL x g f i = stepL x g f' i := by
  intro f
  induction f with
  | zero =>
    intro f' i h _
    rw [stepL_end x g f' i (by omega)]
    rfl
  | succ f ih =>
    intro f' i h h'
    rcases Nat.lt_or_ge i g.length with hi | hi
    · obtain ⟨f', rfl⟩ : ∃ k, f' = k + 1 := ⟨f' - 1, by omega⟩
      have := nextI_gt x g i
      unfold stepL
      rw [if_pos hi, if_pos hi, ih f' _ (by omega) (by omega)]
    · rw [stepL_end x g _ i hi, stepL_end x g _ i hi]
theorem stepL_right (hx : No4 x) : ∀ f j, stepL x (G ++ (4 : Int) :: H) f (G.length + 1 + j) = (stepL x H f j).map fun q => (G.length + 1 + q.1, q.2) := by
  intro f
  induction f with
  | zero => intro j; rfl
  | succ f ih =>
    intro j
    have hw : (G ++ (4 : Int) :: H).length = G.length + 1 + H.length := by simp; omega
    rcases Nat.lt_or_ge j H.length with hj | hj
    · have e : nextI x (G ++ (4 : Int) :: H) (G.length + 1 + j) = G.length + 1 + nextI x H j := by
        unfold nextI
        rw [matchS_right hx hj]
        split <;> omega
      unfold stepL
      rw [if_pos (by omega), if_pos hj, matchS_right hx hj, e, ih]
      rfl
    · rw [stepL_end _ _ _ _ (by omega), stepL_end _ _ _ _ hj]
      rfl
theorem stepL_left (hx : No4 x) : ∀ f i, i ≤ G.length → (G ++ (4 : Int) :: H).length - i ≤ f → stepL x (G ++ (4 : Int) :: H) f i = stepL x G (G.length - i) i ++ (G.length, -1) :: (stepsS x H).map fun q => (G.length + 1 + q.1, q.2) := by
  have hw : (G ++ (4 : Int) :: H).length = G.length + 1 + H.length := by simp; omega
  intro f
  induction f with
  | zero => intro i hi hf; omega
  | succ f ih =>
    intro i hi hf
    rcases Nat.lt_or_ge i G.length with h | h
    · have e : nextI x (G ++ (4 : Int) :: H) i = nextI x G i := by
        unfold nextI
        rw [matchS_left hx h]
      have h1 := nextI_gt x G i
      have h2 := nextI_le x G i h
      obtain ⟨n, hn⟩ : ∃ n, G.length - i = n + 1 := ⟨G.length - i - 1, by omega⟩
      rw [hn]
      rw [stepL, if_pos (by omega), matchS_left hx h, e, ih _ h2 (by omega), stepL, if_pos h, stepL_fuel x G n (G.length - nextI x G i) (nextI x G i) (by omega) (by omega)]
      rfl
    · obtain rfl : i = G.length := by omega
      have e : nextI x (G ++ (4 : Int) :: H) G.length = G.length + 1 + 0 := by
        unfold nextI
        rw [matchS_mid hx]
        rfl
      rw [stepL, if_pos (by omega), matchS_mid hx, e, stepL_right hx, Nat.sub_self]
      unfold stepsS
      rw [stepL_fuel x H f H.length 0 (by omega) (by omega)]
      rfl
theorem apply1_parts (hx : No4 x) (F K : List Int) (p : Int) (hF : F.length = G.length) : apply1 x (G ++ (4 : Int) :: H, F ++ p :: K) = ((apply1 x (G, F)).1 ++ (4 : Int) :: (apply1 x (H, K)).1, (apply1 x (G, F)).2 ++ p :: (apply1 x (H, K)).2) := by
  have e : stepsS x (G ++ (4 : Int) :: H) = stepsS x G ++ (G.length, -1) :: (stepsS x H).map fun q => (G.length + 1 + q.1, q.2) := by
    exact stepL_left (H := H) hx (G ++ (4 : Int) :: H).length 0 (Nat.zero_le _) (Nat.sub_le _ _)
  have hl : ∀ q ∈ stepsS x G, q.1 < G.length := stepL_lt x G _ _
  have hr : ∀ q ∈ stepsS x H, q.1 < H.length := stepL_lt x H _ _
  unfold apply1
  simp only [e]
  refine Prod.ext ?_ ?_
  · show outS x _ _ = outS x _ _ ++ 4 :: outS x _ _
    unfold outS
    rw [List.map_append, List.map_cons, List.map_map]
    congr 1
    · refine List.map_congr_left fun q hq => ?_
      simp only [List.getD_eq_getElem?_getD, at_left (hl q hq)]
    · congr 1
      · simp
      · refine List.map_congr_left fun q hq => ?_
        simp only [Function.comp, List.getD_eq_getElem?_getD, at_right]
  · show fstS _ _ = fstS _ _ ++ p :: fstS _ _
    unfold fstS
    rw [List.map_append, List.map_cons, List.map_map]
    congr 1
    · refine List.map_congr_left fun q hq => ?_
      have := hl q hq
      simp only [List.getD_eq_getElem?_getD]
      rw [List.getElem?_append_left (by omega)]
    · congr 1
      · rw [List.getD_eq_getElem?_getD, ← hF, List.getElem?_append_right (Nat.le_refl _), Nat.sub_self]
        rfl
      · refine List.map_congr_left fun q hq => ?_
        simp only [Function.comp, List.getD_eq_getElem?_getD]
        rw [List.getElem?_append_right (by omega), show G.length + 1 + q.1 - F.length = q.1 + 1 by omega]
        rfl
end
theorem foldl_parts : ∀ (l : List (List Sub)) (_ : ∀ x ∈ l, No4 x) (G H F K : List Int) (p : Int) (_ : F.length = G.length), l.foldl (fun st x => apply1 x st) (G ++ (4 : Int) :: H, F ++ p :: K) = ((l.foldl (fun st x => apply1 x st) (G, F)).1 ++ (4 : Int) :: (l.foldl (fun st x => apply1 x st) (H, K)).1, (l.foldl (fun st x => apply1 x st) (G, F)).2 ++ p :: (l.foldl (fun st x => apply1 x st) (H, K)).2) := by
  intro l
  induction l with
  | nil => intro _ G H F K p _; rfl
  | cons x l ih =>
    intro hl G H F K p hF
    rw [List.foldl_cons, List.foldl_cons, List.foldl_cons, apply1_parts (hl x (by simp)) F K p hF]
    exact ih (fun y hy => hl y (by simp [hy])) _ _ _ _ p (apply1_len x (G, F)).1.symm
theorem iota_parts (m n : Nat) : iota (m + 1 + n) = iota m ++ (m : Int) :: (iota n).map fun j => (m : Int) + 1 + j := by
  unfold iota
  refine List.ext_getElem? fun k => ?_
  rcases Nat.lt_trichotomy k m with h | h | h
  · rw [List.getElem?_append_left (by simpa using h)]
    simp [h, show k < m + 1 + n by omega]
  · subst h
    rw [List.getElem?_append_right (by simp)]
    simp [show k < k + 1 + n by omega]
  · obtain ⟨j, rfl⟩ : ∃ j, k = m + 1 + j := ⟨k - m - 1, by omega⟩
    rw [List.getElem?_append_right (by simp; omega)]
    simp only [List.length_map, List.length_range, show m + 1 + j - m = j + 1 by omega, List.getElem?_cons_succ, List.getElem?_map, List.map_map]
    rcases Nat.lt_or_ge j n with hj | hj
    · simp [hj]
    · simp [show ¬ j < n by omega]
/-- an element that no substitution looks at divides a list into two independent parts -/
theorem applyS_parts (l : List (List Sub)) (hl : ∀ x ∈ l, No4 x) (X Y : List Int) : applyS l (X ++ (4 : Int) :: Y) = ((applyS l X).1 ++ (4 : Int) :: (applyS l Y).1, (applyS l X).2 ++ (X.length : Int) :: (applyS l Y).2.map fun j => (X.length : Int) + 1 + j) := by
  have e : (X ++ (4 : Int) :: Y).length = X.length + 1 + Y.length := by simp; omega
  have hlen : ((iota Y.length).map fun j => (X.length : Int) + 1 + j).length = Y.length := by rw [List.length_map, iota_len]
  unfold applyS
  rw [e, iota_parts, foldl_parts l hl X Y _ _ _ (iota_len _)]
  have h1 := fold_chain ((iota Y.length).map fun j => (X.length : Int) + 1 + j) l Y (iota Y.length) (iota_len _)
  have h2 := map_iota ((iota Y.length).map fun j => (X.length : Int) + 1 + j)
  rw [hlen] at h2
  rw [h2] at h1
  rw [h1]
  refine Prod.ext rfl ?_
  show _ ++ _ :: List.map _ _ = _ ++ _ :: List.map _ _
  congr 2
  refine List.map_congr_left fun j hj => ?_
  have hr := fold_in l Y.length (Y, iota Y.length) (iota_len _).symm (fun j hj => by
    unfold iota at hj
    obtain ⟨i, hi, rfl⟩ := List.mem_map.1 hj
    have := List.mem_range.1 hi
    omega) j hj
  obtain ⟨n, rfl⟩ := Int.eq_ofNat_of_zero_le hr.1
  have hn : n < Y.length := by omega
  rw [Int.toNat_natCast, List.getD_eq_getElem?_getD, List.getElem?_map]
  unfold iota
  rw [List.getElem?_map, List.getElem?_range hn]
  rfl
theorem goodL_no4 {l : List (List Sub)} (h : GoodL l 4) : ∀ x ∈ l, No4 x := fun x hx s hs y hy => by
  obtain ⟨_, h1, h2, h3, _⟩ := (h.2 x hx).2 s hs
  unfold allOf at hy
  rcases List.mem_append.1 hy with hy | hy
  · have := h1 y hy; omega
  · rcases List.mem_append.1 hy with hy | hy
    · have := h2 y hy; omega
    · have := h3 y hy; omega
end Go.Proofs.Ytmlnjbljdincjaa
