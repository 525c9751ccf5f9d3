/- Streams: what Feed and End compute, in plain Lean. -/
import Derived.Test.YtfbgbbbfpkpfkaaSbP
namespace Go.Proofs.Ytfbgbbbfpkpfkaa
open Go.RowKit
/-- a stage: the glyphs before, the glyphs that wait -/
abbrev Stg := List Int × List Int
def winS (x : List Sub) : Nat := x.foldl (fun m s => max m (s.2.1.length + s.2.2.1.length)) 1
def decK (x : List Sub) (s : Stg) : Int := matchS x (s.1 ++ s.2) (s.1.length : Nat)
def decN (x : List Sub) (s : Stg) : Nat := if 0 ≤ decK x s then max 1 (min (fromL x (decK x s)) s.2.length) else 1
def decO (x : List Sub) (s : Stg) : Int := if 0 ≤ decK x s then toS x (decK x s) else s.2.getD 0 0
def last2 (l : List Int) : List Int := l.drop (l.length - 2)
def decS (x : List Sub) (s : Stg) : Stg := (last2 (s.1 ++ s.2.take (decN x s)), s.2.drop (decN x s))
/-- a stage decides as long as m glyphs wait; what it decides goes on to nx -/
def loopS (m : Nat) (x : List Sub) (nx : List Stg → Int → List Stg × List Int) : Nat → Stg → List Stg → (Stg × List Stg) × List Int
  | 0, s, ss => ((s, ss), [])
  | f + 1, s, ss => if m ≤ s.2.length then
      ((loopS m x nx f (decS x s) (nx ss (decO x s)).1).1, (nx ss (decO x s)).2 ++ (loopS m x nx f (decS x s) (nx ss (decO x s)).1).2)
    else ((s, ss), [])
def feedS : List (List Sub) → List Stg → Int → List Stg × List Int
  | [], ss, g => (ss, [g])
  | x :: xs, s :: ss, g => ((loopS (winS x) x (feedS xs) (s.2.length + 1) (s.1, s.2 ++ [g]) ss).1.1 :: (loopS (winS x) x (feedS xs) (s.2.length + 1) (s.1, s.2 ++ [g]) ss).1.2, (loopS (winS x) x (feedS xs) (s.2.length + 1) (s.1, s.2 ++ [g]) ss).2)
  | _ :: _, [], _ => ([], [])
def endS : List (List Sub) → List Stg → List Int
  | x :: xs, s :: ss => (loopS 1 x (feedS xs) s.2.length s ss).2 ++ endS xs (loopS 1 x (feedS xs) s.2.length s ss).1.2
  | _, _ => []
def feedAll (l : List (List Sub)) : List Stg → List Int → List Stg × List Int
  | ss, [] => (ss, [])
  | ss, g :: gs => ((feedAll l (feedS l ss g).1 gs).1, (feedS l ss g).2 ++ (feedAll l (feedS l ss g).1 gs).2)
def startS (l : List (List Sub)) : List Stg := List.replicate l.length ([], [])
def allS (l : List (List Sub)) (g : List Int) : List Int := (feedAll l (startS l) g).2 ++ endS l (feedAll l (startS l) g).1

theorem decN_pos (x : List Sub) (s : Stg) : 1 ≤ decN x s := by
  unfold decN
  split
  · exact Nat.le_max_left _ _
  · exact Nat.le_refl _
theorem decN_le (x : List Sub) (s : Stg) (h : 1 ≤ s.2.length) : decN x s ≤ s.2.length := by
  unfold decN
  split
  · exact Nat.max_le.2 ⟨h, Nat.min_le_right _ _⟩
  · exact h
theorem winS_ge (x : List Sub) (m : Nat) : m ≤ x.foldl (fun m s => max m (s.2.1.length + s.2.2.1.length)) m := by
  induction x generalizing m with
  | nil => exact Nat.le_refl _
  | cons s x ih => exact Nat.le_trans (Nat.le_max_left _ _) (ih _)
theorem winS_pos (x : List Sub) : 1 ≤ winS x := winS_ge x 1
theorem winS_mem' (x : List Sub) (m : Nat) : ∀ s ∈ x, s.2.1.length + s.2.2.1.length ≤ x.foldl (fun m s => max m (s.2.1.length + s.2.2.1.length)) m := by
  induction x generalizing m with
  | nil => intro s hs; cases hs
  | cons t x ih =>
    intro s hs
    rcases List.mem_cons.1 hs with rfl | hs
    · exact Nat.le_trans (Nat.le_max_right _ _) (winS_ge x _)
    · exact ih _ s hs
theorem winS_mem {x : List Sub} {s : Sub} (hs : s ∈ x) : s.2.1.length + s.2.2.1.length ≤ winS x := winS_mem' x 1 s hs
theorem winS_take_succ {x : List Sub} {k : Nat} {s : Sub} (hs : x[k]? = some s) : winS (x.take (k + 1)) = max (winS (x.take k)) (s.2.1.length + s.2.2.1.length) := by
  unfold winS
  rw [← take_snoc hs, List.foldl_append]
  rfl
theorem winS_le {x : List Sub} (h : Small x) : winS x ≤ 2000 := by
  unfold winS
  have : ∀ (y : List Sub) (m : Nat), (∀ s ∈ y, s.2.1.length ≤ 1000 ∧ s.2.2.1.length ≤ 1000) → m ≤ 2000 → y.foldl (fun m s => max m (s.2.1.length + s.2.2.1.length)) m ≤ 2000 := by
    intro y
    induction y with
    | nil => intro m _ hm; exact hm
    | cons s y ih =>
      intro m hy hm
      have := hy s (by simp)
      exact ih _ (fun t ht => hy t (by simp [ht])) (Nat.max_le.2 ⟨hm, by omega⟩)
  exact this x 1 (fun s hs => ⟨(h.2 s hs).2.1, (h.2 s hs).2.2⟩) (by decide)
theorem last2_len (l : List Int) : (last2 l).length ≤ 2 := by
  unfold last2
  rw [List.length_drop]
  omega
theorem feedS_len : ∀ (l : List (List Sub)) (ss : List Stg) (g : Int), ss.length = l.length → (feedS l ss g).1.length = l.length := by
  intro l
  induction l with
  | nil => intro ss g h; exact h
  | cons x xs ih =>
    intro ss g h
    cases ss with
    | nil => simp at h
    | cons s ss =>
      have hl : ∀ (f : Nat) (s : Stg) (ss : List Stg), ss.length = xs.length → (loopS (winS x) x (feedS xs) f s ss).1.2.length = xs.length := by
        intro f
        induction f with
        | zero => intro s ss h; exact h
        | succ f ihf =>
          intro s ss h
          unfold loopS
          split
          · exact ihf _ _ (ih _ _ h)
          · exact h
      simp only [feedS, List.length_cons]
      rw [hl _ _ _ (by simpa using h)]
theorem loopS_len (m : Nat) (x : List Sub) (xs : List (List Sub)) : ∀ (f : Nat) (s : Stg) (ss : List Stg), ss.length = xs.length → (loopS m x (feedS xs) f s ss).1.2.length = xs.length := by
  intro f
  induction f with
  | zero => intro s ss h; exact h
  | succ f ihf =>
    intro s ss h
    unfold loopS
    split
    · exact ihf _ _ (feedS_len _ _ _ h)
    · exact h
theorem feedAll_len (l : List (List Sub)) : ∀ (g : List Int) (ss : List Stg), ss.length = l.length → (feedAll l ss g).1.length = l.length := by
  intro g
  induction g with
  | nil => intro ss h; exact h
  | cons g gs ih => intro ss h; exact ih _ (feedS_len _ _ _ h)
theorem feedAll_app (l : List (List Sub)) : ∀ (g h : List Int) (ss : List Stg), feedAll l ss (g ++ h) = ((feedAll l (feedAll l ss g).1 h).1, (feedAll l ss g).2 ++ (feedAll l (feedAll l ss g).1 h).2) := by
  intro g
  induction g with
  | nil => intro h ss; rfl
  | cons g gs ih =>
    intro h ss
    simp only [List.cons_append, feedAll]
    rw [ih]
    simp
theorem feedAll_one (l : List (List Sub)) (ss : List Stg) (g : Int) : feedAll l ss [g] = feedS l ss g := by
  simp [feedAll]
theorem feedAll_snoc (l : List (List Sub)) (ss : List Stg) (g : List Int) (y : Int) : feedAll l ss (g ++ [y]) = ((feedS l (feedAll l ss g).1 y).1, (feedAll l ss g).2 ++ (feedS l (feedAll l ss g).1 y).2) := by
  rw [feedAll_app, feedAll_one]
theorem startS_len (l : List (List Sub)) : (startS l).length = l.length := by unfold startS; simp

/-! ### lists of lookups one after the other -/
theorem feed_chain (b : List (List Sub)) : ∀ (a : List (List Sub)) (sa sb : List Stg) (g : Int), sa.length = a.length →
    feedS (a ++ b) (sa ++ sb) g = ((feedS a sa g).1 ++ (feedAll b sb (feedS a sa g).2).1, (feedAll b sb (feedS a sa g).2).2) := by
  intro a
  induction a with
  | nil =>
    intro sa sb g h
    have : sa = [] := List.eq_nil_of_length_eq_zero h
    subst this
    show feedS b sb g = _
    rw [show (feedS [] [] g).2 = [g] from rfl, feedAll_one]
    rfl
  | cons x xs ih =>
    intro sa sb g h
    cases sa with
    | nil => simp at h
    | cons s ss =>
      have hl : ∀ (f : Nat) (s : Stg) (ss sb : List Stg), ss.length = xs.length → loopS (winS x) x (feedS (xs ++ b)) f s (ss ++ sb) =
          (((loopS (winS x) x (feedS xs) f s ss).1.1, (loopS (winS x) x (feedS xs) f s ss).1.2 ++ (feedAll b sb (loopS (winS x) x (feedS xs) f s ss).2).1), (feedAll b sb (loopS (winS x) x (feedS xs) f s ss).2).2) := by
        intro f
        induction f with
        | zero => intro s ss sb h; rfl
        | succ f ihf =>
          intro s ss sb h
          unfold loopS
          split
          · rw [ih _ _ _ h]
            simp only
            rw [ihf _ _ _ (feedS_len _ _ _ h)]
            rw [feedAll_app]
          · rfl
      simp only [List.cons_append, feedS]
      rw [hl _ _ _ _ (by simpa using h)]
theorem loop_chain (m : Nat) (x : List Sub) (xs b : List (List Sub)) : ∀ (f : Nat) (s : Stg) (ss sb : List Stg), ss.length = xs.length → loopS m x (feedS (xs ++ b)) f s (ss ++ sb) =
    (((loopS m x (feedS xs) f s ss).1.1, (loopS m x (feedS xs) f s ss).1.2 ++ (feedAll b sb (loopS m x (feedS xs) f s ss).2).1), (feedAll b sb (loopS m x (feedS xs) f s ss).2).2) := by
  intro f
  induction f with
  | zero => intro s ss sb h; rfl
  | succ f ihf =>
    intro s ss sb h
    unfold loopS
    split
    · rw [feed_chain _ _ _ _ _ h]
      simp only
      rw [ihf _ _ _ (feedS_len _ _ _ h)]
      rw [feedAll_app]
    · rfl
theorem feedAll_chain (a b : List (List Sub)) : ∀ (g : List Int) (sa sb : List Stg), sa.length = a.length →
    feedAll (a ++ b) (sa ++ sb) g = ((feedAll a sa g).1 ++ (feedAll b sb (feedAll a sa g).2).1, (feedAll b sb (feedAll a sa g).2).2) := by
  intro g
  induction g with
  | nil => intro sa sb h; rfl
  | cons y g ih =>
    intro sa sb h
    simp only [feedAll]
    rw [feed_chain _ _ _ _ _ h]
    simp only
    rw [ih _ _ (feedS_len _ _ _ h), feedAll_app]
theorem end_chain (b : List (List Sub)) : ∀ (a : List (List Sub)) (sa sb : List Stg), sa.length = a.length →
    endS (a ++ b) (sa ++ sb) = (feedAll b sb (endS a sa)).2 ++ endS b (feedAll b sb (endS a sa)).1 := by
  intro a
  induction a with
  | nil =>
    intro sa sb h
    have : sa = [] := List.eq_nil_of_length_eq_zero h
    subst this
    show endS b sb = (feedAll b sb []).2 ++ _
    simp [feedAll, endS]
  | cons x xs ih =>
    intro sa sb h
    cases sa with
    | nil => simp at h
    | cons s ss =>
      have h' : ss.length = xs.length := by simpa using h
      simp only [List.cons_append, endS]
      rw [loop_chain _ _ _ _ _ _ _ _ h']
      simp only
      rw [ih _ _ (loopS_len _ _ _ _ _ _ h'), feedAll_app]
      simp
theorem startS_app (a b : List (List Sub)) : startS (a ++ b) = startS a ++ startS b := by
  unfold startS
  rw [List.length_append, List.replicate_append_replicate]
/-- StreamChains -/
theorem chains_plain (a b : List (List Sub)) (g : List Int) :
    (feedAll (a ++ b) (startS (a ++ b)) g).2 ++ endS (a ++ b) (feedAll (a ++ b) (startS (a ++ b)) g).1 =
    (feedAll b (startS b) ((feedAll a (startS a) g).2 ++ endS a (feedAll a (startS a) g).1)).2 ++ endS b (feedAll b (startS b) ((feedAll a (startS a) g).2 ++ endS a (feedAll a (startS a) g).1)).1 := by
  rw [startS_app, feedAll_chain a b g _ _ (startS_len a)]
  simp only
  rw [end_chain b a _ _ (feedAll_len a g _ (startS_len a)), feedAll_app b _ _ (startS b)]
  simp
theorem allS_chain (a b : List (List Sub)) (g : List Int) : allS (a ++ b) g = allS b (allS a g) := chains_plain a b g

/-! ### how many glyphs wait -/
structure Waits (l : List (List Sub)) (ss : List Stg) : Prop where
  len : ss.length = l.length
  at_ : ∀ (k : Nat) (x : List Sub) (s : Stg), l[k]? = some x → ss[k]? = some s → s.2.length < winS x ∧ s.1.length ≤ 2
theorem Waits.start (l : List (List Sub)) : Waits l (startS l) := by
  refine ⟨startS_len l, fun k x s _ hs => ?_⟩
  unfold startS at hs
  rw [List.getElem?_replicate] at hs
  split at hs
  · injection hs with hs
    subst hs
    exact ⟨winS_pos x, by decide⟩
  · cases hs
theorem decS_wait (x : List Sub) (s : Stg) : (decS x s).2.length = s.2.length - decN x s := by unfold decS; simp
theorem waits_feed : ∀ (l : List (List Sub)) (ss : List Stg) (g : Int), Waits l ss → Waits l (feedS l ss g).1 := by
  intro l
  induction l with
  | nil => intro ss g h; exact h
  | cons x xs ih =>
    intro ss g h
    cases ss with
    | nil => exact absurd h.len (by simp)
    | cons s ss =>
      have h0 := h.at_ 0 x s rfl rfl
      have ht : Waits xs ss := ⟨by simpa using h.len, fun k y t hy ht => h.at_ (k + 1) y t (by simpa using hy) (by simpa using ht)⟩
      have hw := winS_pos x
      have hl : ∀ (f : Nat) (s : Stg) (ss : List Stg), s.2.length ≤ f → s.1.length ≤ 2 → Waits xs ss →
          (loopS (winS x) x (feedS xs) f s ss).1.1.2.length < winS x ∧ (loopS (winS x) x (feedS xs) f s ss).1.1.1.length ≤ 2 ∧ Waits xs (loopS (winS x) x (feedS xs) f s ss).1.2 := by
        intro f
        induction f with
        | zero => intro s ss h1 h2 h3; exact ⟨by show s.2.length < _; omega, h2, h3⟩
        | succ f ihf =>
          intro s ss h1 h2 h3
          unfold loopS
          split
          · refine ihf _ _ ?_ (last2_len _) (ih _ _ h3)
            rw [decS_wait]
            have := decN_pos x s
            omega
          · exact ⟨by show s.2.length < _; omega, h2, h3⟩
      obtain ⟨r1, r2, r3⟩ := hl (s.2.length + 1) (s.1, s.2 ++ [g]) ss (by simp) h0.2 ht
      refine ⟨feedS_len _ _ _ h.len, fun k y t hy ht' => ?_⟩
      simp only [feedS] at ht'
      cases k with
      | zero =>
        simp at hy ht'
        subst hy
        subst ht'
        exact ⟨r1, r2⟩
      | succ k => exact r3.at_ k y t (by simpa using hy) (by simpa using ht')
theorem waits_all (l : List (List Sub)) : ∀ (g : List Int) (ss : List Stg), Waits l ss → Waits l (feedAll l ss g).1 := by
  intro g
  induction g with
  | nil => intro ss h; exact h
  | cons g gs ih => intro ss h; exact ih _ (waits_feed _ _ _ h)
end Go.Proofs.Ytfbgbbbfpkpfkaa
