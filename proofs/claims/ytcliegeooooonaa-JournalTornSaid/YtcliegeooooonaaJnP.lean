/- Plain law of the journal: good contents. No program in sight. -/
import Derived.Test.YtcliegeooooonaaDgP
import Derived.Test.YtcliegeooooonaaWiV
namespace Go.Proofs.Ytcliegeooooonaa
namespace Jn
def chL (b s : List UInt8) : List UInt8 := Dg.dig (99 :: (Dg.b4 b.length ++ (b ++ s)))
theorem chL_len (b s : List UInt8) : (chL b s).length = 8 := Dg.dig_len _
def recd (b s : List UInt8) : List UInt8 := Wi.txt s ++ chL b s
theorem recd_len (b s : List UInt8) : (recd b s).length = (Wi.txt s).length + 8 := by unfold recd; rw [List.length_append, chL_len]
theorem recd_pos (b s : List UInt8) : 1 ≤ (recd b s).length := by rw [recd_len]; omega
theorem recd_s (b s : List UInt8) : s.length ≤ (recd b s).length := by rw [recd_len]; unfold Wi.txt; rw [List.length_append]; omega
/-- one record of the rest, after a digest: its string, what is left, its digest -/
def stepR (b r : List UInt8) : Option (List UInt8 × List UInt8 × List UInt8) :=
  if (Wi.rText (some r)).2.isSome ∧ recd b (Wi.rText (some r)).1 <+: r then some ((Wi.rText (some r)).1, r.drop (recd b (Wi.rText (some r)).1).length, chL b (Wi.rText (some r)).1) else none
theorem stepR_some {b r s r' b' : List UInt8} (h : stepR b r = some (s, r', b')) : r = recd b s ++ r' ∧ b' = chL b s := by
  unfold stepR at h
  split at h
  · rename_i hp
    injection h with h
    injection h with h1 h
    injection h with h2 h3
    subst h1
    refine ⟨?_, h3.symm⟩
    rw [← h2]
    exact (List.prefix_iff_eq_append.1 hp.2).symm
  · cases h
theorem step_rec {b s : List UInt8} (hs : s.length ≤ 9223372036854775807) (t : List UInt8) : stepR b (recd b s ++ t) = some (s, t, chL b s) := by
  have e : Wi.rText (some (recd b s ++ t)) = (s, some (chL b s ++ t)) := by
    unfold recd
    rw [List.append_assoc]
    exact Wi.rText_of hs _
  unfold stepR
  rw [e, if_pos ⟨rfl, List.prefix_append _ _⟩]
  simp
def scan : Nat → List UInt8 → List UInt8 → List (List UInt8) × List UInt8 × List UInt8
  | 0, b, r => ([], r, b)
  | f + 1, b, r => match stepR b r with
    | none => ([], r, b)
    | some (s, r', b') => (s :: (scan f b' r').1, (scan f b' r').2)
theorem scan_none {b r : List UInt8} (h : stepR b r = none) (f : Nat) : scan f b r = ([], r, b) := by
  cases f with
  | zero => rfl
  | succ f => rw [scan, h]
theorem step_less {b r s r' b' : List UInt8} (h : stepR b r = some (s, r', b')) : r'.length < r.length := by
  have := congrArg List.length (stepR_some h).1
  rw [List.length_append] at this
  have := recd_pos b s
  omega
theorem step_nil (b : List UInt8) : stepR b [] = none := by
  cases h : stepR b [] with
  | none => rfl
  | some p =>
    obtain ⟨s, r', b'⟩ := p
    have := step_less h
    simp at this
theorem scan_fuel : ∀ (f g : Nat) (b r : List UInt8), r.length ≤ f → r.length ≤ g → scan f b r = scan g b r := by
  intro f
  induction f with
  | zero =>
    intro g b r h1 _
    obtain rfl : r = [] := List.length_eq_zero_iff.1 (by omega)
    rw [scan_none (step_nil b), scan_none (step_nil b)]
  | succ f ih =>
    intro g b r h1 h2
    cases h : stepR b r with
    | none => rw [scan_none h, scan_none h]
    | some p =>
      obtain ⟨s, r', b'⟩ := p
      have hl := step_less h
      cases g with
      | zero => omega
      | succ g =>
        rw [scan, scan, h]
        simp only
        rw [ih g b' r' (by omega) (by omega)]
/-- the good beginning: its strings, what is left, its last digest -/
def good (b r : List UInt8) : List (List UInt8) × List UInt8 × List UInt8 := scan r.length b r
theorem good_none {b r : List UInt8} (h : stepR b r = none) : good b r = ([], r, b) := scan_none h _
theorem good_some {b r s r' b' : List UInt8} (h : stepR b r = some (s, r', b')) : good b r = (s :: (good b' r').1, (good b' r').2) := by
  have hl := step_less h
  unfold good
  cases hr : r.length with
  | zero => omega
  | succ f =>
    rw [scan, h]
    simp only
    rw [scan_fuel f r'.length b' r' (by omega) (Nat.le_refl _)]
def recs : List UInt8 → List (List UInt8) → List UInt8
  | _, [] => []
  | b, s :: S => recd b s ++ recs (chL b s) S
def lastb : List UInt8 → List (List UInt8) → List UInt8
  | b, [] => b
  | b, s :: S => lastb (chL b s) S
theorem recs_app (b : List UInt8) (S T : List (List UInt8)) : recs b (S ++ T) = recs b S ++ recs (lastb b S) T := by
  induction S generalizing b with
  | nil => rfl
  | cons s S ih => rw [List.cons_append, recs, recs, lastb, ih, List.append_assoc]
theorem lastb_app (b : List UInt8) (S T : List (List UInt8)) : lastb b (S ++ T) = lastb (lastb b S) T := by
  induction S generalizing b with
  | nil => rfl
  | cons s S ih => rw [List.cons_append, lastb, lastb, ih]
theorem lastb_len (b : List UInt8) (hb : b.length = 8) (S : List (List UInt8)) : (lastb b S).length = 8 := by
  induction S generalizing b with
  | nil => exact hb
  | cons s S ih => exact ih _ (chL_len _ _)
theorem recs_snoc (b : List UInt8) (S : List (List UInt8)) (s : List UInt8) : recs b (S ++ [s]) = recs b S ++ recd (lastb b S) s := by
  rw [recs_app, recs, recs, List.append_nil]
theorem lastb_snoc (b : List UInt8) (S : List (List UInt8)) (s : List UInt8) : lastb b (S ++ [s]) = chL (lastb b S) s := by
  rw [lastb_app]; rfl
def Fit (S : List (List UInt8)) : Prop := ∀ s ∈ S, s.length ≤ 9223372036854775807
theorem good_recs (b : List UInt8) (S : List (List UInt8)) (hS : Fit S) (t : List UInt8) : good b (recs b S ++ t) = (S ++ (good (lastb b S) t).1, (good (lastb b S) t).2) := by
  induction S generalizing b with
  | nil => rfl
  | cons s S ih =>
    rw [recs, List.append_assoc, good_some (step_rec (hS s (by simp)) _), ih (chL b s) (fun x hx => hS x (by simp [hx]))]
    rfl
theorem good_all (b : List UInt8) (S : List (List UInt8)) (hS : Fit S) : good b (recs b S) = (S, [], lastb b S) := by
  have := good_recs b S hS []
  rw [List.append_nil, good_none (step_nil _)] at this
  rw [this, List.append_nil]
theorem good_is : ∀ (n : Nat) (b r : List UInt8), r.length ≤ n → r = recs b (good b r).1 ++ (good b r).2.1 ∧ (good b r).2.2 = lastb b (good b r).1 ∧ stepR (good b r).2.2 (good b r).2.1 = none := by
  intro n
  induction n with
  | zero =>
    intro b r hr
    obtain rfl : r = [] := List.length_eq_zero_iff.1 (by omega)
    rw [good_none (step_nil b)]
    exact ⟨rfl, rfl, step_nil b⟩
  | succ n ih =>
    intro b r hr
    cases h : stepR b r with
    | none =>
      rw [good_none h]
      exact ⟨rfl, rfl, h⟩
    | some p =>
      obtain ⟨s, r', b'⟩ := p
      have hl := step_less h
      obtain ⟨e1, e2⟩ := stepR_some h
      obtain ⟨i1, i2, i3⟩ := ih b' r' (by omega)
      rw [good_some h]
      subst e2
      refine ⟨?_, i2, i3⟩
      simp only [recs]
      rw [List.append_assoc, ← i1]
      exact e1
theorem good_eq (b r : List UInt8) : r = recs b (good b r).1 ++ (good b r).2.1 := (good_is _ b r (Nat.le_refl _)).1
theorem good_last (b r : List UInt8) : (good b r).2.2 = lastb b (good b r).1 := (good_is _ b r (Nat.le_refl _)).2.1
theorem good_stop (b r : List UInt8) : stepR (good b r).2.2 (good b r).2.1 = none := (good_is _ b r (Nat.le_refl _)).2.2
theorem recs_mem (b : List UInt8) (S : List (List UInt8)) (s : List UInt8) (hs : s ∈ S) : s.length ≤ (recs b S).length := by
  induction S generalizing b with
  | nil => cases hs
  | cons x S ih =>
    rw [recs, List.length_append]
    rcases List.mem_cons.1 hs with rfl | h
    · have := recd_s b s; omega
    · have := ih (chL b x) h; omega
theorem recs_count (b : List UInt8) (S : List (List UInt8)) : S.length ≤ (recs b S).length := by
  induction S generalizing b with
  | nil => exact Nat.le_refl _
  | cons x S ih =>
    rw [recs, List.length_append, List.length_cons]
    have := ih (chL b x)
    have := recd_pos b x
    omega
theorem good_fit (b r : List UInt8) (hr : r.length ≤ 9223372036854775807) : Fit (good b r).1 := fun s hs => by
  have h1 := recs_mem b _ s hs
  have h2 := congrArg List.length (good_eq b r)
  rw [List.length_append] at h2
  omega
theorem good_left (b r : List UInt8) : (good b r).2.1.length ≤ r.length := by
  have h2 := congrArg List.length (good_eq b r)
  rw [List.length_append] at h2
  omega
/-- a record is read only if all of it is there -/
theorem step_cut (b s t : List UInt8) (hs : s.length ≤ 4611686018427387903) (m : Nat) (hm : m < (recd b s).length) : stepR b ((recd b s ++ t).take m) = none := by
  cases h : stepR b ((recd b s ++ t).take m) with
  | none => rfl
  | some p =>
    exfalso
    obtain ⟨x, r', b'⟩ := p
    have e0 := (stepR_some h).1
    rw [List.take_append_of_le_length (by omega)] at h e0
    have htx : (Wi.txt s).length ≤ 9223372036854775807 := by
      unfold Wi.txt
      rw [List.length_append]
      have := (Wi.int_short (n := (s.length : Int)) (by omega)).1
      omega
    by_cases hc : m < (Wi.txt s).length
    · have e1 : (recd b s).take m = (Wi.txt s).take m := by unfold recd; rw [List.take_append_of_le_length (by omega)]
      have hbad := Wi.trunc (f := Wi.rText) (ser := Wi.txt) Wi.rText_can (v := s) (fun r => Wi.rText_of (by omega) r) m hc htx
      unfold stepR at h
      rw [e1, hbad] at h
      simp at h
    · have e1 : (recd b s).take m = Wi.txt s ++ (chL b s).take (m - (Wi.txt s).length) := by unfold recd; rw [List.take_append, List.take_of_length_le (by omega)]
      have e2 : Wi.rText (some ((recd b s).take m)) = (s, some ((chL b s).take (m - (Wi.txt s).length))) := by rw [e1]; exact Wi.rText_of (by omega) _
      unfold stepR at h
      rw [e2] at h
      split at h
      · rename_i hp
        have := hp.2.length_le
        simp only at this
        rw [List.length_take] at this
        omega
      · cases h
def Small (S : List (List UInt8)) : Prop := ∀ s ∈ S, s.length ≤ 4611686018427387903
theorem good_take (b : List UInt8) (S : List (List UInt8)) (hS : Small S) (n : Nat) : (good b ((recs b S).take n)).1 <+: S := by
  induction S generalizing b n with
  | nil => rw [recs, List.take_nil, good_none (step_nil b)]; exact List.nil_prefix
  | cons s S ih =>
    have hs := hS s (by simp)
    by_cases hm : n < (recd b s).length
    · rw [recs, good_none (step_cut b s _ hs n hm)]
      exact List.nil_prefix
    · rw [recs, List.take_append, List.take_of_length_le (by omega), good_some (step_rec (by omega) _)]
      exact List.prefix_cons_inj s |>.2 (ih (chL b s) (fun x hx => hS x (by simp [hx])) _)
end Jn
end Go.Proofs.Ytcliegeooooonaa
