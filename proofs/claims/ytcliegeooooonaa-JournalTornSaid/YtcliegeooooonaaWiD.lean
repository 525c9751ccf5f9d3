/- Plain law of decoding integers. No program in sight. -/
import Derived.Test.YtcliegeooooonaaWiP
namespace Go.Proofs.Ytcliegeooooonaa
namespace Wi
def unzig (c : Nat) : Int := if c % 2 = 1 then -((c / 2 : Nat) : Int) - 1 else ((c / 2 : Nat) : Int)
/-- the integer whose groups come next: fuel, the number of the group, the code so far -/
def decF : Nat → Nat → Nat → List UInt8 → Option (Int × Nat)
  | 0, _, _, _ => none
  | _ + 1, _, _, [] => none
  | f + 1, k, code, b :: t =>
    if 128 ≤ b.toNat then decF f (k + 1) (code + b.toNat % 128 * 128 ^ k) t
    else if (0 < k ∧ b.toNat = 0) ∨ (k = 9 ∧ 1 < b.toNat) then none
    else some (unzig (code + b.toNat % 128 * 128 ^ k), k + 1)
def dec (s : List UInt8) : Option (Int × Nat) := decF 10 0 0 s
def decN (s : List UInt8) : Int := (dec s).elim 0 (·.1)
def decU (s : List UInt8) : Nat := (dec s).elim 0 (·.2)
theorem decF_nil (f k c : Nat) : decF f k c [] = none := by cases f <;> rfl
theorem decF_more {f k c : Nat} {s : List UInt8} {b : UInt8} (hx : s[k]? = some b) (h : 128 ≤ b.toNat) : decF (f + 1) k c (s.drop k) = decF f (k + 1) (c + b.toNat % 128 * 128 ^ k) (s.drop (k + 1)) := by
  obtain ⟨hk, rfl⟩ := List.getElem?_eq_some_iff.1 hx
  rw [List.drop_eq_getElem_cons hk]
  simp only [decF]
  rw [if_pos h]
theorem decF_bad {f k c : Nat} {s : List UInt8} {b : UInt8} (hx : s[k]? = some b) (h : ¬ 128 ≤ b.toNat) (h2 : (0 < k ∧ b.toNat = 0) ∨ (k = 9 ∧ 1 < b.toNat)) : decF (f + 1) k c (s.drop k) = none := by
  obtain ⟨hk, rfl⟩ := List.getElem?_eq_some_iff.1 hx
  rw [List.drop_eq_getElem_cons hk]
  simp only [decF]
  rw [if_neg h, if_pos h2]
theorem decF_good {f k c : Nat} {s : List UInt8} {b : UInt8} (hx : s[k]? = some b) (h : ¬ 128 ≤ b.toNat) (h2 : ¬ ((0 < k ∧ b.toNat = 0) ∨ (k = 9 ∧ 1 < b.toNat))) : decF (f + 1) k c (s.drop k) = some (unzig (c + b.toNat % 128 * 128 ^ k), k + 1) := by
  obtain ⟨hk, rfl⟩ := List.getElem?_eq_some_iff.1 hx
  rw [List.drop_eq_getElem_cons hk]
  simp only [decF]
  rw [if_neg h, if_neg h2]
theorem dec_used {s : List UInt8} {n : Int} {u : Nat} (h : dec s = some (n, u)) : 1 ≤ u ∧ u ≤ s.length := by
  have key : ∀ f k c t, decF f k c t = some (n, u) → k + 1 ≤ u ∧ u ≤ k + t.length := by
    intro f
    induction f with
    | zero => intro k c t h; simp [decF] at h
    | succ f ih =>
      intro k c t h
      cases t with
      | nil => simp [decF] at h
      | cons b t =>
        simp only [decF] at h
        split at h
        · have := ih _ _ _ h
          simp only [List.length_cons]
          omega
        · split at h
          · cases h
          · injection h with h
            injection h with h1 h2
            simp only [List.length_cons]
            omega
  have := key 10 0 0 s h
  omega
/-! ## readers: none is bad, some s has s left -/
def rInt : Option (List UInt8) → Int × Option (List UInt8)
  | none => (0, none)
  | some s => match dec s with
    | none => (0, none)
    | some (n, u) => (n, some (s.drop u))
def rSize (st : Option (List UInt8)) : Option (Nat × List UInt8) :=
  match rInt st with
  | (n, some r) => if 0 ≤ n ∧ n ≤ (r.length : Int) then some (n.toNat, r) else none
  | (_, none) => none
def rText (st : Option (List UInt8)) : List UInt8 × Option (List UInt8) :=
  match rSize st with
  | some (n, r) => (r.take n, some (r.drop n))
  | none => ([], none)
def rIter {α : Type} (f : Option (List UInt8) → α × Option (List UInt8)) : Nat → Option (List UInt8) → List α × Option (List UInt8)
  | 0, s => ([], s)
  | n + 1, s => ((rIter f n s).1 ++ [(f (rIter f n s).2).1], (f (rIter f n s).2).2)
def rList {α : Type} (f : Option (List UInt8) → α × Option (List UInt8)) (st : Option (List UInt8)) : List α × Option (List UInt8) :=
  match rSize st with
  | some (n, r) => if (rIter f n (some r)).2 = none then ([], none) else rIter f n (some r)
  | none => ([], none)
theorem rIter_len {α : Type} (f : Option (List UInt8) → α × Option (List UInt8)) (n : Nat) (s : Option (List UInt8)) : (rIter f n s).1.length = n := by
  induction n with
  | zero => rfl
  | succ n ih => simp [rIter, ih]
theorem rInt_none : rInt none = (0, none) := rfl
theorem rInt_bad {s : List UInt8} (h : dec s = none) : rInt (some s) = (0, none) := by simp [rInt, h]
theorem rInt_good {s : List UInt8} {n : Int} {u : Nat} (h : dec s = some (n, u)) : rInt (some s) = (n, some (s.drop u)) := by simp [rInt, h]
theorem rInt_le {s r : List UInt8} {n : Int} (h : rInt (some s) = (n, some r)) : r.length ≤ s.length := by
  cases hd : dec s with
  | none => rw [rInt_bad hd] at h; cases h
  | some p =>
    obtain ⟨m, u⟩ := p
    rw [rInt_good hd] at h
    cases h
    simp
end Wi
end Go.Proofs.Ytcliegeooooonaa
