/- Plain law: what a reader decodes was the serialization of what it returns. No program in sight. -/
import Derived.Test.YtcliegeooooonaaWiD
namespace Go.Proofs.Ytcliegeooooonaa
namespace Wi
theorem zig_unzig (q : Nat) : zig (unzig q) = q := by
  unfold unzig zig
  by_cases h : q % 2 = 1
  · rw [if_pos h, if_pos (by omega)]; omega
  · rw [if_neg h, if_neg (by omega)]; omega
theorem unzig_i64 {q : Nat} (h : q < 18446744073709551616) : -9223372036854775808 ≤ unzig q ∧ unzig q ≤ 9223372036854775807 := by
  unfold unzig
  split <;> omega
theorem byte_of (b : UInt8) : UInt8.ofNat b.toNat = b := by simp
theorem byte_top (b : UInt8) (h : 128 ≤ b.toNat) : UInt8.ofNat (b.toNat % 128 + 128) = b := by
  have := b.toNat_lt
  rw [show b.toNat % 128 + 128 = b.toNat by omega, byte_of]
theorem decF_enc (f k c : Nat) (t : List UInt8) (n : Int) (u : Nat) (hf : f + 1 + k = 10) (hc : c < 128 ^ k) (h : decF (f + 1) k c t = some (n, u)) :
    ∃ q, n = unzig (c + q * 128 ^ k) ∧ t = enc f q ++ t.drop (u - k) ∧ k < u ∧ (0 < k → q ≠ 0) ∧ q < 128 ^ (f + 1) ∧ c + q * 128 ^ k < 18446744073709551616 := by
  induction f generalizing k c t with
  | zero =>
    cases t with
    | nil => simp [decF] at h
    | cons b t =>
      have hb := b.toNat_lt
      simp only [decF] at h
      split at h
      · cases h
      · rename_i h1
        split at h
        · cases h
        · rename_i h2
          injection h with h
          injection h with h3 h4
          subst h3; subst h4
          have hm : b.toNat % 128 = b.toNat := by omega
          have hk : k = 9 := by omega
          subst hk
          refine ⟨b.toNat, by rw [hm], ?_, by omega, fun _ e => h2 (Or.inl ⟨by omega, e⟩), by simpa using by omega, ?_⟩
          · simp [enc]
          · have hb1 : b.toNat ≤ 1 := by omega
            have : b.toNat * 128 ^ 9 ≤ 1 * 128 ^ 9 := Nat.mul_le_mul hb1 (Nat.le_refl _)
            have e9 : (128 : Nat) ^ 9 = 9223372036854775808 := by decide
            omega
  | succ f ih =>
    cases t with
    | nil => simp [decF] at h
    | cons b t =>
      have hb := b.toNat_lt
      unfold decF at h
      split at h
      · rename_i h1
        have hc' : c + b.toNat % 128 * 128 ^ k < 128 ^ (k + 1) := by
          rw [Nat.pow_succ]
          have : b.toNat % 128 * 128 ^ k ≤ 127 * 128 ^ k := Nat.mul_le_mul (by omega) (Nat.le_refl _)
          omega
        obtain ⟨q, hn, ht, hu, hq0, hq, hlt⟩ := ih (k + 1) _ t (by omega) hc' h
        have hq1 : 1 ≤ q := Nat.pos_of_ne_zero (hq0 (by omega))
        have e : c + b.toNat % 128 * 128 ^ k + q * 128 ^ (k + 1) = c + (b.toNat % 128 + 128 * q) * 128 ^ k := by
          rw [Nat.pow_succ, Nat.add_mul, Nat.mul_assoc 128 q, Nat.mul_comm 128 (q * 128 ^ k), Nat.mul_assoc q]
          omega
        rw [e] at hn hlt
        refine ⟨b.toNat % 128 + 128 * q, hn, ?_, by omega, fun _ => by omega, ?_, hlt⟩
        · rw [enc_more _ _ (by omega), show (b.toNat % 128 + 128 * q) % 128 = b.toNat % 128 by omega, show (b.toNat % 128 + 128 * q) / 128 = q by omega, byte_top b h1]
          have hd : (b :: t).drop (u - k) = t.drop (u - (k + 1)) := by
            rw [show u - k = (u - (k + 1)) + 1 by omega]
            rfl
          rw [hd, List.cons_append, ← ht]
        · rw [Nat.pow_succ]; omega
      · rename_i h1
        split at h
        · cases h
        · rename_i h2
          injection h with h
          injection h with h3 h4
          subst h3; subst h4
          have hm : b.toNat % 128 = b.toNat := by omega
          refine ⟨b.toNat, by rw [hm], ?_, by omega, fun hk e => h2 (Or.inl ⟨hk, e⟩), ?_, ?_⟩
          · rw [enc_done _ _ (by omega), byte_of, show k + 1 - k = 1 by omega]
            rfl
          · have : 128 ^ 1 ≤ 128 ^ (f + 1 + 1) := Nat.pow_le_pow_right (by omega) (by omega)
            omega
          · have hk8 : k ≤ 8 := by omega
            have h5 : b.toNat * 128 ^ k ≤ 127 * 128 ^ k := Nat.mul_le_mul (by omega) (Nat.le_refl _)
            have h6 : 128 ^ k ≤ 128 ^ 8 := Nat.pow_le_pow_right (by omega) hk8
            have e8 : (128 : Nat) ^ 8 = 72057594037927936 := by decide
            omega
theorem dec_int {s : List UInt8} {n : Int} {u : Nat} (h : dec s = some (n, u)) : s = int n ++ s.drop u ∧ (-9223372036854775808 ≤ n ∧ n ≤ 9223372036854775807) := by
  obtain ⟨q, hn, ht, _, _, hq, hlt⟩ := decF_enc 9 0 0 s n u (by omega) (by omega) h
  simp only [Nat.pow_zero, Nat.mul_one, Nat.zero_add, Nat.sub_zero] at hn ht hlt
  subst hn
  refine ⟨?_, unzig_i64 hlt⟩
  unfold int
  rw [zig_unzig, enc_fuel 10 9 q (Nat.lt_of_lt_of_le hlt (by decide)) hq]
  exact ht
theorem rInt_canon {s r : List UInt8} {n : Int} (h : rInt (some s) = (n, some r)) : s = int n ++ r ∧ (-9223372036854775808 ≤ n ∧ n ≤ 9223372036854775807) := by
  cases hd : dec s with
  | none => rw [rInt_bad hd] at h; cases h
  | some p =>
    obtain ⟨m, u⟩ := p
    rw [rInt_good hd] at h
    cases h
    exact dec_int hd
theorem rInt_i64 (st : Option (List UInt8)) : -9223372036854775808 ≤ (rInt st).1 ∧ (rInt st).1 ≤ 9223372036854775807 := by
  cases st with
  | none => simp [rInt]
  | some s =>
    cases hd : dec s with
    | none => rw [rInt_bad hd]; simp
    | some p => obtain ⟨m, u⟩ := p; rw [rInt_good hd]; exact (dec_int hd).2
theorem rSize_canon {s r : List UInt8} {n : Nat} (h : rSize (some s) = some (n, r)) : s = int (n : Int) ++ r ∧ n ≤ r.length := by
  unfold rSize at h
  split at h
  · rename_i m q hq
    split at h
    · rename_i hm
      injection h with h
      injection h with h1 h2
      subst h1; subst h2
      have := (rInt_canon hq).1
      rw [show ((m.toNat : Nat) : Int) = m by omega]
      exact ⟨this, by omega⟩
    · cases h
  · cases h
theorem rText_canon {s r l : List UInt8} (h : rText (some s) = (l, some r)) : s = txt l ++ r := by
  unfold rText at h
  split at h
  · rename_i n q hq
    obtain ⟨h1, h2⟩ := rSize_canon hq
    injection h with h3 h4
    injection h4 with h4
    subst h3; subst h4
    unfold txt
    rw [List.length_take, Nat.min_eq_left h2, List.append_assoc, List.take_append_drop]
    exact h1
  · cases h
theorem rInt_stays : rInt none = (0, none) := rfl
theorem rText_stays : rText none = ([], none) := rfl
theorem rIter_canon {α : Type} {f : Option (List UInt8) → α × Option (List UInt8)} {ser : α → List UInt8} (hbad : (f none).2 = none) (hf : ∀ s a r, f (some s) = (a, some r) → s = ser a ++ r) (n : Nat) (s r : List UInt8) (h : (rIter f n (some s)).2 = some r) :
    s = (rIter f n (some s)).1.flatMap ser ++ r := by
  induction n generalizing r with
  | zero => simp [rIter] at h ⊢; exact h
  | succ n ih =>
    simp only [rIter] at h ⊢
    cases hm : (rIter f n (some s)).2 with
    | none => rw [hm, hbad] at h; cases h
    | some q =>
      rw [hm] at h
      have h1 := ih q hm
      have h2 := hf q (f (some q)).1 r (by rw [← h])
      rw [List.flatMap_append, List.flatMap_singleton, List.append_assoc, ← h2]
      exact h1
theorem rList_canon {α : Type} {f : Option (List UInt8) → α × Option (List UInt8)} {ser : α → List UInt8} (hbad : (f none).2 = none) (hf : ∀ s a r, f (some s) = (a, some r) → s = ser a ++ r) {s r : List UInt8} {l : List α} (h : rList f (some s) = (l, some r)) :
    s = int (l.length : Int) ++ l.flatMap ser ++ r := by
  unfold rList at h
  split at h
  · rename_i n q hq
    obtain ⟨h1, h2⟩ := rSize_canon hq
    split at h
    · cases h
    · have h3 := rIter_canon hbad hf n q r (by rw [h])
      have hl := rIter_len f n (some q)
      rw [h] at h3 hl
      simp only at h3 hl
      rw [hl, List.append_assoc, ← h3]
      exact h1
  · cases h
end Wi
end Go.Proofs.Ytcliegeooooonaa
