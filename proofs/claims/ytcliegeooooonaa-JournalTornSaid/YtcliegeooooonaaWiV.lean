/- Plain law: reading back what was written (WireInverse, WireTruncated, WirePrefix). No program in sight. -/
import Derived.Test.YtcliegeooooonaaWiC
namespace Go.Proofs.Ytcliegeooooonaa
namespace Wi
theorem unzig_zig (n : Int) : unzig (zig n) = n := by
  unfold unzig zig
  by_cases h : n < 0
  · rw [if_pos h, if_pos (by omega)]; omega
  · rw [if_neg h, if_neg (by omega)]; omega
theorem ofNat_toNat {c : Nat} (h : c < 256) : (UInt8.ofNat c).toNat = c := by
  rw [UInt8.toNat_ofNat']; omega
/-- reading the groups of q, the number k of the first one -/
theorem dec_enc (f k c q : Nat) (r : List UInt8) (hf : f + 1 + k = 10) (h0 : 0 < k → q ≠ 0) (hq : q < 128 ^ (f + 1)) (h9 : q * 128 ^ k < 18446744073709551616) :
    decF (f + 1) k c (enc f q ++ r) = some (unzig (c + q * 128 ^ k), k + (enc f q).length) := by
  induction f generalizing k c q with
  | zero =>
    have hk : k = 9 := by omega
    subst hk
    have h2 : q < 2 := by omega
    have e : (UInt8.ofNat q).toNat = q := ofNat_toNat (by omega)
    simp only [enc, List.cons_append, List.nil_append, decF, e]
    have := h0 (by omega)
    rw [if_neg (by omega), if_neg (by omega), Nat.mod_eq_of_lt (by omega)]
    rfl
  | succ f ih =>
    by_cases h : q < 128
    · have e : (UInt8.ofNat q).toNat = q := ofNat_toNat (by omega)
      rw [enc_done _ q h]
      simp only [List.cons_append, List.nil_append, decF, e]
      rw [if_neg (by omega), if_neg (by omega), Nat.mod_eq_of_lt h]
      rfl
    · have e : (UInt8.ofNat (q % 128 + 128)).toNat = q % 128 + 128 := ofNat_toNat (by omega)
      rw [enc_more _ q h]
      simp only [List.cons_append]
      unfold decF
      simp only [e]
      rw [if_pos (by omega)]
      have hm : (q % 128 + 128) % 128 = q % 128 := by omega
      have hp : 128 ^ (k + 1) = 128 ^ k * 128 := Nat.pow_succ ..
      have hdm : q % 128 * 128 ^ k + q / 128 * (128 ^ k * 128) = q * 128 ^ k := by
        have := Nat.mod_add_div q 128
        calc q % 128 * 128 ^ k + q / 128 * (128 ^ k * 128) = (q % 128 + 128 * (q / 128)) * 128 ^ k := by
              rw [Nat.add_mul, Nat.mul_comm 128 (q / 128), Nat.mul_assoc, Nat.mul_comm (128 ^ k) 128]
          _ = q * 128 ^ k := by rw [this]
      rw [hm, ih (k + 1) _ (q / 128) (by omega) (fun _ => by omega) (by rw [Nat.pow_succ] at hq; exact Nat.div_lt_of_lt_mul (by omega)) (by rw [hp]; omega)]
      rw [hp, Nat.add_assoc, hdm]
      simp only [List.length_cons]
      congr 2
      omega
theorem dec_of {n : Int} (h : -9223372036854775808 ≤ n ∧ n ≤ 9223372036854775807) (r : List UInt8) : dec (int n ++ r) = some (n, (int n).length) := by
  have hz := zig_lt h
  have e : int n = enc 9 (zig n) := enc_fuel 10 9 _ (by omega) (by omega)
  unfold dec
  rw [e, dec_enc 9 0 0 (zig n) r (by omega) (by omega) (by omega) (by omega)]
  simp only [Nat.pow_zero, Nat.mul_one, Nat.zero_add, unzig_zig]
theorem rInt_of {n : Int} (h : -9223372036854775808 ≤ n ∧ n ≤ 9223372036854775807) (r : List UInt8) : rInt (some (int n ++ r)) = (n, some r) := by
  rw [rInt_good (dec_of h r)]
  simp
theorem rSize_of {n : Nat} {r : List UInt8} (hn : n ≤ r.length) (hi : n ≤ 9223372036854775807) : rSize (some (int (n : Int) ++ r)) = some (n, r) := by
  unfold rSize
  rw [rInt_of (by omega)]
  simp only
  rw [if_pos (by omega)]
  rfl
theorem rText_of {l : List UInt8} (hl : l.length ≤ 9223372036854775807) (r : List UInt8) : rText (some (txt l ++ r)) = (l, some r) := by
  unfold rText txt
  rw [List.append_assoc, rSize_of (by simp) hl]
  simp
theorem rIter_of {α : Type} {f : Option (List UInt8) → α × Option (List UInt8)} {ser : α → List UInt8} (l m : List α) (r : List UInt8) (hf : ∀ a ∈ l ++ m, ∀ r, f (some (ser a ++ r)) = (a, some r)) :
    rIter f l.length (some ((l ++ m).flatMap ser ++ r)) = (l, some (m.flatMap ser ++ r)) := by
  obtain ⟨n, hn⟩ : ∃ n, n = l.length := ⟨_, rfl⟩
  induction n generalizing l m with
  | zero =>
    obtain rfl : l = [] := List.length_eq_zero_iff.1 hn.symm
    rfl
  | succ n ih =>
    have hne : l ≠ [] := by intro h; rw [h] at hn; cases hn
    obtain ⟨l', a, rfl⟩ : ∃ l' a, l = l' ++ [a] := ⟨l.dropLast, l.getLast hne, (List.dropLast_concat_getLast hne).symm⟩
    rw [List.length_append, List.length_singleton] at hn
    have := ih l' (a :: m) (by simpa using hf) (by omega)
    rw [List.length_append, List.length_singleton]
    simp only [rIter]
    rw [show l' ++ [a] ++ m = l' ++ a :: m by simp, this]
    simp only [List.flatMap_cons, List.append_assoc]
    rw [hf a (by simp)]
theorem rList_of {α : Type} {f : Option (List UInt8) → α × Option (List UInt8)} {ser : α → List UInt8} {l : List α} (r : List UInt8) (hf : ∀ a ∈ l, ∀ r, f (some (ser a ++ r)) = (a, some r))
    (h1 : ∀ a ∈ l, 1 ≤ (ser a).length) (hl : l.length ≤ 9223372036854775807) : rList f (some (int (l.length : Int) ++ l.flatMap ser ++ r)) = (l, some r) := by
  have hlen : l.length ≤ (l.flatMap ser ++ r).length := by
    clear hl hf
    induction l with
    | nil => simp
    | cons a l ih =>
      have := ih (fun b hb => h1 b (by simp [hb]))
      have := h1 a (by simp)
      simp only [List.flatMap_cons, List.length_append, List.length_cons] at *
      omega
  unfold rList
  rw [List.append_assoc, rSize_of hlen hl]
  have := rIter_of (f := f) (ser := ser) l [] r (by simpa using hf)
  simp only [List.append_nil, List.flatMap_nil, List.nil_append] at this
  simp only [this]
  simp
/-- no serialization is a prefix of another one -/
theorem prefix_free {α : Type} {f : Option (List UInt8) → α × Option (List UInt8)} {ser : α → List UInt8} {a b : α} (ha : ∀ r, f (some (ser a ++ r)) = (a, some r)) (hb : ∀ r, f (some (ser b ++ r)) = (b, some r))
    (h : (ser a).take (min (ser a).length (ser b).length) = (ser b).take (min (ser a).length (ser b).length)) : a = b := by
  by_cases hl : (ser a).length ≤ (ser b).length
  · rw [Nat.min_eq_left hl, List.take_length] at h
    have e : ser b = ser a ++ (ser b).drop (ser a).length := by
      conv => lhs; rw [← List.take_append_drop (ser a).length (ser b), ← h]
    have h1 := hb []
    rw [List.append_nil, e, ha] at h1
    exact (Prod.mk.inj h1).1
  · rw [Nat.min_eq_right (by omega), List.take_length] at h
    have e : ser a = ser b ++ (ser a).drop (ser b).length := by
      conv => lhs; rw [← List.take_append_drop (ser b).length (ser a), h]
    have h1 := ha []
    rw [List.append_nil, e, hb] at h1
    exact (Prod.mk.inj h1).1.symm
/-- a truncated serialization is bad -/
theorem trunc {α : Type} {f : Option (List UInt8) → α × Option (List UInt8)} {ser : α → List UInt8} (canon : ∀ p a r, p.length ≤ 9223372036854775807 → f (some p) = (a, some r) → p = ser a ++ r ∧ ∀ r', f (some (ser a ++ r')) = (a, some r'))
    {v : α} (hv : ∀ r, f (some (ser v ++ r)) = (v, some r)) (m : Nat) (hm : m < (ser v).length) (hs : (ser v).length ≤ 9223372036854775807) : (f (some ((ser v).take m))).2 = none := by
  cases hx : f (some ((ser v).take m)) with
  | mk a o =>
    cases o with
    | none => rfl
    | some r =>
      exfalso
      obtain ⟨e, hc⟩ := canon _ a r (by rw [List.length_take]; omega) hx
      have e2 : ser v = ser a ++ (r ++ (ser v).drop m) := by
        conv => lhs; rw [← List.take_append_drop m (ser v), e, List.append_assoc]
      have h1 := hv []
      rw [List.append_nil, e2, hc] at h1
      have h2 : r ++ (ser v).drop m = [] := by
        have := (Prod.mk.inj h1).2
        exact Option.some.inj this
      have h3 := congrArg List.length h2
      simp only [List.length_append, List.length_drop, List.length_nil] at h3
      omega
theorem rInt_can (p : List UInt8) (a : Int) (r : List UInt8) (_h : p.length ≤ 9223372036854775807) (hx : rInt (some p) = (a, some r)) : p = int a ++ r ∧ ∀ r', rInt (some (int a ++ r')) = (a, some r') :=
  ⟨(rInt_canon hx).1, fun r' => rInt_of (rInt_canon hx).2 r'⟩
theorem rText_can (p : List UInt8) (a r : List UInt8) (h : p.length ≤ 9223372036854775807) (hx : rText (some p) = (a, some r)) : p = txt a ++ r ∧ ∀ r', rText (some (txt a ++ r')) = (a, some r') := by
  have e := rText_canon hx
  refine ⟨e, fun r' => rText_of ?_ r'⟩
  have := congrArg List.length e
  simp only [txt, List.length_append] at this
  omega
theorem rInt_zero {st : Option (List UInt8)} (h : (rInt st).2 = none) : (rInt st).1 = 0 := by
  cases st with
  | none => rfl
  | some s =>
    cases hd : dec s with
    | none => rw [rInt_bad hd]
    | some p => obtain ⟨n, u⟩ := p; rw [rInt_good hd] at h; cases h
theorem rText_zero {st : Option (List UInt8)} (h : (rText st).2 = none) : (rText st).1 = [] := by
  unfold rText at h ⊢
  split at h
  · cases h
  · rfl
theorem rList_zero {α : Type} {f : Option (List UInt8) → α × Option (List UInt8)} {st : Option (List UInt8)} (h : (rList f st).2 = none) : (rList f st).1 = [] := by
  unfold rList at h ⊢
  split at h
  · split at h
    · rename_i h1; simp only [h1, if_true]
    · rename_i h1; exact absurd h h1
  · rfl
theorem rIter_can {α : Type} {f : Option (List UInt8) → α × Option (List UInt8)} {ser : α → List UInt8} (hbad : (f none).2 = none)
    (canon : ∀ p a r, p.length ≤ 9223372036854775807 → f (some p) = (a, some r) → p = ser a ++ r ∧ ∀ r', f (some (ser a ++ r')) = (a, some r'))
    (n : Nat) (s r : List UInt8) (l : List α) (hs : s.length ≤ 9223372036854775807) (h : rIter f n (some s) = (l, some r)) : r.length ≤ s.length ∧ ∀ a ∈ l, ∀ r', f (some (ser a ++ r')) = (a, some r') := by
  induction n generalizing l r with
  | zero =>
    simp only [rIter, Prod.mk.injEq, Option.some.injEq] at h
    obtain ⟨rfl, rfl⟩ := h
    exact ⟨Nat.le_refl _, fun a ha => by cases ha⟩
  | succ n ih =>
    simp only [rIter, Prod.mk.injEq] at h
    obtain ⟨h1, h2⟩ := h
    cases hm : rIter f n (some s) with
    | mk l' o =>
      rw [hm] at h1 h2
      cases o with
      | none => rw [hbad] at h2; cases h2
      | some p =>
        obtain ⟨hp, hall⟩ := ih p l' hm
        simp only at h1 h2
        have hx : f (some p) = ((f (some p)).1, some r) := by rw [← h2]
        obtain ⟨e, hc⟩ := canon p _ r (by omega) hx
        have hl := congrArg List.length e
        rw [List.length_append] at hl
        refine ⟨by omega, fun a ha => ?_⟩
        rw [← h1] at ha
        rcases List.mem_append.1 ha with ha | ha
        · exact hall a ha
        · rw [List.mem_singleton.1 ha]; exact hc
theorem rList_can {α : Type} {f : Option (List UInt8) → α × Option (List UInt8)} {ser : α → List UInt8} (hbad : (f none).2 = none) (hf : ∀ s a r, f (some s) = (a, some r) → s = ser a ++ r)
    (canon : ∀ p a r, p.length ≤ 9223372036854775807 → f (some p) = (a, some r) → p = ser a ++ r ∧ ∀ r', f (some (ser a ++ r')) = (a, some r')) (h1 : ∀ a, 1 ≤ (ser a).length)
    (p : List UInt8) (l : List α) (r : List UInt8) (hp : p.length ≤ 9223372036854775807) (h : rList f (some p) = (l, some r)) :
    p = int (l.length : Int) ++ l.flatMap ser ++ r ∧ ∀ r', rList f (some (int (l.length : Int) ++ l.flatMap ser ++ r')) = (l, some r') := by
  refine ⟨rList_canon hbad hf h, fun r' => ?_⟩
  unfold rList at h
  split at h
  · rename_i n q hq
    have hsz := rSize_canon hq
    have hlen := congrArg List.length hsz.1
    rw [List.length_append] at hlen
    split at h
    · cases h
    · have hall := (rIter_can hbad canon n q r l (by omega) h).2
      have hll : l.length = n := by
        have := rIter_len f n (some q)
        rw [h] at this
        exact this
      exact rList_of r' hall (fun a _ => h1 a) (by have := hsz.2; omega)
  · cases h
theorem int_pos (n : Int) : 1 ≤ (int n).length := (enc_len _ _).1
theorem txt_pos (l : List UInt8) : 1 ≤ (txt l).length := by
  have := int_pos (l.length : Int)
  unfold txt
  rw [List.length_append]
  omega
theorem rInts_can (p : List UInt8) (l : List Int) (r : List UInt8) (hp : p.length ≤ 9223372036854775807) (h : rList rInt (some p) = (l, some r)) :
    p = ints l ++ r ∧ ∀ r', rList rInt (some (ints l ++ r')) = (l, some r') :=
  rList_can (f := rInt) (ser := int) rfl (fun _ _ _ h => (rInt_canon h).1) rInt_can int_pos p l r hp h
theorem rTexts_can (p : List UInt8) (l : List (List UInt8)) (r : List UInt8) (hp : p.length ≤ 9223372036854775807) (h : rList rText (some p) = (l, some r)) :
    p = txts l ++ r ∧ ∀ r', rList rText (some (txts l ++ r')) = (l, some r') :=
  rList_can (f := rText) (ser := txt) rfl (fun _ _ _ h => rText_canon h) rText_can txt_pos p l r hp h
/-- one byte, or ten at most -/
theorem int_short {n : Int} (h : -9223372036854775808 ≤ n ∧ n ≤ 9223372036854775807) : (int n).length ≤ 10 ∧ ((int n).length = 1 ↔ -64 ≤ n ∧ n ≤ 63) := by
  have hz := zig_lt h
  have e : int n = enc 9 (zig n) := enc_fuel 10 9 _ (by omega) (by omega)
  refine ⟨by rw [e]; exact (enc_len 9 _).2, ?_⟩
  rw [e]
  have hzz : zig n < 128 ↔ -64 ≤ n ∧ n ≤ 63 := by unfold zig; split <;> omega
  rw [← hzz]
  by_cases h : zig n < 128
  · rw [enc_done _ _ h]; simp [h]
  · rw [enc_more _ _ h]
    have := (enc_len 8 (zig n / 128)).1
    simp only [List.length_cons]
    omega
end Wi
end Go.Proofs.Ytcliegeooooonaa
