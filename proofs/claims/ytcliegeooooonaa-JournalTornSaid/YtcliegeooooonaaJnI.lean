/- JournalTorn: its plain law. -/
import Derived.Test.YtcliegeooooonaaJnF
namespace Go.Proofs.Ytcliegeooooonaa
open Go.RowKit
/-- where record number q begins -/
def En (A : List (List UInt8)) (q : Nat) : Nat := (Jn.recs b0L (A.take q)).length
theorem En_zero (A : List (List UInt8)) : En A 0 = 0 := rfl
theorem En_all (A : List (List UInt8)) : En A A.length = (Jn.recs b0L A).length := by unfold En; rw [List.take_length]
theorem En_succ {A : List (List UInt8)} {q : Nat} {a : List UInt8} (h : A[q]? = some a) : En A (q + 1) = En A q + (Jn.recd (Jn.lastb b0L (A.take q)) a).length := by
  unfold En
  rw [List.take_add_one, h]
  show (Jn.recs b0L (A.take q ++ [a])).length = _
  rw [Jn.recs_snoc, List.length_append]
theorem lastb_succ {A : List (List UInt8)} {q : Nat} {a : List UInt8} (h : A[q]? = some a) : Jn.lastb b0L (A.take (q + 1)) = Jn.chL (Jn.lastb b0L (A.take q)) a := by
  rw [List.take_add_one, h]
  exact Jn.lastb_snoc b0L _ a
structure Torn (A G : List (List UInt8)) (S T : List UInt8) (q : Nat) : Prop where
  le : q ≤ G.length
  same : G.take q = A.take q
  stop : G.length = q → opN T = En A q ∧ T.take (En A q) = S.take (En A q)
  other : ∀ z, G[q]? = some z → A[q]? ≠ some z ∧ (Jn.recd (Jn.lastb b0L (A.take q)) z).length ≤ T.length - En A q ∧ (T.drop (En A q)).take (Jn.recd (Jn.lastb b0L (A.take q)) z).length = Jn.recd (Jn.lastb b0L (A.take q)) z
theorem torn_law {A : List (List UInt8)} (hA : Jn.Fit A) {q k : Nat} {a : List UInt8} (ha : A[q]? = some a) (h1 : En A q ≤ k) (h2 : k < En A (q + 1)) {x y : UInt8} {S T : List UInt8} (hS : Jn.recs b0L A = S) (hx : S[k]? = some x) (hy : y ≠ x) (hT : S.take k ++ [y] ++ S.drop (k + 1) = T) :
    Torn A (Jn.good b0L T).1 S T q := by
  obtain ⟨e, he⟩ : ∃ e, Jn.lastb b0L (A.take q) = e := ⟨_, rfl⟩
  obtain ⟨n, hn⟩ : ∃ n, En A q = n := ⟨_, rfl⟩
  have hsu := En_succ ha
  rw [he, hn] at hsu
  rw [hn] at h1
  have hkS : k < S.length := (List.getElem?_eq_some_iff.1 hx).1
  obtain ⟨R, hR⟩ : ∃ R, Jn.recs b0L (A.take q) = R := ⟨_, rfl⟩
  have hRn : R.length = n := by rw [← hR, ← hn]; rfl
  obtain ⟨D, hD⟩ : ∃ D, Jn.recs e (A.drop q) = D := ⟨_, rfl⟩
  have hSR : S = R ++ D := by
    rw [← hS, ← hR, ← hD, ← he, ← Jn.recs_app, List.take_append_drop]
  have hDa : ∃ D2, D = Jn.recd e a ++ D2 := by
    have hdr : A.drop q = a :: A.drop (q + 1) := by
      obtain ⟨h, rfl⟩ := List.getElem?_eq_some_iff.1 ha
      exact List.drop_eq_getElem_cons h
    refine ⟨Jn.recs (Jn.chL e a) (A.drop (q + 1)), ?_⟩
    rw [← hD, hdr]
    rfl
  obtain ⟨t, ht⟩ : ∃ t, T.drop n = t := ⟨_, rfl⟩
  have hTn : T.take n = R := by
    rw [← hT, List.append_assoc, List.take_append_of_le_length (by rw [List.length_take]; omega), List.take_take, Nat.min_eq_left h1, hSR, List.take_append_of_le_length (by omega), List.take_of_length_le (by omega)]
  have hTt : T = R ++ t := by rw [← ht, ← hTn, List.take_append_drop]
  have hlT : T.length = S.length := by
    rw [← hT]
    simp only [List.length_append, List.length_take, List.length_drop, List.length_cons, List.length_nil]
    omega
  have hg : Jn.good b0L T = (A.take q ++ (Jn.good e t).1, (Jn.good e t).2) := by
    rw [hTt, ← hR, Jn.good_recs b0L _ (fun s hs => hA s (List.mem_of_mem_take hs)), he]
  have hql : (A.take q).length = q := by
    rw [List.length_take]
    have := (List.getElem?_eq_some_iff.1 ha).1
    omega
  have hTk : T[k]? = some y := by
    rw [← hT, List.append_assoc, List.getElem?_append_right (by rw [List.length_take]; omega), List.length_take, Nat.min_eq_left (by omega), Nat.sub_self]
    rfl
  refine ⟨by rw [hg]; simp only [List.length_append]; omega, by rw [hg]; simp only; rw [List.take_append_of_le_length (by omega), List.take_of_length_le (by omega)], ?_, ?_⟩
  · intro hG
    rw [hg] at hG
    simp only [List.length_append] at hG
    have h0 : (Jn.good e t).1 = [] := List.eq_nil_of_length_eq_zero (by omega)
    have hle := Jn.good_eq e t
    rw [h0] at hle
    simp only [Jn.recs, List.nil_append] at hle
    refine ⟨?_, ?_⟩
    · unfold opN
      rw [hg]
      simp only
      rw [← hle, hTt, List.length_append, hn]
      omega
    · rw [hn, hTn, hSR, List.take_append_of_le_length (by omega), List.take_of_length_le (by omega)]
  · intro z hz
    rw [hg] at hz
    simp only at hz
    rw [List.getElem?_append_right (by omega), hql, Nat.sub_self] at hz
    rw [he, hn]
    cases hst : Jn.stepR e t with
    | none =>
      rw [Jn.good_none hst] at hz
      simp at hz
    | some p =>
      obtain ⟨z', t', e'⟩ := p
      rw [Jn.good_some hst] at hz
      simp at hz
      subst hz
      obtain ⟨ht2, -⟩ := Jn.stepR_some hst
      have htl : t.length = T.length - n := by rw [← ht, List.length_drop]
      refine ⟨?_, ?_, ?_⟩
      · rw [ha]
        intro e1
        injection e1 with e1
        subst e1
        have hk2 : k - n < (Jn.recd e a).length := by omega
        have y1 : T[k]? = (Jn.recd e a)[k - n]? := by
          rw [hTt, List.getElem?_append_right (by omega), hRn, ht2, List.getElem?_append_left hk2]
        have y2 : S[k]? = (Jn.recd e a)[k - n]? := by
          obtain ⟨D2, hD2⟩ := hDa
          rw [hSR, List.getElem?_append_right (by omega), hRn, hD2, List.getElem?_append_left hk2]
        rw [hTk] at y1
        rw [hx] at y2
        rw [← y1] at y2
        injection y2 with y2
        exact hy y2.symm
      · have := congrArg List.length ht2
        rw [List.length_append] at this
        omega
      · rw [ht, ht2, List.take_left]
end Go.Proofs.Ytcliegeooooonaa
