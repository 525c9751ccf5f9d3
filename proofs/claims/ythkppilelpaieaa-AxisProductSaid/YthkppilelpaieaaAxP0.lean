/- AxisProduct: what its walk leans on. -/
import Derived.Test.YthkppilelpaieaaAxPP
import Derived.Test.YthkppilelpaieaaAxT0
import Derived.Test.YthkppilelpaieaaOpenA
namespace Go.Proofs.Ythkppilelpaieaa
open Go.RowKit
theorem arr3_open {w : World} {S : Nat → Prop} {k : IntKind} {lo hi : Int} {cs : Array Value} {l : List Int} (h : (Enc.arr 3 (Enc.num k lo hi)).rep w S cs.toList l) :
    ∃ a b c : Int, lo ≤ a ∧ a ≤ hi ∧ lo ≤ b ∧ b ≤ hi ∧ lo ≤ c ∧ c ≤ hi ∧ cs = #[.int k a, .int k b, .int k c] := by
  obtain ⟨h1, h2, h3⟩ := h
  match l, h1 with
  | [a, b, c], _ =>
    obtain ⟨e1, l1, l2⟩ := h3 0 a rfl
    obtain ⟨e2, l3, l4⟩ := h3 1 b rfl
    obtain ⟨e3, l5, l6⟩ := h3 2 c rfl
    refine ⟨a, b, c, l1, l2, l3, l4, l5, l6, ?_⟩
    apply Array.toList_inj.1
    have hn : (Enc.num k lo hi).n = 1 := rfl
    rw [hn] at e1 e2 e3 h2
    match hcs : cs.toList, h2 with
    | [u, v, x], _ =>
      rw [hcs] at e1 e2 e3
      simp at e1 e2 e3
      rw [e1, e2, e3]
/-- one element of a list -/
theorem Lst.one_at {α : Type} {E : Enc α} {w : World} {S : Nat → Prop} {b off n k : Nat} {l : List α} {x : α} (h : Lst E w S (some ⟨b, off, none⟩) n l) (hx : l[k]? = some x) : Lst E w S (some ⟨b, off + k * E.n, none⟩) 1 [x] := by
  have hk := (List.getElem?_eq_some_iff.1 hx).1
  have hl := h.1
  obtain ⟨b', off', e, hb, hc⟩ := h.2 (by omega)
  cases e
  refine ⟨rfl, fun _ => ⟨b, _, rfl, hb, fun i y hy => ?_⟩⟩
  obtain ⟨us, hr, hu⟩ := hc k x hx
  have hi := (List.getElem?_eq_some_iff.1 hy).1
  simp at hi
  subst hi
  obtain rfl : x = y := Option.some.inj hy
  refine ⟨us, hr, fun j u hj => ?_⟩
  rw [Nat.zero_mul, Nat.add_zero]
  exact hu j u hj
def qAt (l : List Tent) (ps : List Int) (k : Nat) : Rat := match l[k]?, ps[k]? with
  | some t, some p => tq t p
  | _, _ => 1
def nP (l : List Tent) (ps : List Int) : Nat → Int
  | 0 => 1
  | k + 1 => nP l ps k * (qAt l ps k).num
def dP (l : List Tent) (ps : List Int) : Nat → Int
  | 0 => 1
  | k + 1 => dP l ps k * ((qAt l ps k).den : Int)
theorem qAt_bd {l : List Tent} (ps : List Int) (h : allV l = true) (k : Nat) : 0 ≤ (qAt l ps k).num ∧ (qAt l ps k).num ≤ 128 ∧ 1 ≤ ((qAt l ps k).den : Int) ∧ ((qAt l ps k).den : Int) ≤ 128 := by
  unfold qAt
  split
  · rename_i t p ht _
    have h1 := tq_bd (v := p) (valid_of h ht)
    have h2 := (tq t p).den_pos
    omega
  · exact ⟨by decide, by decide, by decide, by decide⟩
theorem nP_bd {l : List Tent} (ps : List Int) (h : allV l = true) : ∀ k, 0 ≤ nP l ps k ∧ nP l ps k ≤ ((128 ^ k : Nat) : Int) ∧ 1 ≤ dP l ps k ∧ dP l ps k ≤ ((128 ^ k : Nat) : Int)
  | 0 => ⟨by show (0 : Int) ≤ 1; decide, by show (1 : Int) ≤ 1; decide, by show (1 : Int) ≤ 1; decide, by show (1 : Int) ≤ 1; decide⟩
  | k + 1 => by
    obtain ⟨h1, h2, h3, h4⟩ := nP_bd ps h k
    obtain ⟨q1, q2, q3, q4⟩ := qAt_bd ps h k
    have a := mul_in h1 h2 q1 q2
    have b := mul_in (show (0 : Int) ≤ dP l ps k by omega) h4 (show (0 : Int) ≤ ((qAt l ps k).den : Int) by omega) q4
    have c : 1 ≤ dP l ps k * ((qAt l ps k).den : Int) := by
      have := Int.mul_le_mul h3 q3 (by decide) (by omega)
      simpa using this
    have e : ((128 ^ (k + 1) : Nat) : Int) = ((128 ^ k : Nat) : Int) * 128 := by rw [Nat.pow_succ, Int.natCast_mul]; rfl
    rw [e]
    exact ⟨a.1, a.2, c, b.2⟩
theorem nP_small {l : List Tent} (ps : List Int) (h : allV l = true) {k : Nat} (hk : k ≤ 3) : 0 ≤ nP l ps k ∧ nP l ps k ≤ 2097152 ∧ 1 ≤ dP l ps k ∧ dP l ps k ≤ 2097152 := by
  obtain ⟨h1, h2, h3, h4⟩ := nP_bd ps h k
  have := Nat.pow_le_pow_right (show 0 < 128 by decide) hk
  have e : 128 ^ 3 = 2097152 := by decide
  omega
/-- the value of the region is the product -/
theorem prod_three {t0 t1 t2 : Tent} {p0 p1 p2 : Int} (h : allV [t0, t1, t2] = true) (h0 : -64 ≤ p0 ∧ p0 ≤ 64) (h1 : -64 ≤ p1 ∧ p1 ≤ 64) (h2 : -64 ≤ p2 ∧ p2 ≤ 64) :
    (scalS [t0, t1, t2] [p0, p1, p2]).1 * dP [t0, t1, t2] [p0, p1, p2] 3 = nP [t0, t1, t2] [p0, p1, p2] 3 * (scalS [t0, t1, t2] [p0, p1, p2]).2 := by
  rw [scalS_three h h0 h1 h2]
  have := rmul3 (tq t0 p0) (tq t1 p1) (tq t2 p2)
  show (tq t0 p0 * tq t1 p1 * tq t2 p2).num * (1 * ((tq t0 p0).den : Int) * ((tq t1 p1).den : Int) * ((tq t2 p2).den : Int)) = 1 * (tq t0 p0).num * (tq t1 p1).num * (tq t2 p2).num * ((tq t0 p0 * tq t1 p1 * tq t2 p2).den : Int)
  rw [Int.one_mul, Int.one_mul]
  exact this
theorem three_low {t0 t1 t2 : Tent} {p0 p1 p2 : Int} (h : allV [t0, t1, t2] = true) (h0 : -64 ≤ p0 ∧ p0 ≤ 64) (h1 : -64 ≤ p1 ∧ p1 ≤ 64) (h2 : -64 ≤ p2 ∧ p2 ≤ 64) :
    ∃ q : Rat, scalS [t0, t1, t2] [p0, p1, p2] = (q.num, (q.den : Int)) := ⟨_, scalS_three h h0 h1 h2⟩
theorem scalS_bd {l : List Tent} (ps : List Int) (h : allV l = true) (hl : l.length = 3) : 0 ≤ (scalS l ps).1 ∧ (scalS l ps).1 ≤ 2097152 ∧ 1 ≤ (scalS l ps).2 ∧ (scalS l ps).2 ≤ 2097152 := by
  unfold scalS
  rw [if_pos h]
  obtain ⟨h1, h2, h3⟩ := scalP_bd ps h l.length (Nat.le_refl _)
  have hp := (scalP l ps l.length).den_pos
  rw [hl] at h1 h2 h3 hp ⊢
  have e : 128 ^ 3 = 2097152 := by decide
  show 0 ≤ (scalP l ps 3).num ∧ (scalP l ps 3).num ≤ 2097152 ∧ 1 ≤ ((scalP l ps 3).den : Int) ∧ ((scalP l ps 3).den : Int) ≤ 2097152
  omega
theorem region_three (a : Option Addr) (n c : Nat) (L : List Int) (w : World) (hl : Lst Enc.int w (· < w.heap.size) a n L) (hn : n ≤ maxLen) :
    Calls Try.prog 18 #[.slice a n c, .int .i64 3] w fun e w' => ∃ br off c' t0 t1 t2, e = .returned (.slice (some ⟨br, off, none⟩) 3 c') ∧ Lst Enc.tent w' (· < w'.heap.size) (some ⟨br, off, none⟩) 3 [t0, t1, t2] ∧ 3 ≤ c' ∧ c' ≤ maxLen ∧ allV [t0, t1, t2] = true ∧ Below w.heap.size w w' := by
  refine (region_any a n c L 3 w hl hn (by omega)).mono ?_
  rintro e w' ⟨ra, rc, l, rfl, hR, hR1, hR2, hall, hb⟩
  obtain ⟨br, off, t, rfl, _⟩ := lst_tent hR (show 0 < 3 by omega)
  have h1 := hR.1
  match l, h1, hR, hall with
  | [t0, t1, t2], _, hR, hall => exact ⟨br, off, rc, t0, t1, t2, rfl, hR, hR1, hR2, hall, hb⟩
/-- one tent at its position -/
theorem scalar_at {W : World} {br off c1 bp c2 k : Nat} {l : List Tent} {ps : List Int} (hR : Lst Enc.tent W (· < W.heap.size) (some ⟨br, off, none⟩) 3 l) (hall : allV l = true) (hP : Lst Enc.int W (· < W.heap.size) (some ⟨bp, 0, none⟩) 3 ps) (hps : ∀ p ∈ ps, -64 ≤ p ∧ p ≤ 64) (hk : k < 3) :
    Calls Try.prog 21 #[.slice (some ⟨br, off + k * 3, none⟩) 1 c1, .slice (some ⟨bp, k, none⟩) 1 c2] W fun e w' => e = .returned (.agg #[.int .i64 (qAt l ps k).num, .int .i64 ((qAt l ps k).den : Int)]) ∧ Below W.heap.size W w' := by
  have h1 := hR.1
  have h2 := hP.1
  have ht : l[k]? = some (l[k]'(by omega)) := List.getElem?_eq_getElem _
  have hp : ps[k]? = some (ps[k]'(by omega)) := List.getElem?_eq_getElem _
  have hR1 := hR.one_at ht
  have hP1 := hP.one_at hp
  have e1 : Enc.tent.n = 3 := rfl
  have e2 : Enc.int.n = 1 := rfl
  rw [e1] at hR1
  rw [e2, Nat.mul_one, Nat.zero_add] at hP1
  have hv := hps _ (List.getElem_mem (show k < ps.length by omega))
  have := scalar_any _ 1 c1 _ _ 1 c2 _ W hR1 hP1 (by omega) (by omega)
  rw [scalS_one (by simp only [allV, List.all_cons, List.all_nil, Bool.and_true]; exact valid_of hall ht) hv] at this
  have eq : qAt l ps k = tq (l[k]'(by omega)) (ps[k]'(by omega)) := by unfold qAt; rw [ht, hp]
  rw [eq]
  exact this
end Go.Proofs.Ythkppilelpaieaa
