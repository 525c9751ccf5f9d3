/- The law's case. -/
import Derived.Test.YtbbbldaccpfooaaMade3
namespace Go.Proofs.Ytbbbldaccpfooaa
open Go.RowKit
theorem own_below {w w' : World} {base : Nat} {e : TypeId} {s n : Nat} {v : Value} {xs : List Value} (h : w.ownsRow base e s v n xs) (hb : Below w.heap.size w w') : w'.ownsRow base e s v n xs :=
  h.kept (row := none) (grown_of_below hb none) (by cases hv : v.ownBlock with
    | none => exact .inl rfl
    | some g => exact .inr (by simp))
theorem own_cap {w : World} {base : Nat} {T s : Nat} {v : Value} {n m : Nat} {xs : List Value} {a : Option Addr} {c : Nat} (h : w.ownsRow base T s v n xs) (hv : v = .slice a m c) : m ≤ c := by
  subst hv
  rcases h.2 with ⟨h1, _⟩ | ⟨g, cap, cur, h1, _, _, h2, _⟩
  · injection h1 with _ h3 h4
    omega
  · injection h1 with _ h3 h4
    omega
theorem lst_own2 {w : World} {base n : Nat} {T : TypeId} {a : Option Addr} {c m : Nat} {l : List Int} (h : w.ownsRow base T 1 (.slice a m c) n (l.map (Value.int .i64))) (hl : ∀ x ∈ l, I64 x) : Lst Enc.int w (fun b => b < w.heap.size ∧ base ≤ b) a m l ∧ m = l.length := by
  obtain ⟨h1, h2⟩ := lst_own h hl
  refine ⟨⟨h1.1, fun hpos => ?_⟩, h2⟩
  obtain ⟨b, off, he, hb, hc⟩ := h1.2 hpos
  refine ⟨b, off, he, ⟨hb, ?_⟩, fun i x hx => hc i x hx⟩
  rcases h.2 with ⟨hv, hn⟩ | ⟨g, cap, cur, hv, hg, _⟩
  · injection hv with e1 e2
    omega
  · injection hv with e1
    rw [he] at e1
    injection e1 with e1
    injection e1 with e1
    omega
theorem kcells_len (ks : List (Int × Int × Int)) : (kcells ks).length = ks.length * 3 := by
  induction ks with
  | nil => rfl
  | cons k ks ih =>
    rw [show kcells (k :: ks) = .int .i64 k.1 :: .int .i64 k.2.1 :: .int .i64 k.2.2 :: kcells ks from rfl]
    simp only [List.length_cons, ih]
    omega
theorem kcells_get (ks : List (Int × Int × Int)) (i : Nat) (k : Int × Int × Int) (h : ks[i]? = some k) : (kcells ks)[i * 3]? = some (.int .i64 k.1) ∧ (kcells ks)[i * 3 + 1]? = some (.int .i64 k.2.1) ∧ (kcells ks)[i * 3 + 2]? = some (.int .i64 k.2.2) := by
  induction ks generalizing i with
  | nil => cases h
  | cons q ks ih =>
    have hc : kcells (q :: ks) = .int .i64 q.1 :: .int .i64 q.2.1 :: .int .i64 q.2.2 :: kcells ks := rfl
    cases i with
    | zero => simp at h; subst h; exact ⟨rfl, rfl, rfl⟩
    | succ i =>
      have := ih i (by simpa using h)
      rw [hc, show (i + 1) * 3 = i * 3 + 3 by omega]
      simpa using this
theorem lst_own_kern {w : World} {base n : Nat} {v : Value} {ks : List (Int × Int × Int)} (h : w.ownsRow base 53 3 v n (kcells ks)) (hl : ∀ k ∈ ks, I64 k.1 ∧ I64 k.2.1 ∧ I64 k.2.2) :
    ∃ a c, v = .slice a ks.length c ∧ Lst Enc.kern w (fun b => b < w.heap.size ∧ base ≤ b) a ks.length ks := by
  have hlen : n = ks.length := by have := h.1; rw [kcells_len] at this; omega
  subst hlen
  rcases h.2 with ⟨hv, hn⟩ | ⟨g, cap, cur, hv, hb, hg, hrest⟩
  · have : ks = [] := List.eq_nil_of_length_eq_zero hn
    subst this
    exact ⟨_, _, hv, Lst.nil _ _ _ _⟩
  · refine ⟨_, _, hv, rfl, fun _ => ⟨g, 0, rfl, ⟨(Array.getElem?_eq_some_iff.1 hg).1, hb⟩, fun i x hx => ⟨[.int .i64 x.1, .int .i64 x.2.1, .int .i64 x.2.2], ⟨[.int .i64 x.1], [.int .i64 x.2.1, .int .i64 x.2.2], rfl, ⟨rfl, (hl x (List.mem_of_getElem? hx)).1⟩, ⟨[.int .i64 x.2.1], [.int .i64 x.2.2], rfl, ⟨rfl, (hl x (List.mem_of_getElem? hx)).2.1⟩, ⟨rfl, (hl x (List.mem_of_getElem? hx)).2.2⟩⟩⟩, fun j u hj => ?_⟩⟩⟩
    subst hv
    obtain ⟨k0, k1, k2⟩ := kcells_get ks i x hx
    have hcell : ∀ j u, (kcells ks)[j]? = some u → w.cell? ⟨g, j, none⟩ = some u := fun j u hu => by
      have := h.cells (g := g) rfl j u hu
      rwa [Addr.add_lit, Nat.zero_add] at this
    have hj3 : j < 3 := (List.getElem?_eq_some_iff.1 hj).1
    have hn3 : Enc.kern.n = 3 := rfl
    rw [hn3]
    obtain rfl | rfl | rfl : j = 0 ∨ j = 1 ∨ j = 2 := by omega
    · simp at hj; subst hj; simpa using hcell _ _ k0
    · simp at hj; subst hj; simpa using hcell _ _ k1
    · simp at hj; subst hj; simpa using hcell _ _ k2
/-- a font as the laws read it: the glyphs' advances, the kerning pairs -/
def FontAt (S : Nat → Prop) (w : World) (f : Value) (av : List Int) (ks : List (Int × Int × Int)) : Prop :=
  ∃ (s : ByteArray) (n : Int) (va : Option Addr) (vn vc : Nat) (b gc : Nat) (qa : Option Addr) (qn qc : Nat) (ta : Option Addr) (tn tc : Nat) (ka : Option Addr) (kc : Nat),
    f = .agg #[.string s, .int .i64 n, .slice va vn vc, .slice (some ⟨b, 0, none⟩) av.length gc, .slice qa qn qc, .slice ta tn tc, .slice ka ks.length kc] ∧ S b ∧ av.length ≤ 9 ∧
    (∀ (i : Nat) (x : Int), av[i]? = some x → w.cell? ⟨b, i * 7 + 1, none⟩ = some (.int .i64 x) ∧ 16 ≤ x ∧ x ≤ 52) ∧ Lst Enc.kern w S ka ks.length ks ∧ ks.length ≤ 13 ∧ ∀ k ∈ ks, I64 k.1 ∧ I64 k.2.1 ∧ -100 ≤ k.2.2 ∧ k.2.2 ≤ 100
theorem FontAt.under {w w' : World} {f : Value} {av : List Int} {ks : List (Int × Int × Int)} (h : FontAt (· < w.heap.size) w f av ks) (hb : Below w.heap.size w w') : FontAt (· < w'.heap.size) w' f av ks := by
  obtain ⟨s, n, va, vn, vc, b, gc, qa, qn, qc, ta, tn, tc, ka, kc, h1, h2, h3, h4, h5, h6, h7⟩ := h
  exact ⟨s, n, va, vn, vc, b, gc, qa, qn, qc, ta, tn, tc, ka, kc, h1, Nat.lt_of_lt_of_le h2 hb.size, h3, fun i x hx => ⟨(hb.cell (p := ⟨b, i * 7 + 1, none⟩) h2).trans (h4 i x hx).1, (h4 i x hx).2⟩, h5.under hb, h6, h7⟩
theorem advs_list {xs : List Value} (h : Advs 9 xs) : ∃ av : List Int, av.length = 9 ∧ ∀ (i : Nat) (x : Int), av[i]? = some x → xs[i * 7 + 1]? = some (.int .i64 x) ∧ 16 ≤ x ∧ x ≤ 52 :=
  let ⟨l, hl, hx⟩ := list_of_lt (n := 9) (p := fun i x => xs[i * 7 + 1]? = some (.int .i64 x) ∧ 16 ≤ x ∧ x ≤ 52) (fun i hi => h i hi)
  ⟨l, hl, hx⟩
end Go.Proofs.Ytbbbldaccpfooaa
