/- AxisTents: a single tent, and the worlds of a region that makes two boxes and fills the first one early. -/
import Derived.Test.YthkppilelpaieaaAxTP
namespace Go.Proofs.Ythkppilelpaieaa
open Go.RowKit
theorem scalar_one {W : World} {ra : Option Addr} {rc b : Nat} {t : Tent} {v : Int} (hR : Lst Enc.tent W (· < W.heap.size) ra 1 [t]) (hall : allV [t] = true) (h : W.heap[b]? = some (.cells #[.int .i64 v] 3 (0, 0))) (hv : -64 ≤ v ∧ v ≤ 64) :
    Calls Try.prog 21 #[.slice ra 1 rc, .slice (some ⟨b, 0, none⟩) 1 1] W fun e w' => e = .returned (.agg #[.int .i64 (tq t v).num, .int .i64 ((tq t v).den : Int)]) ∧ Below W.heap.size W w' := by
  have hl := lst_ints (l := [v]) h (fun x hx => by simp at hx; rw [hx]; exact ⟨by omega, by omega⟩) (S := (· < W.heap.size)) (Array.getElem?_eq_some_iff.1 h).1
  have := scalar_any ra 1 rc [t] (some ⟨b, 0, none⟩) 1 1 [v] W hR hl (by omega) (by omega)
  rw [scalS_one hall hv] at this
  exact this
theorem region_one (a : Option Addr) (n c : Nat) (L : List Int) (w : World) (hl : Lst Enc.int w (· < w.heap.size) a n L) (hn : n ≤ maxLen) :
    Calls Try.prog 18 #[.slice a n c, .int .i64 1] w fun e w' => ∃ br off c' lo pk hi, e = .returned (.slice (some ⟨br, off, none⟩) 1 c') ∧ Lst Enc.tent w' (· < w'.heap.size) (some ⟨br, off, none⟩) 1 [(lo, pk, hi)] ∧ 1 ≤ c' ∧ allV [(lo, pk, hi)] = true ∧ validS lo pk hi = true ∧ (-64 ≤ lo ∧ lo ≤ pk ∧ pk ≤ hi ∧ hi ≤ 64) ∧ w'.cell? ⟨br, off, none⟩ = some (.int .i64 lo) ∧ w'.cell? ⟨br, off + 1, none⟩ = some (.int .i64 pk) ∧ w'.cell? ⟨br, off + 2, none⟩ = some (.int .i64 hi) ∧ Below w.heap.size w w' := by
  refine (region_any a n c L 1 w hl hn (by omega)).mono ?_
  rintro e w' ⟨ra, rc, l, rfl, hR, hR1, hR2, hall, hb⟩
  obtain ⟨br, off, t, rfl, hbr, ht, i1, i2, i3, c0, c1, c2⟩ := lst_tent hR (show 0 < 1 by omega)
  simp only [Nat.zero_mul, Nat.add_zero] at c0 c1 c2
  have hlt : l = [t] := by
    have h1 := hR.1
    match l, h1, ht with
    | [x], _, h => exact congrArg (fun y => [y]) (Option.some.inj h)
  subst hlt
  obtain ⟨q1, q2, q3, q4, _⟩ := valid_facts (valid_of hall ht)
  exact ⟨br, off, rc, t.1, t.2.1, t.2.2, rfl, hR, hR1, hall, valid_of hall ht, ⟨q1, q2, q3, q4⟩, c0, c1, c2, hb⟩
theorem mul_in {a b A B : Int} (h0 : 0 ≤ a) (h1 : a ≤ A) (h2 : 0 ≤ b) (h3 : b ≤ B) : 0 ≤ a * b ∧ a * b ≤ A * B :=
  ⟨Int.mul_nonneg h0 h2, Int.mul_le_mul h1 h3 h2 (by omega)⟩
theorem tent_wraps {N0 N1 N2 : Int} {D0 D1 D2 : Nat} (a1 : 0 ≤ N0) (a2 : N0 ≤ (D0 : Int)) (a3 : D0 ≤ 128) (a4 : 0 < D0) (b1 : 0 ≤ N1) (b2 : N1 ≤ (D1 : Int)) (b3 : D1 ≤ 128) (b4 : 0 < D1) (c1 : 0 ≤ N2) (c2 : N2 ≤ (D2 : Int)) (c3 : D2 ≤ 128) (c4 : 0 < D2) :
    IntKind.i64.wrap (2 * N0) = 2 * N0 ∧ IntKind.i64.wrap (2 * N0 * (D1 : Int)) = 2 * N0 * (D1 : Int) ∧ IntKind.i64.wrap (2 * N0 * (D1 : Int) * (D2 : Int)) = 2 * N0 * (D1 : Int) * (D2 : Int) ∧ IntKind.i64.wrap (N1 * (D2 : Int)) = N1 * (D2 : Int) ∧ IntKind.i64.wrap (N2 * (D1 : Int)) = N2 * (D1 : Int) ∧ IntKind.i64.wrap (N1 * (D2 : Int) + N2 * (D1 : Int)) = N1 * (D2 : Int) + N2 * (D1 : Int) ∧ IntKind.i64.wrap ((D0 : Int) * (N1 * (D2 : Int) + N2 * (D1 : Int))) = (D0 : Int) * (N1 * (D2 : Int) + N2 * (D1 : Int)) := by
  have h1 := mul_in (a := 2 * N0) (b := (D1 : Int)) (A := 256) (B := 128) (by omega) (by omega) (by omega) (by omega)
  have h2 := mul_in (a := 2 * N0 * (D1 : Int)) (b := (D2 : Int)) (A := 32768) (B := 128) h1.1 (by omega) (by omega) (by omega)
  have h3 := mul_in (a := N1) (b := (D2 : Int)) (A := 128) (B := 128) (by omega) (by omega) (by omega) (by omega)
  have h4 := mul_in (a := N2) (b := (D1 : Int)) (A := 128) (B := 128) (by omega) (by omega) (by omega) (by omega)
  have h5 := mul_in (a := (D0 : Int)) (b := N1 * (D2 : Int) + N2 * (D1 : Int)) (A := 128) (B := 32768) (by omega) (by omega) (by omega) (by omega)
  exact ⟨IntWalk.i64_in _ (by omega), IntWalk.i64_in _ (by omega), IntWalk.i64_in _ (by omega), IntWalk.i64_in _ (by omega), IntWalk.i64_in _ (by omega), IntWalk.i64_in _ (by omega), IntWalk.i64_in _ (by omega)⟩
/-- two boxes are made at 10 and 11; a store at 12 fills the first one -/
structure TB (W : World) (T : TypeId) (z0 z1 x0 x1 : Value) (LL : Nat → Bool) (vs : Nat → Value) (w' : World) : Prop where
  un : ∀ j, LL j = false → vs j = undef
  bel : Below W.heap.size W w'
  p : ∀ b, vs 10 = .pointer (some ⟨b, 0, none⟩) → W.heap.size ≤ b ∧ w'.heap[b]? = some (.cells (if LL 12 = true then #[x0, x1] else #[z0, z1]) T (0, 0))
  q : ∀ b, vs 11 = .pointer (some ⟨b, 0, none⟩) → W.heap.size ≤ b ∧ w'.heap[b]? = some (.cells #[z0, z1] T (0, 0))
  ne : ∀ b, vs 10 = .pointer (some ⟨b, 0, none⟩) → vs 11 ≠ .pointer (some ⟨b, 0, none⟩)
  s : LL 12 = true → LL 10 = true
section
variable {W w w2 : World} {T : TypeId} {z0 z1 x0 x1 : Value} {LL : Nat → Bool} {vs : Nat → Value}
theorem TB.start (W : World) (T : TypeId) (z0 z1 x0 x1 : Value) : TB W T z0 z1 x0 x1 (fun _ => false) (fun _ => undef) { W with drawn := W.drawn + 1 } :=
  ⟨fun _ _ => rfl, (Below.refl _ _).drew, fun _ h => (by cases h), fun _ h => (by cases h), fun _ h => (by cases h), fun h => Bool.noConfusion h⟩
theorem TB.undo (h : TB W T z0 z1 x0 x1 LL vs w) (i : Nat) (v : Value) : ∀ j, (LL j || j == i) = false → (if j = i then v else vs j) = undef := fun j hj => by
  rw [Bool.or_eq_false_iff] at hj
  rw [if_neg (by simpa using hj.2)]
  exact h.un j hj.1
theorem TB.call (h : TB W T z0 z1 x0 x1 LL vs w) (i : Nat) (v : Value) (h10 : 10 ≠ i) (h11 : 11 ≠ i) (h12 : 12 ≠ i) (hb : Below w.heap.size w w2) : TB W T z0 z1 x0 x1 (fun j => LL j || j == i) (fun j => if j = i then v else vs j) w2 := by
  have e10 : (LL 10 || 10 == i) = LL 10 := by rw [beq_eq_false_iff_ne.2 h10, Bool.or_false]
  have e12 : (LL 12 || 12 == i) = LL 12 := by rw [beq_eq_false_iff_ne.2 h12, Bool.or_false]
  refine ⟨h.undo i v, h.bel.trans (hb.mono h.bel.size), fun b e => ?_, fun b e => ?_, fun b e => ?_, fun e => ?_⟩
  · rw [if_neg h10] at e
    obtain ⟨h1, h2⟩ := h.p b e
    rw [e12]
    exact ⟨h1, (hb.block b (Array.getElem?_eq_some_iff.1 h2).1).trans h2⟩
  · rw [if_neg h11] at e
    obtain ⟨h1, h2⟩ := h.q b e
    exact ⟨h1, (hb.block b (Array.getElem?_eq_some_iff.1 h2).1).trans h2⟩
  · rw [if_neg h10] at e
    rw [if_neg h11]
    exact h.ne b e
  · rw [e12] at e
    rw [e10]
    exact h.s e
theorem TB.keep (h : TB W T z0 z1 x0 x1 LL vs w) (i : Nat) (v : Value) (h10 : 10 ≠ i) (h11 : 11 ≠ i) (h12 : 12 ≠ i) : TB W T z0 z1 x0 x1 (fun j => LL j || j == i) (fun j => if j = i then v else vs j) w := h.call i v h10 h11 h12 (Below.refl _ _)
theorem TB.new10 (h : TB W T z0 z1 x0 x1 LL vs w) (hL : LL 10 = false) : TB W T z0 z1 x0 x1 (fun j => LL j || j == 10) (fun j => if j = 10 then .pointer (some ⟨w.heap.size, 0, none⟩) else vs j) (w.alloc (.cells #[z0, z1] T)) := by
  have hb := (Below.refl w.heap.size w).alloc (Nat.le_refl _) (.cells #[z0, z1] T)
  have hn := heap_alloc_new w (.cells #[z0, z1] T)
  have h12 : LL 12 = false := by
    cases e : LL 12 with
    | false => rfl
    | true => have := h.s e; rw [hL] at this; cases this
  refine ⟨h.undo 10 _, h.bel.trans (hb.mono h.bel.size), fun b e => ?_, fun b e => ?_, fun b e => ?_, fun e => ?_⟩
  · rw [if_pos rfl] at e
    have hbs : w.heap.size = b := by injection e with e; injection e with e; injection e
    show W.heap.size ≤ b ∧ _ = some (Obj.cells (if (LL 12 || false) = true then _ else _) _ _)
    rw [h12]
    exact ⟨by rw [← hbs]; exact h.bel.size, by rw [← hbs]; exact hn⟩
  · rw [if_neg (by decide)] at e
    obtain ⟨h1, h2⟩ := h.q b e
    exact ⟨h1, (hb.block b (Array.getElem?_eq_some_iff.1 h2).1).trans h2⟩
  · rw [if_pos rfl] at e
    rw [if_neg (by decide)]
    intro e2
    have hbs : w.heap.size = b := by injection e with e; injection e with e; injection e
    have := (Array.getElem?_eq_some_iff.1 (h.q b e2).2).1
    omega
  · show (LL 10 || true) = true
    rw [Bool.or_true]
theorem TB.new11 (h : TB W T z0 z1 x0 x1 LL vs w) : TB W T z0 z1 x0 x1 (fun j => LL j || j == 11) (fun j => if j = 11 then .pointer (some ⟨w.heap.size, 0, none⟩) else vs j) (w.alloc (.cells #[z0, z1] T)) := by
  have hb := (Below.refl w.heap.size w).alloc (Nat.le_refl _) (.cells #[z0, z1] T)
  have hn := heap_alloc_new w (.cells #[z0, z1] T)
  have e10 : (LL 10 || 10 == 11) = LL 10 := Bool.or_false _
  have e12 : (LL 12 || 12 == 11) = LL 12 := Bool.or_false _
  refine ⟨h.undo 11 _, h.bel.trans (hb.mono h.bel.size), fun b e => ?_, fun b e => ?_, fun b e => ?_, fun e => ?_⟩
  · rw [if_neg (by decide)] at e
    obtain ⟨h1, h2⟩ := h.p b e
    rw [e12]
    exact ⟨h1, (hb.block b (Array.getElem?_eq_some_iff.1 h2).1).trans h2⟩
  · rw [if_pos rfl] at e
    have hbs : w.heap.size = b := by injection e with e; injection e with e; injection e
    exact ⟨by rw [← hbs]; exact h.bel.size, by rw [← hbs]; exact hn⟩
  · rw [if_neg (by decide)] at e
    rw [if_pos rfl]
    intro e2
    have hbs : w.heap.size = b := by injection e2 with e2; injection e2 with e2; injection e2
    have := (Array.getElem?_eq_some_iff.1 (h.p b e).2).1
    omega
  · rw [e12] at e
    rw [e10]
    exact h.s e
theorem TB.put12 (h : TB W T z0 z1 x0 x1 LL vs w) {b : Nat} (v : Value) (hp : vs 10 = .pointer (some ⟨b, 0, none⟩)) (hL : LL 12 = false) : TB W T z0 z1 x0 x1 (fun j => LL j || j == 12) (fun j => if j = 12 then v else vs j) ((w.setCell ⟨b, 0, none⟩ x0).setCell ⟨b, 1, none⟩ x1) := by
  obtain ⟨h1, h2⟩ := h.p b hp
  rw [hL] at h2
  have gs1 := grown_set (w := w) b 0 x0
  have gs2 := grown_set (w := w.setCell ⟨b, 0, none⟩ x0) b 1 x1
  have hs := heap_set (off := 1) (heap_set (off := 0) h2 x0) x1
  have hk : ∀ c, c < w.heap.size → c ≠ b → ((w.setCell ⟨b, 0, none⟩ x0).setCell ⟨b, 1, none⟩ x1).heap[c]? = w.heap[c]? := fun c hc hne => (gs2.block c (Nat.lt_of_lt_of_le hc gs1.size) (fun e => by injection e with e; exact hne e)).trans (gs1.block c hc (fun e => by injection e with e; exact hne e))
  refine ⟨h.undo 12 v, h.bel.trans ⟨rfl, rfl, rfl, Nat.le_trans gs1.size gs2.size, fun c hc => hk c (Nat.lt_of_lt_of_le hc h.bel.size) (by omega)⟩, fun c e => ?_, fun c e => ?_, fun c e => ?_, fun _ => ?_⟩
  · rw [if_neg (by decide)] at e
    have hbc : b = c := by rw [hp] at e; injection e with e; injection e with e; injection e
    subst hbc
    refine ⟨h1, ?_⟩
    show _ = some (Obj.cells (if (LL 12 || true) = true then _ else _) _ _)
    rw [Bool.or_true, if_pos rfl]
    exact hs
  · rw [if_neg (by decide)] at e
    obtain ⟨q1, q2⟩ := h.q c e
    exact ⟨q1, (hk c (Array.getElem?_eq_some_iff.1 q2).1 (fun e2 => by subst e2; exact h.ne c hp e)).trans q2⟩
  · rw [if_neg (by decide)] at e
    rw [if_neg (by decide)]
    exact h.ne c e
  · have : LL 10 = true := by
      cases e : LL 10 with
      | true => rfl
      | false => have := h.un 10 e; rw [hp] at this; cases this
    show (LL 10 || false) = true
    rw [this]
    rfl
theorem TB.fin (h : TB W T z0 z1 x0 x1 LL vs w) (hL : LL 12 = true) {a b : Nat} (hp : vs 10 = .pointer (some ⟨a, 0, none⟩)) (hq : vs 11 = .pointer (some ⟨b, 0, none⟩)) (y0 y1 : Value) :
    Below W.heap.size W ((w.setCell ⟨b, 0, none⟩ y0).setCell ⟨b, 1, none⟩ y1) ∧ ((w.setCell ⟨b, 0, none⟩ y0).setCell ⟨b, 1, none⟩ y1).heap[a]? = some (.cells #[x0, x1] T (0, 0)) ∧ ((w.setCell ⟨b, 0, none⟩ y0).setCell ⟨b, 1, none⟩ y1).heap[b]? = some (.cells #[y0, y1] T (0, 0)) ∧ w.heap[b]? = some (.cells #[z0, z1] T (0, 0)) := by
  obtain ⟨p1, p2⟩ := h.p a hp
  obtain ⟨q1, q2⟩ := h.q b hq
  rw [hL, if_pos rfl] at p2
  have gs1 := grown_set (w := w) b 0 y0
  have gs2 := grown_set (w := w.setCell ⟨b, 0, none⟩ y0) b 1 y1
  have hs := heap_set (off := 1) (heap_set (off := 0) q2 y0) y1
  have hk : ∀ c, c < w.heap.size → c ≠ b → ((w.setCell ⟨b, 0, none⟩ y0).setCell ⟨b, 1, none⟩ y1).heap[c]? = w.heap[c]? := fun c hc hne => (gs2.block c (Nat.lt_of_lt_of_le hc gs1.size) (fun e => by injection e with e; exact hne e)).trans (gs1.block c hc (fun e => by injection e with e; exact hne e))
  exact ⟨h.bel.trans ⟨rfl, rfl, rfl, Nat.le_trans gs1.size gs2.size, fun c hc => hk c (Nat.lt_of_lt_of_le hc h.bel.size) (by omega)⟩, (hk a (Array.getElem?_eq_some_iff.1 p2).1 (fun e => by subst e; exact h.ne a hp hq)).trans p2, hs, q2⟩
end
/-- a step that keeps all rows of numbers -/
def KR (wa wb : World) : Prop := wa.heap.size ≤ wb.heap.size ∧ ∀ (b : Nat) (cs : Array Value), wa.heap[b]? = some (Obj.cells cs 3 (0, 0)) → wb.heap[b]? = some (Obj.cells cs 3 (0, 0))
theorem KR.below {wa wb : World} (h : Below wa.heap.size wa wb) : KR wa wb := ⟨h.size, fun b _ e => (h.block b (Array.getElem?_eq_some_iff.1 e).1).trans e⟩
theorem KR.put {w : World} {b : Nat} {xs : Array Value} {T : TypeId} {x0 x1 : Value} (h : w.heap[b]? = some (.cells xs T (0, 0))) (hT : T ≠ 3) : KR w ((w.setCell ⟨b, 0, none⟩ x0).setCell ⟨b, 1, none⟩ x1) := by
  have gs1 := grown_set (w := w) b 0 x0
  have gs2 := grown_set (w := w.setCell ⟨b, 0, none⟩ x0) b 1 x1
  refine ⟨Nat.le_trans gs1.size gs2.size, fun c cs e => ?_⟩
  have hne : some c ≠ some b := fun e2 => by
    injection e2 with e2
    subst e2
    rw [h] at e
    injection e with e
    injection e with _ e
    exact hT e
  have hc := (Array.getElem?_eq_some_iff.1 e).1
  exact (gs2.block c (Nat.lt_of_lt_of_le hc gs1.size) hne).trans ((gs1.block c hc hne).trans e)
end Go.Proofs.Ythkppilelpaieaa
