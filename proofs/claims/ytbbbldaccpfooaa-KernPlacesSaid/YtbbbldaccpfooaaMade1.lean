/- The made font: what stays while it is made. -/
import Derived.Test.YtbbbldaccpfooaaFont2
import Derived.Test.YtbbbldaccpfooaaFont3
import Derived.Test.YtbbbldaccpfooaaFrontG
import Derived.Test.YtbbbldaccpfooaaLst
namespace Go.Proofs.Ytbbbldaccpfooaa
open Go.RowKit
/-- Nothing up to block bf has turned. -/
def Upto (bf : Nat) (w w' : World) : Prop := Below (bf + 1) w w'
/-- the result's box, the draw, the font's box -/
structure MK (w wr : World) (b0 bf : Nat) (v2 v3 v4 : Value) : Prop where
  font : ∃ (s : ByteArray) (n : Int), wr.heap[bf]? = some (.cells #[.string s, .int .i64 n, v2, v3, v4, .slice none 0 0, .slice none 0 0] 33 (0, 0))
  res : ∃ z0 z1 z2 z3 z4 z5 z6, wr.heap[w.heap.size]? = some (.cells #[z0, z1, z2, z3, z4, z5, z6] 33 (0, 0))
  draw : DrawAt wr b0 (· < w.heap.size)
  below : Below w.heap.size w wr
  o1 : w.heap.size < b0
  o2 : b0 < bf
theorem MK.lt {w wr : World} {b0 bf : Nat} {v2 v3 v4 : Value} (h : MK w wr b0 bf v2 v3 v4) : bf < wr.heap.size := by
  obtain ⟨s, n, hf⟩ := h.font
  exact (Array.getElem?_eq_some_iff.1 hf).1
theorem MK.upto {w wr w' : World} {b0 bf : Nat} {v2 v3 v4 : Value} (h : MK w wr b0 bf v2 v3 v4) (hb : Below (bf + 1) wr w') : MK w w' b0 bf v2 v3 v4 := by
  have h1 := h.o1; have h2 := h.o2
  obtain ⟨s, n, hf⟩ := h.font
  obtain ⟨z0, z1, z2, z3, z4, z5, z6, hr⟩ := h.res
  exact ⟨⟨s, n, (hb.block _ (by omega)).trans hf⟩, ⟨z0, z1, z2, z3, z4, z5, z6, (hb.block _ (by omega)).trans hr⟩, h.draw.same (hb.block _ (by omega)) (fun c hc => hb.block _ (by omega)), h.below.trans (hb.mono (by omega)), h1, h2⟩
theorem MK.next {w wr w' : World} {b0 bf : Nat} {v2 v3 v4 : Value} (h : MK w wr b0 bf v2 v3 v4) (hg : wr.grownBy w' (some b0)) (hd : DrawAt w' b0 (· < w.heap.size)) : MK w w' b0 bf v2 v3 v4 := by
  have h1 := h.o1; have h2 := h.o2; have h3 := h.lt
  obtain ⟨s, n, hf⟩ := h.font
  obtain ⟨z0, z1, z2, z3, z4, z5, z6, hr⟩ := h.res
  exact ⟨⟨s, n, (hg.block _ h3 (fun e => by injection e; omega)).trans hf⟩, ⟨z0, z1, z2, z3, z4, z5, z6, (hg.block _ (by omega) (fun e => by injection e; omega)).trans hr⟩, hd, Below.grown h.below hg (by have := h.below.size; omega) (fun g e => by injection e with e; omega), h1, h2⟩
/-- a row of the font -/
def Rw (bf : Nat) (e : TypeId) (sz m : Nat) (w : World) (v : Value) : Prop := ∃ n xs, w.ownsRow (bf + 1) e sz v n xs ∧ n ≤ m
theorem Rw.below {bf e sz m : Nat} {w w' : World} {v : Value} (h : Rw bf e sz m w v) (hb : Below w.heap.size w w') : Rw bf e sz m w' v := by
  obtain ⟨n, xs, h1, h2⟩ := h
  exact ⟨n, xs, h1.kept (grown_of_below hb none) (by cases v.ownBlock <;> simp), h2⟩
theorem Rw.next {bf e sz m b0 : Nat} {w w' : World} {v : Value} (h : Rw bf e sz m w v) (hg : w.grownBy w' (some b0)) (hlt : b0 < bf) : Rw bf e sz m w' v := by
  obtain ⟨n, xs, h1, h2⟩ := h
  exact ⟨n, xs, h1.kept hg (.inr (fun e => by have := (h1.lt b0 e).1; omega)), h2⟩
/-- While a region runs that appends to the row va: the blocks that were there stay, but the row's and the draw's. -/
structure Old (W0 w' : World) (b0 : Nat) (va : Value) : Prop where
  os : w'.os = W0.os
  tape : w'.tape = W0.tape
  output : w'.output = W0.output
  size : W0.heap.size ≤ w'.heap.size
  block : ∀ g, g < W0.heap.size → va.ownBlock ≠ some g → g ≠ b0 → w'.heap[g]? = W0.heap[g]?
theorem Old.grown {W0 w w' : World} {b0 : Nat} {va : Value} {row : Option Nat} (h : Old W0 w b0 va) (hg : w.grownBy w' row) (hr : ∀ g, row = some g → va.ownBlock = some g ∨ g = b0 ∨ W0.heap.size ≤ g) : Old W0 w' b0 va :=
  ⟨hg.os.trans h.os, hg.tape.trans h.tape, hg.output.trans h.output, Nat.le_trans h.size hg.size, fun g h1 h2 h3 => (hg.block g (Nat.lt_of_lt_of_le h1 h.size) (fun e => by rcases hr g e.symm with h | h | h <;> first | exact h2 h | exact h3 h | omega)).trans (h.block g h1 h2 h3)⟩
theorem Old.below {W0 w w' : World} {b0 : Nat} {va : Value} (h : Old W0 w b0 va) (hb : Below w.heap.size w w') : Old W0 w' b0 va := h.grown (grown_of_below hb none) (fun _ e => by cases e)
def C7 (W0 : World) (b0 B e sz m bf ia : Nat) (va : Value) (LL : Nat → Bool) (vs : Nat → Value) (w' : World) : Prop :=
  Old W0 w' b0 va ∧ DrawAt w' b0 (· < B) ∧ (∀ j, LL j = false → vs j = undef) ∧ (vs ia = undef → Rw bf e sz m w' va) ∧ (vs ia ≠ undef → Rw bf e sz (m + 1) w' (vs ia))
/-- what the region has made stays -/
def RN (W0 wa wb : World) : Prop := wa.heap.size ≤ wb.heap.size ∧ ∀ g, W0.heap.size ≤ g → g < wa.heap.size → wb.heap[g]? = wa.heap[g]?
theorem RN.below {W0 wa wb : World} (h : Below wa.heap.size wa wb) : RN W0 wa wb := ⟨h.size, fun g _ h2 => h.block g h2⟩
theorem RN.grown {W0 wa wb : World} {row : Option Nat} (h : wa.grownBy wb row) (hr : ∀ g, row = some g → g < W0.heap.size) : RN W0 wa wb := ⟨h.size, fun g h1 h2 => h.block g h2 (fun e => by have := hr g e.symm; omega)⟩
theorem RN.blk {W0 wa wb : World} (h : RN W0 wa wb) {g : Nat} {o : Obj} (h1 : W0.heap.size ≤ g) (h2 : wa.heap[g]? = some o) : wb.heap[g]? = some o := (h.2 g h1 (Array.getElem?_eq_some_iff.1 h2).1).trans h2
section
variable {W0 w w2 : World} {b0 B e sz m bf ia : Nat} {va : Value} {LL : Nat → Bool} {vs : Nat → Value}
theorem C7.start (hd : DrawAt W0 b0 (· < B)) (hr : Rw bf e sz m W0 va) : C7 W0 b0 B e sz m bf ia va (fun _ => false) (fun _ => undef) { W0 with drawn := W0.drawn + 1 } :=
  ⟨⟨rfl, rfl, rfl, Nat.le_refl _, fun _ _ _ _ => rfl⟩, hd.same rfl (fun _ _ => rfl), fun _ _ => rfl, fun _ => hr.below ((Below.refl _ _).drew), fun h => absurd rfl h⟩
theorem C7.keep (h : C7 W0 b0 B e sz m bf ia va LL vs w) (i : Nat) (v : Value) (hi : i ≠ ia) (hB : ∀ c, c < B → c < w.heap.size) (hb : Below w.heap.size w w2) : C7 W0 b0 B e sz m bf ia va (fun j => LL j || j == i) (fun j => if j = i then v else vs j) w2 := by
  obtain ⟨h1, h2, h3, h4, h5⟩ := h
  have ei : (if ia = i then v else vs ia) = vs ia := if_neg (fun e => hi e.symm)
  refine ⟨h1.below hb, h2.below hB hb, fun j hj => ?_, ?_, ?_⟩
  · simp at hj
    show (if j = i then v else vs j) = undef
    rw [if_neg hj.2]
    exact h3 j hj.1
  · show (if ia = i then v else vs ia) = undef → _
    rw [ei]
    exact fun g => (h4 g).below hb
  · show (if ia = i then v else vs ia) ≠ undef → Rw bf e sz (m + 1) w2 (if ia = i then v else vs ia)
    rw [ei]
    exact fun g => (h5 g).below hb
theorem C7.next (h : C7 W0 b0 B e sz m bf ia va LL vs w) (i : Nat) (v : Value) (hi : i ≠ ia) (hg : w.grownBy w2 (some b0)) (hd : DrawAt w2 b0 (· < B)) (hlt : b0 < bf) : C7 W0 b0 B e sz m bf ia va (fun j => LL j || j == i) (fun j => if j = i then v else vs j) w2 := by
  obtain ⟨h1, h2, h3, h4, h5⟩ := h
  have ei : (if ia = i then v else vs ia) = vs ia := if_neg (fun e => hi e.symm)
  refine ⟨h1.grown hg (fun g e => by injection e with e; exact .inr (.inl e.symm)), hd, fun j hj => ?_, ?_, ?_⟩
  · simp at hj
    show (if j = i then v else vs j) = undef
    rw [if_neg hj.2]
    exact h3 j hj.1
  · show (if ia = i then v else vs ia) = undef → _
    rw [ei]
    exact fun g => (h4 g).next hg hlt
  · show (if ia = i then v else vs ia) ≠ undef → Rw bf e sz (m + 1) w2 (if ia = i then v else vs ia)
    rw [ei]
    exact fun g => (h5 g).next hg hlt
theorem C7.app (h : C7 W0 b0 B e sz m bf ia va LL vs w) (v : Value) (hv : v ≠ undef) (hB : ∀ c, c < B → c < w.heap.size ∧ va.ownBlock ≠ some c) (hg : w.grownBy w2 va.ownBlock) (hn : va.ownBlock ≠ some b0) (hr : Rw bf e sz (m + 1) w2 v) : C7 W0 b0 B e sz m bf ia va (fun j => LL j || j == ia) (fun j => if j = ia then v else vs j) w2 := by
  obtain ⟨h1, h2, h3, h4, h5⟩ := h
  have hbl := h2.lt
  refine ⟨h1.grown hg (fun g e => .inl e), h2.same (hg.block _ hbl (fun e => hn e.symm)) (fun c hc => hg.block c (hB c hc).1 (fun e => (hB c hc).2 e.symm)), fun j hj => ?_, ?_, ?_⟩
  · simp at hj
    show (if j = ia then v else vs j) = undef
    rw [if_neg hj.2]
    exact h3 j hj.1
  · show (if ia = ia then v else vs ia) = undef → _
    rw [if_pos rfl]
    exact fun g => absurd g hv
  · show (if ia = ia then v else vs ia) ≠ undef → Rw bf e sz (m + 1) w2 (if ia = ia then v else vs ia)
    rw [if_pos rfl]
    exact fun _ => hr
end
theorem MK.old {w W0 w' : World} {b0 bf : Nat} {v2 v3 v4 va : Value} (h : MK w W0 b0 bf v2 v3 v4) (ho : Old W0 w' b0 va) (hd : DrawAt w' b0 (· < w.heap.size)) (hv : ∀ g, va.ownBlock = some g → bf < g) : MK w w' b0 bf v2 v3 v4 := by
  have h1 := h.o1; have h2 := h.o2; have h3 := h.lt; have hb := h.below
  have hs := hb.size
  have hne : ∀ g, g ≤ bf → va.ownBlock ≠ some g := fun g hg e => by have := hv g e; omega
  obtain ⟨s, n, hf⟩ := h.font
  obtain ⟨z0, z1, z2, z3, z4, z5, z6, hr⟩ := h.res
  exact ⟨⟨s, n, (ho.block _ h3 (hne _ (Nat.le_refl _)) (by omega)).trans hf⟩, ⟨z0, z1, z2, z3, z4, z5, z6, (ho.block _ (by omega) (hne _ (by omega)) (by omega)).trans hr⟩, hd,
    ⟨ho.os.trans hb.os, ho.tape.trans hb.tape, ho.output.trans hb.output, Nat.le_trans hs ho.size, fun k hk => (ho.block k (by omega) (hne k (by omega)) (by omega)).trans (hb.block k hk)⟩, h1, h2⟩
theorem MK.set {w wr : World} {b0 bf : Nat} {v2 v3 v4 : Value} (h : MK w wr b0 bf v2 v3 v4) (v : Value) :
    MK w (wr.setCell ⟨bf, 2, none⟩ v) b0 bf v v3 v4 ∧ MK w (wr.setCell ⟨bf, 3, none⟩ v) b0 bf v2 v v4 ∧ MK w (wr.setCell ⟨bf, 4, none⟩ v) b0 bf v2 v3 v := by
  have h1 := h.o1; have h2 := h.o2; have h3 := h.lt; have hb := h.below
  have hs := hb.size
  obtain ⟨s, n, hf⟩ := h.font
  obtain ⟨z0, z1, z2, z3, z4, z5, z6, hr⟩ := h.res
  have hoth : ∀ i c, c ≠ bf → (wr.setCell ⟨bf, i, none⟩ v).heap[c]? = wr.heap[c]? := fun i c hc => Below.heap_setCell wr _ _ _ hc
  have go : ∀ i u2 u3 u4, (wr.setCell ⟨bf, i, none⟩ v).heap[bf]? = some (.cells #[.string s, .int .i64 n, u2, u3, u4, .slice none 0 0, .slice none 0 0] 33 (0, 0)) → MK w (wr.setCell ⟨bf, i, none⟩ v) b0 bf u2 u3 u4 := fun i u2 u3 u4 hc =>
    ⟨⟨s, n, hc⟩, ⟨z0, z1, z2, z3, z4, z5, z6, (hoth i _ (by omega)).trans hr⟩, h.draw.same (hoth i _ (by omega)) (fun c hc => hoth i c (by have := hc; omega)), hb.setCell (p := ⟨bf, i, none⟩) (by show w.heap.size ≤ bf; omega) v, h1, h2⟩
  exact ⟨go 2 _ _ _ (heap_set hf v), go 3 _ _ _ (heap_set hf v), go 4 _ _ _ (heap_set hf v)⟩
theorem Rw.set {bf e sz m i : Nat} {w : World} {v u : Value} (h : Rw bf e sz m w v) : Rw bf e sz m (w.setCell ⟨bf, i, none⟩ u) v := by
  obtain ⟨n, xs, h1, h2⟩ := h
  exact ⟨n, xs, h1.kept (grownBy_set w bf i u) (.inr (fun e => by have := (h1.lt bf e).1; omega)), h2⟩
theorem Rw.old {bf e sz m e' sz' m' b0 : Nat} {W0 w' : World} {v va : Value} (h : Rw bf e sz m W0 v) (hva : Rw bf e' sz' m' W0 va) (ho : Old W0 w' b0 va) (hne : e ≠ e') (hlt : b0 < bf) : Rw bf e sz m w' v := by
  obtain ⟨n, xs, h1, h2⟩ := h
  obtain ⟨n', xs', h3, _⟩ := hva
  refine ⟨n, xs, ⟨h1.1, ?_⟩, h2⟩
  rcases h1.2 with hn | ⟨g, cap, cur, rfl, hb, hgg, rest⟩
  · exact .inl hn
  · refine .inr ⟨g, cap, cur, rfl, hb, ?_, rest⟩
    rw [ho.block g (Array.getElem?_eq_some_iff.1 hgg).1 (fun e => row_ne h1 h3 hne e rfl) (by omega)]
    exact hgg
end Go.Proofs.Ytbbbldaccpfooaa
