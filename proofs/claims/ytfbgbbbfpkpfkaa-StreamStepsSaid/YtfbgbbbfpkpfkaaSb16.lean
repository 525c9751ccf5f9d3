/- Lookups: rows whose elements read rows; what stays while lookups are made. -/
import Derived.Test.YtfbgbbbfpkpfkaaSb15
namespace Go.Proofs.Ytfbgbbbfpkpfkaa
open Go.RowKit
/-- a row of the call's own beyond block b0; its elements read blocks beyond b0, but not the row's own -/
def OwX {α : Type} (E : Enc α) (w : World) (b0 : Nat) (e : TypeId) (v : Value) (l : List α) : Prop :=
  ∃ xs, w.ownsRow (b0 + 1) e E.n v l.length xs ∧ Flat E w (fun b => b0 < b ∧ b < w.heap.size ∧ v.ownBlock ≠ some b) xs l
theorem OwX.nil {α : Type} (E : Enc α) (w : World) (b0 : Nat) (e : TypeId) : OwX E w b0 e (.slice none 0 0) [] := ⟨[], World.ownsRow_nil _ _ _ _, rfl⟩
theorem own_same {w w' : World} {base : Nat} {e : TypeId} {s n : Nat} {v : Value} {xs : List Value} (h : w.ownsRow base e s v n xs) (hk : ∀ b, v.ownBlock = some b → w'.heap[b]? = w.heap[b]?) : w'.ownsRow base e s v n xs := by
  refine ⟨h.1, ?_⟩
  rcases h.2 with hn | ⟨g, cap, cur, rfl, hb, hg, rest⟩
  · exact .inl hn
  · exact .inr ⟨g, cap, cur, rfl, hb, (hk g rfl).trans hg, rest⟩
theorem OwX.kept {α : Type} {E : Enc α} {w w' : World} {b0 : Nat} {e : TypeId} {v : Value} {l : List α} (h : OwX E w b0 e v l) (hk : ∀ b, b0 < b → b < w.heap.size → w'.heap[b]? = w.heap[b]?) (hs : w.heap.size ≤ w'.heap.size) : OwX E w' b0 e v l := by
  obtain ⟨xs, h1, h2⟩ := h
  exact ⟨xs, own_same h1 (fun b hb => hk b (h1.lt b hb).1 (h1.lt b hb).2), (h2.same (fun b hb => hk b hb.1 hb.2.1)).wide (fun b hb => ⟨hb.1, Nat.lt_of_lt_of_le hb.2.1 hs, hb.2.2⟩)⟩
theorem OwX.lst {α : Type} {E : Enc α} {w : World} {b0 : Nat} {e : TypeId} {v : Value} {l : List α} (h : OwX E w b0 e v l) : ∃ a cap, v = .slice a l.length cap ∧ l.length ≤ cap ∧ cap ≤ maxLen ∧ Lst E w (fun b => b0 < b ∧ b < w.heap.size) a l.length l := by
  obtain ⟨xs, h1, h2⟩ := h
  rcases h1.2 with ⟨rfl, h0⟩ | ⟨g, cap, cur, rfl, hbg, hg, hn, hc, hcs, ht⟩
  · have hl : l = [] := List.eq_nil_of_length_eq_zero h0
    subst hl
    exact ⟨none, 0, rfl, Nat.le_refl _, Nat.zero_le _, Lst.nil _ _ _ _⟩
  · have hlt : g < w.heap.size := (Array.getElem?_eq_some_iff.1 hg).1
    refine ⟨_, cap, rfl, hn, hc, rfl, fun hpos => ⟨g, 0, rfl, ⟨hbg, hlt⟩, fun i x hx => ?_⟩⟩
    obtain ⟨us, hr, hu⟩ := h2.at_ i x hx
    refine ⟨us, E.wide (fun b hb => ⟨hb.1, hb.2.1⟩) hr, fun j u hj => ?_⟩
    have hcell := h1.cells (g := g) rfl _ u (hu j u hj)
    rw [Addr.add_lit] at hcell
    rw [← hcell]
    congr 2
    omega
/-- append of an element that has just been made -/
theorem wpList_append_ox {α : Type} {E : Enc α} {w : World} {ops : Array Oper} {rest : List Oper} {o : Oper} {a : Act} {Q : Exit → Act → World → Prop} {t e : TypeId} {z : Value} {size bytes : Nat} (ht : Try.prog.underlying t = some (.slice e)) (hinfo : (Try.prog.info? e).map (fun i => (i.zero, i.size, i.bytes)) = some (some z, size, bytes))
    (hzs : z.cells.size = size) (hsz : 0 < size) (hE : E.n = size) (hby : bytes ≤ 1000) (hgd : o.guard = none) (s x : Operand) (ho : o.op = .call { callee := .builtin .append, args := #[s, x], argTypes := #[t, t] })
    (b0 : Nat) (v : Value) (l : List α) (hs : a.eval s = v) (hown : OwX E w b0 e v l) (b : Nat) (us : List Value) (y : α) (hx : a.eval x = .slice (some ⟨b, 0, none⟩) 1 1) (hb : w.heap[b]? = some (.cells us.toArray e (0, 0)))
    (hr : E.rep w (fun b => b0 < b ∧ b < w.heap.size ∧ v.ownBlock ≠ some b) us y) (hn : l.length ≤ 1000) (hb0 : b0 < w.heap.size)
    (h : ∀ v' w', OwX E w' b0 e v' (l ++ [y]) → w.grownBy w' v.ownBlock → wpList Try.prog ops Q rest (a.put o.dst v') w') : wpList Try.prog ops Q (o :: rest) a w := by
  obtain ⟨i3, hi3, hiz3, his3, hiy3⟩ := info_parts hinfo
  obtain ⟨xs, h1, h2⟩ := hown
  rw [hE] at h1
  have hul : us.length = size := by rw [← hE]; exact E.len hr
  obtain ⟨v', w', hrun, q1, q2, q3⟩ := run_append_own2 (P := Try.prog) w (b0 + 1) t o.type e i3 z size bytes ht hi3 hiz3 his3 hiy3 hzs hsz v l.length xs h1 ⟨b, 0, none⟩ 1 1 us (by rw [hul, Nat.one_mul])
    (fun j u hj => by rw [Addr.add_lit, Nat.zero_add, cell_of_row _ _ _ _ _ _ hb]; simpa using hj) (E.one hr) (by unfold maxLen; omega) (by have : (l.length + 1) * bytes ≤ 1001 * 1000 := Nat.mul_le_mul (by omega) hby; omega) hb0
  refine Lib.wpList_append_run w hgd s x t t ho v _ hs hx v' w' hrun (h v' w' ⟨xs ++ us, ?_, ?_⟩ q2)
  · rw [hE, List.length_append]
    exact q1
  · have hkeep : ∀ b, (b0 < b ∧ b < w.heap.size ∧ v.ownBlock ≠ some b) → w'.heap[b]? = w.heap[b]? := fun b hb => q2.block b hb.2.1 (fun e => hb.2.2 e.symm)
    refine ((h2.append (Flat.single hr)).same hkeep).wide (fun b hb => ⟨hb.1, Nat.lt_of_lt_of_le hb.2.1 q2.size, fun e => ?_⟩)
    rcases q3 with q3 | q3
    · exact hb.2.2 (q3.symm.trans e)
    · rw [q3] at e
      injection e with e
      omega
/-- while a region runs that appends to the row va: the blocks that were there stay, but the row's and the draw's -/
structure Old (W0 w' : World) (b0 : Nat) (va : Value) : Prop where
  os : w'.os = W0.os
  tape : w'.tape = W0.tape
  output : w'.output = W0.output
  size : W0.heap.size ≤ w'.heap.size
  block : ∀ g, g < W0.heap.size → va.ownBlock ≠ some g → g ≠ b0 → w'.heap[g]? = W0.heap[g]?
theorem Old.grown {W0 w w' : World} {b0 : Nat} {va : Value} {row : Option Nat} (h : Old W0 w b0 va) (hg : w.grownBy w' row) (hr : ∀ g, row = some g → va.ownBlock = some g ∨ g = b0 ∨ W0.heap.size ≤ g) : Old W0 w' b0 va :=
  ⟨hg.os.trans h.os, hg.tape.trans h.tape, hg.output.trans h.output, Nat.le_trans h.size hg.size, fun g h1 h2 h3 => (hg.block g (Nat.lt_of_lt_of_le h1 h.size) (fun e => by rcases hr g e.symm with h | h | h <;> first | exact h2 h | exact h3 h | omega)).trans (h.block g h1 h2 h3)⟩
theorem Old.below {W0 w w' : World} {b0 : Nat} {va : Value} (h : Old W0 w b0 va) (hb : Below w.heap.size w w') : Old W0 w' b0 va := h.grown (grown_of_below hb none) (fun _ e => by cases e)
/-- what the region has made stays -/
def RN (W0 wa wb : World) : Prop := wa.heap.size ≤ wb.heap.size ∧ ∀ g, W0.heap.size ≤ g → g < wa.heap.size → wb.heap[g]? = wa.heap[g]?
theorem RN.below {W0 wa wb : World} (h : Below wa.heap.size wa wb) : RN W0 wa wb := ⟨h.size, fun g _ h2 => h.block g h2⟩
theorem RN.grown {W0 wa wb : World} {row : Option Nat} (h : wa.grownBy wb row) (hr : ∀ g, row = some g → g < W0.heap.size) : RN W0 wa wb := ⟨h.size, fun g h1 h2 => h.block g h2 (fun e => by have := hr g e.symm; omega)⟩
theorem RN.blk {W0 wa wb : World} (h : RN W0 wa wb) {g : Nat} {o : Obj} (h1 : W0.heap.size ≤ g) (h2 : wa.heap[g]? = some o) : wb.heap[g]? = some o := (h.2 g h1 (Array.getElem?_eq_some_iff.1 h2).1).trans h2
/-- the class of worlds of such a region: number 6 is the append -/
def C8 (W0 : World) (b0 B Br : Nat) (va : Value) (gm : Int) (xs : List Int) (LL : Nat → Bool) (vs : Nat → Value) (w' : World) : Prop :=
  Old W0 w' b0 va ∧ DrawAt w' b0 (· < B) ∧ (∀ j, LL j = false → vs j = undef) ∧ (vs 6 = undef → w'.ownsRow Br 3 1 va xs.length (vints xs)) ∧ (vs 6 ≠ undef → ∃ y, 0 ≤ y ∧ y < gm ∧ w'.ownsRow Br 3 1 (vs 6) (xs.length + 1) (vints (xs ++ [y])))
section
variable {W0 w w2 : World} {b0 B Br : Nat} {va : Value} {gm : Int} {xs : List Int} {LL : Nat → Bool} {vs : Nat → Value}
theorem DrawAt.below {w w' : World} {b B : Nat} (h : DrawAt w b (· < B)) (hB : ∀ c, c < B → c < w.heap.size) (hb : Below w.heap.size w w') : DrawAt w' b (· < B) := by
  obtain ⟨a, len, cap, k, l, h1, h2, h3, h4, h5⟩ := h
  exact ⟨a, len, cap, k, l, (hb.block _ (Array.getElem?_eq_some_iff.1 h1).1).trans h1, h2, h3, h4.same (fun c hc => hb.block c (hB c hc)), h5⟩
theorem DrawAt.lt {w : World} {b : Nat} {S : Nat → Prop} (h : DrawAt w b S) : b < w.heap.size := by
  obtain ⟨a, len, cap, k, l, h1, _⟩ := h
  exact (Array.getElem?_eq_some_iff.1 h1).1
theorem C8.start (hd : DrawAt W0 b0 (· < B)) (hr : W0.ownsRow Br 3 1 va xs.length (vints xs)) : C8 W0 b0 B Br va gm xs (fun _ => false) (fun _ => undef) { W0 with drawn := W0.drawn + 1 } :=
  ⟨⟨rfl, rfl, rfl, Nat.le_refl _, fun _ _ _ _ => rfl⟩, hd.same rfl (fun _ _ => rfl), fun _ _ => rfl, fun _ => own_belowb hr ((Below.refl _ _).drew), fun h => absurd rfl h⟩
theorem C8.keep (h : C8 W0 b0 B Br va gm xs LL vs w) (i : Nat) (v : Value) (hi : i ≠ 6) (hB : ∀ c, c < B → c < w.heap.size) (hb : Below w.heap.size w w2) : C8 W0 b0 B Br va gm xs (fun j => LL j || j == i) (fun j => if j = i then v else vs j) w2 := by
  obtain ⟨h1, h2, h3, h4, h5⟩ := h
  have ei : (if 6 = i then v else vs 6) = vs 6 := if_neg (fun e => hi e.symm)
  refine ⟨h1.below hb, h2.below hB hb, fun j hj => ?_, ?_, ?_⟩
  · simp at hj
    show (if j = i then v else vs j) = undef
    rw [if_neg hj.2]
    exact h3 j hj.1
  · show (if 6 = i then v else vs 6) = undef → _
    rw [ei]
    exact fun g => own_belowb (h4 g) hb
  · show (if 6 = i then v else vs 6) ≠ undef → ∃ y, 0 ≤ y ∧ y < gm ∧ w2.ownsRow Br 3 1 (if 6 = i then v else vs 6) (xs.length + 1) (vints (xs ++ [y]))
    rw [ei]
    exact fun g => (h5 g).imp fun y hy => ⟨hy.1, hy.2.1, own_belowb hy.2.2 hb⟩
theorem own_next {w w2 : World} {Br b0 n s : Nat} {T : TypeId} {v : Value} {ys : List Value} (h : w.ownsRow Br T s v n ys) (hg : w.grownBy w2 (some b0)) (hlt : b0 < Br) : w2.ownsRow Br T s v n ys := h.kept hg (by
  cases hv : v.ownBlock with
  | none => exact .inl rfl
  | some g => exact .inr (fun e => by injection e with e; have := (h.lt g hv).1; omega))
theorem C8.next (h : C8 W0 b0 B Br va gm xs LL vs w) (i : Nat) (v : Value) (hi : i ≠ 6) (hg : w.grownBy w2 (some b0)) (hd : DrawAt w2 b0 (· < B)) (hlt : b0 < Br) : C8 W0 b0 B Br va gm xs (fun j => LL j || j == i) (fun j => if j = i then v else vs j) w2 := by
  obtain ⟨h1, h2, h3, h4, h5⟩ := h
  have ei : (if 6 = i then v else vs 6) = vs 6 := if_neg (fun e => hi e.symm)
  refine ⟨h1.grown hg (fun g e => by injection e with e; exact .inr (.inl e.symm)), hd, fun j hj => ?_, ?_, ?_⟩
  · simp at hj
    show (if j = i then v else vs j) = undef
    rw [if_neg hj.2]
    exact h3 j hj.1
  · show (if 6 = i then v else vs 6) = undef → _
    rw [ei]
    exact fun g => own_next (h4 g) hg hlt
  · show (if 6 = i then v else vs 6) ≠ undef → ∃ y, 0 ≤ y ∧ y < gm ∧ w2.ownsRow Br 3 1 (if 6 = i then v else vs 6) (xs.length + 1) (vints (xs ++ [y]))
    rw [ei]
    exact fun g => (h5 g).imp fun y hy => ⟨hy.1, hy.2.1, own_next hy.2.2 hg hlt⟩
theorem C8.app (h : C8 W0 b0 B Br va gm xs LL vs w) (v : Value) (hv : v ≠ undef) (hB : ∀ c, c < B → c < w.heap.size ∧ va.ownBlock ≠ some c) (hg : w.grownBy w2 va.ownBlock) (hn : va.ownBlock ≠ some b0) (y : Int) (hy : 0 ≤ y ∧ y < gm) (hr : w2.ownsRow Br 3 1 v (xs.length + 1) (vints (xs ++ [y]))) :
    C8 W0 b0 B Br va gm xs (fun j => LL j || j == 6) (fun j => if j = 6 then v else vs j) w2 := by
  obtain ⟨h1, h2, h3, h4, h5⟩ := h
  have hbl := h2.lt
  refine ⟨h1.grown hg (fun g e => .inl e), h2.same (hg.block _ hbl (fun e => hn e.symm)) (fun c hc => hg.block c (hB c hc).1 (fun e => (hB c hc).2 e.symm)), fun j hj => ?_, ?_, ?_⟩
  · simp at hj
    show (if j = 6 then v else vs j) = undef
    rw [if_neg hj.2]
    exact h3 j hj.1
  · show (if 6 = 6 then v else vs 6) = undef → _
    rw [if_pos rfl]
    exact fun g => absurd g hv
  · show (if 6 = 6 then v else vs 6) ≠ undef → ∃ y, 0 ≤ y ∧ y < gm ∧ w2.ownsRow Br 3 1 (if 6 = 6 then v else vs 6) (xs.length + 1) (vints (xs ++ [y]))
    rw [if_pos rfl]
    exact fun _ => ⟨y, hy.1, hy.2, hr⟩
end
end Go.Proofs.Ytfbgbbbfpkpfkaa
