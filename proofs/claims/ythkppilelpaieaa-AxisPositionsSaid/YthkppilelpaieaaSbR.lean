/- Rows of numbers: small lemmas for the seats that do not have the lookups. -/
import Derived.Test.YthkppilelpaieaaSbP
namespace Go.Proofs.Ythkppilelpaieaa
open Go.RowKit
theorem row_below {w w' : World} {B n s : Nat} {T : TypeId} {v : Value} {xs : List Value} (h : w.ownsRow B T s v n xs) (hB : B ≤ w.heap.size) (hg : w.grownBy w' v.ownBlock) : Below B w w' :=
  ⟨hg.os, hg.tape, hg.output, hg.size, fun b hb => hg.block b (by omega) (fun e => by have := (h.lt b e.symm).1; omega)⟩
theorem make_ints (n : Nat) (hn : n ≤ 1000000) (w : World) : (Instr.makeSlice 22 (.int .i64 (n : Int)) (.int .i64 (n : Int))).run Try.prog w = .ok (.slice (some ⟨w.heap.size, 0, none⟩) n n) (w.alloc (.cells (madeCells #[Value.int .i64 0] n) 3)) := by
  obtain ⟨i0, hi, hz0, hz1, hz2⟩ := info_parts info_int
  have := run_make (P := Try.prog) w 22 3 i0 (.int .i64 0) Try.underlying22 hi hz0 .i64 .i64 (n : Int) (n : Int) (by omega) (by omega) (by rw [hz2]; omega) (by omega)
  have h2 : (Instr.makeSlice 22 (.int .i64 (n : Int)) (.int .i64 (n : Int))).run Try.prog w = .ok (.slice (some ⟨w.heap.size, 0, none⟩) n n) (w.alloc (.cells (madeCells (Value.int .i64 0).cells (n * 1)) 3)) := by simpa [hz1] using this
  rw [Nat.mul_one] at h2
  exact h2
theorem own_same {w w' : World} {base : Nat} {e : TypeId} {s n : Nat} {v : Value} {xs : List Value} (h : w.ownsRow base e s v n xs) (hk : ∀ b, v.ownBlock = some b → w'.heap[b]? = w.heap[b]?) : w'.ownsRow base e s v n xs := by
  refine ⟨h.1, ?_⟩
  rcases h.2 with hn | ⟨g, cap, cur, rfl, hb, hg, rest⟩
  · exact .inl hn
  · exact .inr ⟨g, cap, cur, rfl, hb, (hk g rfl).trans hg, rest⟩
theorem own_lst2 {w : World} {base n : Nat} {v : Value} {l : List Int} (h : w.ownsRow base 3 1 v n (vints l)) (hl : ∀ x ∈ l, I64 x) : ∃ a c, v = .slice a l.length c ∧ l.length ≤ c ∧ c ≤ maxLen ∧ Lst Enc.int w (fun b => base ≤ b ∧ b < w.heap.size) a l.length l := by
  have hn : n = l.length := by have := h.1; rw [vints_len] at this; omega
  subst hn
  have h0 := h
  rcases h.2 with ⟨rfl, h0'⟩ | ⟨g, cap, cur, rfl, hb, hg, hnc, hcm, _⟩
  · have : l = [] := List.eq_nil_of_length_eq_zero h0'
    subst this
    exact ⟨none, 0, rfl, Nat.le_refl _, Nat.zero_le _, Lst.nil _ _ _ _⟩
  · have h1 := (lst_own h0 hl).1
    refine ⟨_, cap, rfl, hnc, hcm, rfl, fun hpos => ?_⟩
    obtain ⟨b, off, he, _, hc⟩ := h1.2 hpos
    have hbg : b = g := by injection he with he; injection he with he _; exact he.symm
    exact ⟨b, off, he, by rw [hbg]; exact ⟨hb, (Array.getElem?_eq_some_iff.1 hg).1⟩, hc⟩
theorem own_next {w w2 : World} {Br b0 n s : Nat} {T : TypeId} {v : Value} {ys : List Value} (h : w.ownsRow Br T s v n ys) (hg : w.grownBy w2 (some b0)) (hlt : b0 < Br) : w2.ownsRow Br T s v n ys := h.kept hg (by
  cases hv : v.ownBlock with
  | none => exact .inl rfl
  | some g => exact .inr (fun e => by injection e with e; have := (h.lt g hv).1; omega))
theorem DrawAt.below {w w' : World} {b B : Nat} (h : DrawAt w b (· < B)) (hB : ∀ c, c < B → c < w.heap.size) (hb : Below w.heap.size w w') : DrawAt w' b (· < B) := by
  obtain ⟨a, len, cap, k, l, h1, h2, h3, h4, h5⟩ := h
  exact ⟨a, len, cap, k, l, (hb.block _ (Array.getElem?_eq_some_iff.1 h1).1).trans h1, h2, h3, h4.same (fun c hc => hb.block c (hB c hc)), h5⟩
theorem DrawAt.lt {w : World} {b : Nat} {S : Nat → Prop} (h : DrawAt w b S) : b < w.heap.size := by
  obtain ⟨a, len, cap, k, l, h1, _⟩ := h
  exact (Array.getElem?_eq_some_iff.1 h1).1
theorem wpList_append_el {w : World} {ops : Array Oper} {rest : List Oper} {o : Oper} {a : Act} {Q : Exit → Act → World → Prop} {t e : TypeId} {z : Value} {size bytes : Nat} (ht : Try.prog.underlying t = some (.slice e)) (hinfo : (Try.prog.info? e).map (fun i => (i.zero, i.size, i.bytes)) = some (some z, size, bytes))
    (hzs : z.cells.size = size) (hsz : 0 < size) (hby : bytes ≤ 1000) (hgd : o.guard = none) (s x : Operand) (ho : o.op = .call { callee := .builtin .append, args := #[s, x], argTypes := #[t, t] })
    (base : Nat) (v : Value) (n : Nat) (xs : List Value) (hs : a.eval s = v) (hown : w.ownsRow base e size v n xs) (b : Nat) (us : List Value) (hx : a.eval x = .slice (some ⟨b, 0, none⟩) 1 1) (hb : w.heap[b]? = some (.cells us.toArray e (0, 0)))
    (hul : us.length = size) (hone : ∀ u ∈ us, u.oneCell' = true) (hn : n ≤ 1000) (hbase : base ≤ w.heap.size)
    (h : ∀ v' w', w'.ownsRow base e size v' (n + 1) (xs ++ us) → w.grownBy w' v.ownBlock → (v'.ownBlock = v.ownBlock ∨ v'.ownBlock = some w.heap.size) → wpList Try.prog ops Q rest (a.put o.dst v') w') : wpList Try.prog ops Q (o :: rest) a w := by
  obtain ⟨i3, hi3, hiz3, his3, hiy3⟩ := info_parts hinfo
  obtain ⟨v', w', hrun, q1, q2, q3⟩ := run_append_own2 (P := Try.prog) w base t o.type e i3 z size bytes ht hi3 hiz3 his3 hiy3 hzs hsz v n xs hown ⟨b, 0, none⟩ 1 1 us (by rw [hul, Nat.one_mul])
    (fun j u hj => by rw [Addr.add_lit, Nat.zero_add, cell_of_row _ _ _ _ _ _ hb]; simpa using hj) hone (by unfold maxLen; omega) (by have : (n + 1) * bytes ≤ 1001 * 1000 := Nat.mul_le_mul (by omega) hby; omega) hbase
  exact Lib.wpList_append_run w hgd s x t t ho v _ hs hx v' w' hrun (h v' w' q1 q2 q3)
/-- a row whose cells read as data -/
theorem row_lst {α : Type} {E : Enc α} {w : World} {base : Nat} {e : TypeId} {S : Nat → Prop} {v : Value} {l : List α} {xs : List Value} (h : w.ownsRow base e E.n v l.length xs) (hf : Flat E w S xs l) (hS : ∀ b, S b → b < w.heap.size) : ∃ a c, v = .slice a l.length c ∧ l.length ≤ c ∧ c ≤ maxLen ∧ Lst E w (· < w.heap.size) a l.length l := by
  rcases h.2 with ⟨rfl, h0⟩ | ⟨g, cap, cur, rfl, hbg, hg, hn, hc, hcs, ht⟩
  · have hl : l = [] := List.eq_nil_of_length_eq_zero h0
    subst hl
    exact ⟨none, 0, rfl, Nat.le_refl _, Nat.zero_le _, Lst.nil _ _ _ _⟩
  · refine ⟨some ⟨g, 0, none⟩, cap, rfl, hn, hc, rfl, fun hpos => ⟨g, 0, rfl, (Array.getElem?_eq_some_iff.1 hg).1, fun i y hy => ?_⟩⟩
    obtain ⟨us, hr, hu⟩ := hf.at_ i y hy
    refine ⟨us, E.wide hS hr, fun j u hj => ?_⟩
    have hcell := h.cells (g := g) rfl _ u (hu j u hj)
    rw [Addr.add_lit] at hcell
    rw [← hcell, Nat.add_assoc]
/-- what a maker of data holds: its draw of numbers, and the row that it makes -/
structure RI (w W : World) (B b0 Br : Nat) (T : TypeId) (s : Nat) (v : Value) (n : Nat) (xs : List Value) : Prop where
  bel : Below B w W
  draw : DrawAt W b0 (· < B)
  row : W.ownsRow Br T s v n xs
  lo : B ≤ b0
  hi : b0 < Br
section
variable {w W W' : World} {B b0 Br n s : Nat} {T : TypeId} {v : Value} {xs : List Value}
theorem RI.lt (h : RI w W B b0 Br T s v n xs) : b0 < W.heap.size := h.draw.lt
theorem RI.below (h : RI w W B b0 Br T s v n xs) (hb : Below W.heap.size W W') : RI w W' B b0 Br T s v n xs :=
  ⟨h.bel.trans (hb.mono (by have := h.lt; have := h.lo; omega)), h.draw.below (fun c hc => by have := h.lt; have := h.lo; omega) hb, own_belowb h.row hb, h.lo, h.hi⟩
theorem RI.next (h : RI w W B b0 Br T s v n xs) (hd : DrawAt W' b0 (· < B)) (hg : W.grownBy W' (some b0)) : RI w W' B b0 Br T s v n xs :=
  ⟨h.bel.trans ⟨hg.os, hg.tape, hg.output, hg.size, fun b hb => hg.block b (by have := h.lt; have := h.lo; omega) (fun e => by injection e; have := h.lo; omega)⟩, hd, own_next h.row hg h.hi, h.lo, h.hi⟩
theorem RI.set (h : RI w W B b0 Br T s v n xs) {bs o : Nat} {u : Value} (hlt : b0 < bs) (hne : v.ownBlock ≠ some bs) : RI w (W.setCell ⟨bs, o, none⟩ u) B b0 Br T s v n xs := by
  have hg := grown_set (w := W) bs o u
  have hk : ∀ b, b ≠ bs → (W.setCell ⟨bs, o, none⟩ u).heap[b]? = W.heap[b]? := fun b hb => by
    rcases Nat.lt_or_ge b W.heap.size with hl | hl
    · exact hg.block b hl (fun e => by injection e; omega)
    · rw [Array.getElem?_eq_none hl, Array.getElem?_eq_none (by rw [World.size_setCell]; exact hl)]
  have hlo := h.lo
  exact ⟨h.bel.trans ⟨hg.os, hg.tape, hg.output, hg.size, fun b hb => hk b (by omega)⟩, h.draw.same (hk b0 (by omega)) (fun c hc => hk c (by omega)), own_same h.row (fun b hb => hk b (fun e => hne (e ▸ hb))), h.lo, h.hi⟩
theorem RI.push (h : RI w W B b0 Br T s v n xs) {v' : Value} {m : Nat} {ys : List Value} (hr : W'.ownsRow Br T s v' m ys) (hg : W.grownBy W' v.ownBlock) : RI w W' B b0 Br T s v' m ys := by
  have hlo := h.lo
  have hhi := h.hi
  have hlt := h.lt
  have hne : ∀ b, b < Br → some b ≠ v.ownBlock := fun b hb e => by have := (h.row.lt b e.symm).1; omega
  exact ⟨h.bel.trans ⟨hg.os, hg.tape, hg.output, hg.size, fun b hb => hg.block b (by omega) (hne b (by omega))⟩, h.draw.same (hg.block b0 (by omega) (hne b0 (by omega))) (fun c hc => hg.block c (by omega) (hne c (by omega))), hr, h.lo, h.hi⟩
end
end Go.Proofs.Ythkppilelpaieaa
