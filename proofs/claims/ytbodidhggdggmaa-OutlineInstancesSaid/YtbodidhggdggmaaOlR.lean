/- Polygons: what they are; the closures of the program's polygon. -/
import Derived.Test.YtbodidhggdggmaaOlQ
import Derived.Test.YtbodidhggdggmaaOlN
namespace Go.Proofs.Ytbodidhggdggmaa
open Go.RowKit
def pAt (c : List Pt) (i : Nat) : Pt := c[i]?.getD zP
def endS (p q : Pt) (is : Bool) : Int × Int := (wrap64 ((if is then q.1 else p.1) + q.1), wrap64 ((if is then q.2.1 else p.2.1) + q.2.1))
def curveP (p : Pt) (a b : Int × Int) (t : Nat) : Pt := (atS a.1 p.1 b.1 t, atS a.2 p.2.1 b.2 t, true)
def segS (c : List Pt) (i : Nat) : List Pt :=
  if onS c i then [(wrap64 (32 * (pAt c i).1), wrap64 (32 * (pAt c i).2.1), true)]
  else (List.range (if onS c ((i + 1) % c.length) then 3 else 4)).map fun t => curveP (pAt c i) (endS (pAt c i) (pAt c (i - 1)) (onS c (i - 1))) (endS (pAt c i) (pAt c ((i + 1) % c.length)) (onS c ((i + 1) % c.length))) (t + 1)
theorem curve_at (px py : Int) (pz : Bool) (ex ey fx fy : Int) (t : Nat) : curveP (px, py, pz) (ex, ey) (fx, fy) (t + 1) = (wrap64 (ex * (4 - ((t : Int) + 1)) * (4 - ((t : Int) + 1)) + 4 * px * (4 - ((t : Int) + 1)) * ((t : Int) + 1) + fx * ((t : Int) + 1) * ((t : Int) + 1)), wrap64 (ey * (4 - ((t : Int) + 1)) * (4 - ((t : Int) + 1)) + 4 * py * (4 - ((t : Int) + 1)) * ((t : Int) + 1) + fy * ((t : Int) + 1) * ((t : Int) + 1)), true) := by
  unfold curveP atS
  simp only [Int.natCast_add, Int.natCast_one]
  rw [Int.mul_right_comm (4 * px), Int.mul_right_comm (4 * py)]
theorem curve_end (px py : Int) (pz : Bool) (ex ey fx fy : Int) : curveP (px, py, pz) (ex, ey) (fx, fy) (3 + 1) = (wrap64 (16 * fx), wrap64 (16 * fy), true) := by
  unfold curveP atS
  have e : (4 : Int) - ((3 + 1 : Nat) : Int) = 0 := by decide
  have e2 : ∀ x : Int, x * ((3 + 1 : Nat) : Int) * ((3 + 1 : Nat) : Int) = 16 * x := fun x => by omega
  simp only [e, Int.mul_zero, e2, Int.zero_add]
def polyS (c : List Pt) : List Pt := (List.range c.length).flatMap (segS c)
def flatS (o : Ot) : Ot := o.map polyS
theorem pAt_some {c : List Pt} {i : Nat} {p : Pt} (h : c[i]? = some p) : pAt c i = p := by unfold pAt; rw [h]; rfl
theorem seg_len (c : List Pt) (i : Nat) : (segS c i).length ≤ 4 := by
  unfold segS
  split
  · simp
  · rw [List.length_map, List.length_range]; split <;> omega
theorem poly_len (c : List Pt) : ∀ k, ((List.range k).flatMap (segS c)).length ≤ 4 * k := by
  intro k
  induction k with
  | zero => simp
  | succ k ih =>
    have e : [k].flatMap (segS c) = segS c k := by simp
    rw [List.range_succ, List.flatMap_append, List.length_append, e]
    have := seg_len c k
    omega
theorem poly_next (c : List Pt) (k : Nat) : (List.range (k + 1)).flatMap (segS c) = (List.range k).flatMap (segS c) ++ segS c k := by rw [List.range_succ, List.flatMap_append]; simp
theorem sml_flat {o : Ot} (h : Sml o) (h2 : ∀ c ∈ o, c.length ≤ 250) : Sml (flatS o) := by
  refine ⟨by unfold flatS; rw [List.length_map]; exact h.1, fun c hc => ?_⟩
  obtain ⟨d, hd, rfl⟩ := List.mem_map.1 hc
  have := poly_len d d.length
  have := h2 d hd
  unfold polyS
  omega
theorem on1_any (i b1 : Nat) (a : Option Addr) (n c : Nat) (l : List Pt) (w : World) (h1 : w.cell? ⟨b1, 0, none⟩ = some (.slice a n c)) (hl : Lst Enc.pt w (· < w.heap.size) a n l) (hi : i < n) :
    Calls Try.prog 68 #[.int .i64 (i : Int), .pointer (some ⟨b1, 0, none⟩)] w fun e w' => e = .returned (.bool (onS l i)) ∧ w' = w := by
  obtain ⟨g, og, px, py, pz, rfl, _, hp, _, _, g0, g1, g2⟩ := lst_pt hl hi
  have ho := onAt_some hp
  clear hl hp g0 g1
  by_cases h0 : i = 0
  · subst h0
    have e : onS l 0 = true := rfl
    rw [e]
    clear e ho
    go_enter Try.func68, Try.ntmps68
    go_wp2_with fail
    go_ret
    exact ⟨rfl, rfl⟩
  · have e : onS l i = pz := by unfold onS; rw [ho, beq_eq_false_iff_ne.2 h0]; rfl
    have t0 : ((i : Int) == 0) = false := beq_eq_false_iff_ne.2 (by omega)
    have t1 : (i : Int) < (n : Int) := by omega
    rw [e]
    clear e ho
    replace h0 := hide h0
    go_enter Try.func68, Try.ntmps68
    go_wp2_with fail
    go_ret
    exact ⟨rfl, rfl⟩
set_option maxHeartbeats 1000000 in
theorem end1_any (px py : Int) (pz : Bool) (qx qy : Int) (qz is : Bool) (w : World) :
    Calls Try.prog 70 #[.agg #[.int .i64 px, .int .i64 py, .bool pz], .agg #[.int .i64 qx, .int .i64 qy, .bool qz], .bool is] w fun e w' => e = .returned (.tuple #[.int .i64 (endS (px, py, pz) (qx, qy, qz) is).1, .int .i64 (endS (px, py, pz) (qx, qy, qz) is).2]) ∧ Below w.heap.size w w' := by
  obtain ⟨b4, b5, V, e4, e5, eV, st⟩ := St.new2 w (Obj.cells #[.int .i64 px, .int .i64 py, .bool pz] 56) (Obj.cells #[.int .i64 qx, .int .i64 qy, .bool qz] 56)
  have r4 := three_at (st.get 1 rfl)
  have r5 := three_at (st.get 0 rfl)
  have hbz := st.below
  obtain ⟨⟨a0, a1, a2⟩, a3, a4, a5⟩ := r4
  obtain ⟨⟨b0, b1, b2⟩, b3, b6, b7⟩ := r5
  have e45 : b4 + 1 = b5 := by omega
  cases is with
  | true =>
    have st3 := ((st.set 1 rfl 0 (.int .i64 qx)).set 1 rfl 1 (.int .i64 qy)).set 1 rfl 2 (.bool qz)
    have s4 := three_at (st3.get 1 rfl)
    have s5 := three_at (st3.get 0 rfl)
    have hbz2 := st3.below
    obtain ⟨V5, hV5⟩ : ∃ V5, ((V.setCell ⟨b4, 0, none⟩ (.int .i64 qx)).setCell ⟨b4, 1, none⟩ (.int .i64 qy)).setCell ⟨b4, 2, none⟩ (.bool qz) = V5 := ⟨_, rfl⟩
    rw [hV5] at s4 s5 hbz2
    obtain ⟨⟨c0, c1, c2⟩, _⟩ := s4
    obtain ⟨⟨d0, d1, d2⟩, _⟩ := s5
    clear st st3 hbz
    show Calls _ _ _ w fun e w' => e = .returned (.tuple #[.int .i64 (wrap64 (qx + qx)), .int .i64 (wrap64 (qy + qy))]) ∧ Below w.heap.size w w'
    replace e5 := hide e5; replace hbz2 := hide hbz2
    go_enter Try.func70, Try.ntmps70
    go_wp2_with fail
    go_quiet (fail)
    go_wp2_with fail
    go_ret2
    exact ⟨rfl, blw_drewN (unhide hbz2) _⟩
  | false =>
    clear st
    show Calls _ _ _ w fun e w' => e = .returned (.tuple #[.int .i64 (wrap64 (px + qx)), .int .i64 (wrap64 (py + qy))]) ∧ Below w.heap.size w w'
    replace e5 := hide e5; replace hbz := hide hbz
    go_enter Try.func70, Try.ntmps70
    go_wp2_with fail
    go_quiet (fail)
    go_wp2_with fail
    go_ret2
    exact ⟨rfl, blw_drewN (unhide hbz) _⟩
/-- what stays: the blocks of a set -/
structure Kp (D : Nat → Prop) (w w' : World) : Prop where
  os : w'.os = w.os
  tape : w'.tape = w.tape
  output : w'.output = w.output
  size : w.heap.size ≤ w'.heap.size
  block : ∀ k, D k → w'.heap[k]? = w.heap[k]?
theorem Kp.below {D : Nat → Prop} {w w' : World} {B : Nat} (h : Kp D w w') (hD : ∀ k, k < B → D k) : Below B w w' := ⟨h.os, h.tape, h.output, h.size, fun k hk => h.block k (hD k hk)⟩
theorem Kp.trans {D : Nat → Prop} {a b c : World} (h1 : Kp D a b) (h2 : Kp D b c) : Kp D a c := ⟨h2.os.trans h1.os, h2.tape.trans h1.tape, h2.output.trans h1.output, Nat.le_trans h1.size h2.size, fun k hk => (h2.block k hk).trans (h1.block k hk)⟩
theorem Kp.of {D : Nat → Prop} {w w' : World} (h : Below w.heap.size w w') (hD : ∀ k, D k → k < w.heap.size) : Kp D w w' := ⟨h.os, h.tape, h.output, h.size, fun k hk => h.block k (hD k hk)⟩
/-- the polygon while it is made: the box b3 holds its row; the blocks of D are not touched -/
def PG (W : World) (B b3 : Nat) (D : Nat → Prop) (cs : List Pt) : Prop := ∃ v, W.heap[b3]? = some (.cells #[v] 54 (0, 0)) ∧ Rw W B v cs ∧ ∀ d, D d → d ≠ b3 ∧ d < W.heap.size ∧ v.ownBlock ≠ some d
theorem PG.below {W W' : World} {B b3 : Nat} {D : Nat → Prop} {cs : List Pt} (h : PG W B b3 D cs) (hb : Below W.heap.size W W') : PG W' B b3 D cs := by
  obtain ⟨v, h1, h2, h3⟩ := h
  exact ⟨v, (hb.block _ (Array.getElem?_eq_some_iff.1 h1).1).trans h1, h2.below hb, fun d hd => ⟨(h3 d hd).1, Nat.lt_of_lt_of_le (h3 d hd).2.1 hb.size, (h3 d hd).2.2⟩⟩
theorem PG.wider {W : World} {B b3 : Nat} {D D' : Nat → Prop} {cs : List Pt} (h : PG W B b3 D cs) (hD : ∀ d, D' d → D d) : PG W B b3 D' cs := by
  obtain ⟨v, h1, h2, h3⟩ := h
  exact ⟨v, h1, h2, fun d hd => h3 d (hD d hd)⟩
/-- a new block is protected, too -/
theorem PG.fresh {W W' : World} {B b3 b8 : Nat} {D : Nat → Prop} {cs : List Pt} (h : PG W B b3 D cs) (hb : Below W.heap.size W W') (h8 : W.heap.size ≤ b8) (h9 : b8 < W'.heap.size) : PG W' B b3 (fun d => D d ∨ d = b8) cs := by
  obtain ⟨v, h1, h2, h3⟩ := PG.below h hb
  obtain ⟨v', k1, k2, _⟩ := h
  have hlt := (Array.getElem?_eq_some_iff.1 k1).1
  have e := (hb.block _ hlt).trans k1
  rw [h1] at e
  injection e with e
  injection e with e
  have e : v = v' := by injection e with e; injection e
  subst e
  refine ⟨v, h1, h2, fun d hd => ?_⟩
  rcases hd with hd | rfl
  · exact h3 d hd
  · exact ⟨by omega, h9, fun e => by have := (k2.1.lt _ e).2; omega⟩
set_option maxHeartbeats 2000000 in
theorem add1_any (x y : Int) (B b3 : Nat) (D : Nat → Prop) (cs : List Pt) (w : World) (h : PG w B b3 D cs) (hx : I64 x) (hy : I64 y) (hB : B ≤ w.heap.size) (hn : cs.length ≤ 1000) :
    Calls Try.prog 69 #[.int .i64 x, .int .i64 y, .pointer (some ⟨b3, 0, none⟩)] w fun e w' => e = .returned (.tuple #[]) ∧ PG w' B b3 D (cs ++ [(x, y, true)]) ∧ Kp D w w' := by
  obtain ⟨v, h1, h2, h3⟩ := h
  have c3 : w.cell? ⟨b3, 0, none⟩ = some v := (cell_of_row _ _ 0 _ _ _ h1).trans rfl
  have hb1 := (Below.refl w.heap.size w).alloc (Nat.le_refl _) (.cells #[.int .i64 x, .int .i64 y, .bool true] 56)
  have hn1 := heap_alloc_new w (.cells #[.int .i64 x, .int .i64 y, .bool true] 56)
  obtain ⟨bx, hbx⟩ : ∃ b, w.heap.size = b := ⟨_, rfl⟩
  obtain ⟨V1, hV1⟩ : ∃ V, w.alloc (.cells #[.int .i64 x, .int .i64 y, .bool true] 56) = V := ⟨_, rfl⟩
  rw [hV1] at hn1 hb1
  rw [hbx] at hn1
  have hrow := (h2.below hb1).1
  have h1' := (hb1.block _ (Array.getElem?_eq_some_iff.1 h1).1).trans h1
  have hne : v.ownBlock ≠ some b3 := own_ne_blk hrow h1' (by decide)
  have hB1 : B ≤ V1.heap.size := Nat.le_trans hB hb1.size
  have hap := h2.2
  have h3' : ∀ d, D d → d ≠ b3 ∧ d < w.heap.size ∧ v.ownBlock ≠ some d := h3
  clear h1 h2 h3
  replace hrow := hide hrow; replace hb1 := hide hb1; replace hn1 := hide hn1; replace h1' := hide h1'; replace h3' := hide h3'; replace hap := hide hap
  go_enter Try.func69, Try.ntmps69
  go_wp2_with (at_builtin; refine wpList_append_el Try.underlying54 info_pt rfl (by decide) (by decide) rfl _ _ rfl B _ cs.length (pcells cs) rfl (unhide hrow) _ [.int .i64 x, .int .i64 y, .bool true] rfl (unhide hn1) rfl ?aone hn hB1 ?_)
  case aone => (intro u hu; simp at hu; rcases hu with rfl | rfl | rfl <;> rfl)
  intro v' w2 hrow2 hgr hob
  have h3w := hgr.block b3 (by have := (Array.getElem?_eq_some_iff.1 (unhide h1')).1; exact this) (fun e => hne e.symm)
  have h1w := h3w.trans (unhide h1')
  have hfz : w2.frozen? ⟨b3, 0, none⟩ = false := by simp [World.frozen?, h1w]
  have c3w : w2.cell? ⟨b3, 0, none⟩ = some v := (cell_of_row _ _ 0 _ _ _ h1w).trans rfl
  have h1z := heap_setCell_same w2 b3 0 _ _ v' h1w
  have hrw : Rw (w2.setCell ⟨b3, 0, none⟩ v') B v' (cs ++ [(x, y, true)]) := by
    have hr0 : Rw w2 B v' (cs ++ [(x, y, true)]) := ⟨by rw [List.length_append, pcells_append]; exact hrow2, fun p hp => by
      rcases List.mem_append.1 hp with hp | hp
      · exact unhide hap p hp
      · simp at hp; subst hp; exact ⟨hx, hy⟩⟩
    refine hr0.grown (row := some b3) ⟨rfl, rfl, rfl, by simp, fun k _ hk => Below.heap_setCell _ _ _ _ (fun e => hk (by rw [e]))⟩ (.inr ?_)
    exact own_ne_blk hrow2 h1w (by decide)
  have hkp : Kp D w (w2.setCell ⟨b3, 0, none⟩ v') := by
    have hb := unhide hb1
    refine ⟨hgr.os.trans hb.os, hgr.tape.trans hb.tape, hgr.output.trans hb.output, ?_, fun d hd => ?_⟩
    · have := hgr.size; have := hb.size; simp; omega
    · obtain ⟨k1, k2, k3⟩ := unhide h3' d hd
      rw [Below.heap_setCell _ _ _ _ k1, hgr.block d (Nat.lt_of_lt_of_le k2 hb.size) (fun e => k3 e.symm), hb.block d k2]
  have hpg : PG (w2.setCell ⟨b3, 0, none⟩ v') B b3 D (cs ++ [(x, y, true)]) := ⟨v', h1z, hrw, fun d hd => by
    obtain ⟨k1, k2, k3⟩ := unhide h3' d hd
    have hs := hkp.size
    refine ⟨k1, by omega, fun e => ?_⟩
    rcases hob with h0 | h0
    · exact k3 (h0.symm.trans e)
    · rw [e] at h0
      injection h0 with h0
      have := (unhide hb1).size
      omega⟩
  obtain ⟨W9, hW9⟩ : ∃ W9, w2.setCell ⟨b3, 0, none⟩ v' = W9 := ⟨_, rfl⟩
  rw [hW9] at hpg hkp
  obtain ⟨a', cap', hv', _⟩ := hrw.lst
  replace hv' : v' = .slice a' (cs.length + 1) cap' := by rw [hv', List.length_append]; rfl
  subst hv'
  clear hrow hn1 hV1 hbx h1' hrow2 hgr hob h3w h1w h1z hrw c3
  replace hpg := hide hpg; replace hkp := hide hkp
  go_wp2_with fail
  go_end0
  exact ⟨rfl, unhide hpg, unhide hkp⟩
end Go.Proofs.Ytbodidhggdggmaa
