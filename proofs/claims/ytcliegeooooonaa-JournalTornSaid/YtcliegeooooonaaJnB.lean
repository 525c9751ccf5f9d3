/- The journal's law: written, begins. -/
import Derived.Test.YtcliegeooooonaaJnA
namespace Go.Proofs.Ytcliegeooooonaa
open Go.RowKit
/-- a box of two cells that the region makes (operation p) and fills (operation q) -/
structure AL (V : World) (p q : Nat) (z0 z1 y0 y1 : Value) (T : TypeId) (LL : Nat → Bool) (vs : Nat → Value) (w : World) : Prop where
  un : ∀ j, LL j = false → vs j = undef
  mo : LL q = true → LL p = true
  bel : Below V.heap.size V w
  bx : LL p = true → ∃ b, vs p = .pointer (some ⟨b, 0, none⟩) ∧ V.heap.size ≤ b ∧ w.heap[b]? = some (.cells (if LL q = true then #[y0, y1] else #[z0, z1]) T (0, 0))
theorem ptr_def (a : Option Addr) : Value.pointer a ≠ undef := fun e => by cases e
def IsPt (v : Value) : Prop := ∃ b, v = .pointer (some ⟨b, 0, none⟩)
section
variable {V : World} {p q : Nat} {z0 z1 y0 y1 : Value} {T : TypeId} {LL : Nat → Bool} {vs : Nat → Value} {w w2 : World}
theorem AL.start (V : World) (p q : Nat) (z0 z1 y0 y1 : Value) (T : TypeId) : AL V p q z0 z1 y0 y1 T (fun _ => false) (fun _ => undef) { V with drawn := V.drawn + 1 } :=
  ⟨fun _ _ => rfl, fun e => Bool.noConfusion e, (Below.refl _ _).drew, fun e => Bool.noConfusion e⟩
theorem AL.undo (h : AL V p q z0 z1 y0 y1 T LL vs w) (i : Nat) (v : Value) : ∀ j, (LL j || j == i) = false → (if j = i then v else vs j) = undef := fun j hj => by
  rw [Bool.or_eq_false_iff] at hj
  rw [if_neg (by simpa using hj.2)]
  exact h.un j hj.1
theorem AL.ran (h : AL V p q z0 z1 y0 y1 T LL vs w) {j : Nat} (hj : vs j ≠ undef) : LL j = true := by
  cases e : LL j with
  | true => rfl
  | false => exact absurd (h.un j e) hj
theorem AL.call (h : AL V p q z0 z1 y0 y1 T LL vs w) (i : Nat) (v : Value) (hi : p ≠ i ∧ q ≠ i) (hb : Below w.heap.size w w2) : AL V p q z0 z1 y0 y1 T (fun j => LL j || j == i) (fun j => if j = i then v else vs j) w2 := by
  have e : ∀ j, j ≠ i → (LL j || j == i) = LL j := fun j hj => by rw [beq_eq_false_iff_ne.2 hj, Bool.or_false]
  refine ⟨h.undo i v, ?_, h.bel.trans (hb.mono h.bel.size), ?_⟩
  · rw [e _ hi.1, e _ hi.2]; exact h.mo
  · rw [e _ hi.1, e _ hi.2, if_neg hi.1]
    intro hp
    obtain ⟨b, h1, h2, h3⟩ := h.bx hp
    exact ⟨b, h1, h2, kept' hb h3⟩
theorem AL.keep (h : AL V p q z0 z1 y0 y1 T LL vs w) (i : Nat) (v : Value) (hi : p ≠ i ∧ q ≠ i) : AL V p q z0 z1 y0 y1 T (fun j => LL j || j == i) (fun j => if j = i then v else vs j) w := h.call i v hi (Below.refl _ _)
theorem AL.new (h : AL V p q z0 z1 y0 y1 T LL vs w) (h0 : LL p = false) (hpq : q ≠ p) : AL V p q z0 z1 y0 y1 T (fun j => LL j || j == p) (fun j => if j = p then .pointer (some ⟨w.heap.size, 0, none⟩) else vs j) (w.alloc (Obj.cells #[z0, z1] T)) := by
  have h4 : LL q = false := by cases e : LL q with | false => rfl | true => have := h.mo e; rw [h0] at this; cases this
  refine ⟨h.undo p _, fun _ => by simp, h.bel.alloc h.bel.size _, fun _ => ⟨w.heap.size, by simp, h.bel.size, ?_⟩⟩
  rw [h4, beq_eq_false_iff_ne.2 hpq]
  exact heap_alloc_new w _
theorem AL.set (h : AL V p q z0 z1 y0 y1 T LL vs w) {b : Nat} (h2 : vs p = .pointer (some ⟨b, 0, none⟩)) (hpq : p ≠ q) (hq : LL q = false) (v : Value) : AL V p q z0 z1 y0 y1 T (fun j => LL j || j == q) (fun j => if j = q then v else vs j) ((w.setCell ⟨b, 0, none⟩ y0).setCell ⟨b, 1, none⟩ y1) := by
  have l2 : LL p = true := h.ran (by rw [h2]; exact ptr_def _)
  obtain ⟨b', q1, q2, q3⟩ := h.bx l2
  have hbb : b = b' := by
    rw [h2] at q1
    injection q1 with q1
    injection q1 with q1
    injection q1
  subst hbb
  rw [hq] at q3
  refine ⟨h.undo q v, fun _ => by simp [l2], (h.bel.setCell (p := ⟨b, 0, none⟩) q2 _).setCell (p := ⟨b, 1, none⟩) q2 _, fun _ => ⟨b, by rw [if_neg hpq]; exact h2, q2, ?_⟩⟩
  have := heap_set (off := 1) (heap_set (off := 0) q3 y0) y1
  simpa using this
end
theorem cell_set_far {w : World} {b c o o' : Nat} (v : Value) (_ : True) (hne : b ≠ c) : (w.setCell ⟨c, o, none⟩ v).cell? ⟨b, o', none⟩ = w.cell? ⟨b, o', none⟩ := by
  have := Below.heap_setCell w ⟨c, o, none⟩ v b hne
  simp only [World.cell?]
  rw [this]
theorem cell_grow2 {w w1 w' : World} {b o : Nat} {v : Value} {row : Option Nat} (hb : Below w.heap.size w w1) (hg : w1.grownBy w' row) (h : w.cell? ⟨b, o, none⟩ = some v) (hne : row ≠ some b) : w'.cell? ⟨b, o, none⟩ = some v := by
  have h1 := cell_under h hb
  exact (World.cell?_of_block (a := ⟨b, o, none⟩) (hg.block b (World.block_lt_of_cell? w1 ⟨b, o, none⟩ h1) (fun e => hne e.symm))).trans h1
/-! ### written -/
def wrStep (st : List UInt8 × List UInt8 × List (List UInt8) × Nat) (x : Stp) : List UInt8 × List UInt8 × List (List UInt8) × Nat :=
  if x.2 then (st.1 ++ (st.2.1 ++ Jn.recd (Jn.lastb b0L st.2.2.1) x.1), [], st.2.2.1 ++ [x.1], st.2.2.1.length + 1) else (st.1, st.2.1 ++ Jn.recd (Jn.lastb b0L st.2.2.1) x.1, st.2.2.1 ++ [x.1], st.2.2.2)
def wrS (L : List Stp) : List UInt8 × List UInt8 × List (List UInt8) × Nat := L.foldl wrStep ([], [], [], 0)
theorem wrS_snoc (L : List Stp) (x : Stp) : wrS (L ++ [x]) = wrStep (wrS L) x := by unfold wrS; rw [List.foldl_append]; rfl
structure WrI (L : List Stp) (st : List UInt8 × List UInt8 × List (List UInt8) × Nat) : Prop where
  all : st.2.2.1 = L.map (·.1)
  con : st.1 ++ st.2.1 = Jn.recs b0L st.2.2.1
  le : st.2.2.2 ≤ st.2.2.1.length
  safe : st.1 = Jn.recs b0L (st.2.2.1.take st.2.2.2)
theorem wrI_step {L : List Stp} {st : List UInt8 × List UInt8 × List (List UInt8) × Nat} (h : WrI L st) (x : Stp) : WrI (L ++ [x]) (wrStep st x) := by
  obtain ⟨h1, h2, h3, h4⟩ := h
  unfold wrStep
  split
  · refine ⟨by simp [h1], ?_, by simp, ?_⟩
    · simp only [List.append_nil]
      rw [← List.append_assoc, h2, Jn.recs_snoc]
    · simp only
      rw [← List.append_assoc, h2, List.take_of_length_le (by simp), Jn.recs_snoc]
  · refine ⟨by simp [h1], ?_, by simp; omega, ?_⟩
    · simp only
      rw [← List.append_assoc, h2, Jn.recs_snoc]
    · simp only
      rw [List.take_append_of_le_length h3]
      exact h4
theorem wrI (L : List Stp) : WrI L (wrS L) := by
  have go : ∀ (M L : List Stp) (st : List UInt8 × List UInt8 × List (List UInt8) × Nat), WrI L st → WrI (L ++ M) (M.foldl wrStep st) := by
    intro M
    induction M with
    | nil => intro L st h; rw [List.append_nil]; exact h
    | cons x M ih =>
      intro L st h
      have := ih (L ++ [x]) (wrStep st x) (wrI_step h x)
      rw [List.append_assoc] at this
      exact this
  have := go L [] ([], [], [], 0) ⟨rfl, rfl, Nat.le_refl _, rfl⟩
  exact this
theorem recs_bd (b : List UInt8) (S : List (List UInt8)) (hS : ∀ s ∈ S, s.length ≤ 20) : (Jn.recs b S).length ≤ S.length * 39 := by
  induction S generalizing b with
  | nil => exact Nat.le_refl _
  | cons s S ih =>
    rw [Jn.recs, List.length_append, List.length_cons, Jn.recd_len]
    have h1 := ih (Jn.chL b s) (fun x hx => hS x (by simp [hx]))
    have h2 := hS s (by simp)
    have h3 := txt_len s
    omega
theorem wr_bd (L : List Stp) (hL : L.length ≤ 8) (h20 : ∀ x ∈ L, x.1.length ≤ 20) : (wrS L).1.length ≤ 400 ∧ (wrS L).2.1.length ≤ 400 ∧ (wrS L).2.2.1.length = L.length ∧ (∀ s ∈ (wrS L).2.2.1, s.length ≤ 20) := by
  have h := wrI L
  have h20' : ∀ s ∈ (wrS L).2.2.1, s.length ≤ 20 := by
    rw [h.all]
    intro s hs
    obtain ⟨x, hx, rfl⟩ := List.mem_map.1 hs
    exact h20 x hx
  have hl : (wrS L).2.2.1.length = L.length := by rw [h.all, List.length_map]
  have hb := recs_bd b0L _ h20'
  have hc := congrArg List.length h.con
  rw [List.length_append] at hc
  exact ⟨by omega, by omega, hl, h20'⟩
theorem wr_ap (L : List Stp) (h20 : ∀ x ∈ L, x.1.length ≤ 20) (x : List UInt8) (hx : x.length ≤ 20) : apS (wrS L).1 (wrS L).2.1 x = ((wrS L).1, (wrS L).2.1 ++ Jn.recd (Jn.lastb b0L (wrS L).2.2.1) x, 0) := by
  have h := wrI L
  unfold apS
  rw [if_neg (by omega), h.con, Jn.good_all b0L _ (fun s hs => by
    rw [h.all] at hs
    obtain ⟨y, hy, rfl⟩ := List.mem_map.1 hs
    have := h20 y hy
    omega), if_pos rfl]
/-- the state of written's loop -/
structure WS (w : World) (B x2 x6 : Nat) (v : Value) (s p : List UInt8) (A : List (List UInt8)) (wr : World) : Prop where
  bel : Below B w wr
  hB : B ≤ wr.heap.size
  lo : B ≤ x2 ∧ B ≤ x6 ∧ x2 ≠ x6
  d2 : BoxD wr x2 [] []
  d6 : BoxD wr x6 s p
  row : wr.ownsRow B 9 1 v A.length (A.map vl)
section
variable {w : World} {B x2 x6 : Nat} {v : Value} {s p : List UInt8} {A : List (List UInt8)} {wr wr' : World}
theorem WS.call (h : WS w B x2 x6 v s p A wr) (hb : Below wr.heap.size wr wr') : WS w B x2 x6 v s p A wr' :=
  ⟨h.bel.trans (hb.mono h.hB), Nat.le_trans h.hB hb.size, h.lo, h.d2.call hb, h.d6.call hb, own_belowb h.row hb⟩
theorem BoxD.frz {w : World} {b : Nat} {s p : List UInt8} (h : BoxD w b s p) : w.frozen? ⟨b, 0, none⟩ = false ∧ w.frozen? ⟨b, 1, none⟩ = false := by
  have h' : w.heap[b]? = some (.cells #[.string ⟨s.toArray⟩, .string ⟨p.toArray⟩] 27 (0, 0)) := h
  constructor <;> simp [World.frozen?, h']
theorem BoxD.put {w : World} {b : Nat} {s p : List UInt8} (h : BoxD w b s p) (s' p' : List UInt8) : BoxD ((w.setCell ⟨b, 0, none⟩ (.string ⟨s'.toArray⟩)).setCell ⟨b, 1, none⟩ (.string ⟨p'.toArray⟩)) b s' p' := by
  have := heap_set (off := 1) (heap_set (off := 0) h (.string ⟨s'.toArray⟩)) (.string ⟨p'.toArray⟩)
  unfold BoxD
  simpa using this
theorem BoxD.put' {w : World} {b c o : Nat} {s p : List UInt8} (h : BoxD w b s p) (hne : b ≠ c) (x : Value) : BoxD (w.setCell ⟨c, o, none⟩ x) b s p := (Below.heap_setCell _ _ _ _ hne).trans h
theorem WS.put (h : WS w B x2 x6 v s p A wr) (s' p' : List UInt8) : WS w B x2 x6 v s' p' A ((wr.setCell ⟨x6, 0, none⟩ (.string ⟨s'.toArray⟩)).setCell ⟨x6, 1, none⟩ (.string ⟨p'.toArray⟩)) := by
  refine ⟨(h.bel.setCell (p := ⟨x6, 0, none⟩) h.lo.2.1 _).setCell (p := ⟨x6, 1, none⟩) h.lo.2.1 _, by simp [World.setCell]; exact h.hB, h.lo, (h.d2.put' h.lo.2.2 _).put' h.lo.2.2 _, h.d6.put s' p', own_same h.row fun b hb => ?_⟩
  have hne : b ≠ x6 := fun e => own_ne_blk h.row h.d6 (by decide) (by rw [hb, e])
  exact (Below.heap_setCell _ _ _ _ hne).trans (Below.heap_setCell _ _ _ _ hne)
theorem WS.app (h : WS w B x2 x6 v s p A wr) {v' : Value} {x : List UInt8} {w4 : World} (h4 : w4.ownsRow B 9 1 v' (A.length + 1) (A.map vl ++ [vl x])) (hg : (wr.alloc (Obj.cells #[vl x] 9)).grownBy w4 v.ownBlock) : WS w B x2 x6 v' s p (A ++ [x]) w4 := by
  have hb1 : Below wr.heap.size wr (wr.alloc (Obj.cells #[vl x] 9)) := (Below.refl _ _).alloc (Nat.le_refl _) _
  have f2 : v.ownBlock ≠ some x2 := own_ne_blk h.row h.d2 (by decide)
  have f6 : v.ownBlock ≠ some x6 := own_ne_blk h.row h.d6 (by decide)
  refine ⟨Below.grown (h.bel.alloc h.hB _) hg (by simp; have := h.hB; omega) (fun k e => (h.row.lt k e).1), Nat.le_trans h.hB (Nat.le_trans hb1.size hg.size), h.lo, grown_far hg (kept' hb1 h.d2) f2, grown_far hg (kept' hb1 h.d6) f6, ?_⟩
  rw [List.length_append, List.map_append]
  exact h4
end
def WrPost (L : List Stp) (w : World) (e : Ending) (w' : World) : Prop :=
  ∃ v, e = .returned (.tuple #[dk (wrS L).1 (wrS L).2.1, v, .int .i64 ((wrS L).2.2.2 : Int), .bool true]) ∧ w'.ownsRow w.heap.size 9 1 v (wrS L).2.2.1.length ((wrS L).2.2.1.map vl) ∧ Below w.heap.size w w'
set_option maxRecDepth 100000 in
set_option maxHeartbeats 4000000 in
theorem written_any (a : Option Addr) (n c : Nat) (L : List Stp) (w : World) (hL : StL w a n L) (hn : n ≤ 8) (hx : ∀ x ∈ L, x.1.length ≤ 20) :
    Calls Try.prog 22 #[.slice a n c] w (WrPost L w) := by
  obtain ⟨i1, hi1, hz0, hz1, hz2⟩ := info_parts info_str
  obtain ⟨B, hB⟩ : ∃ B, w.heap.size = B := ⟨_, rfl⟩
  obtain ⟨x2, x6, w1, e1, e2, ew, st⟩ := St.new2 w (Obj.cells #[.string ⟨#[]⟩, .string ⟨#[]⟩] 27) (Obj.cells #[.string ⟨#[]⟩, .string ⟨#[]⟩] 27)
  have hws : WS w B x2 x6 (.slice none 0 0) [] [] [] w1 := ⟨hB ▸ st.below, by have := st.below.size; omega, ⟨by omega, by omega, by omega⟩, st.get 1 rfl, st.get 0 rfl, World.ownsRow_nil _ _ _ _⟩
  clear st
  replace hi1 := hide hi1; replace hz0 := hide hz0; replace hz1 := hide hz1; replace hz2 := hide hz2; replace hB := hide hB; replace hL := hide hL; replace hx := hide hx; replace hws := hide hws; replace e1 := hide e1; replace e2 := hide e2; replace ew := hide ew
  go_enter Try.func22, Try.ntmps22
  go_upto_region 2 with fail
  rw [unhide ew]
  try rw [unhide e2]
  try rw [unhide e1]
  clear ew e1 e2
  go_wp2_with fail
  go_loopw [7, 8, 9] (fun v7 v8 v9 wr => ∃ k : Nat, k ≤ n ∧ v9 = .int .i64 (k : Int) ∧ v8 = .int .i64 ((wrS (L.take k)).2.2.2 : Int) ∧ WS w B x2 x6 v7 (wrS (L.take k)).1 (wrS (L.take k)).2.1 (wrS (L.take k)).2.2.1 wr) (fun _ _ v _ => n - (intOf v).toNat)
  case atStart => exact ⟨0, by omega, rfl, rfl, unhide hws⟩
  case round =>
    clear hws
    obtain ⟨k, hk, rfl, rfl, hws⟩ := hrel
    obtain ⟨V, rfl⟩ : ∃ V : World, V = wr := ⟨_, rfl⟩
    obtain ⟨va, vc, rfl⟩ := own_shape hws.row
    have hLn := (unhide hL).1
    have htl : (L.take k).length = k := by rw [List.length_take]; omega
    have hbd := wr_bd (L.take k) (by omega) (fun x hx' => unhide hx x (List.mem_of_mem_take hx'))
    have hBV := hws.hB
    by_cases hlt : k < n
    · obtain ⟨x, hxk⟩ : ∃ x, L[k]? = some x := ⟨_, List.getElem?_eq_getElem (by omega)⟩
      obtain ⟨b, off, rfl, c1, c2⟩ := (unhide hL).2 k x hxk
      have hbB : b < B := by rw [← unhide hB]; exact World.block_lt_of_cell? w _ c1
      have hwV : Below w.heap.size w V := by rw [unhide hB]; exact hws.bel
      replace c1 := cell_under c1 hwV
      replace c2 := cell_under c2 hwV
      clear hwV
      have hxl := unhide hx x (List.mem_of_getElem? hxk)
      have hap := wr_ap (L.take k) (fun x hx' => unhide hx x (List.mem_of_mem_take hx')) x.1 hxl
      have hsn : wrS (L.take (k + 1)) = wrStep (wrS (L.take k)) x := by rw [List.take_add_one, hxk, ← wrS_snoc]; rfl
      obtain ⟨s, hs⟩ : ∃ s, (wrS (L.take k)).1 = s := ⟨_, rfl⟩
      obtain ⟨p, hp⟩ : ∃ s, (wrS (L.take k)).2.1 = s := ⟨_, rfl⟩
      obtain ⟨A, hA⟩ : ∃ s, (wrS (L.take k)).2.2.1 = s := ⟨_, rfl⟩
      obtain ⟨f, hf⟩ : ∃ s, (wrS (L.take k)).2.2.2 = s := ⟨_, rfl⟩
      obtain ⟨xs, xb⟩ := x
      unfold wrStep at hsn
      simp only [hs, hp, hA, hf] at hws hbd hap hsn hxl c1 c2 ⊢
      obtain ⟨p2, hp2⟩ : ∃ p2, p ++ Jn.recd (Jn.lastb b0L A) xs = p2 := ⟨_, rfl⟩
      rw [hp2] at hap hsn
      have hp2l : p2.length ≤ 450 := by rw [← hp2, List.length_append, Jn.recd_len]; have := txt_len xs; omega
      have hAl : A.length = k := by rw [hbd.2.2.1, htl]
      rw [hAl]
      have hcon := fun w => append_any s p xs w (by omega) (by omega) (by omega)
      simp only [hap] at hcon
      have hsy := fun w => sync_any s p2 w (by omega) (by omega)
      have j1 : (0 : Int) ≤ (k : Int) := by omega
      have j2 : (k : Int) < (n : Int) := by omega
      have hbd1 := hbd.1
      clear hs hp hA hf hap hxk hp2 htl hbd
      replace hws := hide hws; replace c1 := hide c1; replace c2 := hide c2; replace hcon := hide hcon; replace hsy := hide hsy; replace hsn := hide hsn; replace hLn := hide hLn; replace hAl := hide hAl
      go_upto_region 7 with fail
      refine wp_region_frontG 12 (fun LL vs w' => AL V 10 11 (.string ⟨#[]⟩) (.string ⟨#[]⟩) (.string ⟨s.toArray⟩) (.string ⟨p2.toArray⟩) 27 LL vs w') (fun _ _ => True)
        (fun ix v w' => match ix with
          | 0 => v = dk s p
          | 1 => v = .slice (some ⟨b, off, none⟩) n c
          | 2 => v = .int .i64 (k : Int)
          | 3 => v = .pointer (some ⟨b, off + k * 2, none⟩)
          | 4 => v = .pointer (some ⟨b, off + k * 2, none⟩)
          | 5 => v = .string ⟨xs.toArray⟩
          | 6 => v = .tuple #[dk s p2, .int .i64 0]
          | 7 => v = .tuple #[dk s p2, .int .i64 0]
          | 8 => v = dk s p2
          | 9 => v = .int .i64 0
          | 10 => IsPt v
          | 11 => True
          | _ => True) (by rfl) (by kernel_rfl) ?_ ?_ ?_ ?_
      · exact AL.start _ _ _ _ _ _ _ _
      · intro wa wb hR ix v hv
        match ix, hv with
        | 0, h => exact h
        | 1, h => exact h
        | 2, h => exact h
        | 3, h => exact h
        | 4, h => exact h
        | 5, h => exact h
        | 6, h => exact h
        | 7, h => exact h
        | 8, h => exact h
        | 9, h => exact h
        | 10, h => exact h
        | 11, h => exact h
        | _ + 12, _ => trivial
      · intro ix hix
        obtain rfl | rfl | rfl | rfl | rfl | rfl | rfl | rfl | rfl | rfl | rfl | rfl : ix = 0 ∨ ix = 1 ∨ ix = 2 ∨ ix = 3 ∨ ix = 4 ∨ ix = 5 ∨ ix = 6 ∨ ix = 7 ∨ ix = 8 ∨ ix = 9 ∨ ix = 10 ∨ ix = 11 := by omega
        · refine FrontStep.of [] _ rfl (by kernel_rfl) ?_
          intro vs LL wq hLL hC hf
          simp only [putL, List.foldl_nil]
          have dd0 := ((unhide hws).call hC.bel).d6.c0
          have dd1 := ((unhide hws).call hC.bel).d6.c1
          unfold dk
          have hkp := fun v => hC.keep 0 v (by decide)
          replace hkp := hide hkp
          clear hC
          go_wp2_with fail
          first | exact unhide hkp _ | exact ⟨unhide hkp _, trivial⟩
        · refine FrontStep.of [] _ rfl (by kernel_rfl) ?_
          intro vs LL wq hLL hC hf
          simp only [putL, List.foldl_nil]
          have hkp := fun v => hC.keep 1 v (by decide)
          replace hkp := hide hkp
          clear hC
          go_wp2_with fail
          first | exact unhide hkp _ | exact ⟨unhide hkp _, trivial⟩
        · refine FrontStep.of [] _ rfl (by kernel_rfl) ?_
          intro vs LL wq hLL hC hf
          simp only [putL, List.foldl_nil]
          have hkp := fun v => hC.keep 2 v (by decide)
          replace hkp := hide hkp
          clear hC
          go_wp2_with fail
          first | exact unhide hkp _ | exact ⟨unhide hkp _, trivial⟩
        · refine FrontStep.of [1, 2] _ rfl (by kernel_rfl) ?_
          intro vs LL wq hLL hC hf
          simp only [putL, List.foldl_nil, List.foldl_cons, List.getElem?_cons_zero, List.getElem?_cons_succ]
          have e1 : vs 1 = _ := hf 1 (by simp)
          rw [e1]
          have e2 : vs 2 = _ := hf 2 (by simp)
          rw [e2]
          have hkp := fun v => hC.keep 3 v (by decide)
          replace hkp := hide hkp
          clear hC
          go_wp2_with fail
          first | exact unhide hkp _ | exact ⟨unhide hkp _, trivial⟩
        · refine FrontStep.of [3] _ rfl (by kernel_rfl) ?_
          intro vs LL wq hLL hC hf
          simp only [putL, List.foldl_nil, List.foldl_cons, List.getElem?_cons_zero, List.getElem?_cons_succ]
          have e3 : vs 3 = _ := hf 3 (by simp)
          rw [e3]
          have hkp := fun v => hC.keep 4 v (by decide)
          replace hkp := hide hkp
          clear hC
          go_wp2_with fail
          first | exact unhide hkp _ | exact ⟨unhide hkp _, trivial⟩
        · refine FrontStep.of [4] _ rfl (by kernel_rfl) ?_
          intro vs LL wq hLL hC hf
          simp only [putL, List.foldl_nil, List.foldl_cons, List.getElem?_cons_zero, List.getElem?_cons_succ]
          have e4 : vs 4 = _ := hf 4 (by simp)
          rw [e4]
          have dd := cell_under (unhide c1) hC.bel
          have hkp := fun v => hC.keep 5 v (by decide)
          replace hkp := hide hkp
          clear hC
          go_wp2_with fail
          first | exact unhide hkp _ | exact ⟨unhide hkp _, trivial⟩
        · refine FrontStep.of [0, 5] _ rfl (by kernel_rfl) ?_
          intro vs LL wq hLL hC hf
          simp only [putL, List.foldl_nil, List.foldl_cons, List.getElem?_cons_zero, List.getElem?_cons_succ]
          have e0 : vs 0 = _ := hf 0 (by simp)
          rw [e0]
          have e5 : vs 5 = _ := hf 5 (by simp)
          rw [e5]
          have hkp := fun (v : Value) (w2 : World) (hb : Below wq.heap.size wq w2) => hC.call 6 v (by decide) hb
          replace hkp := hide hkp
          clear hC
          go_wp2_with fail
          refine (unhide hcon _).mono ?_
          rintro e w2 ⟨rfl, hb2⟩
          have hfin := hide (unhide hkp (.tuple #[dk s p2, .int .i64 0]) w2 hb2)
          unfold dk at hfin ⊢
          clear hkp hb2
          go_wp2_with fail
          first | exact unhide hfin | exact ⟨unhide hfin, trivial⟩ | exact ⟨⟨rfl, rfl⟩, unhide hfin⟩
        · refine FrontStep.of [6] _ rfl (by kernel_rfl) ?_
          intro vs LL wq hLL hC hf
          simp only [putL, List.foldl_nil, List.foldl_cons, List.getElem?_cons_zero, List.getElem?_cons_succ]
          have e6 : vs 6 = _ := hf 6 (by simp)
          rw [e6]
          have hkp := fun v => hC.keep 7 v (by decide)
          replace hkp := hide hkp
          clear hC
          go_wp2_with fail
          first | exact unhide hkp _ | exact ⟨unhide hkp _, trivial⟩
        · refine FrontStep.of [7] _ rfl (by kernel_rfl) ?_
          intro vs LL wq hLL hC hf
          simp only [putL, List.foldl_nil, List.foldl_cons, List.getElem?_cons_zero, List.getElem?_cons_succ]
          have e7 : vs 7 = _ := hf 7 (by simp)
          rw [e7]
          have hkp := fun v => hC.keep 8 v (by decide)
          replace hkp := hide hkp
          clear hC
          go_wp2_with fail
          first | exact unhide hkp _ | exact ⟨unhide hkp _, trivial⟩
        · refine FrontStep.of [7] _ rfl (by kernel_rfl) ?_
          intro vs LL wq hLL hC hf
          simp only [putL, List.foldl_nil, List.foldl_cons, List.getElem?_cons_zero, List.getElem?_cons_succ]
          have e7 : vs 7 = _ := hf 7 (by simp)
          rw [e7]
          have hkp := fun v => hC.keep 9 v (by decide)
          replace hkp := hide hkp
          clear hC
          go_wp2_with fail
          first | exact unhide hkp _ | exact ⟨unhide hkp _, trivial⟩
        · refine FrontStep.of [] _ rfl (by kernel_rfl) ?_
          intro vs LL wq hLL hC hf
          simp only [putL, List.foldl_nil]
          have hkp := hide (hC.new hLL (by decide))
          have hpt : IsPt (.pointer (some ⟨wq.heap.size, 0, none⟩)) := ⟨_, rfl⟩
          replace hpt := hide hpt
          clear hC
          go_wp2_with fail
          first | exact ⟨unhide hkp, unhide hpt⟩ | exact ⟨unhide hkp, trivial, unhide hpt⟩
        · refine FrontStep.of [0, 1, 2, 3, 4, 5, 6, 7, 8, 10] _ rfl (by kernel_rfl) ?_
          intro vs LL wq hLL hC hf
          simp only [putL, List.foldl_nil, List.foldl_cons, List.getElem?_cons_zero, List.getElem?_cons_succ]
          have e0 : vs 0 = _ := hf 0 (by simp)
          rw [e0]
          have e1 : vs 1 = _ := hf 1 (by simp)
          rw [e1]
          have e2 : vs 2 = _ := hf 2 (by simp)
          rw [e2]
          have e3 : vs 3 = _ := hf 3 (by simp)
          rw [e3]
          have e4 : vs 4 = _ := hf 4 (by simp)
          rw [e4]
          have e5 : vs 5 = _ := hf 5 (by simp)
          rw [e5]
          have e6 : vs 6 = _ := hf 6 (by simp)
          rw [e6]
          have e7 : vs 7 = _ := hf 7 (by simp)
          rw [e7]
          have e8 : vs 8 = _ := hf 8 (by simp)
          rw [e8]
          obtain ⟨bp, e10⟩ := hf 10 (by simp)
          rw [e10]
          unfold dk
          have l2 := hC.ran (j := 10) (by rw [e10]; exact ptr_def _)
          obtain ⟨bq, q1, q2, q3⟩ := hC.bx l2
          have hbq : bp = bq := by
            rw [e10] at q1
            exact congrArg (fun v => match v with | Value.pointer (some p) => p.block | _ => 0) q1
          rw [← hbq, hLL] at q3
          have zc0 := cell_of_row _ _ 0 _ _ _ q3
          have zc1 := cell_of_row _ _ 1 _ _ _ q3
          have z0 : wq.frozen? ⟨bp, 0, none⟩ = false := by simp [World.frozen?, q3]
          have z1 : wq.frozen? ⟨bp, 1, none⟩ = false := by simp [World.frozen?, q3]
          have hkp := fun v => hC.set e10 (by decide) hLL v
          replace hkp := hide hkp
          clear hC q1 q2 q3 hbq l2
          go_wp2_with fail
          first | exact ⟨undef, unhide hkp _⟩ | exact ⟨undef, unhide hkp _, trivial⟩
      · intro vs LL wq hLL hC hf
        obtain ⟨b10, e10⟩ := hf 10 (by decide)
        have e9 : vs 9 = _ := hf 9 (by decide)
        have l10 := hC.ran (j := 10) (by rw [e10]; exact ptr_def _)
        have l11 : LL 11 = true := hLL 11 (by decide)
        obtain ⟨bq, q1, q2, q3⟩ := hC.bx l10
        have hbq : b10 = bq := by
          rw [e10] at q1
          exact congrArg (fun v => match v with | Value.pointer (some p) => p.block | _ => 0) q1
        rw [← hbq, if_pos l11] at q3
        have hd10 : BoxD wq b10 s p2 := q3
        have hwq := (unhide hws).call hC.bel
        rw [putSome_all]
        simp only [putL, List.range, List.range.loop, List.foldl_nil, List.foldl_cons, List.getElem?_cons_zero, List.getElem?_cons_succ, List.drop_succ_cons, List.drop_zero]
        rw [e9, e10]
        obtain ⟨W2, rfl⟩ : ∃ W : World, W = wq := ⟨_, rfl⟩
        have c1q := cell_under (unhide c1) hC.bel
        have c2q := cell_under (unhide c2) hC.bel
        have n10 : b10 ≠ x6 := fun e => by have := (Array.getElem?_eq_some_iff.1 (show V.heap[x6]? = _ from (unhide hws).d6)).1; omega
        have y0 := hd10.c0
        have y1 := hd10.c1
        have y2 := hwq.d6.c0
        have y3 := hwq.d6.c1
        have y4 := hwq.d6.frz.1
        have y5 := hwq.d6.frz.2
        clear hC hf hLL e9 e10 l10 l11 q1 q2 q3 hbq hws c1 c2 hcon
        have hw2 := hwq.put s p2
        replace hw2 := hide hw2; replace hwq := hide hwq; replace hd10 := hide hd10; replace c1q := hide c1q; replace c2q := hide c2q
        go_simp
        go_upto_region 11 with fail
        obtain ⟨W3, hW3⟩ : ∃ W3, (W2.setCell ⟨x6, 0, none⟩ (.string ⟨s.toArray⟩)).setCell ⟨x6, 1, none⟩ (.string ⟨p2.toArray⟩) = W3 := ⟨_, rfl⟩
        rw [hW3] at hw2 ⊢
        have hnb : b ≠ x6 := by have := (unhide hwq).lo.2.1; omega
        have c1w : W3.cell? ⟨b, off + k * 2, none⟩ = some (.string ⟨xs.toArray⟩) := by rw [← hW3, cell_set_far _ trivial hnb, cell_set_far _ trivial hnb]; exact unhide c1q
        have c2w : W3.cell? ⟨b, off + k * 2 + 1, none⟩ = some (.bool xb) := by rw [← hW3, cell_set_far _ trivial hnb, cell_set_far _ trivial hnb]; exact unhide c2q
        clear hW3 c1q c2q hwq hd10 y0 y1 y2 y3 y4 y5 n10
        have hrow3 := (unhide hw2).row
        have hB3 := (unhide hw2).hB
        rw [unhide hAl] at hrow3
        go_wp2_with (at_builtin; refine wpList_append_own _ rfl _ _ 40 rfl B 9 i1 (.string ⟨#[]⟩) 1 16 Try.underlying40 (unhide hi1) (unhide hz0) (unhide hz1) (unhide hz2) rfl (by decide) _ _ _ rfl (hrow3.alloc _) ⟨W3.heap.size, 0, none⟩ 1 1 [vl xs] rfl rfl ?c1 ?c2 ?c3 ?c4 ?c5 ?_)
        case c1 =>
          intro j u hj
          cases j with
          | zero => first | rfl | (simp at hj; subst hj; first | rfl | (rw [Addr.add_lit, cell_of_row _ _ _ _ _ _ (heap_alloc_new W3 _)]; rfl))
          | succ j => simp at hj
        case c2 => first | rfl | (intro u hu; simp at hu; subst hu; rfl)
        case c3 => unfold maxLen; omega
        case c4 => omega
        case c5 => first | omega | (simp; omega)
        intro v' w4 hown4 hg4 _
        have hg4b := hg4
        rw [← unhide hAl] at hown4 hg4b
        have hw4 := (unhide hw2).app hown4 hg4b
        clear hg4b
        rw [unhide hAl] at hown4
        obtain ⟨va', vc', rfl⟩ := own_shape hown4
        have hfarb : (Value.slice va k vc).ownBlock ≠ some b := fun e => by have := (hrow3.lt b e).1; omega
        have hkc : ∀ (o : Nat) (u : Value), W3.cell? ⟨b, o, none⟩ = some u → w4.cell? ⟨b, o, none⟩ = some u := fun o u hu => cell_grow2 ((Below.refl _ _).alloc (Nat.le_refl _) (Obj.cells #[vl xs] 9)) hg4 hu hfarb
        replace c1w := hkc _ _ c1w
        replace c2w := hkc _ _ c2w
        have y2 := hw4.d6.c0
        have y3 := hw4.d6.c1
        have y4 := hw4.d6.frz.1
        have y5 := hw4.d6.frz.2
        clear hkc hfarb hown4 hg4 hrow3 hw2 c1w
        replace hw4 := hide hw4
        cases xb with
        | true =>
          rw [if_pos rfl] at hsn
          go_wp2_with fail
          refine (unhide hsy w4).mono ?_
          rintro e w5 ⟨rfl, hb5⟩
          have hw5 := (unhide hw4).call hb5
          have y2 := hw5.d6.c0
          have y3 := hw5.d6.c1
          have y4 := hw5.d6.frz.1
          have y5 := hw5.d6.frz.2
          have hw6 := hw5.put (s ++ p2) []
          replace hw6 := hide hw6
          clear hw5 hb5 hw4 hsy
          unfold dk
          go_wp2_with fail
          go_roundw
          case rel => exact ⟨k + 1, by omega, by go_num, by rw [unhide hsn]; simp [unhide hAl], by rw [unhide hsn]; exact unhide hw6⟩
          case measure => simp [intOf]; omega
        | false =>
          rw [if_neg (by decide)] at hsn
          go_wp2_with fail
          go_roundw
          case rel => exact ⟨k + 1, by omega, by go_num, by rw [unhide hsn], by rw [unhide hsn]; exact unhide hw4⟩
          case measure => simp [intOf]; omega
    · obtain rfl : k = n := by omega
      have htk : L.take k = L := List.take_of_length_le (by omega)
      rw [htk] at hws hbd ⊢
      have hAl := hbd.2.2.1
      have y0 := hws.d6.c0
      have y1 := hws.d6.c1
      have y2 := hws.d2.c0
      have y3 := hws.d2.c1
      have y4 := hws.d2.frz.1
      have y5 := hws.d2.frz.2
      have hlo := hws.lo
      have hbel := hws.bel
      have hx2 : B ≤ x2 := hlo.1
      have hpost : ∀ wz, wz.ownsRow B 9 1 (.slice va (wrS L).2.2.1.length vc) (wrS L).2.2.1.length ((wrS L).2.2.1.map vl) → Below B w wz → WrPost L w (.returned (.tuple #[dk (wrS L).1 (wrS L).2.1, .slice va (wrS L).2.2.1.length vc, .int .i64 ((wrS L).2.2.2 : Int), .bool true])) wz := fun wz h1 h2 => ⟨_, rfl, by rw [unhide hB]; exact h1, by rw [unhide hB]; exact h2⟩
      have hrow := hws.row
      have hd2 := hws.d2
      obtain ⟨s, hs⟩ : ∃ s, (wrS L).1 = s := ⟨_, rfl⟩
      obtain ⟨p, hp⟩ : ∃ s, (wrS L).2.1 = s := ⟨_, rfl⟩
      obtain ⟨A, hA⟩ : ∃ s, (wrS L).2.2.1 = s := ⟨_, rfl⟩
      obtain ⟨f, hf⟩ : ∃ s, (wrS L).2.2.2 = s := ⟨_, rfl⟩
      simp only [hs, hp, hA, hf] at hpost y0 y1 hrow ⊢
      have hn2 : x2 ≠ x6 := hlo.2.2
      have t1 : ¬ (k : Int) < (k : Int) := by omega
      clear hws hs hp hA hf htk hbd hAl
      replace hpost := hide hpost; replace hrow := hide hrow; replace hbel := hide hbel; replace hd2 := hide hd2; replace hlo := hide hlo
      go_wp2_with fail
      refine bodyPost_ret (v := .tuple #[dk s p, .slice va A.length vc, .int .i64 (f : Int), .bool true]) (by unfold dk; simp [results, Try.results22, go_sem, y2, y3]) rfl (unhide hpost _ ?_ (((unhide hbel).setCell (p := ⟨x2, 0, none⟩) hx2 _).setCell (p := ⟨x2, 1, none⟩) hx2 _))
      refine own_same (unhide hrow) fun b hb => ?_
      have hne : b ≠ x2 := fun e => own_ne_blk (unhide hrow) (unhide hd2) (by decide) (by rw [hb, e])
      exact (Below.heap_setCell _ _ _ _ hne).trans (Below.heap_setCell _ _ _ _ hne)
end Go.Proofs.Ytcliegeooooonaa
