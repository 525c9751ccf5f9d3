/- SubstParts: rows of substitutions that are renamed one by one through a pointer. -/
import Derived.Test.YtmlnjbljdincjaaSbF
import Derived.Test.YtmlnjbljdincjaaSbPa
namespace Go.Proofs.Ytmlnjbljdincjaa
open Go.RowKit
def renIf (m j : Nat) (s : Sub) : Sub := if j < m then renSub s else s
/-- blocks that are none of the rows' -/
def SP (us : List Value) (w : World) (b : Nat) : Prop := b < w.heap.size ∧ ∀ u ∈ us, u.ownBlock ≠ some b
/-- a row of substitutions, the first m of which are renamed -/
def RowP (w : World) (B : Nat) (S : Nat → Prop) (u : Value) (x : List Sub) (m : Nat) : Prop :=
  (x.length = 0 ∧ u = .slice none 0 0) ∨ ∃ g c cs, u = .slice (some ⟨g, 0, none⟩) x.length c ∧ x.length ≤ c ∧ c ≤ maxLen ∧ B ≤ g ∧ w.heap[g]? = some (.cells cs 43 (0, 0)) ∧
    ∀ (j : Nat) (s : Sub), x[j]? = some s → ∃ vs, Enc.sub.rep w S vs (renIf m j s) ∧ ∀ (t : Nat) (v : Value), vs[t]? = some v → cs[j * 4 + t]? = some v
structure RenS (w W : World) (B : Nat) (v : Value) (us : List Value) (l : List (List Sub)) (f : Nat → Nat) : Prop where
  bel : Below B w W
  le : B ≤ W.heap.size
  out : W.ownsRow B 37 1 v us.length us
  len : us.length = l.length
  row : ∀ (k : Nat) (u : Value) (x : List Sub), us[k]? = some u → l[k]? = some x → RowP W B (SP us W) u x (f k)
  ap : ∀ (i j : Nat) (u u' : Value) b, us[i]? = some u → us[j]? = some u' → u.ownBlock = some b → u'.ownBlock = some b → i = j
theorem RowP.same {w w' : World} {B : Nat} {S S' : Nat → Prop} {u : Value} {x : List Sub} {m : Nat} (h : RowP w B S u x m) (hk : ∀ b, u.ownBlock = some b → w'.heap[b]? = w.heap[b]?) (hS : ∀ b, S b → w'.heap[b]? = w.heap[b]?) (hw : ∀ b, S b → S' b) : RowP w' B S' u x m := by
  rcases h with h | ⟨g, c, cs, rfl, h1, h2, h4, h5, h6⟩
  · exact .inl h
  · refine .inr ⟨g, c, cs, rfl, h1, h2, h4, (hk g rfl).trans h5, fun j s hs => ?_⟩
    obtain ⟨vs, h7, h8⟩ := h6 j s hs
    exact ⟨vs, Enc.sub.wide hw (Enc.sub.same hS h7), h8⟩
theorem RowP.upto {w : World} {B : Nat} {S : Nat → Prop} {u : Value} {x : List Sub} {m m' : Nat} (h : RowP w B S u x m) (h1 : x.length ≤ m) (h2 : x.length ≤ m') : RowP w B S u x m' := by
  rcases h with h | ⟨g, c, cs, rfl, q1, q2, h4, h5, h6⟩
  · exact .inl h
  · refine .inr ⟨g, c, cs, rfl, q1, q2, h4, h5, fun j s hs => ?_⟩
    have hj := (List.getElem?_eq_some_iff.1 hs).1
    have := h6 j s hs
    unfold renIf at this ⊢
    rw [if_pos (by omega)] at this ⊢
    exact this
theorem RowP.lt {w : World} {B : Nat} {S : Nat → Prop} {u : Value} {x : List Sub} {m b : Nat} (h : RowP w B S u x m) (hb : u.ownBlock = some b) : B ≤ b ∧ ∃ cs, w.heap[b]? = some (.cells cs 43 (0, 0)) := by
  rcases h with ⟨_, rfl⟩ | ⟨g, c, cs, rfl, q1, q2, h4, h5, h6⟩
  · cases hb
  · cases hb
    exact ⟨h4, cs, h5⟩
theorem RenS.start {w W : World} {v : Value} {us : List Value} {l : List (List Sub)} (h : FewO w W v us l) : RenS w W w.heap.size v us l (fun _ => 0) := by
  have hr := h.row
  refine ⟨h.bel, h.bel.size, h.out, hr.1, fun k u x hu hx => ?_, hr.2.2⟩
  obtain ⟨ys, h1, h2⟩ := hr.2.1 k u x hu hx
  have hlt : ∀ q ∈ us, ∀ b, q.ownBlock = some b → w.heap.size ≤ b := fun q hq b hb => (hr.lt hq hb).1
  rcases h1.2 with ⟨rfl, h0⟩ | ⟨g, cap, cur, rfl, hbg, hg, hn, hc, hcs, ht⟩
  · exact .inl ⟨h0, rfl⟩
  · refine .inr ⟨_, cap, cur, rfl, hn, hc, hbg, hg, fun j s hs => ?_⟩
    obtain ⟨vs, h3, h4⟩ := h2.at_ j s hs
    refine ⟨vs, Enc.sub.wide (fun b hb => ⟨Nat.lt_of_lt_of_le hb h.bel.size, fun q hq e => by have := hlt q hq b e; omega⟩) h3, fun t v hv => ?_⟩
    have hcell := h1.cells (g := g) rfl _ v (h4 t v hv)
    rw [Addr.add_lit, Nat.zero_add, cell_of_row _ _ _ _ _ _ hg] at hcell
    exact hcell
theorem RenS.at_ {w W : World} {B : Nat} {v : Value} {us : List Value} {l : List (List Sub)} {f : Nat → Nat} (h : RenS w W B v us l f) {u : Value} (hu : u ∈ us) : ∃ (k : Nat) (x : List Sub), us[k]? = some u ∧ l[k]? = some x ∧ RowP W B (SP us W) u x (f k) := by
  obtain ⟨k, hk, rfl⟩ := List.mem_iff_getElem.1 hu
  have hl := h.len
  exact ⟨k, l[k]'(by omega), List.getElem?_eq_getElem hk, List.getElem?_eq_getElem _, h.row k _ _ (List.getElem?_eq_getElem hk) (List.getElem?_eq_getElem _)⟩
theorem RenS.below {w W W' : World} {B : Nat} {v : Value} {us : List Value} {l : List (List Sub)} {f : Nat → Nat} (h : RenS w W B v us l f) (hb : Below W.heap.size W W') : RenS w W' B v us l f := by
  refine ⟨h.bel.trans (hb.mono h.le), Nat.le_trans h.le hb.size, own_belowb h.out hb, h.len, fun k u x hu hx => ?_, h.ap⟩
  have hr := h.row k u x hu hx
  refine hr.same (fun b hb' => ?_) (fun b hb' => hb.block b hb'.1) (fun b hb' => ⟨Nat.lt_of_lt_of_le hb'.1 hb.size, hb'.2⟩)
  obtain ⟨_, cs, h1⟩ := hr.lt hb'
  exact hb.block b (Array.getElem?_eq_some_iff.1 h1).1
theorem RenS.full {w W : World} {B : Nat} {v : Value} {us : List Value} {l : List (List Sub)} {f f' : Nat → Nat} (h : RenS w W B v us l f) (hf : ∀ (k : Nat) x, l[k]? = some x → f k = f' k ∨ (x.length ≤ f k ∧ x.length ≤ f' k)) : RenS w W B v us l f' :=
  ⟨h.bel, h.le, h.out, h.len, fun k u x hu hx => by
    rcases hf k x hx with e | ⟨e1, e2⟩
    · rw [← e]
      exact h.row k u x hu hx
    · exact (h.row k u x hu hx).upto e1 e2, h.ap⟩
/-- the row at k: where it lies, and the substitution at i, not renamed yet -/
theorem RenS.sub {w W : World} {B : Nat} {v : Value} {us : List Value} {l : List (List Sub)} {f : Nat → Nat} (h : RenS w W B v us l f) {k i : Nat} {x : List Sub} {s : Sub} (hx : l[k]? = some x) (hs : x[i]? = some s) (hi : f k = i) :
    ∃ g c a1 n1 c1 a2 n2 c2 a3 n3 c3, us[k]? = some (.slice (some ⟨g, 0, none⟩) x.length c) ∧ B ≤ g ∧ (∃ cs, W.heap[g]? = some (.cells cs 43 (0, 0))) ∧ (n1 ≤ c1 ∧ c1 ≤ maxLen ∧ Lst Enc.int W (SP us W) a1 n1 s.1) ∧ (n2 ≤ c2 ∧ c2 ≤ maxLen ∧ Lst Enc.int W (SP us W) a2 n2 s.2.1) ∧ (n3 ≤ c3 ∧ c3 ≤ maxLen ∧ Lst Enc.int W (SP us W) a3 n3 s.2.2.1) ∧
      W.cell? ⟨g, i * 4, none⟩ = some (.slice a1 n1 c1) ∧ W.cell? ⟨g, i * 4 + 1, none⟩ = some (.slice a2 n2 c2) ∧ W.cell? ⟨g, i * 4 + 2, none⟩ = some (.slice a3 n3 c3) ∧ W.cell? ⟨g, i * 4 + 3, none⟩ = some (.int .i64 s.2.2.2) := by
  have hk := (List.getElem?_eq_some_iff.1 hx).1
  have hl := h.len
  have hu : us[k]? = some (us[k]'(by omega)) := List.getElem?_eq_getElem _
  have hip := (List.getElem?_eq_some_iff.1 hs).1
  rcases h.row k _ x hu hx with ⟨h0, _⟩ | ⟨g, c, cs, he, q1, q2, h4, h5, h6⟩
  · omega
  · obtain ⟨vs, h7, h8⟩ := h6 i s hs
    unfold renIf at h7
    rw [if_neg (by omega)] at h7
    obtain ⟨a1, n1, c1, a2, n2, c2, a3, n3, c3, rfl, p1, p2, p3, hto⟩ := sub_rep h7
    refine ⟨g, c, a1, n1, c1, a2, n2, c2, a3, n3, c3, by rw [hu, he], h4, ⟨cs, h5⟩, p1, p2, p3, ?_, ?_, ?_, ?_⟩
    · exact (cell_of_row _ _ _ _ _ _ h5).trans (h8 0 _ rfl)
    · exact (cell_of_row _ _ _ _ _ _ h5).trans (h8 1 _ rfl)
    · exact (cell_of_row _ _ _ _ _ _ h5).trans (h8 2 _ rfl)
    · exact (cell_of_row _ _ _ _ _ _ h5).trans (h8 3 _ rfl)
/-- four cells of a block are written -/
def put4 (w : World) (g o : Nat) (v0 v1 v2 v3 : Value) : World := (((w.setCell ⟨g, o, none⟩ v0).setCell ⟨g, o + 1, none⟩ v1).setCell ⟨g, o + 2, none⟩ v2).setCell ⟨g, o + 3, none⟩ v3
theorem put4_grown (w : World) (g o : Nat) (v0 v1 v2 v3 : Value) : w.grownBy (put4 w g o v0 v1 v2 v3) (some g) := by
  have h1 := grown_set (w := w) g o v0
  have h2 := grown_set (w := w.setCell ⟨g, o, none⟩ v0) g (o + 1) v1
  have h3 := grown_set (w := (w.setCell ⟨g, o, none⟩ v0).setCell ⟨g, o + 1, none⟩ v1) g (o + 2) v2
  have h4 := grown_set (w := ((w.setCell ⟨g, o, none⟩ v0).setCell ⟨g, o + 1, none⟩ v1).setCell ⟨g, o + 2, none⟩ v2) g (o + 3) v3
  exact ⟨rfl, rfl, rfl, Nat.le_trans h1.size (Nat.le_trans h2.size (Nat.le_trans h3.size h4.size)), fun b hb hne => by
    have e1 := h1.block b hb hne
    have e2 := h2.block b (Nat.lt_of_lt_of_le hb h1.size) hne
    have e3 := h3.block b (Nat.lt_of_lt_of_le hb (Nat.le_trans h1.size h2.size)) hne
    have e4 := h4.block b (Nat.lt_of_lt_of_le hb (Nat.le_trans h1.size (Nat.le_trans h2.size h3.size))) hne
    exact e4.trans (e3.trans (e2.trans e1))⟩
theorem put4_heap {w : World} {g : Nat} {T : TypeId} {cs : Array Value} (h : w.heap[g]? = some (.cells cs T (0, 0))) (o : Nat) (v0 v1 v2 v3 : Value) : (put4 w g o v0 v1 v2 v3).heap[g]? = some (.cells ((((cs.setIfInBounds o v0).setIfInBounds (o + 1) v1).setIfInBounds (o + 2) v2).setIfInBounds (o + 3) v3) T (0, 0)) :=
  heap_set (heap_set (heap_set (heap_set h v0) v1) v2) v3
theorem RenS.push {w W W1 : World} {B g c i k : Nat} {v r1 r2 r3 : Value} {us : List Value} {l : List (List Sub)} {x : List Sub} {s : Sub} {f : Nat → Nat} {tv : Int} (h : RenS w W B v us l f) (hx : l[k]? = some x) (hs : x[i]? = some s) (hi : f k = i) (hu : us[k]? = some (.slice (some ⟨g, 0, none⟩) x.length c)) (hb : Below W.heap.size W W1)
    (hr : Enc.sub.rep W1 (fun b => W.heap.size ≤ b ∧ b < W1.heap.size) [r1, r2, r3, .int .i64 tv] (renSub s)) : RenS w (put4 W1 g (i * 4) r1 r2 r3 (.int .i64 tv)) B v us l (fun k' => if k' = k then i + 1 else f k') := by
  have h1 := h.below hb
  have hg := put4_grown W1 g (i * 4) r1 r2 r3 (.int .i64 tv)
  have hrow := h1.row k _ x hu hx
  obtain ⟨hBg, cs, hcs⟩ := hrow.lt (b := g) rfl
  have hgW : g < W.heap.size := by
    obtain ⟨_, cs', hcs'⟩ := (h.row k _ x hu hx).lt (b := g) rfl
    exact (Array.getElem?_eq_some_iff.1 hcs').1
  have hmem : .slice (some ⟨g, 0, none⟩) x.length c ∈ us := List.mem_of_getElem? hu
  have hS : ∀ b, SP us W1 b → (put4 W1 g (i * 4) r1 r2 r3 (.int .i64 tv)).heap[b]? = W1.heap[b]? := fun b hb' => hg.block b hb'.1 (fun e => hb'.2 _ hmem e.symm)
  have hSw : ∀ b, SP us W1 b → SP us (put4 W1 g (i * 4) r1 r2 r3 (.int .i64 tv)) b := fun b hb' => ⟨Nat.lt_of_lt_of_le hb'.1 hg.size, hb'.2⟩
  have hrS : ∀ b, (W.heap.size ≤ b ∧ b < W1.heap.size) → SP us W1 b := fun b hb' => ⟨hb'.2, fun u hu' e => by
    obtain ⟨k', x', _, _, hr'⟩ := h.at_ hu'
    obtain ⟨_, cs', hcs'⟩ := hr'.lt e
    have := (Array.getElem?_eq_some_iff.1 hcs').1
    omega⟩
  refine ⟨h1.bel.trans ⟨hg.os, hg.tape, hg.output, hg.size, fun b hb' => hg.block b (Nat.lt_of_lt_of_le hb' h1.le) (fun e => by injection e; omega)⟩, Nat.le_trans h1.le hg.size, ?_, h1.len, fun k' u x' hu' hx' => ?_, h1.ap⟩
  · exact own_same h1.out (fun b hb' => hg.block b (h1.out.lt b hb').2 (fun e => by injection e with e; subst e; exact own_ne_blk h1.out hcs (by decide) hb'))
  · by_cases hkk : k' = k
    · subst hkk
      obtain rfl := Option.some.inj (hx'.symm.trans hx)
      obtain rfl := Option.some.inj (hu'.symm.trans hu)
      rcases hrow with ⟨h0, _⟩ | ⟨g', c', cs', he, q1, q2, h4, h5, h6⟩
      · have := (List.getElem?_eq_some_iff.1 hs).1
        omega
      · cases he
        refine .inr ⟨g, c, _, rfl, q1, q2, h4, put4_heap h5 _ _ _ _ _, fun j t hj => ?_⟩
        rw [if_pos rfl]
        by_cases hji : j = i
        · subst hji
          obtain rfl := Option.some.inj (hj.symm.trans hs)
          obtain ⟨vs, h7, h8⟩ := h6 j t hj
          have hlen := Enc.sub.len h7
          have hsz : j * 4 + 3 < cs'.size := by
            have h9 : vs[3]? = some (vs[3]'(by rw [hlen]; decide)) := List.getElem?_eq_getElem _
            exact (Array.getElem?_eq_some_iff.1 (h8 3 _ h9)).1
          have e : renIf (j + 1) j t = renSub t := if_pos (by omega)
          rw [e]
          refine ⟨[r1, r2, r3, .int .i64 tv], Enc.sub.wide hSw (Enc.sub.same hS (Enc.sub.wide hrS hr)), fun q v hv => ?_⟩
          have hq := (List.getElem?_eq_some_iff.1 hv).1
          simp at hq
          obtain rfl | rfl | rfl | rfl : q = 0 ∨ q = 1 ∨ q = 2 ∨ q = 3 := by omega
          · cases hv
            simp only [Array.getElem?_setIfInBounds, Array.size_setIfInBounds]
            rw [if_neg (by omega), if_neg (by omega), if_neg (by omega)]
            first | exact (if_pos rfl).trans (if_pos (by omega)) | exact (if_pos trivial).trans (if_pos (by omega))
          · cases hv
            simp only [Array.getElem?_setIfInBounds, Array.size_setIfInBounds]
            rw [if_neg (by omega), if_neg (by omega)]
            first | exact (if_pos rfl).trans (if_pos (by omega)) | exact (if_pos trivial).trans (if_pos (by omega))
          · cases hv
            simp only [Array.getElem?_setIfInBounds, Array.size_setIfInBounds]
            rw [if_neg (by omega)]
            first | exact (if_pos rfl).trans (if_pos (by omega)) | exact (if_pos trivial).trans (if_pos (by omega))
          · cases hv
            simp only [Array.getElem?_setIfInBounds, Array.size_setIfInBounds]
            first | exact (if_pos rfl).trans (if_pos (by omega)) | exact (if_pos trivial).trans (if_pos (by omega))
        · obtain ⟨vs, h7, h8⟩ := h6 j t hj
          have e : renIf (i + 1) j t = renIf (f k') j t := by unfold renIf; rw [hi]; by_cases h : j < i <;> simp [h] <;> omega
          rw [e]
          have hlen := Enc.sub.len h7
          refine ⟨vs, Enc.sub.wide hSw (Enc.sub.same hS h7), fun q v hv => ?_⟩
          have hq := (List.getElem?_eq_some_iff.1 hv).1
          rw [hlen] at hq
          have hq4 : q < 4 := hq
          simp only [Array.getElem?_setIfInBounds]
          rw [if_neg (by omega), if_neg (by omega), if_neg (by omega), if_neg (by omega)]
          exact h8 q v hv
    · rw [if_neg hkk]
      have hr' := h1.row k' u x' hu' hx'
      refine hr'.same (fun b hb' => hg.block b ?_ (fun e => ?_)) hS hSw
      · obtain ⟨_, cs', hcs'⟩ := hr'.lt hb'
        exact (Array.getElem?_eq_some_iff.1 hcs').1
      · injection e with e
        subst e
        exact hkk (h1.ap k' k u _ b hu' hu hb' rfl)
/-- all of them are renamed -/
theorem RenS.lst {w W : World} {B : Nat} {v : Value} {us : List Value} {l : List (List Sub)} {f : Nat → Nat} (h : RenS w W B v us l f) (hf : ∀ (k : Nat) x, l[k]? = some x → x.length ≤ f k) : ∃ a c, v = .slice a l.length c ∧ Lst Enc.lk W (· < W.heap.size) a l.length (renL l) := by
  have hl := h.len
  have hfl : Flat Enc.lk W (· < W.heap.size) us (renL l) := flat_of (by unfold renL; rw [List.length_map]; exact hl) (fun k u x hu hx => by
    unfold renL at hx
    rw [List.getElem?_map] at hx
    obtain ⟨y, hy, rfl⟩ := Option.map_eq_some_iff.1 hx
    have hfk := hf k y hy
    rcases h.row k u y hu hy with ⟨h0, rfl⟩ | ⟨g, c, cs, rfl, q1, q2, h4, h5, h6⟩
    · have : y = [] := List.eq_nil_of_length_eq_zero h0
      subst this
      exact ⟨none, 0, 0, rfl, Nat.le_refl _, Nat.zero_le _, Lst.nil _ _ _ _⟩
    · have hyl : (renX y).length = y.length := by unfold renX; rw [List.length_map]
      refine ⟨some ⟨g, 0, none⟩, y.length, c, rfl, q1, q2, hyl, fun _ => ⟨g, 0, rfl, (Array.getElem?_eq_some_iff.1 h5).1, fun j s hs => ?_⟩⟩
      unfold renX at hs
      rw [List.getElem?_map] at hs
      obtain ⟨t, ht, rfl⟩ := Option.map_eq_some_iff.1 hs
      obtain ⟨vs, h7, h8⟩ := h6 j t ht
      have hj := (List.getElem?_eq_some_iff.1 ht).1
      have e : renIf (f k) j t = renSub t := if_pos (by omega)
      rw [e] at h7
      refine ⟨vs, Enc.sub.wide (fun b hb => hb.1) h7, fun q v hv => ?_⟩
      rw [cell_of_row _ _ _ _ _ _ h5, Nat.zero_add]
      exact h8 q v hv)
  have ho := h.out
  rw [hl] at ho
  have hln : (renL l).length = l.length := by unfold renL; rw [List.length_map]
  rcases ho.2 with ⟨rfl, h0⟩ | ⟨g, cap, cur, rfl, hbg, hg, hn, hc, hcs, ht⟩
  · have : l = [] := List.eq_nil_of_length_eq_zero h0
    subst this
    exact ⟨none, 0, rfl, Lst.nil _ _ _ _⟩
  · refine ⟨_, cap, rfl, hln, fun _ => ⟨g, 0, rfl, (Array.getElem?_eq_some_iff.1 hg).1, fun i x hx => ?_⟩⟩
    obtain ⟨vs, h1, h2⟩ := hfl.at_ i x hx
    refine ⟨vs, h1, fun j u hj => ?_⟩
    have hcell := ho.cells (g := g) rfl _ u (h2 j u hj)
    rw [Addr.add_lit] at hcell
    rw [← hcell, Nat.add_assoc]
def st1 (b : Bool) (g o : Nat) (v : Value) (w : World) : World := if b = true then w.setCell ⟨g, o, none⟩ v else w
/-- the worlds of the region that renames a substitution: three of the four stores may have run -/
structure CP (W : World) (g o : Nat) (LL : Nat → Bool) (vs : Nat → Value) (w' : World) : Prop where
  un : ∀ j, LL j = false → vs j = undef
  st : ∃ wz, Below W.heap.size W wz ∧ w' = st1 (LL 33) g (o + 2) (vs 18) (st1 (LL 30) g (o + 1) (vs 13) (st1 (LL 27) g o (vs 8) wz))
  b1 : LL 27 = true → ∀ j ∈ [7, 8, 12, 13, 17, 18, 22], LL j = true
  b2 : LL 30 = true → LL 27 = true
  b3 : LL 33 = true → LL 30 = true
section
variable {W w w2 : World} {g o : Nat} {LL : Nat → Bool} {vs : Nat → Value}
theorem CP.start (W : World) (g o : Nat) : CP W g o (fun _ => false) (fun _ => undef) { W with drawn := W.drawn + 1 } :=
  ⟨fun _ _ => rfl, ⟨_, (Below.refl _ _).drew, rfl⟩, fun h => Bool.noConfusion h, fun h => Bool.noConfusion h, fun h => Bool.noConfusion h⟩
theorem CP.undo (h : CP W g o LL vs w) (i : Nat) (v : Value) : ∀ j, (LL j || j == i) = false → (if j = i then v else vs j) = undef := fun j hj => by
  rw [Bool.or_eq_false_iff] at hj
  rw [if_neg (by simpa using hj.2)]
  exact h.un j hj.1
theorem CP.keep (h : CP W g o LL vs w) (i : Nat) (v : Value) (hi : ∀ j ∈ [8, 13, 18, 27, 30, 33], j ≠ i) : CP W g o (fun j => LL j || j == i) (fun j => if j = i then v else vs j) w := by
  have hb : ∀ j ∈ [8, 13, 18, 27, 30, 33], (LL j || j == i) = LL j := fun j hj => by
    have := hi j hj
    rw [beq_eq_false_iff_ne.2 this, Bool.or_false]
  have hv : ∀ j ∈ [8, 13, 18, 27, 30, 33], (if j = i then v else vs j) = vs j := fun j hj => if_neg (hi j hj)
  obtain ⟨wz, h1, h2⟩ := h.st
  refine ⟨h.undo i v, ⟨wz, h1, ?_⟩, fun e => ?_, fun e => ?_, fun e => ?_⟩
  · rw [hb 33 (by decide), hb 30 (by decide), hb 27 (by decide), hv 18 (by decide), hv 13 (by decide), hv 8 (by decide)]
    exact h2
  · rw [hb 27 (by decide)] at e
    intro j hj
    rw [h.b1 e j hj, Bool.true_or]
  · rw [hb 30 (by decide)] at e
    rw [hb 27 (by decide)]
    exact h.b2 e
  · rw [hb 33 (by decide)] at e
    rw [hb 30 (by decide)]
    exact h.b3 e
theorem CP.calm (h : CP W g o LL vs w) (h27 : LL 27 = false) : Below W.heap.size W w ∧ LL 30 = false ∧ LL 33 = false := by
  have h30 : LL 30 = false := by
    cases e : LL 30 with
    | false => rfl
    | true => have := h.b2 e; rw [h27] at this; cases this
  have h33 : LL 33 = false := by
    cases e : LL 33 with
    | false => rfl
    | true => have := h.b3 e; rw [h30] at this; cases this
  obtain ⟨wz, h1, h2⟩ := h.st
  rw [h27, h30, h33] at h2
  simp only [st1, Bool.false_eq_true, if_false] at h2
  rw [h2]
  exact ⟨h1, h30, h33⟩
theorem CP.early (h : CP W g o LL vs w) {j : Nat} (hj : LL j = false) (hm : j ∈ [7, 8, 12, 13, 17, 18, 22]) : LL 27 = false := by
  cases e : LL 27 with
  | false => rfl
  | true => have := h.b1 e j hm; rw [hj] at this; cases this
theorem CP.call (h : CP W g o LL vs w) (i : Nat) (v : Value) (hi : LL i = false) (hm : i ∈ [8, 13, 18]) (hb : Below w.heap.size w w2) : CP W g o (fun j => LL j || j == i) (fun j => if j = i then v else vs j) w2 := by
  have h27 := h.early hi (by simp at hm ⊢; omega)
  obtain ⟨h1, h30, h33⟩ := h.calm h27
  have hne : ∀ j ∈ [27, 30, 33], (j == i) = false := fun j hj => by
    rw [beq_eq_false_iff_ne]
    simp at hm hj
    omega
  have e27 : (LL 27 || 27 == i) = false := by rw [h27, hne 27 (by decide)]; rfl
  have e30 : (LL 30 || 30 == i) = false := by rw [h30, hne 30 (by decide)]; rfl
  have e33 : (LL 33 || 33 == i) = false := by rw [h33, hne 33 (by decide)]; rfl
  refine ⟨h.undo i v, ⟨w2, h1.trans (hb.mono h1.size), ?_⟩, fun e => ?_, fun e => ?_, fun e => ?_⟩
  · rw [e27, e30, e33]
    rfl
  · rw [e27] at e; cases e
  · rw [e30] at e; cases e
  · rw [e33] at e; cases e
theorem CP.ran (h : CP W g o LL vs w) {j : Nat} (hj : vs j ≠ undef) : LL j = true := by
  cases e : LL j with
  | true => rfl
  | false => exact absurd (h.un j e) hj
theorem CP.s27 (h : CP W g o LL vs w) (v : Value) (hi : LL 27 = false) (hv : ∀ j ∈ [7, 8, 12, 13, 17, 18, 22], vs j ≠ undef) : CP W g o (fun j => LL j || j == 27) (fun j => if j = 27 then v else vs j) (w.setCell ⟨g, o, none⟩ (vs 8)) := by
  obtain ⟨h1, h30, h33⟩ := h.calm hi
  refine ⟨h.undo 27 v, ⟨w, h1, ?_⟩, fun _ j hj => ?_, fun e => ?_, fun e => ?_⟩
  · simp [st1, h30, h33]
  · rw [h.ran (hv j hj), Bool.true_or]
  · simp
  · simp [h33] at e
theorem CP.s30 (h : CP W g o LL vs w) (v : Value) (hi : LL 30 = false) (hv : vs 27 ≠ undef) : CP W g o (fun j => LL j || j == 30) (fun j => if j = 30 then v else vs j) (w.setCell ⟨g, o + 1, none⟩ (vs 13)) := by
  have h27 := h.ran hv
  have h33 : LL 33 = false := by
    cases e : LL 33 with
    | false => rfl
    | true => have := h.b3 e; rw [hi] at this; cases this
  obtain ⟨wz, h1, h2⟩ := h.st
  rw [hi, h27, h33] at h2
  simp only [st1, Bool.false_eq_true, if_false, if_true] at h2
  refine ⟨h.undo 30 v, ⟨wz, h1, ?_⟩, fun _ j hj => ?_, fun e => ?_, fun e => ?_⟩
  · simp [st1, h27, h33, h2]
  · rw [h.b1 h27 j hj, Bool.true_or]
  · simp [h27]
  · simp [h33] at e
theorem CP.s33 (h : CP W g o LL vs w) (v : Value) (hi : LL 33 = false) (hv : vs 30 ≠ undef) : CP W g o (fun j => LL j || j == 33) (fun j => if j = 33 then v else vs j) (w.setCell ⟨g, o + 2, none⟩ (vs 18)) := by
  have h30 := h.ran hv
  have h27 := h.b2 h30
  obtain ⟨wz, h1, h2⟩ := h.st
  rw [hi, h27, h30] at h2
  simp only [st1, Bool.false_eq_true, if_false, if_true] at h2
  refine ⟨h.undo 33 v, ⟨wz, h1, ?_⟩, fun _ j hj => ?_, fun e => ?_, fun e => ?_⟩
  · simp [st1, h27, h30, h2]
  · rw [h.b1 h27 j hj, Bool.true_or]
  · simp [h27]
  · simp [h30]
/-- the block of the row in whatever world of the region -/
theorem CP.blk (h : CP W g o LL vs w) {cs : Array Value} {T : TypeId} (hg : W.heap[g]? = some (.cells cs T (0, 0))) : ∃ cs', w.heap[g]? = some (.cells cs' T (0, 0)) ∧ cs'.size = cs.size := by
  obtain ⟨wz, h1, rfl⟩ := h.st
  have h0 : wz.heap[g]? = some (.cells cs T (0, 0)) := (h1.block g (Array.getElem?_eq_some_iff.1 hg).1).trans hg
  have step : ∀ (w : World) (b : Bool) (o : Nat) (v : Value), (∃ cs', w.heap[g]? = some (.cells cs' T (0, 0)) ∧ cs'.size = cs.size) → ∃ cs', (st1 b g o v w).heap[g]? = some (.cells cs' T (0, 0)) ∧ cs'.size = cs.size := fun w b o v ⟨cs', q1, q2⟩ => by
    unfold st1
    split
    · exact ⟨_, heap_set q1 v, by rw [Array.size_setIfInBounds]; exact q2⟩
    · exact ⟨cs', q1, q2⟩
  exact step _ _ _ _ (step _ _ _ _ (step _ _ _ _ ⟨cs, h0, rfl⟩))
theorem CP.fin (h : CP W g o LL vs w) (h27 : LL 27 = true) (h30 : LL 30 = true) (h33 : LL 33 = true) : ∃ wz, Below W.heap.size W wz ∧ w = ((wz.setCell ⟨g, o, none⟩ (vs 8)).setCell ⟨g, o + 1, none⟩ (vs 13)).setCell ⟨g, o + 2, none⟩ (vs 18) ∧ wz.heap.size = w.heap.size ∧ ∀ b, b ≠ g → wz.heap[b]? = w.heap[b]? := by
  obtain ⟨wz, h1, h2⟩ := h.st
  rw [h27, h30, h33] at h2
  simp only [st1, if_true] at h2
  refine ⟨wz, h1, h2, by rw [h2, World.size_setCell, World.size_setCell, World.size_setCell], fun b hb => ?_⟩
  have step : ∀ (w : World) (o : Nat) (v : Value), (w.setCell ⟨g, o, none⟩ v).heap[b]? = w.heap[b]? := fun w o v => by
    rcases Nat.lt_or_ge b w.heap.size with hlt | hge
    · exact (grown_set (w := w) g o v).block b hlt (fun e => by injection e; omega)
    · rw [Array.getElem?_eq_none hge, Array.getElem?_eq_none (by rw [World.size_setCell]; exact hge)]
  rw [h2, step, step, step]
theorem st1_size (b : Bool) (g o : Nat) (v : Value) (w : World) : (st1 b g o v w).heap.size = w.heap.size := by
  unfold st1
  split
  · exact World.size_setCell ..
  · rfl
theorem CP.size (h : CP W g o LL vs w) : W.heap.size ≤ w.heap.size := by
  obtain ⟨wz, h1, rfl⟩ := h.st
  rw [st1_size, st1_size, st1_size]
  exact h1.size
end
end Go.Proofs.Ytmlnjbljdincjaa
