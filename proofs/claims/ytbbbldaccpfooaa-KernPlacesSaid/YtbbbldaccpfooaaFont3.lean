/- The made font's tables: lookups and kerning pairs. -/
import Derived.Test.YtbbbldaccpfooaaFont1
namespace Go.Proofs.Ytbbbldaccpfooaa
open Go.RowKit

theorem T.info3 : (Try.prog.info? 3).map (fun i => (i.zero, i.size, i.bytes)) = some (some (.int .i64 0), 1, 8) := by kernel_rfl
theorem T.info53 : (Try.prog.info? 53).map (fun i => (i.zero, i.size, i.bytes)) = some (some (.agg #[.int .i64 0, .int .i64 0, .int .i64 0]), 3, 24) := by kernel_rfl
theorem T.info102 : (Try.prog.info? 102).map (fun i => (i.zero, i.size, i.bytes)) = some (some (.agg #[.slice none 0 0, .slice none 0 0, .slice none 0 0, .int .i64 0]), 4, 80) := by kernel_rfl
theorem T.info100 : (Try.prog.info? 100).map (fun i => (i.zero, i.size, i.bytes)) = some (some (.agg #[.slice none 0 0]), 1, 24) := by kernel_rfl

theorem grownBy_set (w : World) (g o : Nat) (u : Value) : w.grownBy (w.setCell ⟨g, o, none⟩ u) (some g) :=
  ⟨rfl, rfl, rfl, by simp [World.setCell], fun k _ hk => Below.heap_setCell w _ _ _ (fun e => hk (by rw [e]))⟩

/-- Kerning pairs as cells. -/
def kcells (ks : List (Int × Int × Int)) : List Value := ks.flatMap fun k => [.int .i64 k.1, .int .i64 k.2.1, .int .i64 k.2.2]

/-- What stays while the lookups are made: the font's box, the result's box, the row of lookups, the draw. -/
structure Keep (w wr : World) (b : Nat) (S : Nat → Prop) (c0 c1 c2 c3 c4 v5 : Value) (n5 : Nat) (xs5 : List Value) : Prop where
  font : wr.heap[w.heap.size]? = some (.cells #[c0, c1, c2, c3, c4, v5, .slice none 0 0] 33 (0, 0))
  res : ∃ z0 z1 z2 z3 z4 z5 z6, wr.heap[w.heap.size + 1]? = some (.cells #[z0, z1, z2, z3, z4, z5, z6] 33 (0, 0))
  row : wr.ownsRow (w.heap.size + 2) 100 1 v5 n5 xs5
  draw : DrawAt wr b S
  grown : w.grownBy wr (some b)
  size : w.heap.size + 2 ≤ wr.heap.size
  old : b < w.heap.size

section
variable {w wr w' : World} {b : Nat} {S : Nat → Prop} {c0 c1 c2 c3 c4 v5 : Value} {n5 : Nat} {xs5 : List Value}
theorem Keep.next (h : Keep w wr b S c0 c1 c2 c3 c4 v5 n5 xs5) (hg : wr.grownBy w' (some b)) (hd : DrawAt w' b S) : Keep w w' b S c0 c1 c2 c3 c4 v5 n5 xs5 := by
  have hs := h.size; have ho := h.old
  obtain ⟨z0, z1, z2, z3, z4, z5, z6, hr⟩ := h.res
  exact ⟨(hg.block _ (by omega) (fun e => by injection e; omega)).trans h.font, ⟨z0, z1, z2, z3, z4, z5, z6, (hg.block _ (by omega) (fun e => by injection e; omega)).trans hr⟩,
    h.row.kept hg (.inr (h.draw.own_ne h.row (by decide))), hd, grown_trans h.grown hg, Nat.le_trans hs hg.size, ho⟩
theorem Keep.own (h : Keep w wr b S c0 c1 c2 c3 c4 v5 n5 xs5) (hS : ∀ c, S c → c < w.heap.size) {row : Option Nat} (hg : wr.grownBy w' row) (hr : ∀ g, row = some g → w.heap.size + 2 ≤ g ∧ v5.ownBlock ≠ some g) : Keep w w' b S c0 c1 c2 c3 c4 v5 n5 xs5 := by
  have hs := h.size; have ho := h.old
  obtain ⟨z0, z1, z2, z3, z4, z5, z6, hz⟩ := h.res
  have hne : ∀ k, k < w.heap.size + 2 → some k ≠ row := fun k hk e => by have := (hr k e.symm).1; omega
  refine ⟨(hg.block _ (by omega) (hne _ (by omega))).trans h.font, ⟨z0, z1, z2, z3, z4, z5, z6, (hg.block _ (by omega) (hne _ (by omega))).trans hz⟩, h.row.kept hg ?_, ?_, grown_own h.grown hg (fun g e => by have := (hr g e).1; omega), Nat.le_trans hs hg.size, ho⟩
  · cases hv : v5.ownBlock with
    | none => exact .inl rfl
    | some k => exact .inr (fun e => (hr k e.symm).2 hv)
  · exact h.draw.same (hg.block _ (by omega) (hne _ (by omega))) (fun c hc => hg.block c (by have := hS c hc; omega) (hne _ (by have := hS c hc; omega)))
theorem Keep.alloc (h : Keep w wr b S c0 c1 c2 c3 c4 v5 n5 xs5) (hS : ∀ c, S c → c < w.heap.size) (o : Obj) : Keep w (wr.alloc o) b S c0 c1 c2 c3 c4 v5 n5 xs5 :=
  h.own hS (World.grownBy_alloc _ o none) (fun g e => by cases e)
end

theorem Keep.store {w wq w9 : World} {b : Nat} {S : Nat → Prop} {c0 c1 c2 c3 c4 u5 u5' : Value} {k k' : Nat} {xs xs' : List Value} {o : Obj} (hS : ∀ c, S c → c < w.heap.size)
    (hK : Keep w wq b S c0 c1 c2 c3 c4 u5 k xs) (hg : (wq.alloc o).grownBy w9 u5.ownBlock) (hrow : w9.ownsRow (w.heap.size + 2) 100 1 u5' k' xs') :
    Keep w (w9.setCell ⟨w.heap.size, 5, none⟩ u5') b S c0 c1 c2 c3 c4 u5' k' xs' := by
  have hs := hK.size; have ho := hK.old
  have hlt : ∀ g, u5.ownBlock = some g → w.heap.size + 2 ≤ g := fun g e => (hK.row.lt g e).1
  have hne : ∀ i, i < w.heap.size + 2 → some i ≠ u5.ownBlock := fun i hi e => by have := hlt i e.symm; omega
  obtain ⟨z0, z1, z2, z3, z4, z5, z6, hz⟩ := hK.res
  have hf9 := (hg.block w.heap.size (by rw [World.size_alloc]; omega) (hne _ (by omega))).trans ((Below.heap_alloc _ _ _ (by omega)).trans hK.font)
  have hz9 := (hg.block (w.heap.size + 1) (by rw [World.size_alloc]; omega) (hne _ (by omega))).trans ((Below.heap_alloc _ _ _ (by omega)).trans hz)
  have hd9 : DrawAt w9 b S := (hK.alloc hS o).draw.same (hg.block b (by rw [World.size_alloc]; omega) (hne _ (by omega))) (fun c hc => hg.block c (by have := hS c hc; rw [World.size_alloc]; omega) (hne _ (by have := hS c hc; omega)))
  refine ⟨heap_set hf9 _, ⟨z0, z1, z2, z3, z4, z5, z6, (Below.heap_setCell w9 _ _ _ (by show w.heap.size + 1 ≠ w.heap.size; omega)).trans hz9⟩, hrow.kept (grownBy_set w9 w.heap.size 5 u5') (.inr (own_ne_blk hrow hf9 (by decide))),
    hd9.same (Below.heap_setCell w9 _ _ _ (by show b ≠ w.heap.size; omega)) (fun c hc => Below.heap_setCell w9 _ _ _ (by have := hS c hc; show c ≠ w.heap.size; omega)), ?_, ?_, ho⟩
  · exact grown_own (grown_own (grown_trans hK.grown (World.grownBy_alloc _ o _)) hg (fun g e => by have := hlt g e; omega)) (grownBy_set w9 _ _ _) (fun g e => by injection e; omega)
  · have : (w9.setCell ⟨w.heap.size, 5, none⟩ u5').heap.size = w9.heap.size := by simp [World.setCell]
    have h2 := hg.size
    rw [World.size_alloc] at h2
    omega

/-- What stays while the kerning pairs are made. -/
structure KeepK (w wr : World) (b : Nat) (S : Nat → Prop) (c0 c1 c2 c3 c4 v5 v6 : Value) (ks : List (Int × Int × Int)) : Prop where
  font : wr.heap[w.heap.size]? = some (.cells #[c0, c1, c2, c3, c4, v5, v6] 33 (0, 0))
  res : ∃ z0 z1 z2 z3 z4 z5 z6, wr.heap[w.heap.size + 1]? = some (.cells #[z0, z1, z2, z3, z4, z5, z6] 33 (0, 0))
  row : wr.ownsRow (w.heap.size + 2) 53 3 v6 ks.length (kcells ks)
  draw : DrawAt wr b S
  grown : w.grownBy wr (some b)
  size : w.heap.size + 2 ≤ wr.heap.size
  old : b < w.heap.size

theorem Keep.toK {w wr : World} {b : Nat} {S : Nat → Prop} {c0 c1 c2 c3 c4 v5 : Value} {n5 : Nat} {xs5 : List Value} (h : Keep w wr b S c0 c1 c2 c3 c4 v5 n5 xs5) : KeepK w wr b S c0 c1 c2 c3 c4 v5 (.slice none 0 0) [] :=
  ⟨h.font, h.res, World.ownsRow_nil _ _ _ _, h.draw, h.grown, h.size, h.old⟩

theorem KeepK.next {w wr w' : World} {b : Nat} {S : Nat → Prop} {c0 c1 c2 c3 c4 v5 v6 : Value} {ks : List (Int × Int × Int)} (h : KeepK w wr b S c0 c1 c2 c3 c4 v5 v6 ks) (hg : wr.grownBy w' (some b)) (hd : DrawAt w' b S) : KeepK w w' b S c0 c1 c2 c3 c4 v5 v6 ks := by
  have hs := h.size; have ho := h.old
  obtain ⟨z0, z1, z2, z3, z4, z5, z6, hr⟩ := h.res
  exact ⟨(hg.block _ (by omega) (fun e => by injection e; omega)).trans h.font, ⟨z0, z1, z2, z3, z4, z5, z6, (hg.block _ (by omega) (fun e => by injection e; omega)).trans hr⟩,
    h.row.kept hg (.inr (h.draw.own_ne h.row (by decide))), hd, grown_trans h.grown hg, Nat.le_trans hs hg.size, ho⟩

theorem KeepK.store {w wq w9 : World} {b : Nat} {S : Nat → Prop} {c0 c1 c2 c3 c4 u5 u6 u6' : Value} {ks ks' : List (Int × Int × Int)} {o : Obj} (hS : ∀ c, S c → c < w.heap.size)
    (hK : KeepK w wq b S c0 c1 c2 c3 c4 u5 u6 ks) (hg : (wq.alloc o).grownBy w9 u6.ownBlock) (hrow : w9.ownsRow (w.heap.size + 2) 53 3 u6' ks'.length (kcells ks')) :
    KeepK w (w9.setCell ⟨w.heap.size, 6, none⟩ u6') b S c0 c1 c2 c3 c4 u5 u6' ks' := by
  have hs := hK.size; have ho := hK.old
  have hlt : ∀ g, u6.ownBlock = some g → w.heap.size + 2 ≤ g := fun g e => (hK.row.lt g e).1
  have hne : ∀ i, i < w.heap.size + 2 → some i ≠ u6.ownBlock := fun i hi e => by have := hlt i e.symm; omega
  obtain ⟨z0, z1, z2, z3, z4, z5, z6, hz⟩ := hK.res
  have hf9 := (hg.block w.heap.size (by rw [World.size_alloc]; omega) (hne _ (by omega))).trans ((Below.heap_alloc _ _ _ (by omega)).trans hK.font)
  have hz9 := (hg.block (w.heap.size + 1) (by rw [World.size_alloc]; omega) (hne _ (by omega))).trans ((Below.heap_alloc _ _ _ (by omega)).trans hz)
  have hd9 : DrawAt w9 b S := (hK.draw.below (fun c hc => by have := hS c hc; omega) ((Below.refl _ _).alloc (Nat.le_refl _) o)).same (hg.block b (by rw [World.size_alloc]; omega) (hne _ (by omega))) (fun c hc => hg.block c (by have := hS c hc; rw [World.size_alloc]; omega) (hne _ (by have := hS c hc; omega)))
  refine ⟨heap_set hf9 _, ⟨z0, z1, z2, z3, z4, z5, z6, (Below.heap_setCell w9 _ _ _ (by show w.heap.size + 1 ≠ w.heap.size; omega)).trans hz9⟩, hrow.kept (grownBy_set w9 w.heap.size 6 u6') (.inr (own_ne_blk hrow hf9 (by decide))),
    hd9.same (Below.heap_setCell w9 _ _ _ (by show b ≠ w.heap.size; omega)) (fun c hc => Below.heap_setCell w9 _ _ _ (by have := hS c hc; show c ≠ w.heap.size; omega)), ?_, ?_, ho⟩
  · exact grown_own (grown_own (grown_trans hK.grown (World.grownBy_alloc _ o _)) hg (fun g e => by have := hlt g e; omega)) (grownBy_set w9 _ _ _) (fun g e => by injection e; omega)
  · have : (w9.setCell ⟨w.heap.size, 6, none⟩ u6').heap.size = w9.heap.size := by simp [World.setCell]
    have h2 := hg.size
    rw [World.size_alloc] at h2
    omega

theorem wrap_i64_bd (n : Int) : I64 (IntKind.i64.wrap n) := by
  simp only [I64, IntKind.wrap_i64]
  omega
theorem kern_bd (a c : Int) (g : Nat) (hg : g < 9) : I64 (IntKind.i64.wrap a) ∧ I64 (IntKind.i64.wrap c) ∧ -20 ≤ IntKind.i64.wrap (4 * IntKind.i64.wrap ((g : Int) - 5)) ∧ IntKind.i64.wrap (4 * IntKind.i64.wrap ((g : Int) - 5)) ≤ 20 := by
  refine ⟨wrap_i64_bd _, wrap_i64_bd _, ?_⟩
  simp only [IntKind.wrap_i64]
  omega

theorem sets7 (w : World) (g : Nat) (u0 u1 u2 u3 u4 u5 u6 : Value) :
    w.grownBy (((((((w.setCell ⟨g, 0, none⟩ u0).setCell ⟨g, 1, none⟩ u1).setCell ⟨g, 2, none⟩ u2).setCell ⟨g, 3, none⟩ u3).setCell ⟨g, 4, none⟩ u4).setCell ⟨g, 5, none⟩ u5).setCell ⟨g, 6, none⟩ u6) (some g) :=
  grown_trans (grown_trans (grown_trans (grown_trans (grown_trans (grown_trans (grownBy_set _ _ _ _) (grownBy_set _ _ _ _)) (grownBy_set _ _ _ _)) (grownBy_set _ _ _ _)) (grownBy_set _ _ _ _)) (grownBy_set _ _ _ _)) (grownBy_set _ _ _ _)

theorem own_base {w : World} {base base' : Nat} {e : TypeId} {s : Nat} {v : Value} {n : Nat} {xs : List Value} (h : w.ownsRow base e s v n xs) (hb : base' ≤ base) : w.ownsRow base' e s v n xs := by
  refine ⟨h.1, ?_⟩
  rcases h.2 with h2 | ⟨g, cap, cur, rfl, h3, h4⟩
  · exact .inl h2
  · exact .inr ⟨g, cap, cur, rfl, Nat.le_trans hb h3, h4⟩

theorem kcells_snoc (ks : List (Int × Int × Int)) (x y z : Int) : kcells (ks ++ [(x, y, z)]) = kcells ks ++ [.int .i64 x, .int .i64 y, .int .i64 z] := by simp [kcells]

theorem row_ne {w : World} {e : TypeId} {base sz n : Nat} {v v' : Value} {e' : TypeId} {base' sz' n' : Nat} {xs xs' : List Value} (h : w.ownsRow base e sz v n xs) (h' : w.ownsRow base' e' sz' v' n' xs') (hne : e ≠ e') {g : Nat} (hg : v'.ownBlock = some g) : v.ownBlock ≠ some g := by
  rcases own_ne h h' hne with h0 | h0
  · rw [h0]; exact fun e => by cases e
  · rw [hg] at h0; exact h0

/-- 's.f = append(s.f, 1+d.Next(8))': s in a box of its own. -/
theorem box_app {w wq w6 w7 : World} {b : Nat} {S : Nat → Prop} {c0 c1 c2 c3 c4 u5 : Value} {k : Nat} {xs : List Value} {bs bx f j i m : Nat} {cs : Array Value} {vf vf' vs : Value} {zs zs' ys : List Value} {o : Obj}
    (hS : ∀ c, S c → c < w.heap.size) (hK : Keep w wq b S c0 c1 c2 c3 c4 u5 k xs) (hs : wq.heap[bs]? = some (.cells cs 102 (0, 0))) (hvf : wq.ownsRow (w.heap.size + 2) 3 1 vf j zs)
    (hx : wq.heap[bx]? = some (.cells #[vs] 100 (0, 0))) (hvs : wq.ownsRow (w.heap.size + 2) 102 4 vs i ys) (hlx : w.heap.size + 2 ≤ bx) (hls : w.heap.size + 2 ≤ bs) (hxs : bx ≠ bs) (hne4 : vs.ownBlock ≠ some bs) (hne4' : u5.ownBlock ≠ some bs)
    (hg6 : wq.grownBy w6 (some b)) (hd6 : DrawAt w6 b S) (hvf7 : w7.ownsRow (w.heap.size + 2) 3 1 vf' m zs') (hg7 : (w6.alloc o).grownBy w7 vf.ownBlock) :
    (w7.setCell ⟨bs, f, none⟩ vf').heap[bs]? = some (.cells (cs.setIfInBounds f vf') 102 (0, 0)) ∧ (w7.setCell ⟨bs, f, none⟩ vf').ownsRow (w.heap.size + 2) 3 1 vf' m zs' ∧
      (w7.setCell ⟨bs, f, none⟩ vf').heap[bx]? = some (.cells #[vs] 100 (0, 0)) ∧ (w7.setCell ⟨bs, f, none⟩ vf').ownsRow (w.heap.size + 2) 102 4 vs i ys ∧ bs < (w7.setCell ⟨bs, f, none⟩ vf').heap.size ∧
      Keep w (w7.setCell ⟨bs, f, none⟩ vf') b S c0 c1 c2 c3 c4 u5 k xs := by
  have hbs : bs < wq.heap.size := (Array.getElem?_eq_some_iff.1 hs).1
  have hbx : bx < wq.heap.size := (Array.getElem?_eq_some_iff.1 hx).1
  have hob := hK.old
  -- behind the draw
  have hs6 := (hg6.block bs hbs (fun e => by injection e; omega)).trans hs
  have hx6 := (hg6.block bx hbx (fun e => by injection e; omega)).trans hx
  have hvf6 := next_own0 hvf hK.draw hg6 (by decide)
  have hvs6 := next_own0 hvs hK.draw hg6 (by decide)
  have hK6 := (hK.next hg6 hd6).alloc hS o
  have hbs6 : bs < w6.heap.size := Nat.lt_of_lt_of_le hbs hg6.size
  have hbx6 : bx < w6.heap.size := Nat.lt_of_lt_of_le hbx hg6.size
  -- behind the new element and the append
  have hvb : vf.ownBlock ≠ some bs := own_ne_blk hvf6 hs6 (by decide)
  have hvx : vf.ownBlock ≠ some bx := own_ne_blk hvf6 hx6 (by decide)
  have hs7 := (hg7.block bs (by rw [World.size_alloc]; omega) (fun e => hvb e.symm)).trans ((Below.heap_alloc _ _ _ hbs6).trans hs6)
  have hx7 := (hg7.block bx (by rw [World.size_alloc]; omega) (fun e => hvx e.symm)).trans ((Below.heap_alloc _ _ _ hbx6).trans hx6)
  have hvs7 := (hvs6.alloc o).kept hg7 (own_ne hvs6 hvf6 (by decide))
  have hK7 := hK6.own hS hg7 (fun g e => ⟨(hvf6.lt g e).1, row_ne (hK.next hg6 hd6).row hvf6 (by decide) e⟩)
  -- behind the store
  have hg8 := grownBy_set w7 bs f vf'
  refine ⟨heap_set hs7 _, hvf7.kept hg8 (.inr (own_ne_blk hvf7 hs7 (by decide))), (Below.heap_setCell w7 _ _ _ hxs).trans hx7, hvs7.kept hg8 (.inr hne4), ?_, hK7.own hS hg8 (fun g e => by injection e with e; subst e; exact ⟨hls, hne4'⟩)⟩
  have : (w7.setCell ⟨bs, f, none⟩ vf').heap.size = w7.heap.size := by simp [World.setCell]
  rw [this]
  exact (Array.getElem?_eq_some_iff.1 hs7).1

set_option maxRecDepth 100000 in
set_option maxHeartbeats 4000000 in
theorem tables_any (b : Nat) (S : Nat → Prop) (c0 c1 c2 c3 c4 : Value) (w : World) (hd : DrawAt w b S) (hS : ∀ c, S c → c < w.heap.size)
    (hc : Hid ((∃ s, c0 = .string s) ∧ (∃ n, c1 = .int .i64 n) ∧ (∃ a n c, c2 = .slice a n c) ∧ (∃ a n c, c3 = .slice a n c) ∧ (∃ a n c, c4 = .slice a n c))) :
    Calls Try.prog 30 #[.pointer (some ⟨b, 0, none⟩), .agg #[c0, c1, c2, c3, c4, .slice none 0 0, .slice none 0 0]] w fun e w' => ∃ a5 n5 k5 v6 ks, e = .returned (.agg #[c0, c1, c2, c3, c4, .slice a5 n5 k5, v6]) ∧ w.grownBy w' (some b) ∧
      w'.ownsRow w.heap.size 53 3 v6 ks.length (kcells ks) ∧ ks.length ≤ 3 ∧ ∀ k ∈ ks, I64 k.1 ∧ I64 k.2.1 ∧ -20 ≤ k.2.2 ∧ k.2.2 ≤ 20 := by
  obtain ⟨i1, hi1, hiz1, his1, hiy1⟩ := info_parts T.info3
  obtain ⟨i2, hi2, hiz2, his2, hiy2⟩ := info_parts T.info53
  obtain ⟨i3, hi3, hiz3, his3, hiy3⟩ := info_parts T.info102
  obtain ⟨i4, hi4, hiz4, his4, hiy4⟩ := info_parts T.info100
  have hbo := hd.lt
  go_enter Try.func30, Try.ntmps30
  go_wp2_with fail
  refine (next_nat b S 3 _ ((hd.alloc1 hS).alloc1 (fun c hc => by have := hS c hc; simp; omega)) (by omega) (by omega)).mono ?_
  rintro e w1 ⟨m, rfl, hm, hd1, hg1, hz⟩
  have hK : Keep w w1 b S c0 c1 c2 c3 c4 (.slice none 0 0) 0 [] :=
    ⟨(hg1.block _ (by simp; omega) (fun e => by injection e; omega)).trans ((Below.heap_alloc _ _ _ (by simp)).trans (heap_alloc_new _ _)),
     ⟨_, _, _, _, _, _, _, (hg1.block _ (by simp) (fun e => by injection e; omega)).trans (heap_new (by simp))⟩,
     World.ownsRow_nil _ _ _ _, hd1, grown_trans (grown_trans (World.grownBy_alloc _ _ _) (World.grownBy_alloc _ _ _)) hg1, by rw [hz]; simp, hbo⟩
  clear hg1 hd1 hd
  replace hz := hide hz
  go_wp2_with fail
  go_loopw [6] (fun v6 wr => ∃ (k : Nat) (u5 : Value) (xs : List Value), k ≤ m ∧ v6 = .int .i64 (k : Int) ∧ Keep w wr b S c0 c1 c2 c3 c4 u5 k xs)
    (fun v6 _ => m - (intOf v6).toNat)
  case atStart => exact ⟨0, _, _, Nat.zero_le _, rfl, hK⟩
  case round =>
    clear hK
    obtain ⟨k, u5, xs, hk, rfl, hK⟩ := hrel
    by_cases hlt : k < m
    · --BEGIN1
      obtain ⟨wo, rfl⟩ : ∃ wo : World, wo = wr := ⟨_, rfl⟩
      have hso := hK.size
      have hbo' : b < wo.heap.size := by omega
      have hSo : ∀ c, S c → c < wo.heap.size := fun c hc => by have := hS c hc; omega
      have hne5 : u5.ownBlock ≠ some wo.heap.size := fun e => Nat.lt_irrefl _ (hK.row.lt _ e).2
      go_wp2_with fail
      refine (next_nat b S 4 _ (hK.alloc hS _).draw (by omega) (by omega)).mono ?_
      rintro e w2 ⟨n, rfl, hn, hd2, hg2, hz2⟩
      have hx := next_blk1 hK.draw hg2
      have hK2 := (hK.alloc hS _).next hg2 hd2
      have hlt2 : wo.heap.size < w2.heap.size := by rw [hz2]; simp
      replace hz2 := hide hz2
      obtain ⟨bx, hbx⟩ : ∃ bx, bx = wo.heap.size := ⟨_, rfl⟩
      rw [← hbx] at hne5 hx hlt2 ⊢
      replace hbx := hide hbx
      have hlx : w.heap.size + 2 ≤ bx := by rw [unhide hbx]; exact hso
      clear hK hg2 hd2 hso hSo hbo'
      go_wp2_with fail
      go_loopw [9] (fun v9 wr => ∃ (i : Nat) (vs : Value) (ys : List Value), i ≤ n ∧ v9 = .int .i64 (i : Int) ∧ wr.heap[bx]? = some (.cells #[vs] 100 (0, 0)) ∧ wr.ownsRow (w.heap.size + 2) 102 4 vs i ys ∧ bx < wr.heap.size ∧ Keep w wr b S c0 c1 c2 c3 c4 u5 k xs)
        (fun v9 _ => n - (intOf v9).toNat)
      case atStart => exact ⟨0, _, _, Nat.zero_le _, rfl, hx, World.ownsRow_nil _ _ _ _, hlt2, hK2⟩
      case round =>
        clear hx hlt2 hK2
        obtain ⟨i, vs, ys, hi, rfl, hx, hvs, hltx, hK⟩ := hrel
        obtain ⟨wp, rfl⟩ : ∃ wp : World, wp = wr := ⟨_, rfl⟩
        by_cases hin : i < n
        · go_wp2_with fail
          refine (next_nat b S 8 _ hK.draw (by omega) (by omega)).mono ?_
          rintro e w3 ⟨tt, rfl, htt, hd3, hg3, hz3⟩
          have hx3 := (hg3.block bx hltx (fun e => by injection e; have := hK.old; omega)).trans hx
          have hvs3 := next_own0 hvs hK.draw hg3 (by decide)
          have hK3 := hK.next hg3 hd3
          have hlt3 : bx < w3.heap.size := by rw [hz3]; exact hltx
          replace hz3 := hide hz3
          clear hx hvs hK hg3 hd3 hltx
          go_wp2_with fail
          refine (next_nat b S 4 _ (hK3.alloc hS _).draw (by omega) (by omega)).mono ?_
          rintro e w4 ⟨f1, rfl, hf1, hd4, hg4, hz4⟩
          have hs4 := next_blk1 hK3.draw hg4
          have hx4 := (hg4.block bx (by simp; omega) (fun e => by injection e; have := hK3.old; omega)).trans ((Below.heap_alloc _ _ _ hlt3).trans hx3)
          have hvs4 := next_own1 hvs3 hK3.draw hg4 (by decide)
          have hK4 := (hK3.alloc hS _).next hg4 hd4
          have hlt4 : w3.heap.size < w4.heap.size := by rw [hz4]; simp
          have hne4 : vs.ownBlock ≠ some w3.heap.size := fun e => Nat.lt_irrefl _ (hvs3.lt _ e).2
          have hne4' : u5.ownBlock ≠ some w3.heap.size := fun e => Nat.lt_irrefl _ (hK3.row.lt _ e).2
          obtain ⟨bs, hbs⟩ : ∃ bs, bs = w3.heap.size := ⟨_, rfl⟩
          rw [← hbs] at hs4 hlt3 hlt4 hne4 hne4' ⊢
          have hls : w.heap.size + 2 ≤ bs := by omega
          have hxs : bx ≠ bs := by omega
          replace hbs := hide hbs; replace hz4 := hide hz4
          clear hx3 hvs3 hK3 hg4 hd4
          go_wp2_with fail
          refine (next_nat b S 4 _ hK4.draw (by omega) (by omega)).mono ?_
          rintro e w5 ⟨f2, rfl, hf2, hd5, hg5, hz5⟩
          have hs5 := (hg5.block bs (by omega) (fun e => by injection e; have := hK4.old; omega)).trans hs4
          have hx5 := (hg5.block bx (by omega) (fun e => by injection e; have := hK4.old; omega)).trans hx4
          have hvs5 := next_own0 hvs4 hK4.draw hg5 (by decide)
          have hK5 := hK4.next hg5 hd5
          have hlt5 : bs < w5.heap.size := by rw [hz5]; omega
          replace hz5 := hide hz5
          clear hx4 hvs4 hK4 hg5 hd5 hs4 hlt4
          go_wp2_with fail
          go_loopw [12] (fun v12 wr => ∃ (j : Nat) (vf : Value) (zs : List Value), j ≤ 3 ∧ v12 = .int .i64 (j : Int) ∧ wr.heap[bs]? = some (.cells #[.slice none 0 0, vf, .slice none 0 0, .int .i64 (1 + (tt : Int))] 102 (0, 0)) ∧ wr.ownsRow (w.heap.size + 2) 3 1 vf j zs ∧
              wr.heap[bx]? = some (.cells #[vs] 100 (0, 0)) ∧ wr.ownsRow (w.heap.size + 2) 102 4 vs i ys ∧ bs < wr.heap.size ∧ Keep w wr b S c0 c1 c2 c3 c4 u5 k xs)
            (fun v12 _ => 3 - (intOf v12).toNat)
          case atStart => exact ⟨0, _, _, Nat.zero_le _, rfl, hs5, World.ownsRow_nil _ _ _ _, hx5, hvs5, hlt5, hK5⟩
          case round =>
            clear hs5 hx5 hvs5 hlt5 hK5
            obtain ⟨j, vf, zs, hj, rfl, hs, hvf, hx, hvs, hlts, hK⟩ := hrel
            obtain ⟨wq, rfl⟩ : ∃ wq : World, wq = wr := ⟨_, rfl⟩
            by_cases hjf : j < 1 + f1 / 2 + f2 / 3
            · have hc : wq.cell? ⟨bs, 1, none⟩ = some vf := by rw [cell_of_row _ _ _ _ _ _ hs]; rfl
              go_wp2_with fail
              have hbb : some b ≠ some bs := fun e => by injection e; have := hK.old; omega
              have hvb : vf.ownBlock ≠ some bs := own_ne_blk hvf hs (by decide)
              go_region_law (
                (first
                  | (go_simp; go_at_call 25; refine (next_nat b S 8 _ hK.draw.drew (by omega) (by omega)).mono ?_; rintro e w6 ⟨g1, rfl, hg1, hd6, hg6, hz6⟩; have hvf6 := next_own0 hvf hK.draw (grown_drew hg6) (by decide); have hs6 := ((grown_drew hg6).block bs hlts (fun e => hbb e.symm)).trans hs; have hlts6 : bs < w6.heap.size := Nat.lt_of_lt_of_le hlts hg6.size; have hsz6 : w.heap.size + 2 ≤ w6.heap.size := Nat.le_trans hK.size hg6.size; replace hz6 := hide hz6; have hc6 : w6.cell? ⟨bs, 1, none⟩ = some vf := (by rw [cell_of_row _ _ _ _ _ _ hs6]; rfl))
                  | (refine step_append_own _ (by rfl) _ _ 24 (by rfl) (w.heap.size + 2) 3 i1 _ 1 8 Try.underlying24 hi1 hiz1 his1 hiy1 rfl (by decide) _ _ _ (by rfl) (hvf6.alloc _) ⟨w6.heap.size, 0, none⟩ 1 1 [.int .i64 (IntKind.i64.wrap (1 + (g1 : Int)))] (by rfl) (by rfl) (alloc_cells rfl) (by simp [Value.oneCell']) (by unfold maxLen; omega) (by omega) (by simp; omega) ?_; intro vf' w7 hvf7 hg7 _; obtain ⟨av, cv, rfl⟩ := own_shape hvf7; have hfz : w7.frozen? ⟨bs, 1, none⟩ = false := frozen_kept1 ((Below.heap_alloc _ _ _ hlts6).trans hs6) hg7 hvb; have hc7 : w7.cell? ⟨bs, 1, none⟩ = some vf := cell_kept1 ((Below.heap_alloc _ _ _ hlts6).trans hs6) rfl hg7 hvb)))
              all_goals
                have R := box_app (f := 1) hS hK hs hvf hx hvs hlx hls hxs hne4 hne4' (grown_drew hg6) hd6 hvf7 hg7
                clear hK hs hvf hx hvs hd6 hg6 hvf7 hg7 hvf6 hs6 hc6 hc7 hfz hlts6 hsz6 hbb hvb hc hlts
                go_wp2_with fail
                go_roundw
                case rel => exact ⟨j + 1, _, _, by omega, by go_num, R⟩
                case measure => simp [intOf]; omega
            · have hjf' : decide ((j : Int) < 1 + (f1 : Int) / 2 + (f2 : Int) / 3) = false := by simp; omega
              obtain ⟨af, cf, rfl⟩ := own_shape hvf
              clear hvf
              go_wp2_with fail
              refine (next_nat b S 3 _ hK.draw (by omega) (by omega)).mono ?_
              rintro e w6 ⟨t6, rfl, ht6, hd6, hg6, hz6⟩
              have hs6 := (hg6.block bs hlts (fun e => by injection e; have := hK.old; omega)).trans hs
              have hx6 := (hg6.block bx (by omega) (fun e => by injection e; have := hK.old; omega)).trans hx
              have hvs6 := next_own0 hvs hK.draw hg6 (by decide)
              have hK6 := hK.next hg6 hd6
              have hlt6 : bs < w6.heap.size := by rw [hz6]; exact hlts
              replace hz6 := hide hz6
              clear hs hx hvs hK hd6 hg6 hlts
              go_upto_if 57 with fail
              go_cut [] (fun wr => ∃ (a0 : Option Addr) (n0 k0 : Nat), wr.heap[bs]? = some (.cells #[.slice a0 n0 k0, .slice af j cf, .slice none 0 0, .int .i64 (1 + (tt : Int))] 102 (0, 0)) ∧
                wr.heap[bx]? = some (.cells #[vs] 100 (0, 0)) ∧ wr.ownsRow (w.heap.size + 2) 102 4 vs i ys ∧ bs < wr.heap.size ∧ Keep w wr b S c0 c1 c2 c3 c4 u5 k xs)
              case first =>
                have hbb : some b ≠ some bs := fun e => by injection e; have := hK6.old; omega
                have hc : w6.cell? ⟨bs, 0, none⟩ = some (.slice none 0 0) := by rw [cell_of_row _ _ _ _ _ _ hs6]; rfl
                go_wp2_with fail
                · go_region_law (
                  (first
                    | (go_simp; go_at_call 25; refine (next_nat b S 8 _ hK6.draw.drew (by omega) (by omega)).mono ?_; rintro e w8 ⟨g1, rfl, hg1, hd8, hg8, hz8⟩; have hvf8 := World.ownsRow_nil w8 (w.heap.size + 2) 3 1; have hs8 := ((grown_drew hg8).block bs hlt6 (fun e => hbb e.symm)).trans hs6; have hlts8 : bs < w8.heap.size := Nat.lt_of_lt_of_le hlt6 hg8.size; have hsz8 : w.heap.size + 2 ≤ w8.heap.size := Nat.le_trans hK6.size hg8.size; replace hz8 := hide hz8; have hc8 : w8.cell? ⟨bs, 0, none⟩ = some (.slice none 0 0) := (by rw [cell_of_row _ _ _ _ _ _ hs8]; rfl))
                    | (refine step_append_own _ (by rfl) _ _ 24 (by rfl) (w.heap.size + 2) 3 i1 _ 1 8 Try.underlying24 hi1 hiz1 his1 hiy1 rfl (by decide) _ _ _ (by rfl) (hvf8.alloc _) ⟨w8.heap.size, 0, none⟩ 1 1 [.int .i64 (IntKind.i64.wrap (1 + (g1 : Int)))] (by rfl) (by rfl) (alloc_cells rfl) (by simp [Value.oneCell']) (by unfold maxLen; omega) (by omega) (by simp; omega) ?_; intro vf' w9 hvf9 hg9 _; obtain ⟨av, cv, rfl⟩ := own_shape hvf9; have hfz : w9.frozen? ⟨bs, 0, none⟩ = false := frozen_kept1 ((Below.heap_alloc _ _ _ hlts8).trans hs8) hg9 (by simp [Value.ownBlock]); have hc9 : w9.cell? ⟨bs, 0, none⟩ = some (.slice none 0 0) := cell_kept1 ((Below.heap_alloc _ _ _ hlts8).trans hs8) rfl hg9 (by simp [Value.ownBlock]))))
                  all_goals
                    obtain ⟨R1, _, R3, R4, R5, R6⟩ := box_app (f := 0) hS hK6 hs6 (World.ownsRow_nil w6 (w.heap.size + 2) 3 1) hx6 hvs6 hlx hls hxs hne4 hne4' (grown_drew hg8) hd8 hvf9 hg9
                    clear hK6 hs6 hx6 hvs6 hd8 hg8 hvf9 hg9 hvf8 hs8 hc8 hc9 hfz hlts8 hsz8 hbb hc hlt6
                    go_wp2_with fail
                    go_meet
                    exact ⟨_, _, _, R1, R3, R4, R5, R6⟩
                · go_meet
                  exact ⟨_, _, _, hs6, hx6, hvs6, hlt6, hK6⟩
              case rest =>
                clear hs6 hx6 hvs6 hlt6 hK6
                obtain ⟨a0, n0, k0, hs, hx, hvs, hlts, hK⟩ := hcut
                go_wp2_with fail
                refine (next_nat b S 3 _ hK.draw (by omega) (by omega)).mono ?_
                rintro e w6 ⟨t7, rfl, ht7, hd6, hg6, hz6⟩
                have hs6 := (hg6.block bs hlts (fun e => by injection e; have := hK.old; omega)).trans hs
                have hx6 := (hg6.block bx (by omega) (fun e => by injection e; have := hK.old; omega)).trans hx
                have hvs6 := next_own0 hvs hK.draw hg6 (by decide)
                have hK6 := hK.next hg6 hd6
                have hlt6 : bs < w6.heap.size := by rw [hz6]; exact hlts
                replace hz6 := hide hz6
                clear hs hx hvs hK hd6 hg6 hlts
                go_upto_if 68 with fail
                go_cut [] (fun wr => ∃ (a2 : Option Addr) (n2 k2 : Nat), wr.heap[bs]? = some (.cells #[.slice a0 n0 k0, .slice af j cf, .slice a2 n2 k2, .int .i64 (1 + (tt : Int))] 102 (0, 0)) ∧
                  wr.heap[bx]? = some (.cells #[vs] 100 (0, 0)) ∧ wr.ownsRow (w.heap.size + 2) 102 4 vs i ys ∧ bs < wr.heap.size ∧ Keep w wr b S c0 c1 c2 c3 c4 u5 k xs)
                case first =>
                  have hbb : some b ≠ some bs := fun e => by injection e; have := hK6.old; omega
                  have hc : w6.cell? ⟨bs, 2, none⟩ = some (.slice none 0 0) := by rw [cell_of_row _ _ _ _ _ _ hs6]; rfl
                  go_wp2_with fail
                  · go_region_law (
                  (first
                    | (go_simp; go_at_call 25; refine (next_nat b S 8 _ hK6.draw.drew (by omega) (by omega)).mono ?_; rintro e w8 ⟨g1, rfl, hg1, hd8, hg8, hz8⟩; have hvf8 := World.ownsRow_nil w8 (w.heap.size + 2) 3 1; have hs8 := ((grown_drew hg8).block bs hlt6 (fun e => hbb e.symm)).trans hs6; have hlts8 : bs < w8.heap.size := Nat.lt_of_lt_of_le hlt6 hg8.size; have hsz8 : w.heap.size + 2 ≤ w8.heap.size := Nat.le_trans hK6.size hg8.size; replace hz8 := hide hz8; have hc8 : w8.cell? ⟨bs, 2, none⟩ = some (.slice none 0 0) := (by rw [cell_of_row _ _ _ _ _ _ hs8]; rfl))
                    | (refine step_append_own _ (by rfl) _ _ 24 (by rfl) (w.heap.size + 2) 3 i1 _ 1 8 Try.underlying24 hi1 hiz1 his1 hiy1 rfl (by decide) _ _ _ (by rfl) (hvf8.alloc _) ⟨w8.heap.size, 0, none⟩ 1 1 [.int .i64 (IntKind.i64.wrap (1 + (g1 : Int)))] (by rfl) (by rfl) (alloc_cells rfl) (by simp [Value.oneCell']) (by unfold maxLen; omega) (by omega) (by simp; omega) ?_; intro vf' w9 hvf9 hg9 _; obtain ⟨av, cv, rfl⟩ := own_shape hvf9; have hfz : w9.frozen? ⟨bs, 2, none⟩ = false := frozen_kept1 ((Below.heap_alloc _ _ _ hlts8).trans hs8) hg9 (by simp [Value.ownBlock]); have hc9 : w9.cell? ⟨bs, 2, none⟩ = some (.slice none 0 0) := cell_kept1 ((Below.heap_alloc _ _ _ hlts8).trans hs8) rfl hg9 (by simp [Value.ownBlock]))))
                    all_goals
                      obtain ⟨R1, _, R3, R4, R5, R6⟩ := box_app (f := 2) hS hK6 hs6 (World.ownsRow_nil w6 (w.heap.size + 2) 3 1) hx6 hvs6 hlx hls hxs hne4 hne4' (grown_drew hg8) hd8 hvf9 hg9
                      clear hK6 hs6 hx6 hvs6 hd8 hg8 hvf9 hg9 hvf8 hs8 hc8 hc9 hfz hlts8 hsz8 hbb hc hlt6
                      go_wp2_with fail
                      go_meet
                      exact ⟨_, _, _, R1, R3, R4, R5, R6⟩
                  · go_meet
                    exact ⟨_, _, _, hs6, hx6, hvs6, hlt6, hK6⟩
                case rest =>
                  clear hs6 hx6 hvs6 hlt6 hK6
                  obtain ⟨a2, n2, k2, hs, hx, hvs, hlts, hK⟩ := hcut
                  have hcx : wc.cell? ⟨bx, 0, none⟩ = some vs := by rw [cell_of_row _ _ _ _ _ _ hx]; rfl
                  have hfx : wc.frozen? ⟨bx, 0, none⟩ = false := by simp [World.frozen?, hx]
                  have hq0 : wc.cell? ⟨bs, 0, none⟩ = some (.slice a0 n0 k0) := by rw [cell_of_row _ _ _ _ _ _ hs]; rfl
                  have hq1 : wc.cell? ⟨bs, 1, none⟩ = some (.slice af j cf) := by rw [cell_of_row _ _ _ _ _ _ hs]; rfl
                  have hq2 : wc.cell? ⟨bs, 2, none⟩ = some (.slice a2 n2 k2) := by rw [cell_of_row _ _ _ _ _ _ hs]; rfl
                  have hq3 : wc.cell? ⟨bs, 3, none⟩ = some (.int .i64 (1 + (tt : Int))) := by rw [cell_of_row _ _ _ _ _ _ hs]; rfl
                  have hltx : bx < wc.heap.size := (Array.getElem?_eq_some_iff.1 hx).1
                  have hvx : vs.ownBlock ≠ some bx := own_ne_blk hvs hx (by decide)
                  clear hs
                  go_wp2_with (at_builtin; refine wpList_append_own _ rfl _ _ 98 rfl (w.heap.size + 2) 102 i3 _ 4 80 Try.underlying98 hi3 hiz3 his3 hiy3 rfl (by decide) _ _ _ rfl (hvs.alloc _) ⟨wc.heap.size, 0, none⟩ 1 1 [.slice a0 n0 k0, .slice af j cf, .slice a2 n2 k2, .int .i64 (1 + (tt : Int))] rfl rfl (alloc_cells rfl) (by simp [Value.oneCell']) (by unfold maxLen; omega) (by omega) (by have := hK.size; simp; omega) ?_; intro vs' w9 hvs9 hg9 _; obtain ⟨av, cv, rfl⟩ := own_shape hvs9; have hx9 := (hg9.block bx (by simp; omega) (fun e => hvx e.symm)).trans ((Below.heap_alloc _ _ _ hltx).trans hx); have hcx9 : w9.cell? ⟨bx, 0, none⟩ = some vs := (by rw [cell_of_row _ _ _ _ _ _ hx9]; rfl); have hfx9 : w9.frozen? ⟨bx, 0, none⟩ = false := (by simp [World.frozen?, hx9]))
                  have hK9 := (hK.alloc hS (.cells #[.slice a0 n0 k0, .slice af j cf, .slice a2 n2 k2, .int .i64 (1 + (tt : Int))] 102)).own hS hg9 (fun g e => ⟨(hvs.lt g e).1, row_ne hK.row hvs (by decide) e⟩)
                  have hK10 := hK9.own hS (grownBy_set w9 bx 0 (.slice av (i + 1) cv)) (fun g e => by injection e with e; subst e; exact ⟨hlx, hne5⟩)
                  have hx10 := heap_set (off := 0) hx9 (.slice av (i + 1) cv)
                  have hvs10 := hvs9.kept (grownBy_set w9 bx 0 (.slice av (i + 1) cv)) (.inr (own_ne_blk hvs9 hx9 (by decide)))
                  have hlt10 : bx < (w9.setCell ⟨bx, 0, none⟩ (.slice av (i + 1) cv)).heap.size := (Array.getElem?_eq_some_iff.1 hx10).1
                  clear hx hvs hK hg9 hvs9 hx9 hcx9 hfx9 hcx hfx hq0 hq1 hq2 hq3 hK9
                  go_roundw
                  case rel => exact ⟨i + 1, _, _, by omega, by go_num, hx10, hvs10, hlt10, hK10⟩
                  case measure => simp [intOf]; omega
        · obtain ⟨avs, cvs, rfl⟩ := own_shape hvs
          have hcx : wp.cell? ⟨bx, 0, none⟩ = some (.slice avs i cvs) := by rw [cell_of_row _ _ _ _ _ _ hx]; rfl
          have hf5 : wp.cell? ⟨w.heap.size, 5, none⟩ = some u5 := by rw [cell_of_row _ _ _ _ _ _ hK.font]; rfl
          have hlb : w.heap.size < wp.heap.size := by have := hK.size; omega
          have hnb : u5.ownBlock ≠ some w.heap.size := own_ne_blk hK.row hK.font (by decide)
          have hrow := hK.row
          clear hvs hx hltx
          go_wp2_with (at_builtin; refine wpList_append_own _ rfl _ _ 31 rfl (w.heap.size + 2) 100 i4 _ 1 24 Try.underlying31 hi4 hiz4 his4 hiy4 rfl (by decide) _ _ _ rfl (hrow.alloc _) ⟨wp.heap.size, 0, none⟩ 1 1 [.slice avs i cvs] rfl rfl (alloc_cells rfl) (by simp [Value.oneCell']) (by unfold maxLen; omega) (by omega) (by have := hK.size; simp; omega) ?_; intro u5' w9 hrow9 hg9 _; obtain ⟨av, cv, rfl⟩ := own_shape hrow9; have hf9 := (hg9.block w.heap.size (by simp; omega) (fun e => hnb e.symm)).trans ((Below.heap_alloc _ _ _ hlb).trans hK.font); have hcf9 : w9.cell? ⟨w.heap.size, 5, none⟩ = some u5 := (by rw [cell_of_row _ _ _ _ _ _ hf9]; rfl); have hff9 : w9.frozen? ⟨w.heap.size, 5, none⟩ = false := (by simp [World.frozen?, hf9]))
          have hK9 := hK.store hS hg9 hrow9
          clear hK hrow hg9 hrow9 hf9 hcf9 hff9 hcx hf5 hnb
          go_roundw
          case rel => exact ⟨k + 1, _, _, by omega, by go_num, hK9⟩
          case measure => simp [intOf]; omega
      --END1
    · obtain ⟨a5, k5, rfl⟩ := own_shape hK.row
      replace hK := hK.toK
      go_wp2_with fail
      refine (next_nat b S 4 _ hK.draw (by omega) (by omega)).mono ?_
      rintro e w2 ⟨m2, rfl, hm2, hd2, hg2, hz2⟩
      have hK2 := hK.next hg2 hd2
      replace hz2 := hide hz2
      clear hK hg2 hd2
      go_wp2_with fail
      go_loopw [13, 15] (fun v13 v15 wr => ∃ (i : Nat) (pr : Int) (u6 : Value) (ks : List (Int × Int × Int)), i ≤ m2 ∧ v15 = .int .i64 (i : Int) ∧ v13 = .int .i64 pr ∧ -1 ≤ pr ∧ pr ≤ 20 * i ∧ ks.length = i ∧ (∀ x ∈ ks, I64 x.1 ∧ I64 x.2.1 ∧ -20 ≤ x.2.2 ∧ x.2.2 ≤ 20) ∧ KeepK w wr b S c0 c1 c2 c3 c4 (.slice a5 k k5) u6 ks)
        (fun _ v15 _ => m2 - (intOf v15).toNat)
      case atStart => exact ⟨0, -1, _, [], Nat.zero_le _, rfl, rfl, by omega, by omega, rfl, by simp, hK2⟩
      case round =>
        clear hK2
        obtain ⟨i, pr, u6, ks, hi, rfl, rfl, hp1, hp2, rfl, hkb, hK⟩ := hrel
        obtain ⟨wp, rfl⟩ : ∃ wp : World, wp = wr := ⟨_, rfl⟩
        replace hkb := hide hkb
        by_cases him : ks.length < m2
        · go_wp2_with fail
          refine (next_nat b S 20 _ hK.draw (by omega) (by omega)).mono ?_
          rintro e w3 ⟨q3, rfl, hq3, hd3, hg3, hz3⟩
          have hK3 := hK.next hg3 hd3
          replace hz3 := hide hz3
          clear hK hg3 hd3
          go_wp2_with fail
          obtain ⟨p2, hp2e⟩ : ∃ p2 : Int, p2 = pr + 1 + (q3 : Int) := ⟨_, rfl⟩
          have hp20 : 0 ≤ p2 := by omega
          have hp21 : p2 ≤ 20 * (ks.length + 1) := by omega
          rw [← hp2e]
          replace hp2e := hide hp2e
          have hc6 : w3.cell? ⟨w.heap.size, 6, none⟩ = some u6 := by rw [cell_of_row _ _ _ _ _ _ hK3.font]; rfl
          have hnb : u6.ownBlock ≠ some w.heap.size := own_ne_blk hK3.row hK3.font (by decide)
          have hbb : some b ≠ some w.heap.size := fun e => by injection e; omega
          have hlb : w.heap.size < w3.heap.size := by have := hK3.size; omega
          go_region_law (
            (first
              | (go_simp; go_at_call 25; refine (next_nat b S 9 _ hK3.draw.drew (by omega) (by omega)).mono ?_; rintro e w8 ⟨g1, rfl, hg1, hd8, hg8, hz8⟩; have hK8 := hK3.next (grown_drew hg8) hd8; have hrow8 := hK8.row; have hf8 := hK8.font; have hlb8 : w.heap.size < w8.heap.size := (by have := hK8.size; omega); have hsz8 := hK8.size; replace hz8 := hide hz8; have hc8 : w8.cell? ⟨w.heap.size, 6, none⟩ = some u6 := (by rw [cell_of_row _ _ _ _ _ _ hf8]; rfl))
              | (refine step_append_own _ (by rfl) _ _ 23 (by rfl) (w.heap.size + 2) 53 i2 _ 3 24 Try.underlying23 hi2 hiz2 his2 hiy2 rfl (by decide) _ _ _ (by rfl) (hrow8.alloc _) ⟨w8.heap.size, 0, none⟩ 1 1 [.int .i64 (IntKind.i64.wrap (1 + IntKind.i64.wrap (p2.tdiv 8))), .int .i64 (IntKind.i64.wrap (1 + p2.tmod 8)), .int .i64 (IntKind.i64.wrap (4 * IntKind.i64.wrap ((g1 : Int) - 5)))] (by rfl) (by rfl) (alloc_cells rfl) (by simp [Value.oneCell']) (by unfold maxLen; omega) (by omega) (by simp; omega) ?_; intro u6' w9 hrow9 hg9 _; obtain ⟨av, cv, rfl⟩ := own_shape hrow9; have hf9 := (hg9.block w.heap.size (by simp; omega) (fun e => hnb e.symm)).trans ((Below.heap_alloc _ _ _ hlb8).trans hf8); have hcf9 : w9.cell? ⟨w.heap.size, 6, none⟩ = some u6 := (by rw [cell_of_row _ _ _ _ _ _ hf9]; rfl); have hff9 : w9.frozen? ⟨w.heap.size, 6, none⟩ = false := (by simp [World.frozen?, hf9]))))
          all_goals
            rw [← kcells_snoc] at hrow9
            have hK9 := hK8.store (ks' := ks ++ [(IntKind.i64.wrap (1 + IntKind.i64.wrap (p2.tdiv 8)), IntKind.i64.wrap (1 + p2.tmod 8), IntKind.i64.wrap (4 * IntKind.i64.wrap ((g1 : Int) - 5)))]) hS hg9 (by rw [List.length_append]; exact hrow9)
            clear hK3 hK8 hrow8 hf8 hc8 hrow9 hg9 hf9 hcf9 hff9 hc6 hnb hbb hlb8 hsz8 hd8 hg8
            go_wp2_with fail
            go_roundw
            case rel =>
              refine ⟨ks.length + 1, p2, _, _, by omega, by go_num, rfl, by omega, by omega, by rw [List.length_append]; rfl, ?_, hK9⟩
              intro x hx
              rcases List.mem_append.1 hx with hx | hx
              · exact unhide hkb x hx
              · simp at hx
                subst hx
                exact kern_bd _ _ g1 (by omega)
            case measure => simp [intOf]; omega
        · have hkb' := unhide hkb
          obtain ⟨z0, z1, z2, z3, z4, z5, z6, hz⟩ := hK.res
          have hf0 : wp.cell? ⟨w.heap.size, 0, none⟩ = some c0 := by rw [cell_of_row _ _ _ _ _ _ hK.font]; rfl
          have hf1 : wp.cell? ⟨w.heap.size, 1, none⟩ = some c1 := by rw [cell_of_row _ _ _ _ _ _ hK.font]; rfl
          have hf2 : wp.cell? ⟨w.heap.size, 2, none⟩ = some c2 := by rw [cell_of_row _ _ _ _ _ _ hK.font]; rfl
          have hf3 : wp.cell? ⟨w.heap.size, 3, none⟩ = some c3 := by rw [cell_of_row _ _ _ _ _ _ hK.font]; rfl
          have hf4 : wp.cell? ⟨w.heap.size, 4, none⟩ = some c4 := by rw [cell_of_row _ _ _ _ _ _ hK.font]; rfl
          have hf5 : wp.cell? ⟨w.heap.size, 5, none⟩ = some (.slice a5 k k5) := by rw [cell_of_row _ _ _ _ _ _ hK.font]; rfl
          have hf6 : wp.cell? ⟨w.heap.size, 6, none⟩ = some u6 := by rw [cell_of_row _ _ _ _ _ _ hK.font]; rfl
          have hr0 : wp.cell? ⟨w.heap.size + 1, 0, none⟩ = some z0 := by rw [cell_of_row _ _ _ _ _ _ hz]; rfl
          have hr1 : wp.cell? ⟨w.heap.size + 1, 1, none⟩ = some z1 := by rw [cell_of_row _ _ _ _ _ _ hz]; rfl
          have hr2 : wp.cell? ⟨w.heap.size + 1, 2, none⟩ = some z2 := by rw [cell_of_row _ _ _ _ _ _ hz]; rfl
          have hr3 : wp.cell? ⟨w.heap.size + 1, 3, none⟩ = some z3 := by rw [cell_of_row _ _ _ _ _ _ hz]; rfl
          have hr4 : wp.cell? ⟨w.heap.size + 1, 4, none⟩ = some z4 := by rw [cell_of_row _ _ _ _ _ _ hz]; rfl
          have hr5 : wp.cell? ⟨w.heap.size + 1, 5, none⟩ = some z5 := by rw [cell_of_row _ _ _ _ _ _ hz]; rfl
          have hr6 : wp.cell? ⟨w.heap.size + 1, 6, none⟩ = some z6 := by rw [cell_of_row _ _ _ _ _ _ hz]; rfl
          have hfz : ∀ i, wp.frozen? ⟨w.heap.size + 1, i, none⟩ = false := fun i => by simp [World.frozen?, hz]
          obtain ⟨a6, k6, rfl⟩ := own_shape hK.row
          clear hz
          obtain ⟨⟨s0, rfl⟩, ⟨n1, rfl⟩, ⟨a2, n2, k2, rfl⟩, ⟨a3, n3, k3, rfl⟩, ⟨a4, n4, k4, rfl⟩⟩ := unhide hc
          clear hc
          go_wp2_with fail
          refine bodyPost_ret (v := .agg #[.string s0, .int .i64 n1, .slice a2 n2 k2, .slice a3 n3 k3, .slice a4 n4 k4, .slice a5 k k5, .slice a6 ks.length k6]) (by simp [results, Try.results30, go_sem, hr0, hr1, hr2, hr3, hr4, hr5, hr6]) rfl ⟨_, _, _, _, ks, rfl, ?_, ?_, by omega, hkb'⟩
          · exact grown_own hK.grown (sets7 wp (w.heap.size + 1) _ _ _ _ _ _ _) (fun g e => by injection e; omega)
          · exact own_base (hK.row.kept (sets7 wp (w.heap.size + 1) _ _ _ _ _ _ _) (.inr (fun e => by have := (hK.row.lt _ e).1; omega))) (by omega)
end Go.Proofs.Ytbbbldaccpfooaa
