/- The chapter's examples; contracts by the font's contents. -/
import Derived.Test.YtbbbldaccpfooaaKernP
import Derived.Test.YtbbbldaccpfooaaKern6
namespace Go.Proofs.Ytbbbldaccpfooaa
open Go.RowKit
theorem row7 {w : World} {b T : Nat} {a0 a1 a2 a3 a4 a5 a6 : Value} (h : w.heap[b]? = some (.cells #[a0, a1, a2, a3, a4, a5, a6] T (0, 0))) :
    w.cell? ⟨b, 0, none⟩ = some a0 ∧ w.cell? ⟨b, 1, none⟩ = some a1 ∧ w.cell? ⟨b, 2, none⟩ = some a2 ∧ w.cell? ⟨b, 3, none⟩ = some a3 ∧ w.cell? ⟨b, 4, none⟩ = some a4 ∧ w.cell? ⟨b, 5, none⟩ = some a5 ∧ w.cell? ⟨b, 6, none⟩ = some a6 :=
  ⟨(cell_of_row _ _ 0 _ _ _ h).trans rfl, (cell_of_row _ _ 1 _ _ _ h).trans rfl, (cell_of_row _ _ 2 _ _ _ h).trans rfl, (cell_of_row _ _ 3 _ _ _ h).trans rfl, (cell_of_row _ _ 4 _ _ _ h).trans rfl, (cell_of_row _ _ 5 _ _ _ h).trans rfl, (cell_of_row _ _ 6 _ _ _ h).trans rfl⟩
theorem row_kept {w w' : World} {b : Nat} {o : Obj} (h : w.heap[b]? = some o) (hb : Below w.heap.size w w') : w'.heap[b]? = some o := (hb.block b (Array.getElem?_eq_some_iff.1 h).1).trans h
/-- the positions -/
def posL (P : Nat → Int) (n : Nat) : List Int := (List.range n).map fun i => roundI (P i) 64
theorem posL_len (P : Nat → Int) (n : Nat) : (posL P n).length = n := by unfold posL; simp
theorem posL_get (P : Nat → Int) (n k : Nat) (h : k < n) : (posL P n)[k]? = some (roundI (P k) 64) := by
  unfold posL
  rw [List.getElem?_map, List.getElem?_range h]
  rfl
theorem posL_i64 (av : List Int) (ks : List (Int × Int × Int)) (g sp : List Int) (size : Int) (n : Nat) : ∀ x ∈ posL (penS av ks g sp size) n, I64 x := by
  intro x hx
  unfold posL at hx
  obtain ⟨i, _, rfl⟩ := List.mem_map.1 hx
  have h := penS_i64 av ks g sp size i
  exact roundI_i64 (by omega) h.1 h.2
theorem FontAt.shape {S : Nat → Prop} {w : World} {f : Value} {av : List Int} {ks : List (Int × Int × Int)} (h : FontAt S w f av ks) :
    ∃ s n va vn vc ga gc qa qn qc ta tn tc ka kc, f = .agg #[.string s, .int .i64 n, .slice va vn vc, .slice ga av.length gc, .slice qa qn qc, .slice ta tn tc, .slice ka ks.length kc] := by
  obtain ⟨s, n, va, vn, vc, b, gc, qa, qn, qc, ta, tn, tc, ka, kc, h1, _⟩ := h
  exact ⟨_, _, _, _, _, _, _, _, _, _, _, _, _, _, _, h1⟩
theorem FontAt.avs {S : Nat → Prop} {w : World} {f : Value} {av : List Int} {ks : List (Int × Int × Int)} (h : FontAt S w f av ks) : av.length ≤ 9 ∧ (∀ x ∈ av, 0 ≤ x ∧ x ≤ 52) ∧ (∀ k ∈ ks, -100 ≤ k.2.2 ∧ k.2.2 ≤ 100) := by
  obtain ⟨s, n, va, vn, vc, b, gc, qa, qn, qc, ta, tn, tc, ka, kc, _, _, h3, h4, _, _, h7⟩ := h
  refine ⟨h3, fun x hx => ?_, fun k hk => (h7 k hk).2.2⟩
  obtain ⟨i, hi⟩ := List.mem_iff_getElem?.1 hx
  have := (h4 i x hi).2
  omega
theorem kby_font (f : Value) (av : List Int) (ks : List (Int × Int × Int)) (x y : Int) (w : World) (hf : FontAt (· < w.heap.size) w f av ks) (hx : I64 x) (hy : I64 y) :
    Calls Try.prog 10 #[f, .int .i64 x, .int .i64 y] w fun e w' => e = .returned (.int .i64 (findBy ks x y)) ∧ Below w.heap.size w w' := by
  obtain ⟨s, n, va, vn, vc, b, gc, qa, qn, qc, ta, tn, tc, ka, kc, rfl, _, _, _, h5, h6, _⟩ := hf
  exact kby_any _ _ _ _ _ _ _ _ _ ks _ x y w h5 (fun _ h => h) (by omega) hx hy
theorem rby_font (f : Value) (av : List Int) (ks : List (Int × Int × Int)) (x y : Int) (w : World) (hf : FontAt (· < w.heap.size) w f av ks) :
    Calls Try.prog 11 #[f, .int .i64 x, .int .i64 y] w fun e w' => e = .returned (.int .i64 (findBy ks x y)) ∧ Below w.heap.size w w' := by
  obtain ⟨s, n, va, vn, vc, b, gc, qa, qn, qc, ta, tn, tc, ka, kc, rfl, _, _, _, h5, h6, _⟩ := hf
  exact rby_any _ _ _ _ _ _ _ _ _ ks _ x y w h5 (fun _ h => h) (by unfold maxLen; omega)
theorem kplace_font (f : Value) (av : List Int) (ks : List (Int × Int × Int)) (ga : Option Addr) (gn gc : Nat) (g : List Int) (sa : Option Addr) (sn sc : Nat) (sp : List Int) (size : Int) (w : World)
    (hf : FontAt (· < w.heap.size) w f av ks) (hg : Lst Enc.int w (· < w.heap.size) ga gn g) (hs : Lst Enc.int w (· < w.heap.size) sa sn sp) (hgn : gn ≤ 1000) (hsn : sn ≤ 1000) (hsz : I64 size) :
    Calls Try.prog 13 #[f, .slice ga gn gc, .slice sa sn sc, .int .i64 size] w fun e w' => ∃ pa, e = .returned (.tuple #[.slice pa gn gn, .int .i64 (roundI (penS av ks g sp size gn) 64)]) ∧
      Lst Enc.int w' (· < w'.heap.size) pa gn (posL (penS av ks g sp size) gn) ∧ Below w.heap.size w w' := by
  refine (kplace_any (· < w.heap.size) f av ks ga gn gc g sa sn sc sp size w hf hg hs (fun _ h => h) hgn hsn hsz).mono ?_
  rintro e w' ⟨M, h1, h2, h3⟩
  rw [rowsAt_full] at h2
  exact ⟨_, h1, (lst_own h2 (posL_i64 av ks g sp size gn)).1, h3⟩
theorem rplace_font (f : Value) (av : List Int) (ks : List (Int × Int × Int)) (ga : Option Addr) (gn gc : Nat) (g : List Int) (sa : Option Addr) (sn sc : Nat) (sp : List Int) (size : Int) (w : World)
    (hf : FontAt (· < w.heap.size) w f av ks) (hg : Lst Enc.int w (· < w.heap.size) ga gn g) (hs : Lst Enc.int w (· < w.heap.size) sa sn sp) (hgn : gn ≤ 1000) (hsn : sn ≤ 1000) (hsz : I64 size) :
    Calls Try.prog 14 #[f, .slice ga gn gc, .slice sa sn sc, .int .i64 size] w fun e w' => ∃ pa pc, e = .returned (.tuple #[.slice pa gn pc, .int .i64 (roundI (penS av ks g sp size gn) 64)]) ∧
      Lst Enc.int w' (· < w'.heap.size) pa gn (posL (penS av ks g sp size) gn) ∧ Below w.heap.size w w' := by
  refine (rplace_any f av ks ga gn gc g sa sn sc sp size w hf hg hs hgn hsn hsz).mono ?_
  rintro e w' ⟨ra, rc, h1, h2, h3⟩
  rw [rowsTo_eq] at h2
  exact ⟨_, _, h1, (lst_own h2 (posL_i64 av ks g sp size gn)).1, h3⟩
theorem sameInts_below (a b : Option Addr) (n m ca cb : Nat) (xs ys : List Int) (w : World) (hx : Lst Enc.int w (· < w.heap.size) a n xs) (hy : Lst Enc.int w (· < w.heap.size) b m ys) (hn : n ≤ 1000) (hm : m ≤ 1000) :
    Calls Try.prog 15 #[.slice a n ca, .slice b m cb] w fun e w' => e = .returned (.bool (decide (xs = ys))) ∧ Below w.heap.size w w' := by
  refine (sameInts_any a b n m ca cb xs ys _ _ w hx hy (by unfold maxLen; omega) (by unfold maxLen; omega)).mono ?_
  rintro e w' ⟨h1, k, rfl⟩
  exact ⟨h1, blw_drewN (Below.refl _ _) k⟩
theorem lst_lits (w : World) (b : Nat) (l : List Int) (T : TypeId) (hb : w.heap[b]? = some (.cells (l.map (Value.int .i64)).toArray T (0, 0))) (hl : ∀ x ∈ l, I64 x) : Lst Enc.int w (· < w.heap.size) (some ⟨b, 0, none⟩) l.length l := by
  refine ⟨rfl, fun _ => ⟨b, 0, rfl, (Array.getElem?_eq_some_iff.1 hb).1, fun i x hx => ⟨[.int .i64 x], ⟨rfl, hl x (List.mem_of_getElem? hx)⟩, fun j u hj => ?_⟩⟩⟩
  cases j with
  | zero =>
    simp at hj
    subst hj
    have h1 : Enc.int.n = 1 := rfl
    rw [h1, Nat.mul_one, Nat.add_zero, Nat.zero_add, cell_of_row w b i _ T (0, 0) hb]
    simp [hx]
  | succ j => simp at hj
set_option maxRecDepth 100000 in
theorem example_any (w : World) : Calls Try.prog 18 #[] w fun e w' => (∃ f, e = .returned f ∧ FontAt (· < w'.heap.size) w' f [30, 21] [(0, 1, -5), (1, 1, 4)]) ∧ Below w.heap.size w w' := by
  obtain ⟨b, hb⟩ : ∃ b, b = w.heap.size := ⟨_, rfl⟩
  obtain ⟨O0, hO0⟩ : ∃ O0, O0 = Obj.cells #[.string ⟨#[]⟩, .int .i64 0, .slice none 0 0, .slice (some ⟨b + 1, 0, none⟩) 2 2, .slice none 0 0, .slice none 0 0, .slice (some ⟨b + 1 + 1, 0, none⟩) 2 2] 33 := ⟨_, rfl⟩
  obtain ⟨O1, hO1⟩ : ∃ O1, O1 = Obj.cells #[.string ⟨#[]⟩, .int .i64 30, .slice none 0 0, .slice none 0 0, .slice none 0 0, .slice none 0 0, .slice none 0 0, .string ⟨#[]⟩, .int .i64 21, .slice none 0 0, .slice none 0 0, .slice none 0 0, .slice none 0 0, .slice none 0 0] 64 := ⟨_, rfl⟩
  obtain ⟨O2, hO2⟩ : ∃ O2, O2 = Obj.cells #[.int .i64 0, .int .i64 1, .int .i64 (-5), .int .i64 1, .int .i64 1, .int .i64 4] 53 := ⟨_, rfl⟩
  obtain ⟨W, hW⟩ : ∃ W, W = ((w.alloc O0).alloc O1).alloc O2 := ⟨_, rfl⟩
  have r0 : W.heap[b]? = some O0 := by
    rw [hW, hb]
    exact (Below.heap_alloc _ _ _ (by simp; omega)).trans ((Below.heap_alloc _ _ _ (by simp)).trans (heap_alloc_new w _))
  have r1 : W.heap[b + 1]? = some O1 := by
    rw [hW, hb]
    have := heap_alloc_new (w.alloc O0) O1
    rw [World.size_alloc] at this
    exact (Below.heap_alloc _ _ _ (by simp)).trans this
  have r2 : W.heap[b + 1 + 1]? = some O2 := by
    rw [hW, hb]
    have := heap_alloc_new ((w.alloc O0).alloc O1) O2
    rwa [World.size_alloc, World.size_alloc] at this
  have hbel : Below w.heap.size w W := by rw [hW]; exact (((Below.refl _ _).alloc (Nat.le_refl _) _).alloc (by simp) _).alloc (by simp; omega) _
  have hsz : W.heap.size = b + 3 := by rw [hW, hb]; simp
  rw [hO0] at r0
  rw [hO1] at r1
  rw [hO2] at r2
  have hfont : FontAt (· < W.heap.size) W (.agg #[.string ⟨#[]⟩, .int .i64 0, .slice none 0 0, .slice (some ⟨b + 1, 0, none⟩) 2 2, .slice none 0 0, .slice none 0 0, .slice (some ⟨b + 1 + 1, 0, none⟩) 2 2]) [30, 21] [(0, 1, -5), (1, 1, 4)] := by
    obtain ⟨a, c, he, hl⟩ := lst_own_kern (ks := [(0, 1, -5), (1, 1, 4)]) (own_lit r2 (base := 0) (n := 2) (s := 3) (Nat.zero_le _) (by decide) rfl) (by intro k hk; simp at hk; unfold I64; rcases hk with rfl | rfl <;> simp)
    injection he with e1 e2 e3
    refine ⟨⟨#[]⟩, 0, none, 0, 0, b + 1, 2, none, 0, 0, none, 0, 0, some ⟨b + 1 + 1, 0, none⟩, 2, rfl, by show b + 1 < W.heap.size; omega, by decide, ?_, ?_, by decide, ?_⟩
    · intro i x hx
      match i, hx with
      | 0, hx =>
        simp at hx
        subst hx
        exact ⟨(cell_of_row _ _ 1 _ _ _ r1).trans rfl, by omega, by omega⟩
      | 1, hx =>
        simp at hx
        subst hx
        exact ⟨(cell_of_row _ _ 8 _ _ _ r1).trans rfl, by omega, by omega⟩
      | i + 2, hx => simp at hx
    · rw [e1]
      exact hl.wide fun g hg => hg.1
    · intro k hk
      simp at hk
      unfold I64
      rcases hk with rfl | rfl <;> simp
  have c0 : W.cell? ⟨b, 0, none⟩ = some (.string ⟨#[]⟩) := (cell_of_row _ _ 0 _ _ _ r0).trans rfl
  have c1 : W.cell? ⟨b, 1, none⟩ = some (.int .i64 0) := (cell_of_row _ _ 1 _ _ _ r0).trans rfl
  have c2 : W.cell? ⟨b, 2, none⟩ = some (.slice none 0 0) := (cell_of_row _ _ 2 _ _ _ r0).trans rfl
  have c3 : W.cell? ⟨b, 3, none⟩ = some (.slice (some ⟨b + 1, 0, none⟩) 2 2) := (cell_of_row _ _ 3 _ _ _ r0).trans rfl
  have c4 : W.cell? ⟨b, 4, none⟩ = some (.slice none 0 0) := (cell_of_row _ _ 4 _ _ _ r0).trans rfl
  have c5 : W.cell? ⟨b, 5, none⟩ = some (.slice none 0 0) := (cell_of_row _ _ 5 _ _ _ r0).trans rfl
  have c6 : W.cell? ⟨b, 6, none⟩ = some (.slice (some ⟨b + 1 + 1, 0, none⟩) 2 2) := (cell_of_row _ _ 6 _ _ _ r0).trans rfl
  clear r0 r1 r2 hsz
  replace hfont := hide hfont; replace hbel := hide hbel
  rw [hO0, hO1, hO2] at hW
  clear hO0 hO1 hO2
  replace hW := hide hW; replace hb := hide hb
  go_enter Try.func18, Try.ntmps18
  go_wp2_with fail
  rw [← unhide hb, ← unhide hW]
  exact bodyPost_ret (v := .agg #[.string ⟨#[]⟩, .int .i64 0, .slice none 0 0, .slice (some ⟨b + 1, 0, none⟩) 2 2, .slice none 0 0, .slice none 0 0, .slice (some ⟨b + 1 + 1, 0, none⟩) 2 2]) (by simp [results, Try.results18, go_sem, c0, c1, c2, c3, c4, c5, c6]) rfl ⟨⟨_, rfl, unhide hfont⟩, by first | exact unhide hbel | (rw [unhide hb]; exact unhide hbel)⟩
theorem sane1 : penS [30, 21] [(0, 1, -5), (1, 1, 4)] [0, 1, 1] [0, 2] 8 3 = 696 ∧ posL (penS [30, 21] [(0, 1, -5), (1, 1, 4)] [0, 1, 1] [0, 2] 8) 3 = [0, 3, 8] := by decide +kernel
theorem sane2 : penS [30, 21] [(0, 1, -5), (1, 1, 4)] [7, 0] [] 64 2 = 1920 ∧ posL (penS [30, 21] [(0, 1, -5), (1, 1, 4)] [7, 0] [] 64) 2 = [0, 0] := by decide +kernel
set_option maxRecDepth 100000 in
set_option maxHeartbeats 1000000 in
theorem sanity_any (w : World) : Calls Try.prog 8 #[] w fun e w' => e = .returned (.bool true) ∧ Below w.heap.size w w' := by
  go_enter Try.func8, Try.ntmps8
  go_wp2_with fail
  refine (example_any _).mono ?_
  rintro e w1 ⟨⟨f, rfl, hf⟩, hb1⟩
  obtain ⟨s, n, va, vn, vc, ga, gc, qa, qn, qc, ta, tn, tc, ka, kc, rfl⟩ := hf.shape
  simp only [List.length_cons, List.length_nil, Nat.zero_add, Nat.reduceAdd] at hf
  obtain ⟨b, hb⟩ : ∃ b, b = w1.heap.size := ⟨_, rfl⟩
  obtain ⟨W, hW⟩ : ∃ W, W = w1.alloc (Obj.cells #[.string s, .int .i64 n, .slice va vn vc, .slice ga 2 gc, .slice qa qn qc, .slice ta tn tc, .slice ka 2 kc] 33) := ⟨_, rfl⟩
  have hrow : W.heap[b]? = some (.cells #[.string s, .int .i64 n, .slice va vn vc, .slice ga 2 gc, .slice qa qn qc, .slice ta tn tc, .slice ka 2 kc] 33 (0, 0)) := by rw [hW, hb]; exact heap_alloc_new w1 _
  have hbW : Below w1.heap.size w1 W := by rw [hW]; exact (Below.refl _ _).alloc (Nat.le_refl _) _
  have hfW := hf.under hbW
  have hB := hb1.trans (hbW.mono hb1.size)
  obtain ⟨W1, hW1⟩ : ∃ W1, W1 = (W.alloc (Obj.cells #[Value.int .i64 0, .int .i64 1, .int .i64 1] 3)).alloc (Obj.cells #[Value.int .i64 0, .int .i64 2] 3) := ⟨_, rfl⟩
  have hbW1 : Below W.heap.size W W1 := by rw [hW1]; exact ((Below.refl _ _).alloc (Nat.le_refl _) _).alloc (by simp) _
  have p1 : W1.heap[W.heap.size]? = some (.cells ([0, 1, 1].map (Value.int .i64)).toArray 3 (0, 0)) := by
    rw [hW1]
    exact (Below.heap_alloc _ _ _ (by simp)).trans (heap_alloc_new W _)
  have p2 : W1.heap[W.heap.size + 1]? = some (.cells ([0, 2].map (Value.int .i64)).toArray 3 (0, 0)) := by
    rw [hW1]
    have := heap_alloc_new (W.alloc (Obj.cells #[Value.int .i64 0, .int .i64 1, .int .i64 1] 3)) (Obj.cells #[Value.int .i64 0, .int .i64 2] 3)
    rwa [World.size_alloc] at this
  have q1 := lst_lits W1 _ [0, 1, 1] 3 p1 (by intro x hx; simp at hx; unfold I64; omega)
  have q2 := lst_lits W1 _ [0, 2] 3 p2 (by intro x hx; simp at hx; unfold I64; omega)
  have hpl := kplace_font _ _ _ _ _ 3 _ _ _ 2 _ 8 W1 (hfW.under hbW1) q1 q2 (by decide) (by decide) (by unfold I64; omega)
  simp only [List.length_cons, List.length_nil, Nat.zero_add, Nat.reduceAdd] at hpl
  rw [sane1.1, sane1.2, show roundI 696 64 = 11 by decide] at hpl
  have hszW : W.heap.size = b + 1 := by rw [hW, hb]; simp
  rw [hszW] at hpl
  have hrow1 := (hbW1.block b (by omega)).trans hrow
  have hf1 := hfW.under hbW1
  have hB1 := hB.trans (hbW1.mono hB.size)
  clear hf hfW q1 q2 p1 p2 hbW1 hB hbW hrow hb1
  replace hpl := hide hpl; replace hb := hide hb; replace hW := hide hW; replace hW1 := hide hW1; replace hf1 := hide hf1; replace hB1 := hide hB1; replace hszW := hide hszW; replace hrow1 := hide hrow1
  go_wp2_with fail
  rw [← unhide hW, ← unhide hb, ← unhide hW1]
  refine (unhide hpl).mono ?_
  rintro e w2 ⟨pa, rfl, hla, hb2⟩
  have hf2 := (unhide hf1).under hb2
  have hrow2 := (hb2.block b (Array.getElem?_eq_some_iff.1 (unhide hrow1)).1).trans (unhide hrow1)
  have hB2 := (unhide hB1).trans (hb2.mono (unhide hB1).size)
  clear hpl hf1 hrow1 hB1 hb2
  have hr2 := hide hrow2
  clear hrow2
  replace hf2 := hide hf2; replace hB2 := hide hB2; replace hla := hide hla
  obtain ⟨y0, y1, y2, y3, y4, y5, y6⟩ := row7 (unhide hr2)
  obtain ⟨W2, hW2⟩ : ∃ W2, W2 = w2.alloc (Obj.cells #[Value.int .i64 7, .int .i64 0] 3) := ⟨_, rfl⟩
  have hb : Below w2.heap.size w2 W2 := by rw [hW2]; exact (Below.refl _ _).alloc (Nat.le_refl _) _
  have p1 : W2.heap[w2.heap.size]? = some (.cells ([7, 0].map (Value.int .i64)).toArray 3 (0, 0)) := by rw [hW2]; exact heap_alloc_new w2 _
  have q1 := lst_lits W2 _ [7, 0] 3 p1 (by intro x hx; simp at hx; unfold I64; omega)
  have hfx := (unhide hf2).under hb
  have hpl := kplace_font _ _ _ _ _ 2 _ none 0 0 [] 64 W2 hfx q1 (Lst.nil _ _ _ _) (by decide) (by decide) (by unfold I64; omega)
  simp only [List.length_cons, List.length_nil, Nat.zero_add, Nat.reduceAdd] at hpl
  rw [sane2.1, sane2.2, show roundI 1920 64 = 30 by decide] at hpl
  have hrx := row_kept (unhide hr2) hb
  have hBx := (unhide hB2).trans (hb.mono (unhide hB2).size)
  have hlx := (unhide hla).under hb
  clear p1 q1 hf2 hr2 hB2 hla hb
  replace hfx := hide hfx; replace hrx := hide hrx; replace hBx := hide hBx; replace hlx := hide hlx; replace hpl := hide hpl; replace hW2 := hide hW2
  go_wp2_with fail
  rw [← unhide hW2]
  refine (unhide hpl).mono ?_
  rintro e w3 ⟨pb, rfl, hlb, hb⟩
  have hla3 := (unhide hlx).under hb
  clear hlx hpl hW2
  replace hla3 := hide hla3; replace hlb := hide hlb
  have hf3 := (unhide hfx).under hb
  have hr3 := row_kept (unhide hrx) hb
  have hB3 := (unhide hBx).trans (hb.mono (unhide hBx).size)
  clear hfx hrx hBx hb y0 y1 y2 y3 y4 y5 y6
  replace hf3 := hide hf3; replace hr3 := hide hr3; replace hB3 := hide hB3
  obtain ⟨y0, y1, y2, y3, y4, y5, y6⟩ := row7 (unhide hr3)
  have cB := kby_font _ _ _ 0 1 w3 (unhide hf3) (by unfold I64; omega) (by unfold I64; omega)
  rw [show findBy [(0, 1, -5), (1, 1, 4)] 0 1 = -5 by decide] at cB
  replace cB := hide cB
  go_wp2_with fail
  refine (unhide cB).mono ?_
  rintro e w4 ⟨rfl, hb⟩
  have hla4 := (unhide hla3).under hb
  have hlb4 := (unhide hlb).under hb
  clear cB hla3 hlb
  replace hla4 := hide hla4; replace hlb4 := hide hlb4
  have hf4 := (unhide hf3).under hb
  have hr4 := row_kept (unhide hr3) hb
  have hB4 := (unhide hB3).trans (hb.mono (unhide hB3).size)
  clear hf3 hr3 hB3 hb y0 y1 y2 y3 y4 y5 y6
  replace hf4 := hide hf4; replace hr4 := hide hr4; replace hB4 := hide hB4
  obtain ⟨y0, y1, y2, y3, y4, y5, y6⟩ := row7 (unhide hr4)
  have cB := kby_font _ _ _ 1 0 w4 (unhide hf4) (by unfold I64; omega) (by unfold I64; omega)
  rw [show findBy [(0, 1, -5), (1, 1, 4)] 1 0 = 0 by decide] at cB
  replace cB := hide cB
  go_wp2_with fail
  refine (unhide cB).mono ?_
  rintro e w5 ⟨rfl, hb⟩
  have hla5 := (unhide hla4).under hb
  have hlb5 := (unhide hlb4).under hb
  clear cB hla4 hlb4
  replace hla5 := hide hla5; replace hlb5 := hide hlb5
  have hf5 := (unhide hf4).under hb
  have hr5 := row_kept (unhide hr4) hb
  have hB5 := (unhide hB4).trans (hb.mono (unhide hB4).size)
  clear hf4 hr4 hB4 hb y0 y1 y2 y3 y4 y5 y6
  replace hf5 := hide hf5; replace hr5 := hide hr5; replace hB5 := hide hB5
  obtain ⟨y0, y1, y2, y3, y4, y5, y6⟩ := row7 (unhide hr5)
  have cB := kby_font _ _ _ 1 1 w5 (unhide hf5) (by unfold I64; omega) (by unfold I64; omega)
  rw [show findBy [(0, 1, -5), (1, 1, 4)] 1 1 = 4 by decide] at cB
  replace cB := hide cB
  go_wp2_with fail
  refine (unhide cB).mono ?_
  rintro e w6 ⟨rfl, hb⟩
  have hla6 := (unhide hla5).under hb
  have hlb6 := (unhide hlb5).under hb
  have hB6 := (unhide hB5).trans (hb.mono (unhide hB5).size)
  clear cB hla5 hlb5 hf5 hr5 hB5 hb y0 y1 y2 y3 y4 y5 y6
  obtain ⟨W6, hW6⟩ : ∃ W6, W6 = w6.alloc (Obj.cells #[Value.int .i64 0, .int .i64 3, .int .i64 8] 3) := ⟨_, rfl⟩
  have hb : Below w6.heap.size w6 W6 := by rw [hW6]; exact (Below.refl _ _).alloc (Nat.le_refl _) _
  have p1 : W6.heap[w6.heap.size]? = some (.cells ([0, 3, 8].map (Value.int .i64)).toArray 3 (0, 0)) := by rw [hW6]; exact heap_alloc_new w6 _
  have q1 := lst_lits W6 _ [0, 3, 8] 3 p1 (by intro x hx; simp at hx; unfold I64; omega)
  have cS := sameInts_below _ _ 3 3 3 3 _ _ W6 (hla6.under hb) q1 (by decide) (by decide)
  rw [show decide (([0, 3, 8] : List Int) = [0, 3, 8]) = true by decide] at cS
  have hlb7 := hlb6.under hb
  have hB7 := hB6.trans (hb.mono hB6.size)
  clear p1 q1 hla6 hlb6 hB6 hb
  replace cS := hide cS; replace hlb7 := hide hlb7; replace hB7 := hide hB7; replace hW6 := hide hW6
  go_wp2_with fail
  rw [← unhide hW6]
  refine (unhide cS).mono ?_
  rintro e w8 ⟨rfl, hb⟩
  have hlb8 := (unhide hlb7).under hb
  have hB8 := (unhide hB7).trans (hb.mono (unhide hB7).size)
  clear cS hlb7 hB7 hb hW6
  obtain ⟨W8, hW8⟩ : ∃ W8, W8 = w8.alloc (Obj.cells #[Value.int .i64 0, .int .i64 0] 3) := ⟨_, rfl⟩
  have hb : Below w8.heap.size w8 W8 := by rw [hW8]; exact (Below.refl _ _).alloc (Nat.le_refl _) _
  have p1 : W8.heap[w8.heap.size]? = some (.cells ([0, 0].map (Value.int .i64)).toArray 3 (0, 0)) := by rw [hW8]; exact heap_alloc_new w8 _
  have q1 := lst_lits W8 _ [0, 0] 3 p1 (by intro x hx; simp at hx; unfold I64; omega)
  have cS := sameInts_below _ _ 2 2 2 2 _ _ W8 (hlb8.under hb) q1 (by decide) (by decide)
  rw [show decide (([0, 0] : List Int) = [0, 0]) = true by decide] at cS
  have hB9 := hB8.trans (hb.mono hB8.size)
  clear p1 q1 hlb8 hB8 hb
  replace cS := hide cS; replace hB9 := hide hB9; replace hW8 := hide hW8
  go_wp2_with fail
  rw [← unhide hW8]
  refine (unhide cS).mono ?_
  rintro e w9 ⟨rfl, hb⟩
  have hfin := (unhide hB9).trans (hb.mono (unhide hB9).size)
  clear cS hB9 hb hW8
  replace hfin := hide hfin
  go_wp2_with fail
  go_ret
  exact ⟨rfl, unhide hfin⟩
end Go.Proofs.Ytbbbldaccpfooaa
