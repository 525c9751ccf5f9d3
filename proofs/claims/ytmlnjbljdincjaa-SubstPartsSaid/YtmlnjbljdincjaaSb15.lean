/- Lookups: the law's sanity. -/
import Derived.Test.YtmlnjbljdincjaaSb14
namespace Go.Proofs.Ytmlnjbljdincjaa
open Go.RowKit
def sX : List Sub := [([], [1, 2], [], 7), ([1], [3], [], 8)]
def sY : List Sub := [([], [7, 7], [], 9), ([], [3], [3], 4)]
theorem lst_lits {w : World} {b T : Nat} {l : List Int} (h : w.heap[b]? = some (.cells (l.map (Value.int .i64)).toArray T (0, 0))) (hl : ∀ x ∈ l, I64 x) : Lst Enc.int w (· < w.heap.size) (some ⟨b, 0, none⟩) l.length l := lst_ints h hl (Array.getElem?_eq_some_iff.1 h).1
theorem lst_flatw {α : Type} {E : Enc α} {w : World} {b T : Nat} {cs : List Value} {l : List α} (h : w.heap[b]? = some (.cells cs.toArray T (0, 0))) (hf : Flat E w (· < w.heap.size) cs l) : Lst E w (· < w.heap.size) (some ⟨b, 0, none⟩) l.length l := lst_flat h hf (Array.getElem?_eq_some_iff.1 h).1
theorem rep_lits {w : World} {b T n : Nat} {l : List Int} (h : w.heap[b]? = some (.cells (l.map (Value.int .i64)).toArray T (0, 0))) (hn : l.length = n) (hn2 : n ≤ 1000) (hl : ∀ x ∈ l, I64 x) : (Enc.list Enc.int).rep w (· < w.heap.size) [.slice (some ⟨b, 0, none⟩) n n] l := rep_ints h hn hn2 hl (Array.getElem?_eq_some_iff.1 h).1
theorem check_lit {la : Option Addr} {ln lc : Nat} {l : List (List Sub)} {mg : Int} {w : World} (v : Int) (hl : Lst Enc.lk w (· < w.heap.size) la ln l) (hln : ln ≤ 1000) (hsm : ∀ x ∈ l, Small x) (hv : checkS l mg = v) :
    Calls Try.prog 12 #[.slice la ln lc, .int .i64 mg] w fun e w' => e = .returned (.int .i64 v) ∧ Below w.heap.size w w' := by
  subst hv
  exact check_any la ln lc l mg w hl hln hsm
theorem info_sub : (Try.prog.info? 43).map (fun i => (i.zero, i.size, i.bytes)) = some (some (.agg #[.slice none 0 0, .slice none 0 0, .slice none 0 0, .int .i64 0]), 4, 80) := by kernel_rfl
theorem make_subs (w : World) : (Instr.makeSlice 35 (.int .i64 25) (.int .i64 25)).run Try.prog w = .ok (.slice (some ⟨w.heap.size, 0, none⟩) 25 25) (w.alloc (Obj.cells (madeCells #[.slice none 0 0, .slice none 0 0, .slice none 0 0, .int .i64 0] 100) 43)) := by
  obtain ⟨i0, hi, hz0, hz1, hz2⟩ := info_parts info_sub
  have := run_make (P := Try.prog) w 35 43 i0 _ Try.underlying35 hi hz0 .i64 .i64 25 25 (by decide) (by decide) (by rw [hz2]; decide) (by decide)
  rw [hz1] at this
  exact this
theorem zero_cells : madeCells #[.slice none 0 0, .slice none 0 0, .slice none 0 0, .int .i64 0] 100 = ((List.replicate 25 [.slice none 0 0, .slice none 0 0, .slice none 0 0, .int .i64 0]).flatten).toArray := by kernel_rfl
theorem flat_zero {w : World} {S : Nat → Prop} (n : Nat) : Flat Enc.sub w S (List.replicate n [.slice none 0 0, .slice none 0 0, .slice none 0 0, .int .i64 0]).flatten (List.replicate n ([], [], [], 0)) := by
  induction n with
  | zero => rfl
  | succ n ih => exact ⟨_, _, rfl, rep_sub (s := ([], [], [], 0)) rep_nil rep_nil rep_nil ⟨by decide, by decide⟩, ih⟩
set_option maxRecDepth 100000 in
set_option maxHeartbeats 8000000 in
theorem sanity_any (w : World) :
    Calls Try.prog 8 #[] w fun e w' => e = .returned (.bool true) ∧ Below w.heap.size w w' := by
  go_enter Try.func8, Try.ntmps8
  go_wp2_with fail
  have st := ((((((((((((St.start w).alloc (Obj.cells #[.int .i64 1, .int .i64 2] 3)).alloc (Obj.cells #[.int .i64 1] 3)).alloc (Obj.cells #[.int .i64 3] 3)).alloc (Obj.cells #[.slice none 0 0, .slice (some ⟨w.heap.size, 0, none⟩) 2 2, .slice none 0 0, .int .i64 7, .slice (some ⟨w.heap.size + 1, 0, none⟩) 1 1, .slice (some ⟨w.heap.size + 1 + 1, 0, none⟩) 1 1, .slice none 0 0, .int .i64 8] 43)).alloc (Obj.cells #[.slice (some ⟨w.heap.size + 1 + 1 + 1, 0, none⟩) 2 2] 37)).alloc (Obj.cells #[.int .i64 7, .int .i64 7] 3)).alloc (Obj.cells #[.int .i64 3] 3)).alloc (Obj.cells #[.int .i64 3] 3)).alloc (Obj.cells #[.slice none 0 0, .slice (some ⟨w.heap.size + 1 + 1 + 1 + 1 + 1, 0, none⟩) 2 2, .slice none 0 0, .int .i64 9, .slice none 0 0, .slice (some ⟨w.heap.size + 1 + 1 + 1 + 1 + 1 + 1, 0, none⟩) 1 1, .slice (some ⟨w.heap.size + 1 + 1 + 1 + 1 + 1 + 1 + 1, 0, none⟩) 1 1, .int .i64 4] 43)).alloc (Obj.cells #[.slice (some ⟨w.heap.size + 1 + 1 + 1 + 1 + 1 + 1 + 1 + 1, 0, none⟩) 2 2] 37)).alloc (Obj.cells #[.int .i64 1, .int .i64 2, .int .i64 3] 3))
  simp only [World.size_alloc] at st
  obtain ⟨W1, hW1⟩ : ∃ W1, (((((((((((w.alloc (Obj.cells #[.int .i64 1, .int .i64 2] 3)).alloc (Obj.cells #[.int .i64 1] 3)).alloc (Obj.cells #[.int .i64 3] 3)).alloc (Obj.cells #[.slice none 0 0, .slice (some ⟨w.heap.size, 0, none⟩) 2 2, .slice none 0 0, .int .i64 7, .slice (some ⟨w.heap.size + 1, 0, none⟩) 1 1, .slice (some ⟨w.heap.size + 1 + 1, 0, none⟩) 1 1, .slice none 0 0, .int .i64 8] 43)).alloc (Obj.cells #[.slice (some ⟨w.heap.size + 1 + 1 + 1, 0, none⟩) 2 2] 37)).alloc (Obj.cells #[.int .i64 7, .int .i64 7] 3)).alloc (Obj.cells #[.int .i64 3] 3)).alloc (Obj.cells #[.int .i64 3] 3)).alloc (Obj.cells #[.slice none 0 0, .slice (some ⟨w.heap.size + 1 + 1 + 1 + 1 + 1, 0, none⟩) 2 2, .slice none 0 0, .int .i64 9, .slice none 0 0, .slice (some ⟨w.heap.size + 1 + 1 + 1 + 1 + 1 + 1, 0, none⟩) 1 1, .slice (some ⟨w.heap.size + 1 + 1 + 1 + 1 + 1 + 1 + 1, 0, none⟩) 1 1, .int .i64 4] 43)).alloc (Obj.cells #[.slice (some ⟨w.heap.size + 1 + 1 + 1 + 1 + 1 + 1 + 1 + 1, 0, none⟩) 2 2] 37)).alloc (Obj.cells #[.int .i64 1, .int .i64 2, .int .i64 3] 3)) = W1 := ⟨_, rfl⟩
  rw [hW1] at st ⊢
  clear hW1
  obtain ⟨b0, hb0⟩ : ∃ b0, w.heap.size = b0 := ⟨_, rfl⟩
  obtain ⟨b1, hb1⟩ : ∃ b1, b0 + 1 = b1 := ⟨_, rfl⟩
  obtain ⟨b2, hb2⟩ : ∃ b2, b1 + 1 = b2 := ⟨_, rfl⟩
  obtain ⟨b3, hb3⟩ : ∃ b3, b2 + 1 = b3 := ⟨_, rfl⟩
  obtain ⟨b4, hb4⟩ : ∃ b4, b3 + 1 = b4 := ⟨_, rfl⟩
  obtain ⟨b5, hb5⟩ : ∃ b5, b4 + 1 = b5 := ⟨_, rfl⟩
  obtain ⟨b6, hb6⟩ : ∃ b6, b5 + 1 = b6 := ⟨_, rfl⟩
  obtain ⟨b7, hb7⟩ : ∃ b7, b6 + 1 = b7 := ⟨_, rfl⟩
  obtain ⟨b8, hb8⟩ : ∃ b8, b7 + 1 = b8 := ⟨_, rfl⟩
  obtain ⟨b9, hb9⟩ : ∃ b9, b8 + 1 = b9 := ⟨_, rfl⟩
  obtain ⟨b10, hb10⟩ : ∃ b10, b9 + 1 = b10 := ⟨_, rfl⟩
  simp only [hb0, hb1, hb2, hb3, hb4, hb5, hb6, hb7, hb8, hb9, hb10] at st ⊢
  have hG := lst_lits (l := [1, 2, 3]) (st.get 0 rfl) (i64_lit _ (by decide))
  have hX : Lst Enc.sub W1 (· < W1.heap.size) (some ⟨b3, 0, none⟩) 2 sX := lst_flatw (l := sX) (cs := [.slice none 0 0, .slice (some ⟨b0, 0, none⟩) 2 2, .slice none 0 0, .int .i64 7, .slice (some ⟨b1, 0, none⟩) 1 1, .slice (some ⟨b2, 0, none⟩) 1 1, .slice none 0 0, .int .i64 8]) (st.get 7 rfl)
    ⟨[.slice none 0 0, .slice (some ⟨b0, 0, none⟩) 2 2, .slice none 0 0, .int .i64 7], [.slice (some ⟨b1, 0, none⟩) 1 1, .slice (some ⟨b2, 0, none⟩) 1 1, .slice none 0 0, .int .i64 8], rfl, rep_sub (s := ([], [1, 2], [], 7)) rep_nil (rep_lits (st.get 10 rfl) rfl (by decide) (i64_lit _ (by decide))) rep_nil ⟨by decide, by decide⟩, _, [], rfl, rep_sub (s := ([1], [3], [], 8)) (rep_lits (st.get 9 rfl) rfl (by decide) (i64_lit _ (by decide))) (rep_lits (st.get 8 rfl) rfl (by decide) (i64_lit _ (by decide))) rep_nil ⟨by decide, by decide⟩, rfl⟩
  have hY : Lst Enc.sub W1 (· < W1.heap.size) (some ⟨b8, 0, none⟩) 2 sY := lst_flatw (l := sY) (cs := [.slice none 0 0, .slice (some ⟨b5, 0, none⟩) 2 2, .slice none 0 0, .int .i64 9, .slice none 0 0, .slice (some ⟨b6, 0, none⟩) 1 1, .slice (some ⟨b7, 0, none⟩) 1 1, .int .i64 4]) (st.get 2 rfl)
    ⟨[.slice none 0 0, .slice (some ⟨b5, 0, none⟩) 2 2, .slice none 0 0, .int .i64 9], [.slice none 0 0, .slice (some ⟨b6, 0, none⟩) 1 1, .slice (some ⟨b7, 0, none⟩) 1 1, .int .i64 4], rfl, rep_sub (s := ([], [7, 7], [], 9)) rep_nil (rep_lits (st.get 5 rfl) rfl (by decide) (i64_lit _ (by decide))) rep_nil ⟨by decide, by decide⟩, _, [], rfl, rep_sub (s := ([], [3], [3], 4)) rep_nil (rep_lits (st.get 4 rfl) rfl (by decide) (i64_lit _ (by decide))) (rep_lits (st.get 3 rfl) rfl (by decide) (i64_lit _ (by decide))) ⟨by decide, by decide⟩, rfl⟩
  have cx := st.get 6 rfl
  have cy := st.get 1 rfl
  have hz := st.below
  rw [← hb0] at hz
  obtain ⟨w1, rfl⟩ : ∃ w1 : World, w1 = W1 := ⟨_, rfl⟩
  clear st hb0 hb1 hb2 hb3 hb4 hb5 hb6 hb7 hb8 hb9 hb10
  obtain ⟨v1, rfl⟩ : ∃ v1 : World, v1 = w1 := ⟨_, rfl⟩
  refine (match_lit (x := sX) (g := [1, 2, 3]) (i := (0)) (0) hX hG (by unfold Small; decide) (by decide) (by decide +kernel)).mono ?_
  rintro e w2 ⟨rfl, hbc⟩
  have hX' := hX.under hbc
  have hY' := hY.under hbc
  have hG' := hG.under hbc
  have cx' := (hbc.block _ (Array.getElem?_eq_some_iff.1 cx).1).trans cx
  have cy' := (hbc.block _ (Array.getElem?_eq_some_iff.1 cy).1).trans cy
  have hz' := hz.trans (hbc.mono hz.size)
  clear hX hY hG cx cy hz hbc
  have hX := hX'
  clear hX'
  have hY := hY'
  clear hY'
  have hG := hG'
  clear hG'
  have cx := cx'
  clear cx'
  have cy := cy'
  clear cy'
  have hz := hz'
  clear hz'
  have kx := (cell_of_row _ _ 0 _ _ _ cx).trans rfl
  have ky := (cell_of_row _ _ 0 _ _ _ cy).trans rfl
  replace hX := hide hX; replace hY := hide hY; replace hG := hide hG; replace cx := hide cx; replace cy := hide cy; replace hz := hide hz
  go_wp2_with fail
  replace hX := unhide hX; replace hY := unhide hY; replace hG := unhide hG; replace cx := unhide cx; replace cy := unhide cy; replace hz := unhide hz
  clear kx ky
  obtain ⟨v2, rfl⟩ : ∃ v2 : World, v2 = w2 := ⟨_, rfl⟩
  refine (match_lit (x := sX) (g := [1, 2, 3]) (i := (1)) (-1) hX hG (by unfold Small; decide) (by decide) (by decide +kernel)).mono ?_
  rintro e w3 ⟨rfl, hbc⟩
  have hX' := hX.under hbc
  have hY' := hY.under hbc
  have hG' := hG.under hbc
  have cx' := (hbc.block _ (Array.getElem?_eq_some_iff.1 cx).1).trans cx
  have cy' := (hbc.block _ (Array.getElem?_eq_some_iff.1 cy).1).trans cy
  have hz' := hz.trans (hbc.mono hz.size)
  clear hX hY hG cx cy hz hbc
  have hX := hX'
  clear hX'
  have hY := hY'
  clear hY'
  have hG := hG'
  clear hG'
  have cx := cx'
  clear cx'
  have cy := cy'
  clear cy'
  have hz := hz'
  clear hz'
  have kx := (cell_of_row _ _ 0 _ _ _ cx).trans rfl
  have ky := (cell_of_row _ _ 0 _ _ _ cy).trans rfl
  replace hX := hide hX; replace hY := hide hY; replace hG := hide hG; replace cx := hide cx; replace cy := hide cy; replace hz := hide hz
  go_wp2_with fail
  replace hX := unhide hX; replace hY := unhide hY; replace hG := unhide hG; replace cx := unhide cx; replace cy := unhide cy; replace hz := unhide hz
  clear kx ky
  obtain ⟨v3, rfl⟩ : ∃ v3 : World, v3 = w3 := ⟨_, rfl⟩
  refine (match_lit (x := sX) (g := [1, 2, 3]) (i := (2)) (-1) hX hG (by unfold Small; decide) (by decide) (by decide +kernel)).mono ?_
  rintro e w4 ⟨rfl, hbc⟩
  have hX' := hX.under hbc
  have hY' := hY.under hbc
  have hG' := hG.under hbc
  have cx' := (hbc.block _ (Array.getElem?_eq_some_iff.1 cx).1).trans cx
  have cy' := (hbc.block _ (Array.getElem?_eq_some_iff.1 cy).1).trans cy
  have hz' := hz.trans (hbc.mono hz.size)
  clear hX hY hG cx cy hz hbc
  have hX := hX'
  clear hX'
  have hY := hY'
  clear hY'
  have hG := hG'
  clear hG'
  have cx := cx'
  clear cx'
  have cy := cy'
  clear cy'
  have hz := hz'
  clear hz'
  have kx := (cell_of_row _ _ 0 _ _ _ cx).trans rfl
  have ky := (cell_of_row _ _ 0 _ _ _ cy).trans rfl
  replace hX := hide hX; replace hY := hide hY; replace hG := hide hG; replace cx := hide cx; replace cy := hide cy; replace hz := hide hz
  go_wp2_with fail
  replace hX := unhide hX; replace hY := unhide hY; replace hG := unhide hG; replace cx := unhide cx; replace cy := unhide cy; replace hz := unhide hz
  clear kx ky
  obtain ⟨v4, rfl⟩ : ∃ v4 : World, v4 = w4 := ⟨_, rfl⟩
  refine (match_lit (x := sX) (g := [1, 2, 3]) (i := (3)) (-1) hX hG (by unfold Small; decide) (by decide) (by decide +kernel)).mono ?_
  rintro e w5 ⟨rfl, hbc⟩
  have hX' := hX.under hbc
  have hY' := hY.under hbc
  have hG' := hG.under hbc
  have cx' := (hbc.block _ (Array.getElem?_eq_some_iff.1 cx).1).trans cx
  have cy' := (hbc.block _ (Array.getElem?_eq_some_iff.1 cy).1).trans cy
  have hz' := hz.trans (hbc.mono hz.size)
  clear hX hY hG cx cy hz hbc
  have hX := hX'
  clear hX'
  have hY := hY'
  clear hY'
  have hG := hG'
  clear hG'
  have cx := cx'
  clear cx'
  have cy := cy'
  clear cy'
  have hz := hz'
  clear hz'
  have kx := (cell_of_row _ _ 0 _ _ _ cx).trans rfl
  have ky := (cell_of_row _ _ 0 _ _ _ cy).trans rfl
  replace hX := hide hX; replace hY := hide hY; replace hG := hide hG; replace cx := hide cx; replace cy := hide cy; replace hz := hide hz
  go_wp2_with fail
  replace hX := unhide hX; replace hY := unhide hY; replace hG := unhide hG; replace cx := unhide cx; replace cy := unhide cy; replace hz := unhide hz
  clear kx ky
  obtain ⟨v5, rfl⟩ : ∃ v5 : World, v5 = w5 := ⟨_, rfl⟩
  refine (match_lit (x := sX) (g := [1, 2, 3]) (i := (-1)) (-1) hX hG (by unfold Small; decide) (by decide) (by decide +kernel)).mono ?_
  rintro e w6 ⟨rfl, hbc⟩
  have hX' := hX.under hbc
  have hY' := hY.under hbc
  have hG' := hG.under hbc
  have cx' := (hbc.block _ (Array.getElem?_eq_some_iff.1 cx).1).trans cx
  have cy' := (hbc.block _ (Array.getElem?_eq_some_iff.1 cy).1).trans cy
  have hz' := hz.trans (hbc.mono hz.size)
  clear hX hY hG cx cy hz hbc
  have hX := hX'
  clear hX'
  have hY := hY'
  clear hY'
  have hG := hG'
  clear hG'
  have cx := cx'
  clear cx'
  have cy := cy'
  clear cy'
  have hz := hz'
  clear hz'
  have kx := (cell_of_row _ _ 0 _ _ _ cx).trans rfl
  have ky := (cell_of_row _ _ 0 _ _ _ cy).trans rfl
  replace hX := hide hX; replace hY := hide hY; replace hG := hide hG; replace cx := hide cx; replace cy := hide cy; replace hz := hide hz
  go_wp2_with fail
  replace hX := unhide hX; replace hY := unhide hY; replace hG := unhide hG; replace cx := unhide cx; replace cy := unhide cy; replace hz := unhide hz
  clear kx ky
  have st := ((St.start w6).alloc (Obj.cells #[.int .i64 1, .int .i64 3] 3))
  obtain ⟨v6, hwb⟩ : ∃ v6, (w6.alloc (Obj.cells #[.int .i64 1, .int .i64 3] 3)) = v6 := ⟨_, rfl⟩
  rw [hwb] at st ⊢
  clear hwb
  have hbb := st.below
  have hq := lst_lits (l := [1, 3]) (st.get 0 rfl) (i64_lit _ (by decide))
  have hX' := hX.under hbb
  have hY' := hY.under hbb
  have hG' := hG.under hbb
  have cx' := (hbb.block _ (Array.getElem?_eq_some_iff.1 cx).1).trans cx
  have cy' := (hbb.block _ (Array.getElem?_eq_some_iff.1 cy).1).trans cy
  have hz' := hz.trans (hbb.mono hz.size)
  clear hX hY hG cx cy hz hbb
  have hX := hX'
  clear hX'
  have hY := hY'
  clear hY'
  have hG := hG'
  clear hG'
  have cx := cx'
  clear cx'
  have cy := cy'
  clear cy'
  have hz := hz'
  clear hz'
  refine (match_lit (x := sX) (g := [1, 3]) (i := 1) 1 hX hq (by unfold Small; decide) (by decide) (by decide +kernel)).mono ?_
  rintro e w7 ⟨rfl, hbc⟩
  clear st
  have hX' := hX.under hbc
  have hY' := hY.under hbc
  have hG' := hG.under hbc
  have cx' := (hbc.block _ (Array.getElem?_eq_some_iff.1 cx).1).trans cx
  have cy' := (hbc.block _ (Array.getElem?_eq_some_iff.1 cy).1).trans cy
  have hz' := hz.trans (hbc.mono hz.size)
  clear hX hY hG cx cy hz hbc
  have hX := hX'
  clear hX'
  have hY := hY'
  clear hY'
  have hG := hG'
  clear hG'
  have cx := cx'
  clear cx'
  have cy := cy'
  clear cy'
  have hz := hz'
  clear hz'
  have kx := (cell_of_row _ _ 0 _ _ _ cx).trans rfl
  have ky := (cell_of_row _ _ 0 _ _ _ cy).trans rfl
  replace hX := hide hX; replace hY := hide hY; replace hG := hide hG; replace cx := hide cx; replace cy := hide cy; replace hz := hide hz
  go_wp2_with fail
  replace hX := unhide hX; replace hY := unhide hY; replace hG := unhide hG; replace cx := unhide cx; replace cy := unhide cy; replace hz := unhide hz
  clear kx ky
  have st := (((St.start w7).alloc (Obj.cells #[.slice none 0 0, .slice none 0 0, .slice none 0 0, .int .i64 1] 43)).alloc (Obj.cells #[.int .i64 1] 3))
  simp only [World.size_alloc] at st
  obtain ⟨v7, hwb⟩ : ∃ v7, ((w7.alloc (Obj.cells #[.slice none 0 0, .slice none 0 0, .slice none 0 0, .int .i64 1] 43)).alloc (Obj.cells #[.int .i64 1] 3)) = v7 := ⟨_, rfl⟩
  rw [hwb] at st ⊢
  clear hwb
  have hbb := st.below
  have hq := lst_lits (l := [1]) (st.get 0 rfl) (i64_lit _ (by decide))
  have hs := lst_flatw (E := Enc.sub) (l := [([], [], [], 1)]) (cs := [.slice none 0 0, .slice none 0 0, .slice none 0 0, .int .i64 1]) (st.get 1 rfl) ⟨_, [], rfl, rep_sub (s := ([], [], [], 1)) rep_nil rep_nil rep_nil ⟨by decide, by decide⟩, rfl⟩
  have hX' := hX.under hbb
  have hY' := hY.under hbb
  have hG' := hG.under hbb
  have cx' := (hbb.block _ (Array.getElem?_eq_some_iff.1 cx).1).trans cx
  have cy' := (hbb.block _ (Array.getElem?_eq_some_iff.1 cy).1).trans cy
  have hz' := hz.trans (hbb.mono hz.size)
  clear hX hY hG cx cy hz hbb
  have hX := hX'
  clear hX'
  have hY := hY'
  clear hY'
  have hG := hG'
  clear hG'
  have cx := cx'
  clear cx'
  have cy := cy'
  clear cy'
  have hz := hz'
  clear hz'
  refine (match_lit (x := [([], [], [], 1)]) (g := [1]) (i := 0) (-1) hs hq (by unfold Small; decide) (by decide) (by decide +kernel)).mono ?_
  rintro e w8 ⟨rfl, hbc⟩
  clear st
  have hX' := hX.under hbc
  have hY' := hY.under hbc
  have hG' := hG.under hbc
  have cx' := (hbc.block _ (Array.getElem?_eq_some_iff.1 cx).1).trans cx
  have cy' := (hbc.block _ (Array.getElem?_eq_some_iff.1 cy).1).trans cy
  have hz' := hz.trans (hbc.mono hz.size)
  clear hX hY hG cx cy hz hbc
  have hX := hX'
  clear hX'
  have hY := hY'
  clear hY'
  have hG := hG'
  clear hG'
  have cx := cx'
  clear cx'
  have cy := cy'
  clear cy'
  have hz := hz'
  clear hz'
  have kx := (cell_of_row _ _ 0 _ _ _ cx).trans rfl
  have ky := (cell_of_row _ _ 0 _ _ _ cy).trans rfl
  replace hX := hide hX; replace hY := hide hY; replace hG := hide hG; replace cx := hide cx; replace cy := hide cy; replace hz := hide hz
  go_wp2_with fail
  replace hX := unhide hX; replace hY := unhide hY; replace hG := unhide hG; replace cx := unhide cx; replace cy := unhide cy; replace hz := unhide hz
  clear kx ky
  have st := ((((St.start w8).alloc (Obj.cells #[.slice (some ⟨b3, 0, none⟩) 2 2] 37)).alloc (Obj.cells #[.int .i64 7, .int .i64 3] 3)).alloc (Obj.cells #[.int .i64 0, .int .i64 2] 3))
  simp only [World.size_alloc] at st
  obtain ⟨v8, hwb⟩ : ∃ v8, (((w8.alloc (Obj.cells #[.slice (some ⟨b3, 0, none⟩) 2 2] 37)).alloc (Obj.cells #[.int .i64 7, .int .i64 3] 3)).alloc (Obj.cells #[.int .i64 0, .int .i64 2] 3)) = v8 := ⟨_, rfl⟩
  rw [hwb] at st ⊢
  clear hwb
  have hbb := st.below
  have hl := lst_flatw (E := Enc.lk) (l := [sX]) (cs := [.slice (some ⟨b3, 0, none⟩) 2 2]) (st.get 2 rfl) ⟨[.slice (some ⟨b3, 0, none⟩) 2 2], _, rfl, ⟨_, _, _, rfl, Nat.le_refl _, by decide, hX.under hbb⟩, rfl⟩
  have hw2 := lst_lits (l := [7, 3]) (st.get 1 rfl) (i64_lit _ (by decide))
  have hf2 := lst_lits (l := [0, 2]) (st.get 0 rfl) (i64_lit _ (by decide))
  have hX' := hX.under hbb
  have hY' := hY.under hbb
  have hG' := hG.under hbb
  have cx' := (hbb.block _ (Array.getElem?_eq_some_iff.1 cx).1).trans cx
  have cy' := (hbb.block _ (Array.getElem?_eq_some_iff.1 cy).1).trans cy
  have hz' := hz.trans (hbb.mono hz.size)
  clear hX hY hG cx cy hz hbb
  have hX := hX'
  clear hX'
  have hY := hY'
  clear hY'
  have hG := hG'
  clear hG'
  have cx := cx'
  clear cx'
  have cy := cy'
  clear cy'
  have hz := hz'
  clear hz'
  refine (applied_lit hl hG hw2 hf2 (by decide) (by unfold Small; decide) (by unfold ToI I64; decide) (by decide) (by decide +kernel)).mono ?_
  rintro e w9 ⟨rfl, hbc⟩
  clear st
  have hX' := hX.under hbc
  have hY' := hY.under hbc
  have hG' := hG.under hbc
  have cx' := (hbc.block _ (Array.getElem?_eq_some_iff.1 cx).1).trans cx
  have cy' := (hbc.block _ (Array.getElem?_eq_some_iff.1 cy).1).trans cy
  have hz' := hz.trans (hbc.mono hz.size)
  clear hX hY hG cx cy hz hbc
  have hX := hX'
  clear hX'
  have hY := hY'
  clear hY'
  have hG := hG'
  clear hG'
  have cx := cx'
  clear cx'
  have cy := cy'
  clear cy'
  have hz := hz'
  clear hz'
  have kx := (cell_of_row _ _ 0 _ _ _ cx).trans rfl
  have ky := (cell_of_row _ _ 0 _ _ _ cy).trans rfl
  replace hX := hide hX; replace hY := hide hY; replace hG := hide hG; replace cx := hide cx; replace cy := hide cy; replace hz := hide hz
  go_wp2_with fail
  replace hX := unhide hX; replace hY := unhide hY; replace hG := unhide hG; replace cx := unhide cx; replace cy := unhide cy; replace hz := unhide hz
  clear kx ky
  have st := (((((St.start w9).alloc (Obj.cells #[.slice (some ⟨b3, 0, none⟩) 2 2] 37)).alloc (Obj.cells #[.int .i64 1, .int .i64 3, .int .i64 1, .int .i64 2] 3)).alloc (Obj.cells #[.int .i64 1, .int .i64 8, .int .i64 7] 3)).alloc (Obj.cells #[.int .i64 0, .int .i64 1, .int .i64 2] 3))
  simp only [World.size_alloc] at st
  obtain ⟨v9, hwb⟩ : ∃ v9, ((((w9.alloc (Obj.cells #[.slice (some ⟨b3, 0, none⟩) 2 2] 37)).alloc (Obj.cells #[.int .i64 1, .int .i64 3, .int .i64 1, .int .i64 2] 3)).alloc (Obj.cells #[.int .i64 1, .int .i64 8, .int .i64 7] 3)).alloc (Obj.cells #[.int .i64 0, .int .i64 1, .int .i64 2] 3)) = v9 := ⟨_, rfl⟩
  rw [hwb] at st ⊢
  clear hwb
  have hbb := st.below
  have hl := lst_flatw (E := Enc.lk) (l := [sX]) (cs := [.slice (some ⟨b3, 0, none⟩) 2 2]) (st.get 3 rfl) ⟨[.slice (some ⟨b3, 0, none⟩) 2 2], _, rfl, ⟨_, _, _, rfl, Nat.le_refl _, by decide, hX.under hbb⟩, rfl⟩
  have hg2 := lst_lits (l := [1, 3, 1, 2]) (st.get 2 rfl) (i64_lit _ (by decide))
  have hw2 := lst_lits (l := [1, 8, 7]) (st.get 1 rfl) (i64_lit _ (by decide))
  have hf2 := lst_lits (l := [0, 1, 2]) (st.get 0 rfl) (i64_lit _ (by decide))
  have hX' := hX.under hbb
  have hY' := hY.under hbb
  have hG' := hG.under hbb
  have cx' := (hbb.block _ (Array.getElem?_eq_some_iff.1 cx).1).trans cx
  have cy' := (hbb.block _ (Array.getElem?_eq_some_iff.1 cy).1).trans cy
  have hz' := hz.trans (hbb.mono hz.size)
  clear hX hY hG cx cy hz hbb
  have hX := hX'
  clear hX'
  have hY := hY'
  clear hY'
  have hG := hG'
  clear hG'
  have cx := cx'
  clear cx'
  have cy := cy'
  clear cy'
  have hz := hz'
  clear hz'
  refine (applied_lit hl hg2 hw2 hf2 (by decide) (by unfold Small; decide) (by unfold ToI I64; decide) (by decide) (by decide +kernel)).mono ?_
  rintro e w10 ⟨rfl, hbc⟩
  clear st
  have hX' := hX.under hbc
  have hY' := hY.under hbc
  have hG' := hG.under hbc
  have cx' := (hbc.block _ (Array.getElem?_eq_some_iff.1 cx).1).trans cx
  have cy' := (hbc.block _ (Array.getElem?_eq_some_iff.1 cy).1).trans cy
  have hz' := hz.trans (hbc.mono hz.size)
  clear hX hY hG cx cy hz hbc
  have hX := hX'
  clear hX'
  have hY := hY'
  clear hY'
  have hG := hG'
  clear hG'
  have cx := cx'
  clear cx'
  have cy := cy'
  clear cy'
  have hz := hz'
  clear hz'
  have kx := (cell_of_row _ _ 0 _ _ _ cx).trans rfl
  have ky := (cell_of_row _ _ 0 _ _ _ cy).trans rfl
  replace hX := hide hX; replace hY := hide hY; replace hG := hide hG; replace cx := hide cx; replace cy := hide cy; replace hz := hide hz
  go_wp2_with fail
  replace hX := unhide hX; replace hY := unhide hY; replace hG := unhide hG; replace cx := unhide cx; replace cy := unhide cy; replace hz := unhide hz
  clear kx ky
  have st := (((((St.start w10).alloc (Obj.cells #[.slice (some ⟨b3, 0, none⟩) 2 2, .slice (some ⟨b8, 0, none⟩) 2 2] 37)).alloc (Obj.cells #[.int .i64 1, .int .i64 2, .int .i64 1, .int .i64 2, .int .i64 5] 3)).alloc (Obj.cells #[.int .i64 9, .int .i64 5] 3)).alloc (Obj.cells #[.int .i64 0, .int .i64 4] 3))
  simp only [World.size_alloc] at st
  obtain ⟨v10, hwb⟩ : ∃ v10, ((((w10.alloc (Obj.cells #[.slice (some ⟨b3, 0, none⟩) 2 2, .slice (some ⟨b8, 0, none⟩) 2 2] 37)).alloc (Obj.cells #[.int .i64 1, .int .i64 2, .int .i64 1, .int .i64 2, .int .i64 5] 3)).alloc (Obj.cells #[.int .i64 9, .int .i64 5] 3)).alloc (Obj.cells #[.int .i64 0, .int .i64 4] 3)) = v10 := ⟨_, rfl⟩
  rw [hwb] at st ⊢
  clear hwb
  have hbb := st.below
  have hl := lst_flatw (E := Enc.lk) (l := [sX, sY]) (cs := [.slice (some ⟨b3, 0, none⟩) 2 2, .slice (some ⟨b8, 0, none⟩) 2 2]) (st.get 3 rfl) ⟨[.slice (some ⟨b3, 0, none⟩) 2 2], _, rfl, ⟨_, _, _, rfl, Nat.le_refl _, by decide, hX.under hbb⟩, ⟨[.slice (some ⟨b8, 0, none⟩) 2 2], _, rfl, ⟨_, _, _, rfl, Nat.le_refl _, by decide, hY.under hbb⟩, rfl⟩⟩
  have hg2 := lst_lits (l := [1, 2, 1, 2, 5]) (st.get 2 rfl) (i64_lit _ (by decide))
  have hw2 := lst_lits (l := [9, 5]) (st.get 1 rfl) (i64_lit _ (by decide))
  have hf2 := lst_lits (l := [0, 4]) (st.get 0 rfl) (i64_lit _ (by decide))
  have hX' := hX.under hbb
  have hY' := hY.under hbb
  have hG' := hG.under hbb
  have cx' := (hbb.block _ (Array.getElem?_eq_some_iff.1 cx).1).trans cx
  have cy' := (hbb.block _ (Array.getElem?_eq_some_iff.1 cy).1).trans cy
  have hz' := hz.trans (hbb.mono hz.size)
  clear hX hY hG cx cy hz hbb
  have hX := hX'
  clear hX'
  have hY := hY'
  clear hY'
  have hG := hG'
  clear hG'
  have cx := cx'
  clear cx'
  have cy := cy'
  clear cy'
  have hz := hz'
  clear hz'
  refine (applied_lit hl hg2 hw2 hf2 (by decide) (by unfold Small; decide) (by unfold ToI I64; decide) (by decide) (by decide +kernel)).mono ?_
  rintro e w11 ⟨rfl, hbc⟩
  clear st
  have hX' := hX.under hbc
  have hY' := hY.under hbc
  have hG' := hG.under hbc
  have cx' := (hbc.block _ (Array.getElem?_eq_some_iff.1 cx).1).trans cx
  have cy' := (hbc.block _ (Array.getElem?_eq_some_iff.1 cy).1).trans cy
  have hz' := hz.trans (hbc.mono hz.size)
  clear hX hY hG cx cy hz hbc
  have hX := hX'
  clear hX'
  have hY := hY'
  clear hY'
  have hG := hG'
  clear hG'
  have cx := cx'
  clear cx'
  have cy := cy'
  clear cy'
  have hz := hz'
  clear hz'
  have kx := (cell_of_row _ _ 0 _ _ _ cx).trans rfl
  have ky := (cell_of_row _ _ 0 _ _ _ cy).trans rfl
  replace hX := hide hX; replace hY := hide hY; replace hG := hide hG; replace cx := hide cx; replace cy := hide cy; replace hz := hide hz
  go_wp2_with fail
  replace hX := unhide hX; replace hY := unhide hY; replace hG := unhide hG; replace cx := unhide cx; replace cy := unhide cy; replace hz := unhide hz
  clear kx ky
  have st := (((((St.start w11).alloc (Obj.cells #[.slice (some ⟨b8, 0, none⟩) 2 2] 37)).alloc (Obj.cells #[.int .i64 3, .int .i64 3, .int .i64 3] 3)).alloc (Obj.cells #[.int .i64 4, .int .i64 4, .int .i64 3] 3)).alloc (Obj.cells #[.int .i64 0, .int .i64 1, .int .i64 2] 3))
  simp only [World.size_alloc] at st
  obtain ⟨v11, hwb⟩ : ∃ v11, ((((w11.alloc (Obj.cells #[.slice (some ⟨b8, 0, none⟩) 2 2] 37)).alloc (Obj.cells #[.int .i64 3, .int .i64 3, .int .i64 3] 3)).alloc (Obj.cells #[.int .i64 4, .int .i64 4, .int .i64 3] 3)).alloc (Obj.cells #[.int .i64 0, .int .i64 1, .int .i64 2] 3)) = v11 := ⟨_, rfl⟩
  rw [hwb] at st ⊢
  clear hwb
  have hbb := st.below
  have hl := lst_flatw (E := Enc.lk) (l := [sY]) (cs := [.slice (some ⟨b8, 0, none⟩) 2 2]) (st.get 3 rfl) ⟨[.slice (some ⟨b8, 0, none⟩) 2 2], _, rfl, ⟨_, _, _, rfl, Nat.le_refl _, by decide, hY.under hbb⟩, rfl⟩
  have hg2 := lst_lits (l := [3, 3, 3]) (st.get 2 rfl) (i64_lit _ (by decide))
  have hw2 := lst_lits (l := [4, 4, 3]) (st.get 1 rfl) (i64_lit _ (by decide))
  have hf2 := lst_lits (l := [0, 1, 2]) (st.get 0 rfl) (i64_lit _ (by decide))
  have hX' := hX.under hbb
  have hY' := hY.under hbb
  have hG' := hG.under hbb
  have cx' := (hbb.block _ (Array.getElem?_eq_some_iff.1 cx).1).trans cx
  have cy' := (hbb.block _ (Array.getElem?_eq_some_iff.1 cy).1).trans cy
  have hz' := hz.trans (hbb.mono hz.size)
  clear hX hY hG cx cy hz hbb
  have hX := hX'
  clear hX'
  have hY := hY'
  clear hY'
  have hG := hG'
  clear hG'
  have cx := cx'
  clear cx'
  have cy := cy'
  clear cy'
  have hz := hz'
  clear hz'
  refine (applied_lit hl hg2 hw2 hf2 (by decide) (by unfold Small; decide) (by unfold ToI I64; decide) (by decide) (by decide +kernel)).mono ?_
  rintro e w12 ⟨rfl, hbc⟩
  clear st
  have hX' := hX.under hbc
  have hY' := hY.under hbc
  have hG' := hG.under hbc
  have cx' := (hbc.block _ (Array.getElem?_eq_some_iff.1 cx).1).trans cx
  have cy' := (hbc.block _ (Array.getElem?_eq_some_iff.1 cy).1).trans cy
  have hz' := hz.trans (hbc.mono hz.size)
  clear hX hY hG cx cy hz hbc
  have hX := hX'
  clear hX'
  have hY := hY'
  clear hY'
  have hG := hG'
  clear hG'
  have cx := cx'
  clear cx'
  have cy := cy'
  clear cy'
  have hz := hz'
  clear hz'
  obtain ⟨bl, hbl⟩ : ∃ bl, w12.heap.size = bl := ⟨_, rfl⟩
  replace hbl := hide hbl
  have kx := (cell_of_row _ _ 0 _ _ _ cx).trans rfl
  have ky := (cell_of_row _ _ 0 _ _ _ cy).trans rfl
  replace hX := hide hX; replace hY := hide hY; replace hG := hide hG; replace cx := hide cx; replace cy := hide cy; replace hz := hide hz
  go_wp2_with fail
  replace hX := unhide hX; replace hY := unhide hY; replace hG := unhide hG; replace cx := unhide cx; replace cy := unhide cy; replace hz := unhide hz
  clear kx ky
  have st := ((St.start w12).alloc (Obj.cells #[.slice (some ⟨b3, 0, none⟩) 2 2] 37))
  obtain ⟨v12, hwb⟩ : ∃ v12, (w12.alloc (Obj.cells #[.slice (some ⟨b3, 0, none⟩) 2 2] 37)) = v12 := ⟨_, rfl⟩
  rw [hwb] at st ⊢
  clear hwb
  have hbb := st.below
  have hl := lst_flatw (E := Enc.lk) (l := [sX]) (cs := [.slice (some ⟨b3, 0, none⟩) 2 2]) (st.get 0 rfl) ⟨[.slice (some ⟨b3, 0, none⟩) 2 2], _, rfl, ⟨_, _, _, rfl, Nat.le_refl _, by decide, hX.under hbb⟩, rfl⟩
  rw [unhide hbl] at hl ⊢
  have hX' := hX.under hbb
  have hY' := hY.under hbb
  have hG' := hG.under hbb
  have cx' := (hbb.block _ (Array.getElem?_eq_some_iff.1 cx).1).trans cx
  have cy' := (hbb.block _ (Array.getElem?_eq_some_iff.1 cy).1).trans cy
  have hz' := hz.trans (hbb.mono hz.size)
  clear hX hY hG cx cy hz hbb
  have hX := hX'
  clear hX'
  have hY := hY'
  clear hY'
  have hG := hG'
  clear hG'
  have cx := cx'
  clear cx'
  have cy := cy'
  clear cy'
  have hz := hz'
  clear hz'
  refine (check_lit 0 hl (by decide) (by unfold Small; decide) (by decide +kernel : checkS [sX] 9 = 0)).mono ?_
  rintro e w13 ⟨rfl, hbc⟩
  clear st
  have hL := hl.under hbc
  clear hl
  have hX' := hX.under hbc
  have hY' := hY.under hbc
  have hG' := hG.under hbc
  have cx' := (hbc.block _ (Array.getElem?_eq_some_iff.1 cx).1).trans cx
  have cy' := (hbc.block _ (Array.getElem?_eq_some_iff.1 cy).1).trans cy
  have hz' := hz.trans (hbc.mono hz.size)
  clear hX hY hG cx cy hz hbc
  have hX := hX'
  clear hX'
  have hY := hY'
  clear hY'
  have hG := hG'
  clear hG'
  have cx := cx'
  clear cx'
  have cy := cy'
  clear cy'
  have hz := hz'
  clear hz'
  have kx := (cell_of_row _ _ 0 _ _ _ cx).trans rfl
  have ky := (cell_of_row _ _ 0 _ _ _ cy).trans rfl
  replace hX := hide hX; replace hY := hide hY; replace hG := hide hG; replace cx := hide cx; replace cy := hide cy; replace hz := hide hz; replace hL := hide hL
  go_wp2_with fail
  replace hX := unhide hX; replace hY := unhide hY; replace hG := unhide hG; replace cx := unhide cx; replace cy := unhide cy; replace hz := unhide hz; replace hL := unhide hL
  clear kx ky
  obtain ⟨v13, rfl⟩ : ∃ v13 : World, v13 = w13 := ⟨_, rfl⟩
  refine (check_lit 33 hL (by decide) (by unfold Small; decide) (by decide +kernel : checkS [sX] 8 = 33)).mono ?_
  rintro e w14 ⟨rfl, hbc⟩
  have hX' := hX.under hbc
  have hY' := hY.under hbc
  have hG' := hG.under hbc
  have cx' := (hbc.block _ (Array.getElem?_eq_some_iff.1 cx).1).trans cx
  have cy' := (hbc.block _ (Array.getElem?_eq_some_iff.1 cy).1).trans cy
  have hz' := hz.trans (hbc.mono hz.size)
  have hL' := hL.under hbc
  clear hX hY hG cx cy hz hL hbc
  have hX := hX'
  clear hX'
  have hY := hY'
  clear hY'
  have hG := hG'
  clear hG'
  have cx := cx'
  clear cx'
  have cy := cy'
  clear cy'
  have hz := hz'
  clear hz'
  have hL := hL'
  clear hL'
  have kx := (cell_of_row _ _ 0 _ _ _ cx).trans rfl
  have ky := (cell_of_row _ _ 0 _ _ _ cy).trans rfl
  replace hX := hide hX; replace hY := hide hY; replace hG := hide hG; replace cx := hide cx; replace cy := hide cy; replace hz := hide hz; replace hL := hide hL
  have hmk := make_subs
  go_wp2_with fail
  replace hX := unhide hX; replace hY := unhide hY; replace hG := unhide hG; replace cx := unhide cx; replace cy := unhide cy; replace hz := unhide hz; replace hL := unhide hL
  clear kx ky
  have st := (((St.start w14).alloc (Obj.cells (madeCells #[.slice none 0 0, .slice none 0 0, .slice none 0 0, .int .i64 0] 100) 43)).alloc (Obj.cells #[.slice (some ⟨w14.heap.size, 0, none⟩) 25 25] 37))
  simp only [World.size_alloc] at st
  obtain ⟨v14, hwb⟩ : ∃ v14, ((w14.alloc (Obj.cells (madeCells #[.slice none 0 0, .slice none 0 0, .slice none 0 0, .int .i64 0] 100) 43)).alloc (Obj.cells #[.slice (some ⟨w14.heap.size, 0, none⟩) 25 25] 37)) = v14 := ⟨_, rfl⟩
  rw [hwb] at st ⊢
  clear hwb
  have hbb := st.below
  have hs := lst_flatw (E := Enc.sub) (l := List.replicate 25 ([], [], [], 0)) (cs := (List.replicate 25 [.slice none 0 0, .slice none 0 0, .slice none 0 0, .int .i64 0]).flatten) (st.get 1 (by rw [zero_cells]; rfl)) (flat_zero 25)
  have hl := lst_flatw (E := Enc.lk) (l := [List.replicate 25 ([], [], [], 0)]) (cs := [.slice (some ⟨w14.heap.size, 0, none⟩) 25 25]) (st.get 0 rfl) ⟨[.slice (some ⟨w14.heap.size, 0, none⟩) 25 25], _, rfl, ⟨_, _, _, rfl, Nat.le_refl _, by decide, hs⟩, rfl⟩
  have hX' := hX.under hbb
  have hY' := hY.under hbb
  have hG' := hG.under hbb
  have cx' := (hbb.block _ (Array.getElem?_eq_some_iff.1 cx).1).trans cx
  have cy' := (hbb.block _ (Array.getElem?_eq_some_iff.1 cy).1).trans cy
  have hz' := hz.trans (hbb.mono hz.size)
  have hL' := hL.under hbb
  clear hX hY hG cx cy hz hL hbb
  have hX := hX'
  clear hX'
  have hY := hY'
  clear hY'
  have hG := hG'
  clear hG'
  have cx := cx'
  clear cx'
  have cy := cy'
  clear cy'
  have hz := hz'
  clear hz'
  have hL := hL'
  clear hL'
  refine (check_lit 2 hl (by decide) (by unfold Small; decide) (by decide +kernel : checkS [List.replicate 25 ([], [], [], 0)] 8 = 2)).mono ?_
  rintro e w15 ⟨rfl, hbc⟩
  clear st
  have hX' := hX.under hbc
  have hY' := hY.under hbc
  have hG' := hG.under hbc
  have cx' := (hbc.block _ (Array.getElem?_eq_some_iff.1 cx).1).trans cx
  have cy' := (hbc.block _ (Array.getElem?_eq_some_iff.1 cy).1).trans cy
  have hz' := hz.trans (hbc.mono hz.size)
  have hL' := hL.under hbc
  clear hX hY hG cx cy hz hL hbc
  have hX := hX'
  clear hX'
  have hY := hY'
  clear hY'
  have hG := hG'
  clear hG'
  have cx := cx'
  clear cx'
  have cy := cy'
  clear cy'
  have hz := hz'
  clear hz'
  have hL := hL'
  clear hL'
  have hzz := hz
  clear hmk hX hY hG cx cy hL hz
  go_wp2_with fail
  go_ret
  exact ⟨rfl, hzz⟩
end Go.Proofs.Ytmlnjbljdincjaa
