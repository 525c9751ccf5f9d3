/- Axes and tents: the law's sanity. -/
import Derived.Test.YthkppilelpaieaaAx13
namespace Go.Proofs.Ythkppilelpaieaa
open Go.RowKit
abbrev axW : Axis := (⟨#[119, 103, 104, 116]⟩, 100, 400, 900)
def nUs : List Int := [100, 250, 400, 500, 900, 2000]
def nNs : List Int := [(-64), (-32), 0, 13, 64, 64]
theorem axW_norm (k : Nat) (h : k < 6) : normS [axW] [nUs.getD k 0] = ([nNs.getD k 0], 0) := by
  obtain rfl | rfl | rfl | rfl | rfl | rfl : k = 0 ∨ k = 1 ∨ k = 2 ∨ k = 3 ∨ k = 4 ∨ k = 5 := by omega
  all_goals kernel_rfl
theorem axW_lst {W : World} {b : Nat} (h : W.heap[b]? = some (.cells #[.string ⟨#[119, 103, 104, 116]⟩, .int .i64 100, .int .i64 400, .int .i64 900] 29 (0, 0))) : Lst Enc.axis W (· < W.heap.size) (some ⟨b, 0, none⟩) 1 [axW] :=
  lst_flat (cs := [.string ⟨#[119, 103, 104, 116]⟩, .int .i64 100, .int .i64 400, .int .i64 900]) h (Flat.single (x := axW) ⟨[.string ⟨#[119, 103, 104, 116]⟩], _, rfl, ⟨rfl, by decide⟩, [.int .i64 100], _, rfl, ⟨rfl, by decide, by decide⟩, [.int .i64 400], _, rfl, ⟨rfl, by decide, by decide⟩, rfl, by decide, by decide⟩) (Array.getElem?_eq_some_iff.1 h).1
theorem axW_normal (k : Nat) (hk : k < 6) (b c : Nat) (W : World) (h1 : W.heap[b]? = some (.cells #[.string ⟨#[119, 103, 104, 116]⟩, .int .i64 100, .int .i64 400, .int .i64 900] 29 (0, 0))) (h2 : W.heap[c]? = some (.cells #[.int .i64 (nUs.getD k 0)] 3 (0, 0))) :
    Calls Try.prog 11 #[.slice (some ⟨b, 0, none⟩) 1 1, .slice (some ⟨c, 0, none⟩) 1 1] W fun e w' => ∃ qa qc, e = .returned (.tuple #[.slice qa 1 qc, .int .i64 0]) ∧ Lst Enc.int w' (fun b => b < w'.heap.size) qa 1 [nNs.getD k 0] ∧ Below W.heap.size W w' := by
  have hi : I64 (nUs.getD k 0) := by
    obtain rfl | rfl | rfl | rfl | rfl | rfl : k = 0 ∨ k = 1 ∨ k = 2 ∨ k = 3 ∨ k = 4 ∨ k = 5 := by omega
    all_goals exact ⟨by decide, by decide⟩
  have hl := lst_ints (l := [nUs.getD k 0]) h2 (fun x hx => by simp at hx; rw [hx]; exact hi) (S := (· < W.heap.size)) (Array.getElem?_eq_some_iff.1 h2).1
  refine (normal_any (some ⟨b, 0, none⟩) 1 1 [axW] (some ⟨c, 0, none⟩) 1 1 [nUs.getD k 0] W (axW_lst h1) (by omega) hl (by omega) (by omega)).mono ?_
  rintro e w' ⟨v, m, he, hr, hb⟩
  have hi2 := normS_i64 (l := [axW]) (u := [nUs.getD k 0])
  rw [axW_norm k hk] at he hr hi2
  obtain ⟨qa, qc, hv, _, hL⟩ := own_lst hr hi2
  exact ⟨qa, qc, by rw [he, hv]; rfl, hL, hb⟩
theorem scal_lit {w : World} {bt bu nt nu : Nat} {l : List Tent} {u : List Int} {r : Int × Int} (hl : Lst Enc.tent w (· < w.heap.size) (some ⟨bt, 0, none⟩) nt l) (hu : Lst Enc.int w (· < w.heap.size) (some ⟨bu, 0, none⟩) nu u) (hn : nt ≤ 4) (hun : nu ≤ 1000) (hr : scalS l u = r) :
    Calls Try.prog 21 #[.slice (some ⟨bt, 0, none⟩) nt nt, .slice (some ⟨bu, 0, none⟩) nu nu] w fun e w' => e = .returned (.agg #[.int .i64 r.1, .int .i64 r.2]) ∧ Below w.heap.size w w' := by
  subst hr
  exact scalar_any _ nt nt l _ nu nu u w hl hu hn (by omega)
theorem tent_lst {w : World} {b : Nat} {l : List Tent} {cs : List Value} (h : w.heap[b]? = some (.cells cs.toArray 52 (0, 0))) (hc : cs = (l.map tcell).flatten) (hi : (l.all fun t => decide ((-1000 ≤ t.1 ∧ t.1 ≤ 1000) ∧ (-1000 ≤ t.2.1 ∧ t.2.1 ≤ 1000) ∧ -1000 ≤ t.2.2 ∧ t.2.2 ≤ 1000)) = true) : Lst Enc.tent w (· < w.heap.size) (some ⟨b, 0, none⟩) l.length l := by
  refine lst_flat h ?_ (Array.getElem?_eq_some_iff.1 h).1
  subst hc
  clear h
  induction l with
  | nil => rfl
  | cons t l ih =>
    rw [List.all_cons, Bool.and_eq_true] at hi
    have ht := of_decide_eq_true hi.1
    exact ⟨tcell t, _, rfl, tent_rep ⟨by omega, by omega⟩ ⟨by omega, by omega⟩ ⟨by omega, by omega⟩, ih hi.2⟩
theorem i64_lit (l : List Int) (h : (l.all fun x => decide (-1000 ≤ x ∧ x ≤ 1000)) = true) : ∀ x ∈ l, I64 x := fun x hx => by
  have := of_decide_eq_true (List.all_eq_true.1 h x hx)
  exact ⟨by omega, by omega⟩
theorem axW_lst2 {W : World} {b : Nat} (h : W.heap[b]? = some (.cells #[.string ⟨#[119, 103, 104, 116]⟩, .int .i64 100, .int .i64 400, .int .i64 900, .string ⟨#[119, 103, 104, 116]⟩, .int .i64 100, .int .i64 400, .int .i64 900] 29 (0, 0))) : Lst Enc.axis W (· < W.heap.size) (some ⟨b, 0, none⟩) 2 [axW, axW] :=
  lst_flat (cs := [.string ⟨#[119, 103, 104, 116]⟩, .int .i64 100, .int .i64 400, .int .i64 900, .string ⟨#[119, 103, 104, 116]⟩, .int .i64 100, .int .i64 400, .int .i64 900]) h ⟨[.string ⟨#[119, 103, 104, 116]⟩, .int .i64 100, .int .i64 400, .int .i64 900], _, rfl, ⟨[.string ⟨#[119, 103, 104, 116]⟩], _, rfl, ⟨rfl, by decide⟩, [.int .i64 100], _, rfl, ⟨rfl, by decide, by decide⟩, [.int .i64 400], _, rfl, ⟨rfl, by decide, by decide⟩, rfl, by decide, by decide⟩, [.string ⟨#[119, 103, 104, 116]⟩, .int .i64 100, .int .i64 400, .int .i64 900], _, rfl, ⟨[.string ⟨#[119, 103, 104, 116]⟩], _, rfl, ⟨rfl, by decide⟩, [.int .i64 100], _, rfl, ⟨rfl, by decide, by decide⟩, [.int .i64 400], _, rfl, ⟨rfl, by decide, by decide⟩, rfl, by decide, by decide⟩, rfl⟩ (Array.getElem?_eq_some_iff.1 h).1
theorem user_lit {n r : Int} (w : World) (h : userS axW n = r) :
    Calls Try.prog 16 #[.agg #[.string ⟨#[119, 103, 104, 116]⟩, .int .i64 100, .int .i64 400, .int .i64 900], .int .i64 n] w fun e w' => e = .returned (.int .i64 r) ∧ Below w.heap.size w w' := by
  subst h
  exact user_any ⟨#[119, 103, 104, 116]⟩ 100 400 900 n w (by decide) ⟨by decide, by decide⟩ ⟨by decide, by decide⟩ ⟨by decide, by decide⟩
theorem fits_lit {w : World} {bt nt : Nat} {l : List Tent} {r : Bool} (hl : Lst Enc.tent w (· < w.heap.size) (some ⟨bt, 0, none⟩) nt l) (hn : nt ≤ 4) (hr : fitsS l 1 = r) :
    Calls Try.prog 19 #[.slice (some ⟨bt, 0, none⟩) nt nt, .int .i64 1] w fun e w' => e = .returned (.bool r) ∧ Below w.heap.size w w' := by
  subst hr
  exact fits_any _ nt nt l 1 w hl (by omega)
theorem check_lit {w : World} {bt nt : Nat} {l : List Axis} {r : Int} (hl : Lst Enc.axis w (· < w.heap.size) (some ⟨bt, 0, none⟩) nt l) (hn : nt ≤ 4) (hr : axCheck l = r) :
    Calls Try.prog 13 #[.slice (some ⟨bt, 0, none⟩) nt nt] w fun e w' => e = .returned (.int .i64 r) ∧ Below w.heap.size w w' := by
  subst hr
  exact check_any _ nt nt l w hl (by omega) (by omega)
theorem st_keep {V W : World} {b : Nat} {o x : Obj} (h : V.heap[b]? = some x) (hV : V.alloc o = W) : W.heap[b]? = some x := by
  rw [← hV]
  exact (((Below.refl V.heap.size V).alloc (Nat.le_refl _) o).block b (Array.getElem?_eq_some_iff.1 h).1).trans h
set_option maxHeartbeats 8000000 in
set_option maxRecDepth 100000 in
theorem sanity_any (w : World) : Calls Try.prog 9 #[] w fun e w' => e = .returned (.bool true) ∧ Below w.heap.size w w' := by
  obtain ⟨bA, V, hbA, hV, st⟩ := (St.start w).new (Obj.cells #[.string ⟨#[119, 103, 104, 116]⟩, .int .i64 100, .int .i64 400, .int .i64 900] 29)
  obtain ⟨bW, W2, hbW, hW2, st⟩ := st.new (Obj.cells #[.int .i64 (-64), .int .i64 (-32), .int .i64 0, .int .i64 13, .int .i64 64, .int .i64 64] 3)
  have hbW2 : bA + 1 = bW := by rw [← hbW, ← hV, World.size_alloc, hbA]
  have hA := st.get 1 rfl
  have hN := st.get 0 rfl
  have hz := st.below
  clear st hbW
  replace hV := hide hV; replace hW2 := hide hW2; replace hbA := hide hbA; replace hbW2 := hide hbW2; replace hA := hide hA; replace hN := hide hN; replace hz := hide hz
  go_enter Try.func9, Try.ntmps9
  go_wp2_with fail
  rw [unhide hV, unhide hbA]
  try rw [unhide hbW2]
  rw [unhide hW2]
  go_loopw [14] (fun v wr => ∃ k : Nat, k ≤ 6 ∧ v = .int .i64 (k : Int) ∧ Below W2.heap.size W2 wr) (fun v _ => 6 - (intOf v).toNat)
  case atStart => exact ⟨0, by omega, rfl, Below.refl _ _⟩
  case round =>
    obtain ⟨k, hk, rfl, hbw⟩ := hrel
    obtain ⟨wo, rfl⟩ : ∃ wo : World, wo = wr := ⟨_, rfl⟩
    have hA1 := (hbw.block bA (Array.getElem?_eq_some_iff.1 (unhide hA)).1).trans (unhide hA)
    have hN1 := (hbw.block bW (Array.getElem?_eq_some_iff.1 (unhide hN)).1).trans (unhide hN)
    have d0 : wo.cell? ⟨bA, 0, none⟩ = some (.string ⟨#[119, 103, 104, 116]⟩) := (cell_of_row _ _ 0 _ _ _ hA1).trans rfl
    have d1 : wo.cell? ⟨bA, 1, none⟩ = some (.int .i64 100) := (cell_of_row _ _ 1 _ _ _ hA1).trans rfl
    have d2 : wo.cell? ⟨bA, 2, none⟩ = some (.int .i64 400) := (cell_of_row _ _ 2 _ _ _ hA1).trans rfl
    have d3 : wo.cell? ⟨bA, 3, none⟩ = some (.int .i64 900) := (cell_of_row _ _ 3 _ _ _ hA1).trans rfl
    by_cases hlt : k < 6
    · have cN0 : (#[.int .i64 (-64), .int .i64 (-32), .int .i64 0, .int .i64 13, .int .i64 64, .int .i64 64] : Array Value)[k]? = some (.int .i64 (nNs.getD k 0)) := by
        obtain rfl | rfl | rfl | rfl | rfl | rfl : k = 0 ∨ k = 1 ∨ k = 2 ∨ k = 3 ∨ k = 4 ∨ k = 5 := by omega
        all_goals rfl
      have huk : (#[.int .i64 100, .int .i64 250, .int .i64 400, .int .i64 500, .int .i64 900, .int .i64 2000] : Array Value)[k]? = some (.int .i64 (nUs.getD k 0)) := by
        obtain rfl | rfl | rfl | rfl | rfl | rfl : k = 0 ∨ k = 1 ∨ k = 2 ∨ k = 3 ∨ k = 4 ∨ k = 5 := by omega
        all_goals rfl
      have cN := (cell_of_row _ _ k _ _ _ hN1).trans cN0
      have hcn := fun b c W => axW_normal k hlt b c W
      obtain ⟨uk, huk'⟩ : ∃ x, nUs.getD k 0 = x := ⟨_, rfl⟩
      obtain ⟨nk, hnk⟩ : ∃ x, nNs.getD k 0 = x := ⟨_, rfl⟩
      simp only [huk', hnk] at huk hcn cN
      have t1 : (k : Int) < 6 := by omega
      have t2 : ¬ (6 : Int) ≤ (k : Int) := by omega
      clear huk' hnk cN0 hA1 hN1
      replace huk := hide huk; replace hcn := hide hcn; replace hbw := hide hbw
      go_wp2_with fail
      refine wp_region_frontG 12 (fun _ _ w' => Below wo.heap.size wo w') (fun wa wb => Below wa.heap.size wa wb)
        (fun ix v w' => match ix with
          | 0 => v = .agg #[.string ⟨#[119, 103, 104, 116]⟩, .int .i64 100, .int .i64 400, .int .i64 900]
          | 1 => ∃ b, v = .slice (some ⟨b, 0, none⟩) 1 1 ∧ w'.heap[b]? = some (.cells #[.string ⟨#[119, 103, 104, 116]⟩, .int .i64 100, .int .i64 400, .int .i64 900] 29 (0, 0))
          | 2 => ∃ b, v = .slice (some ⟨b, 0, none⟩) 6 6 ∧ w'.heap[b]? = some (.cells #[.int .i64 100, .int .i64 250, .int .i64 400, .int .i64 500, .int .i64 900, .int .i64 2000] 3 (0, 0))
          | 3 => v = .int .i64 (k : Int)
          | 4 => ∃ b, v = .pointer (some ⟨b, k, none⟩) ∧ w'.heap[b]? = some (.cells #[.int .i64 100, .int .i64 250, .int .i64 400, .int .i64 500, .int .i64 900, .int .i64 2000] 3 (0, 0))
          | 5 => v = .int .i64 uk
          | 6 => ∃ b, v = .slice (some ⟨b, 0, none⟩) 1 1 ∧ w'.heap[b]? = some (.cells #[.int .i64 uk] 3 (0, 0))
          | 7 => ∃ qa qc, v = .tuple #[.slice qa 1 qc, .int .i64 0] ∧ Lst Enc.int w' (fun b => b < w'.heap.size) qa 1 [nk]
          | 8 => ∃ qa qc, v = .tuple #[.slice qa 1 qc, .int .i64 0] ∧ Lst Enc.int w' (fun b => b < w'.heap.size) qa 1 [nk]
          | 9 => ∃ qa qc, v = .slice qa 1 qc ∧ Lst Enc.int w' (fun b => b < w'.heap.size) qa 1 [nk]
          | 10 => v = .int .i64 0
          | 11 => ∃ qa qc, v = .slice qa 1 qc ∧ Lst Enc.int w' (fun b => b < w'.heap.size) qa 1 [nk]
          | _ => True) (by rfl) (by kernel_rfl) ?_ ?_ ?_ ?_
      · exact (Below.refl _ _).drew
      · intro wa wb hR ix v hv
        match ix, hv with
        | 0, h => exact h
        | 1, h => obtain ⟨b, h1, h2⟩ := h; exact ⟨b, h1, (hR.block b (Array.getElem?_eq_some_iff.1 h2).1).trans h2⟩
        | 2, h => obtain ⟨b, h1, h2⟩ := h; exact ⟨b, h1, (hR.block b (Array.getElem?_eq_some_iff.1 h2).1).trans h2⟩
        | 3, h => exact h
        | 4, h => obtain ⟨b, h1, h2⟩ := h; exact ⟨b, h1, (hR.block b (Array.getElem?_eq_some_iff.1 h2).1).trans h2⟩
        | 5, h => exact h
        | 6, h => obtain ⟨b, h1, h2⟩ := h; exact ⟨b, h1, (hR.block b (Array.getElem?_eq_some_iff.1 h2).1).trans h2⟩
        | 7, h => obtain ⟨qa, qc, h1, h2⟩ := h; exact ⟨qa, qc, h1, h2.under hR⟩
        | 8, h => obtain ⟨qa, qc, h1, h2⟩ := h; exact ⟨qa, qc, h1, h2.under hR⟩
        | 9, h => obtain ⟨qa, qc, h1, h2⟩ := h; exact ⟨qa, qc, h1, h2.under hR⟩
        | 10, h => exact h
        | 11, h => obtain ⟨qa, qc, h1, h2⟩ := h; exact ⟨qa, qc, h1, h2.under hR⟩
        | _ + 12, _ => trivial
      · intro ix hix
        obtain rfl | rfl | rfl | rfl | rfl | rfl | rfl | rfl | rfl | rfl | rfl | rfl : ix = 0 ∨ ix = 1 ∨ ix = 2 ∨ ix = 3 ∨ ix = 4 ∨ ix = 5 ∨ ix = 6 ∨ ix = 7 ∨ ix = 8 ∨ ix = 9 ∨ ix = 10 ∨ ix = 11 := by omega
        · refine FrontStep.of [] _ rfl (by kernel_rfl) ?_
          intro vs LL wq hLL hC hf
          simp only [putL, List.foldl_nil]
          have f0 := cell_under d0 hC
          have f1 := cell_under d1 hC
          have f2 := cell_under d2 hC
          have f3 := cell_under d3 hC
          go_wp2_with fail
          first | exact ⟨hC, Below.refl _ _⟩ | exact ⟨hC, Below.refl _ _, by omega⟩ | exact hC | exact Below.refl _ _
        · refine FrontStep.of [0] _ rfl (by kernel_rfl) ?_
          intro vs LL wq hLL hC hf
          simp only [putL, List.foldl_nil, List.foldl_cons, List.getElem?_cons_zero]
          have e0 : vs 0 = _ := hf 0 (by simp)
          rw [e0]
          go_wp2_with fail
          have hn := heap_alloc_new wq (Obj.cells #[.string ⟨#[119, 103, 104, 116]⟩, .int .i64 100, .int .i64 400, .int .i64 900] 29)
          have hb1 := (Below.refl wq.heap.size wq).alloc (Nat.le_refl _) (Obj.cells #[.string ⟨#[119, 103, 104, 116]⟩, .int .i64 100, .int .i64 400, .int .i64 900] 29)
          first | exact ⟨hC.trans (hb1.mono hC.size), hb1, _, rfl, hn⟩ | exact ⟨hC.trans (hb1.mono hC.size), hb1, hn⟩ | exact ⟨hC.trans (hb1.mono hC.size), hb1, (Array.getElem?_eq_some_iff.1 hn).2⟩ | exact ⟨hC.trans (hb1.mono hC.size), (Array.getElem?_eq_some_iff.1 hn).2⟩ | exact ⟨hC.trans (hb1.mono hC.size), hn⟩
        · refine FrontStep.of [] _ rfl (by kernel_rfl) ?_
          intro vs LL wq hLL hC hf
          simp only [putL, List.foldl_nil]
          go_wp2_with fail
          have hn := heap_alloc_new wq (Obj.cells #[.int .i64 100, .int .i64 250, .int .i64 400, .int .i64 500, .int .i64 900, .int .i64 2000] 3)
          have hb1 := (Below.refl wq.heap.size wq).alloc (Nat.le_refl _) (Obj.cells #[.int .i64 100, .int .i64 250, .int .i64 400, .int .i64 500, .int .i64 900, .int .i64 2000] 3)
          first | exact ⟨hC.trans (hb1.mono hC.size), hb1, _, rfl, hn⟩ | exact ⟨hC.trans (hb1.mono hC.size), hb1, hn⟩ | exact ⟨hC.trans (hb1.mono hC.size), hb1, (Array.getElem?_eq_some_iff.1 hn).2⟩ | exact ⟨hC.trans (hb1.mono hC.size), (Array.getElem?_eq_some_iff.1 hn).2⟩ | exact ⟨hC.trans (hb1.mono hC.size), hn⟩
        · refine FrontStep.of [] _ rfl (by kernel_rfl) ?_
          intro vs LL wq hLL hC hf
          simp only [putL, List.foldl_nil]
          go_wp2_with fail
          first | exact ⟨hC, Below.refl _ _⟩ | exact ⟨hC, Below.refl _ _, by omega⟩ | exact hC | exact Below.refl _ _
        · refine FrontStep.of [2, 3] _ rfl (by kernel_rfl) ?_
          intro vs LL wq hLL hC hf
          simp only [putL, List.foldl_nil, List.foldl_cons, List.getElem?_cons_zero, List.getElem?_cons_succ]
          obtain ⟨b22, e22, hb22⟩ := hf 2 (by simp)
          rw [e22]
          have e3 : vs 3 = _ := hf 3 (by simp)
          rw [e3]
          go_wp2_with fail
          first | exact Below.refl _ _ | exact ⟨hC, Below.refl _ _, _, rfl, hb22⟩ | exact ⟨hC, hb22⟩ | exact ⟨hC, Below.refl _ _, hb22⟩ | exact ⟨Below.refl _ _, hb22⟩ | exact hb22
        · refine FrontStep.of [4] _ rfl (by kernel_rfl) ?_
          intro vs LL wq hLL hC hf
          simp only [putL, List.foldl_nil, List.foldl_cons, List.getElem?_cons_zero, List.getElem?_cons_succ]
          obtain ⟨b24, e24, hb24⟩ := hf 4 (by simp)
          rw [e24]
          have hcq : wq.cell? ⟨b24, k, none⟩ = some (.int .i64 uk) := (cell_of_row _ _ k _ _ _ hb24).trans (unhide huk)
          go_wp2_with fail
          first | exact ⟨hC, Below.refl _ _⟩ | exact ⟨hC, Below.refl _ _, by omega⟩ | exact hC | exact Below.refl _ _
        · refine FrontStep.of [5] _ rfl (by kernel_rfl) ?_
          intro vs LL wq hLL hC hf
          simp only [putL, List.foldl_nil, List.foldl_cons, List.getElem?_cons_zero, List.getElem?_cons_succ]
          have e5 : vs 5 = _ := hf 5 (by simp)
          rw [e5]
          go_wp2_with fail
          have hn := heap_alloc_new wq (Obj.cells #[.int .i64 uk] 3)
          have hb1 := (Below.refl wq.heap.size wq).alloc (Nat.le_refl _) (Obj.cells #[.int .i64 uk] 3)
          first | exact ⟨hC.trans (hb1.mono hC.size), hb1, _, rfl, hn⟩ | exact ⟨hC.trans (hb1.mono hC.size), hb1, hn⟩ | exact ⟨hC.trans (hb1.mono hC.size), hb1, (Array.getElem?_eq_some_iff.1 hn).2⟩ | exact ⟨hC.trans (hb1.mono hC.size), (Array.getElem?_eq_some_iff.1 hn).2⟩ | exact ⟨hC.trans (hb1.mono hC.size), hn⟩
        · refine FrontStep.of [1, 6] _ rfl (by kernel_rfl) ?_
          intro vs LL wq hLL hC hf
          simp only [putL, List.foldl_nil, List.foldl_cons, List.getElem?_cons_zero, List.getElem?_cons_succ]
          obtain ⟨b21, e21, hb21⟩ := hf 1 (by simp)
          rw [e21]
          obtain ⟨b26, e26, hb26⟩ := hf 6 (by simp)
          rw [e26]
          have hcq := unhide hcn b21 b26 wq hb21 hb26
          replace hcq := hide hcq
          clear hb21 hb26
          go_wp2_with fail
          refine (unhide hcq).mono ?_
          rintro e wz ⟨qa, qc, rfl, hL, hbz⟩
          clear hcq
          go_wp2_with fail
          first | exact hC.trans (hbz.mono hC.size) | exact ⟨hC.trans (hbz.mono hC.size), hbz, qa, qc, rfl, hL⟩ | exact ⟨hC.trans (hbz.mono hC.size), qa, qc, ⟨rfl, rfl⟩, hL⟩ | exact ⟨hC.trans (hbz.mono hC.size), hbz, hL⟩ | exact ⟨hC.trans (hbz.mono hC.size), hL⟩
        · refine FrontStep.of [7] _ rfl (by kernel_rfl) ?_
          intro vs LL wq hLL hC hf
          simp only [putL, List.foldl_nil, List.foldl_cons, List.getElem?_cons_zero, List.getElem?_cons_succ]
          obtain ⟨qa, qc, e27, hL⟩ := hf 7 (by simp)
          rw [e27]
          go_wp2_with fail
          first | exact Below.refl _ _ | exact ⟨hC, Below.refl _ _, qa, qc, rfl, hL⟩ | exact ⟨hC, qa, qc, rfl, hL⟩ | exact ⟨hC, hL⟩ | exact ⟨hC, Below.refl _ _, hL⟩ | exact ⟨Below.refl _ _, hL⟩ | exact hL
        · refine FrontStep.of [8] _ rfl (by kernel_rfl) ?_
          intro vs LL wq hLL hC hf
          simp only [putL, List.foldl_nil, List.foldl_cons, List.getElem?_cons_zero, List.getElem?_cons_succ]
          obtain ⟨qa, qc, e19, hL⟩ := hf 8 (by simp)
          rw [e19]
          go_wp2_with fail
          first | exact Below.refl _ _ | exact ⟨hC, Below.refl _ _, qa, qc, rfl, hL⟩ | exact ⟨hC, qa, qc, rfl, hL⟩ | exact ⟨hC, hL⟩ | exact ⟨hC, Below.refl _ _, hL⟩ | exact ⟨Below.refl _ _, hL⟩ | exact hL
        · refine FrontStep.of [8] _ rfl (by kernel_rfl) ?_
          intro vs LL wq hLL hC hf
          simp only [putL, List.foldl_nil, List.foldl_cons, List.getElem?_cons_zero, List.getElem?_cons_succ]
          obtain ⟨qa, qc, e19, hL⟩ := hf 8 (by simp)
          rw [e19]
          go_wp2_with fail
          first | exact ⟨hC, Below.refl _ _⟩ | exact ⟨hC, Below.refl _ _, by omega⟩ | exact hC | exact Below.refl _ _
        · refine FrontStep.of [0, 1, 2, 3, 4, 5, 6, 7, 8, 9] _ rfl (by kernel_rfl) ?_
          intro vs LL wq hLL hC hf
          simp only [putL, List.foldl_nil, List.foldl_cons, List.getElem?_cons_zero, List.getElem?_cons_succ]
          have e0 : vs 0 = _ := hf 0 (by simp)
          rw [e0]
          obtain ⟨b21, e21, hb21⟩ := hf 1 (by simp)
          rw [e21]
          obtain ⟨b22, e22, hb22⟩ := hf 2 (by simp)
          rw [e22]
          have e3 : vs 3 = _ := hf 3 (by simp)
          rw [e3]
          obtain ⟨b24, e24, hb24⟩ := hf 4 (by simp)
          rw [e24]
          have e5 : vs 5 = _ := hf 5 (by simp)
          rw [e5]
          obtain ⟨b26, e26, hb26⟩ := hf 6 (by simp)
          rw [e26]
          obtain ⟨qa, qc, e27, hL⟩ := hf 7 (by simp)
          rw [e27]
          obtain ⟨qa, qc, e19, hL⟩ := hf 8 (by simp)
          rw [e19]
          obtain ⟨qa, qc, e28, hL⟩ := hf 9 (by simp)
          rw [e28]
          go_wp2_with fail
          first | exact Below.refl _ _ | exact ⟨hC, Below.refl _ _, qa, qc, rfl, hL⟩ | exact ⟨hC, qa, qc, rfl, hL⟩ | exact ⟨hC, hL⟩ | exact ⟨hC, Below.refl _ _, hL⟩ | exact ⟨Below.refl _ _, hL⟩ | exact hL
      · intro vs LL wq hLL hC hf
        obtain ⟨qa, qc, e11, hL⟩ := hf 11 (by omega)
        have e10 : vs 10 = _ := hf 10 (by omega)
        rw [putSome_all]
        simp only [putL, List.range, List.range.loop, List.foldl_nil, List.foldl_cons, List.getElem?_cons_zero, List.getElem?_cons_succ, List.drop_succ_cons, List.drop_zero]
        rw [e10, e11]
        clear e10 e11 hf hLL
        obtain ⟨bq, oq, z, hqa, _, hz, _, cq⟩ := lst_int hL (show 0 < 1 by omega)
        have hzz : z = nk := (Option.some.inj hz).symm
        subst hzz
        rw [hqa]
        rw [Nat.add_zero] at cq
        have hbz := hide ((unhide hbw).trans (hC.mono (unhide hbw).size))
        clear hL hqa hz hC hbw d0 d1 d2 d3 cN
        go_simp
        go_wp2_with fail
        go_roundw
        case rel => exact ⟨k + 1, by omega, by go_num, unhide hbz⟩
        case measure => simp [intOf]; omega
    · have hk6 : k = 6 := by omega
      subst hk6
      have hE := hbw
      clear hbw hN1 hA1 hlt hk
      go_wp2_with fail
      refine (user_lit (r := 100) _ (by kernel_rfl)).mono ?_
      rintro e w1 ⟨rfl, hb⟩
      have hB := hE.trans (hb.mono hE.size)
      clear hb hE
      try clear d0 d1 d2 d3
      have hA1 := (hB.block bA (Array.getElem?_eq_some_iff.1 (unhide hA)).1).trans (unhide hA)
      have d0 : w1.cell? ⟨bA, 0, none⟩ = some (.string ⟨#[119, 103, 104, 116]⟩) := (cell_of_row _ _ 0 _ _ _ hA1).trans rfl
      have d1 : w1.cell? ⟨bA, 1, none⟩ = some (.int .i64 100) := (cell_of_row _ _ 1 _ _ _ hA1).trans rfl
      have d2 : w1.cell? ⟨bA, 2, none⟩ = some (.int .i64 400) := (cell_of_row _ _ 2 _ _ _ hA1).trans rfl
      have d3 : w1.cell? ⟨bA, 3, none⟩ = some (.int .i64 900) := (cell_of_row _ _ 3 _ _ _ hA1).trans rfl
      clear hA1
      have hE := hB
      go_wp2_with fail
      refine (user_lit (r := 250) _ (by kernel_rfl)).mono ?_
      rintro e w2 ⟨rfl, hb⟩
      have hB := hE.trans (hb.mono hE.size)
      clear hb hE
      try clear d0 d1 d2 d3
      have hA1 := (hB.block bA (Array.getElem?_eq_some_iff.1 (unhide hA)).1).trans (unhide hA)
      have d0 : w2.cell? ⟨bA, 0, none⟩ = some (.string ⟨#[119, 103, 104, 116]⟩) := (cell_of_row _ _ 0 _ _ _ hA1).trans rfl
      have d1 : w2.cell? ⟨bA, 1, none⟩ = some (.int .i64 100) := (cell_of_row _ _ 1 _ _ _ hA1).trans rfl
      have d2 : w2.cell? ⟨bA, 2, none⟩ = some (.int .i64 400) := (cell_of_row _ _ 2 _ _ _ hA1).trans rfl
      have d3 : w2.cell? ⟨bA, 3, none⟩ = some (.int .i64 900) := (cell_of_row _ _ 3 _ _ _ hA1).trans rfl
      clear hA1
      have hE := hB
      go_wp2_with fail
      refine (user_lit (r := 502) _ (by kernel_rfl)).mono ?_
      rintro e w3 ⟨rfl, hb⟩
      have hB := hE.trans (hb.mono hE.size)
      clear hb hE
      try clear d0 d1 d2 d3
      obtain ⟨bT, VT, hbT, hVT, st⟩ := (St.start w3).new (Obj.cells #[.int .i64 0, .int .i64 64, .int .i64 64] 52)
      obtain ⟨bP, VP, hbP, hVP, st⟩ := st.new (Obj.cells #[.int .i64 16] 3)
      have hT := st.get 1 rfl
      have hP := st.get 0 rfl
      have hcP : bT + 1 = bP := by rw [← hbP, ← hVT, World.size_alloc, hbT]
      have hE := hB.trans (st.below.mono hB.size)
      clear st
      replace hVT := hide hVT; replace hbT := hide hbT; replace hT := hide hT
      replace hVP := hide hVP; replace hbP := hide hbP; replace hP := hide hP; replace hcP := hide hcP
      replace hB := hide hB; replace hE := hide hE
      go_wp2_with fail
      rw [unhide hVT]
      try rw [unhide hbT]
      rw [unhide hVP]
      first | rw [unhide hcP] | rw [unhide hbP] | skip
      replace hE := unhide hE; clear hB
      refine (scal_lit (r := (1, 4)) (tent_lst (l := [(0, 64, 64)]) (cs := [.int .i64 0, .int .i64 64, .int .i64 64]) (unhide hT) rfl (by decide)) (lst_ints (l := [16]) (unhide hP) (i64_lit _ (by decide)) (Array.getElem?_eq_some_iff.1 (unhide hP)).1) (by decide) (by decide) (by kernel_rfl)).mono ?_
      rintro e w4 ⟨rfl, hb⟩
      have hB := hE.trans (hb.mono hE.size)
      replace hT := hide ((hb.block bT (Array.getElem?_eq_some_iff.1 (unhide hT)).1).trans (unhide hT))
      clear hb hE
      try clear d0 d1 d2 d3
      obtain ⟨bQ, VQ, hbQ, hVQ, st⟩ := (St.start w4).new (Obj.cells #[.int .i64 64] 3)
      have hQ := st.get 0 rfl
      have hE := hB.trans (st.below.mono hB.size)
      clear st
      replace hVQ := hide hVQ; replace hbQ := hide hbQ; replace hQ := hide hQ
      replace hB := hide hB; replace hE := hide hE
      go_wp2_with fail
      rw [unhide hVQ]
      try rw [unhide hbQ]
      replace hT := hide (st_keep (unhide hT) (unhide hVQ))
      replace hE := unhide hE; clear hB
      refine (scal_lit (r := (1, 1)) (tent_lst (l := [(0, 64, 64)]) (cs := [.int .i64 0, .int .i64 64, .int .i64 64]) (unhide hT) rfl (by decide)) (lst_ints (l := [64]) (unhide hQ) (i64_lit _ (by decide)) (Array.getElem?_eq_some_iff.1 (unhide hQ)).1) (by decide) (by decide) (by kernel_rfl)).mono ?_
      rintro e w5 ⟨rfl, hb⟩
      have hB := hE.trans (hb.mono hE.size)
      replace hT := hide ((hb.block bT (Array.getElem?_eq_some_iff.1 (unhide hT)).1).trans (unhide hT))
      clear hb hE
      try clear d0 d1 d2 d3
      obtain ⟨bR, VR, hbR, hVR, st⟩ := (St.start w5).new (Obj.cells #[.int .i64 (-5)] 3)
      have hR := st.get 0 rfl
      have hE := hB.trans (st.below.mono hB.size)
      clear st
      replace hVR := hide hVR; replace hbR := hide hbR; replace hR := hide hR
      replace hB := hide hB; replace hE := hide hE
      go_wp2_with fail
      rw [unhide hVR]
      try rw [unhide hbR]
      replace hT := hide (st_keep (unhide hT) (unhide hVR))
      replace hE := unhide hE; clear hB
      refine (scal_lit (r := (0, 1)) (tent_lst (l := [(0, 64, 64)]) (cs := [.int .i64 0, .int .i64 64, .int .i64 64]) (unhide hT) rfl (by decide)) (lst_ints (l := [(-5)]) (unhide hR) (i64_lit _ (by decide)) (Array.getElem?_eq_some_iff.1 (unhide hR)).1) (by decide) (by decide) (by kernel_rfl)).mono ?_
      rintro e w6 ⟨rfl, hb⟩
      have hB := hE.trans (hb.mono hE.size)
      replace hT := hide ((hb.block bT (Array.getElem?_eq_some_iff.1 (unhide hT)).1).trans (unhide hT))
      clear hb hE
      try clear d0 d1 d2 d3
      obtain ⟨bX, VX, hbX, hVX, st⟩ := (St.start w6).new (Obj.cells #[.int .i64 0, .int .i64 32, .int .i64 64, .int .i64 (-64), .int .i64 (-64), .int .i64 0] 52)
      obtain ⟨bY, VY, hbY, hVY, st⟩ := st.new (Obj.cells #[.int .i64 48, .int .i64 (-16)] 3)
      have hX := st.get 1 rfl
      have hY := st.get 0 rfl
      have hcY : bX + 1 = bY := by rw [← hbY, ← hVX, World.size_alloc, hbX]
      have hE := hB.trans (st.below.mono hB.size)
      clear st
      replace hVX := hide hVX; replace hbX := hide hbX; replace hX := hide hX
      replace hVY := hide hVY; replace hbY := hide hbY; replace hY := hide hY; replace hcY := hide hcY
      replace hB := hide hB; replace hE := hide hE
      go_wp2_with fail
      rw [unhide hVX]
      try rw [unhide hbX]
      rw [unhide hVY]
      first | rw [unhide hcY] | rw [unhide hbY] | skip
      replace hT := hide (st_keep (st_keep (unhide hT) (unhide hVX)) (unhide hVY))
      replace hE := unhide hE; clear hB
      refine (scal_lit (r := (1, 8)) (tent_lst (l := [(0, 32, 64), ((-64), (-64), 0)]) (cs := [.int .i64 0, .int .i64 32, .int .i64 64, .int .i64 (-64), .int .i64 (-64), .int .i64 0]) (unhide hX) rfl (by decide)) (lst_ints (l := [48, (-16)]) (unhide hY) (i64_lit _ (by decide)) (Array.getElem?_eq_some_iff.1 (unhide hY)).1) (by decide) (by decide) (by kernel_rfl)).mono ?_
      rintro e w7 ⟨rfl, hb⟩
      have hB := hE.trans (hb.mono hE.size)
      replace hT := hide ((hb.block bT (Array.getElem?_eq_some_iff.1 (unhide hT)).1).trans (unhide hT))
      clear hb hE
      try clear d0 d1 d2 d3
      obtain ⟨bZ, VZ, hbZ, hVZ, st⟩ := (St.start w7).new (Obj.cells #[.int .i64 (-64), .int .i64 0, .int .i64 64] 52)
      obtain ⟨bK, VK, hbK, hVK, st⟩ := st.new (Obj.cells #[.int .i64 50] 3)
      have hZ := st.get 1 rfl
      have hK := st.get 0 rfl
      have hcK : bZ + 1 = bK := by rw [← hbK, ← hVZ, World.size_alloc, hbZ]
      have hE := hB.trans (st.below.mono hB.size)
      clear st
      replace hVZ := hide hVZ; replace hbZ := hide hbZ; replace hZ := hide hZ
      replace hVK := hide hVK; replace hbK := hide hbK; replace hK := hide hK; replace hcK := hide hcK
      replace hB := hide hB; replace hE := hide hE
      go_wp2_with fail
      rw [unhide hVZ]
      try rw [unhide hbZ]
      rw [unhide hVK]
      first | rw [unhide hcK] | rw [unhide hbK] | skip
      replace hT := hide (st_keep (st_keep (unhide hT) (unhide hVZ)) (unhide hVK))
      replace hE := unhide hE; clear hB
      refine (scal_lit (r := (1, 1)) (tent_lst (l := [((-64), 0, 64)]) (cs := [.int .i64 (-64), .int .i64 0, .int .i64 64]) (unhide hZ) rfl (by decide)) (lst_ints (l := [50]) (unhide hK) (i64_lit _ (by decide)) (Array.getElem?_eq_some_iff.1 (unhide hK)).1) (by decide) (by decide) (by kernel_rfl)).mono ?_
      rintro e w8 ⟨rfl, hb⟩
      have hB := hE.trans (hb.mono hE.size)
      replace hT := hide ((hb.block bT (Array.getElem?_eq_some_iff.1 (unhide hT)).1).trans (unhide hT))
      clear hb hE
      try clear d0 d1 d2 d3
      have hE := hB
      go_wp2_with fail
      refine (fits_lit (r := true) (tent_lst (l := [(0, 64, 64)]) (cs := [.int .i64 0, .int .i64 64, .int .i64 64]) (unhide hT) rfl (by decide)) (by decide) (by kernel_rfl)).mono ?_
      rintro e w9 ⟨rfl, hb⟩
      have hB := hE.trans (hb.mono hE.size)
      clear hb hE
      try clear d0 d1 d2 d3
      obtain ⟨bF, VF, hbF, hVF, st⟩ := (St.start w9).new (Obj.cells #[.int .i64 (-1), .int .i64 1, .int .i64 2] 52)
      have hF := st.get 0 rfl
      have hE := hB.trans (st.below.mono hB.size)
      clear st
      replace hVF := hide hVF; replace hbF := hide hbF; replace hF := hide hF
      replace hB := hide hB; replace hE := hide hE
      go_wp2_with fail
      rw [unhide hVF]
      try rw [unhide hbF]
      replace hE := unhide hE; clear hB
      refine (fits_lit (r := false) (tent_lst (l := [((-1), 1, 2)]) (cs := [.int .i64 (-1), .int .i64 1, .int .i64 2]) (unhide hF) rfl (by decide)) (by decide) (by kernel_rfl)).mono ?_
      rintro e w10 ⟨rfl, hb⟩
      have hB := hE.trans (hb.mono hE.size)
      clear hb hE
      try clear d0 d1 d2 d3
      have hA1 := (hB.block bA (Array.getElem?_eq_some_iff.1 (unhide hA)).1).trans (unhide hA)
      have d0 : w10.cell? ⟨bA, 0, none⟩ = some (.string ⟨#[119, 103, 104, 116]⟩) := (cell_of_row _ _ 0 _ _ _ hA1).trans rfl
      have d1 : w10.cell? ⟨bA, 1, none⟩ = some (.int .i64 100) := (cell_of_row _ _ 1 _ _ _ hA1).trans rfl
      have d2 : w10.cell? ⟨bA, 2, none⟩ = some (.int .i64 400) := (cell_of_row _ _ 2 _ _ _ hA1).trans rfl
      have d3 : w10.cell? ⟨bA, 3, none⟩ = some (.int .i64 900) := (cell_of_row _ _ 3 _ _ _ hA1).trans rfl
      clear hA1
      obtain ⟨bG, VG, hbG, hVG, st⟩ := (St.start w10).new (Obj.cells #[.string ⟨#[119, 103, 104, 116]⟩, .int .i64 100, .int .i64 400, .int .i64 900] 29)
      have hG := st.get 0 rfl
      have hE := hB.trans (st.below.mono hB.size)
      clear st
      replace hVG := hide hVG; replace hbG := hide hbG; replace hG := hide hG
      replace hB := hide hB; replace hE := hide hE
      go_wp2_with fail
      rw [unhide hVG]
      try rw [unhide hbG]
      replace hE := unhide hE; clear hB
      refine (check_lit (r := 0) (axW_lst (unhide hG)) (by decide) (by kernel_rfl)).mono ?_
      rintro e w11 ⟨rfl, hb⟩
      have hB := hE.trans (hb.mono hE.size)
      clear hb hE
      try clear d0 d1 d2 d3
      have hA1 := (hB.block bA (Array.getElem?_eq_some_iff.1 (unhide hA)).1).trans (unhide hA)
      have d0 : w11.cell? ⟨bA, 0, none⟩ = some (.string ⟨#[119, 103, 104, 116]⟩) := (cell_of_row _ _ 0 _ _ _ hA1).trans rfl
      have d1 : w11.cell? ⟨bA, 1, none⟩ = some (.int .i64 100) := (cell_of_row _ _ 1 _ _ _ hA1).trans rfl
      have d2 : w11.cell? ⟨bA, 2, none⟩ = some (.int .i64 400) := (cell_of_row _ _ 2 _ _ _ hA1).trans rfl
      have d3 : w11.cell? ⟨bA, 3, none⟩ = some (.int .i64 900) := (cell_of_row _ _ 3 _ _ _ hA1).trans rfl
      clear hA1
      obtain ⟨bH, VH, hbH, hVH, st⟩ := (St.start w11).new (Obj.cells #[.string ⟨#[119, 103, 104, 116]⟩, .int .i64 100, .int .i64 400, .int .i64 900, .string ⟨#[119, 103, 104, 116]⟩, .int .i64 100, .int .i64 400, .int .i64 900] 29)
      have hH := st.get 0 rfl
      have hE := hB.trans (st.below.mono hB.size)
      clear st
      replace hVH := hide hVH; replace hbH := hide hbH; replace hH := hide hH
      replace hB := hide hB; replace hE := hide hE
      go_wp2_with fail
      rw [unhide hVH]
      try rw [unhide hbH]
      replace hE := unhide hE; clear hB
      refine (check_lit (r := 6) (axW_lst2 (unhide hH)) (by decide) (by kernel_rfl)).mono ?_
      rintro e w12 ⟨rfl, hb⟩
      have hB := hE.trans (hb.mono hE.size)
      clear hb hE
      try clear d0 d1 d2 d3
      replace hB := hide hB
      go_wp2_with fail
      go_ret
      exact ⟨rfl, (unhide hz).trans ((unhide hB).mono (unhide hz).size)⟩
end Go.Proofs.Ythkppilelpaieaa
