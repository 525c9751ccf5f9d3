/- Streams: decide. -/
import Derived.Test.YtfbgbbbfpkpfkaaTr4
namespace Go.Proofs.Ytfbgbbbfpkpfkaa
open Go.RowKit
set_option maxRecDepth 100000 in
set_option maxHeartbeats 8000000 in
theorem decide_any (Q : Nat → Prop) (bs bo bf : Nat) (la : Option Addr) (ln lc n : Nat) (l : List (List Sub)) (pre ss : List Stg) (s : Stg) (out : List Int) (vs : List Value) (vo : Value) (x : List Sub) (w : World)
    (hf : w.heap[bf]? = some (.cells #[.slice la ln lc, .slice (some ⟨bs, 0, none⟩) n n] 68 (0, 0))) (hl : Lst Enc.lk w (· < w.heap.size) la ln l) (hx : l[pre.length]? = some x) (hsm : Small x) (hto : ToI x) (_ : ln ≤ 1000000)
    (h : FlowI Q bs bo w vs vo (pre ++ s :: ss) out) (h0 : 1 ≤ s.2.length) (hb1 : s.1.length ≤ 300000) (hb2 : s.2.length ≤ 300000) (hn : (pre ++ s :: ss).length = n) (_ : n ≤ 1000000) :
    Calls Try.prog 34 #[.pointer (some ⟨bf, 0, none⟩), .int .i64 (pre.length : Nat)] w fun e w' => e = .returned (.int .i64 (decO x s)) ∧ (∃ vs', FlowI Q bs bo w' vs' vo (pre ++ decS x s :: ss) out) ∧ Keeps Q w w' := by
  have hll := hl.1
  have hk : pre.length < ln := by rw [← hll]; exact (List.getElem?_eq_some_iff.1 hx).1
  have hkn : pre.length < n := by rw [← hn, List.length_append, List.length_cons]; omega
  obtain ⟨gl, ol, x', xa, xn, xc, rfl, hgl, hx', hxn, hxc, hLx, cl⟩ := lst_list hl hk
  rw [hx] at hx'
  injection hx' with hx'
  subst hx'
  obtain ⟨v1, v2, e1, e2, V1, V2, A1, A2, c1, c2⟩ := h.stage
  obtain ⟨a1, q1, hv1, hq1, hq1', L1⟩ := V1.lst A1
  obtain ⟨a2, q2, hv2, hq2, hq2', L2⟩ := V2.lst A2
  subst hv1
  subst hv2
  obtain ⟨y0, hy0⟩ : ∃ y, s.2[0]? = some y := ⟨_, List.getElem?_eq_getElem (by omega)⟩
  obtain ⟨g2, o2, y0', rfl, _, hy0', _, cy⟩ := lst_int L2 (k := 0) (by omega)
  rw [hy0] at hy0'
  injection hy0' with hy0'
  subst hy0'
  have cf0 : w.cell? ⟨bf, 0, none⟩ = some (.slice (some ⟨gl, ol, none⟩) ln lc) := by rw [cell_of_row w bf _ _ _ _ hf]; rfl
  have cf1 : w.cell? ⟨bf, 1, none⟩ = some (.slice (some ⟨bs, 0, none⟩) n n) := by rw [cell_of_row w bf _ _ _ _ hf]; rfl
  have cz : w.cell? ⟨g2, o2, none⟩ = some (.int .i64 y0) := cy
  obtain ⟨k, hkk⟩ : ∃ k, pre.length = k := ⟨_, rfl⟩
  obtain ⟨n1, hn1⟩ : ∃ m, s.1.length = m := ⟨_, rfl⟩
  obtain ⟨n2', hn2'⟩ : ∃ m, s.2.length = m := ⟨_, rfl⟩
  rw [hkk] at hk hkn cl c1 c2 e1 e2 ⊢
  rw [hn1] at c1 hb1 L1 V1 e1
  rw [hn2'] at c2 hb2 h0 L2 V2 e2
  have i1 : (0 : Int) ≤ (k : Int) := by omega
  have i2 : (k : Int) < (n : Int) := by omega
  have i3 : (k : Int) < (ln : Int) := by omega
  have i4 : (0 : Int) < (n2' : Int) := by omega
  clear cy hf hl hx hll hk hkn
  replace h := hide h; replace e1 := hide e1; replace e2 := hide e2; replace V1 := hide V1; replace V2 := hide V2; replace A1 := hide A1; replace A2 := hide A2; replace L1 := hide L1; replace L2 := hide L2; replace hLx := hide hLx; replace hkk := hide hkk; replace hn1 := hide hn1; replace hn2' := hide hn2'; replace hn := hide hn; replace hy0 := hide hy0; replace hto := hide hto; replace hsm := hide hsm
  go_enter Try.func34, Try.ntmps34
  go_upto_region 1 with fail
  refine wp_region_frontG 15 (fun _ _ w' => Below w.heap.size w w') (fun wa wb => Below wa.heap.size wa wb)
    (fun ix v w' => match ix with
      | 0 => v = .pointer (some ⟨bf, 0, none⟩)
      | 1 => v = .pointer (some ⟨bf, 0, none⟩)
      | 2 => v = .pointer (some ⟨bf, 1, none⟩)
      | 3 => v = .slice (some ⟨bs, 0, none⟩) n n
      | 4 => v = .int .i64 (k : Int)
      | 5 => v = .pointer (some ⟨bs, k * 2, none⟩)
      | 6 => v = .pointer (some ⟨bf, 0, none⟩)
      | 7 => v = .pointer (some ⟨bf, 0, none⟩)
      | 8 => v = .pointer (some ⟨bf, 0, none⟩)
      | 9 => v = .slice (some ⟨gl, ol, none⟩) ln lc
      | 10 => v = .int .i64 (k : Int)
      | 11 => v = .pointer (some ⟨gl, ol + k, none⟩)
      | 12 => v = .agg #[.slice xa xn xc]
      | 13 => ∃ b, v = .pointer (some ⟨b, 0, none⟩) ∧ w.heap.size ≤ b ∧ w'.heap[b]? = some (.cells #[.slice none 0 0] 37 (0, 0))
      | 14 => v = .pointer (some ⟨bs, k * 2, none⟩)
      | _ => True) (by rfl) (by kernel_rfl) ?_ ?_ ?_ ?_
  · exact (Below.refl _ _).drew
  · intro wa wb hR ix v hv
    match ix, hv with
    | 0, h => exact h
    | 1, h => exact h
    | 2, h => exact h
    | 3, h => exact h
    | 4, h => exact h
    | 5, h => exact h
    | 6, h => exact h
    | 7, h => exact h
    | 8, h => exact h
    | 9, h => exact h
    | 10, h => exact h
    | 11, h => exact h
    | 12, h => exact h
    | 13, h => obtain ⟨b, h1, h3, h2⟩ := h; exact ⟨b, h1, h3, (hR.block b (Array.getElem?_eq_some_iff.1 h2).1).trans h2⟩
    | 14, h => exact h
    | _ + 15, _ => trivial
  · intro ix hix
    obtain rfl | rfl | rfl | rfl | rfl | rfl | rfl | rfl | rfl | rfl | rfl | rfl | rfl | rfl | rfl : ix = 0 ∨ ix = 1 ∨ ix = 2 ∨ ix = 3 ∨ ix = 4 ∨ ix = 5 ∨ ix = 6 ∨ ix = 7 ∨ ix = 8 ∨ ix = 9 ∨ ix = 10 ∨ ix = 11 ∨ ix = 12 ∨ ix = 13 ∨ ix = 14 := by omega
    · refine FrontStep.of [] _ rfl (by kernel_rfl) ?_
      intro vs LL wq hLL hC hf
      simp only [putL, List.foldl_nil]
      go_wp2_with fail
      first | exact Below.refl _ _ | exact hC | exact ⟨hC, Below.refl _ _⟩ | exact ⟨hC, Below.refl _ _, by omega⟩ | exact ⟨Below.refl _ _, by omega⟩
    · refine FrontStep.of [0] _ rfl (by kernel_rfl) ?_
      intro vs LL wq hLL hC hf
      simp only [putL, List.foldl_nil, List.foldl_cons, List.getElem?_cons_zero]
      have e0 : vs 0 = _ := hf 0 (by simp)
      rw [e0]
      go_wp2_with fail
      first | exact Below.refl _ _ | exact hC | exact ⟨hC, Below.refl _ _⟩ | exact ⟨hC, Below.refl _ _, by omega⟩ | exact ⟨Below.refl _ _, by omega⟩
    · refine FrontStep.of [1] _ rfl (by kernel_rfl) ?_
      intro vs LL wq hLL hC hf
      simp only [putL, List.foldl_nil, List.foldl_cons, List.getElem?_cons_zero, List.getElem?_cons_succ]
      have e1 : vs 1 = _ := hf 1 (by simp)
      rw [e1]
      go_wp2_with fail
      first | exact Below.refl _ _ | exact hC | exact ⟨hC, Below.refl _ _⟩ | exact ⟨hC, Below.refl _ _, by omega⟩ | exact ⟨Below.refl _ _, by omega⟩
    · refine FrontStep.of [2] _ rfl (by kernel_rfl) ?_
      intro vs LL wq hLL hC hf
      simp only [putL, List.foldl_nil, List.foldl_cons, List.getElem?_cons_zero, List.getElem?_cons_succ]
      have e2 : vs 2 = _ := hf 2 (by simp)
      rw [e2]
      have g0 := cell_under cf1 hC
      go_wp2_with fail
      first | exact Below.refl _ _ | exact hC | exact ⟨hC, Below.refl _ _⟩ | exact ⟨hC, Below.refl _ _, by omega⟩ | exact ⟨Below.refl _ _, by omega⟩
    · refine FrontStep.of [] _ rfl (by kernel_rfl) ?_
      intro vs LL wq hLL hC hf
      simp only [putL, List.foldl_nil]
      go_wp2_with fail
      first | exact Below.refl _ _ | exact hC | exact ⟨hC, Below.refl _ _⟩ | exact ⟨hC, Below.refl _ _, by omega⟩ | exact ⟨Below.refl _ _, by omega⟩
    · refine FrontStep.of [3, 4] _ rfl (by kernel_rfl) ?_
      intro vs LL wq hLL hC hf
      simp only [putL, List.foldl_nil, List.foldl_cons, List.getElem?_cons_zero, List.getElem?_cons_succ]
      have e3 : vs 3 = _ := hf 3 (by simp)
      rw [e3]
      have e4 : vs 4 = _ := hf 4 (by simp)
      rw [e4]
      go_wp2_with fail
      first | exact Below.refl _ _ | exact hC | exact ⟨hC, Below.refl _ _⟩ | exact ⟨hC, Below.refl _ _, by omega⟩ | exact ⟨Below.refl _ _, by omega⟩
    · refine FrontStep.of [] _ rfl (by kernel_rfl) ?_
      intro vs LL wq hLL hC hf
      simp only [putL, List.foldl_nil]
      go_wp2_with fail
      first | exact Below.refl _ _ | exact hC | exact ⟨hC, Below.refl _ _⟩ | exact ⟨hC, Below.refl _ _, by omega⟩ | exact ⟨Below.refl _ _, by omega⟩
    · refine FrontStep.of [6] _ rfl (by kernel_rfl) ?_
      intro vs LL wq hLL hC hf
      simp only [putL, List.foldl_nil, List.foldl_cons, List.getElem?_cons_zero, List.getElem?_cons_succ]
      have e6 : vs 6 = _ := hf 6 (by simp)
      rw [e6]
      go_wp2_with fail
      first | exact Below.refl _ _ | exact hC | exact ⟨hC, Below.refl _ _⟩ | exact ⟨hC, Below.refl _ _, by omega⟩ | exact ⟨Below.refl _ _, by omega⟩
    · refine FrontStep.of [7] _ rfl (by kernel_rfl) ?_
      intro vs LL wq hLL hC hf
      simp only [putL, List.foldl_nil, List.foldl_cons, List.getElem?_cons_zero, List.getElem?_cons_succ]
      have e7 : vs 7 = _ := hf 7 (by simp)
      rw [e7]
      go_wp2_with fail
      first | exact Below.refl _ _ | exact hC | exact ⟨hC, Below.refl _ _⟩ | exact ⟨hC, Below.refl _ _, by omega⟩ | exact ⟨Below.refl _ _, by omega⟩
    · refine FrontStep.of [8] _ rfl (by kernel_rfl) ?_
      intro vs LL wq hLL hC hf
      simp only [putL, List.foldl_nil, List.foldl_cons, List.getElem?_cons_zero, List.getElem?_cons_succ]
      have e8 : vs 8 = _ := hf 8 (by simp)
      rw [e8]
      have g0 := cell_under cf0 hC
      go_wp2_with fail
      first | exact Below.refl _ _ | exact hC | exact ⟨hC, Below.refl _ _⟩ | exact ⟨hC, Below.refl _ _, by omega⟩ | exact ⟨Below.refl _ _, by omega⟩
    · refine FrontStep.of [] _ rfl (by kernel_rfl) ?_
      intro vs LL wq hLL hC hf
      simp only [putL, List.foldl_nil]
      go_wp2_with fail
      first | exact Below.refl _ _ | exact hC | exact ⟨hC, Below.refl _ _⟩ | exact ⟨hC, Below.refl _ _, by omega⟩ | exact ⟨Below.refl _ _, by omega⟩
    · refine FrontStep.of [9, 10] _ rfl (by kernel_rfl) ?_
      intro vs LL wq hLL hC hf
      simp only [putL, List.foldl_nil, List.foldl_cons, List.getElem?_cons_zero, List.getElem?_cons_succ]
      have e9 : vs 9 = _ := hf 9 (by simp)
      rw [e9]
      have e10 : vs 10 = _ := hf 10 (by simp)
      rw [e10]
      go_wp2_with fail
      first | exact Below.refl _ _ | exact hC | exact ⟨hC, Below.refl _ _⟩ | exact ⟨hC, Below.refl _ _, by omega⟩ | exact ⟨Below.refl _ _, by omega⟩
    · refine FrontStep.of [11] _ rfl (by kernel_rfl) ?_
      intro vs LL wq hLL hC hf
      simp only [putL, List.foldl_nil, List.foldl_cons, List.getElem?_cons_zero, List.getElem?_cons_succ]
      have e11 : vs 11 = _ := hf 11 (by simp)
      rw [e11]
      have g0 := cell_under cl hC
      go_wp2_with fail
      first | exact Below.refl _ _ | exact hC | exact ⟨hC, Below.refl _ _⟩ | exact ⟨hC, Below.refl _ _, by omega⟩ | exact ⟨Below.refl _ _, by omega⟩
    · refine FrontStep.of [] _ rfl (by kernel_rfl) ?_
      intro vs LL wq hLL hC hf
      simp only [putL, List.foldl_nil]
      have hn0 := heap_alloc_new wq (Obj.cells #[.slice none 0 0] 37)
      have hb0 := (Below.refl wq.heap.size wq).alloc (Nat.le_refl _) (Obj.cells #[.slice none 0 0] 37)
      go_wp2_with fail
      first | exact ⟨hC.trans (hb0.mono hC.size), hb0, _, rfl, hC.size, hn0⟩ | exact ⟨hC.trans (hb0.mono hC.size), hb0, hC.size, hn0⟩ | exact ⟨hC.trans (hb0.mono hC.size), hb0, hC.size, (Array.getElem?_eq_some_iff.1 hn0).2⟩ | exact ⟨hC.trans (hb0.mono hC.size), hC.size, (Array.getElem?_eq_some_iff.1 hn0).2⟩
    · refine FrontStep.of [0, 1, 2, 3, 4, 5, 13] _ rfl (by kernel_rfl) ?_
      intro vs LL wq hLL hC hf
      simp only [putL, List.foldl_nil, List.foldl_cons, List.getElem?_cons_zero, List.getElem?_cons_succ]
      have e0 : vs 0 = _ := hf 0 (by simp)
      rw [e0]
      have e1 : vs 1 = _ := hf 1 (by simp)
      rw [e1]
      have e2 : vs 2 = _ := hf 2 (by simp)
      rw [e2]
      have e3 : vs 3 = _ := hf 3 (by simp)
      rw [e3]
      have e4 : vs 4 = _ := hf 4 (by simp)
      rw [e4]
      have e5 : vs 5 = _ := hf 5 (by simp)
      rw [e5]
      obtain ⟨b6, e6, hge6, hr6⟩ := hf 13 (by simp)
      rw [e6]
      go_wp2_with fail
      first | exact Below.refl _ _ | exact hC | exact ⟨hC, Below.refl _ _⟩ | exact ⟨hC, Below.refl _ _, by omega⟩ | exact ⟨Below.refl _ _, by omega⟩
  · intro vs LL wq hLL hC hf
    obtain ⟨b6, e13, hge6, hr6⟩ := hf 13 (by omega)
    have e14 : vs 14 = _ := hf 14 (by omega)
    have e12 : vs 12 = _ := hf 12 (by omega)
    rw [putSome_all]
    simp only [putL, List.range, List.range.loop, List.foldl_nil, List.foldl_cons, List.getElem?_cons_zero, List.getElem?_cons_succ, List.drop_succ_cons, List.drop_zero]
    rw [e12, e13, e14]
    have z0 : wq.cell? ⟨b6, 0, none⟩ = some (.slice none 0 0) := by rw [cell_of_row wq b6 _ _ _ _ hr6]; rfl
    have z1 : wq.frozen? ⟨b6, 0, none⟩ = false := by simp [World.frozen?, hr6]
    have hw := hC.setCell (p := ⟨b6, 0, none⟩) hge6 (.slice xa xn xc)
    have k6 := heap_set (off := 0) hr6 (.slice xa xn xc)
    obtain ⟨W3, hW3⟩ : ∃ W, wq.setCell ⟨b6, 0, none⟩ (.slice xa xn xc) = W := ⟨_, rfl⟩
    rw [hW3] at hw k6
    clear hf hLL hC hr6 e12 e13 e14
    replace hW3 := hide hW3; replace hw := hide hw; replace k6 := hide k6; replace c2 := hide c2; replace cz := hide cz; replace cf0 := hide cf0; replace cf1 := hide cf1; replace cl := hide cl; replace c1 := hide c1
    go_simp
    go_upto_region 2 with fail
    rw [unhide hW3]
    clear hW3 z0 z1
    have g1 := cell_under (unhide c2) (unhide hw)
    have g2' := cell_under (unhide cz) (unhide hw)
    go_upto_region 3 with fail
    clear g2'
    obtain ⟨w3, rfl⟩ : ∃ W : World, W = W3 := ⟨_, rfl⟩
    have f1 := cell_under (unhide c1) (unhide hw)
    obtain ⟨f2, rfl⟩ : ∃ f : w3.cell? ⟨bs, k * 2 + 1, none⟩ = some (.slice (some ⟨g2, o2, none⟩) n2' q2), f = g1 := ⟨_, rfl⟩
    have f6 : w3.cell? ⟨b6, 0, none⟩ = some (.slice xa xn xc) := by rw [cell_of_row w3 b6 _ _ _ _ (unhide k6)]; rfl
    have M1 := hide ((unhide L1).under (unhide hw))
    have M2 := hide ((unhide L2).under (unhide hw))
    have hLx3 := hide ((unhide hLx).under (unhide hw))
    have AA : Hid (AllI (s.1 ++ s.2)) := hide (fun y hy => by rcases List.mem_append.1 hy with h | h; exact unhide A1 y h; exact unhide A2 y h)
    have hnn : Hid ((s.1 ++ s.2).length = n1 + n2') := hide (by rw [List.length_append, unhide hn1, unhide hn2'])
    obtain ⟨K, hK⟩ : ∃ K, matchS x (s.1 ++ s.2) (n1 : Int) = K := ⟨_, rfl⟩
    replace hK := hide hK
    refine wp_region_frontG 17 (fun _ _ w' => Below w3.heap.size w3 w') (fun wa wb => Below wa.heap.size wa wb)
      (fun ix v w' => match ix with
        | 0 => v = .agg #[.slice xa xn xc]
        | 1 => v = .pointer (some ⟨bs, k * 2, none⟩)
        | 2 => v = .pointer (some ⟨bs, k * 2, none⟩)
        | 3 => v = .pointer (some ⟨bs, k * 2, none⟩)
        | 4 => v = .slice a1 n1 q1
        | 5 => v = .pointer (some ⟨bs, k * 2, none⟩)
        | 6 => v = .pointer (some ⟨bs, k * 2, none⟩)
        | 7 => v = .pointer (some ⟨bs, k * 2 + 1, none⟩)
        | 8 => v = .slice (some ⟨g2, o2, none⟩) n2' q2
        | 9 => ∃ b, v = .slice (some ⟨b, 0, none⟩) 2 2 ∧ w'.heap[b]? = some (.cells #[.slice a1 n1 q1, .slice (some ⟨g2, o2, none⟩) n2' q2] 22 (0, 0))
        | 10 => (∃ a c, v = .slice a (n1 + n2') c ∧ Lst Enc.int w' (fun b => b < w'.heap.size) a (n1 + n2') (s.1 ++ s.2))
        | 11 => v = .pointer (some ⟨bs, k * 2, none⟩)
        | 12 => v = .pointer (some ⟨bs, k * 2, none⟩)
        | 13 => v = .pointer (some ⟨bs, k * 2, none⟩)
        | 14 => v = .slice a1 n1 q1
        | 15 => v = .int .i64 (n1 : Int)
        | 16 => v = .int .i64 K
        | _ => True) (by rfl) (by kernel_rfl) ?_ ?_ ?_ ?_
    · exact (Below.refl _ _).drew
    · intro wa wb hR ix v hv
      match ix, hv with
      | 0, h => exact h
      | 1, h => exact h
      | 2, h => exact h
      | 3, h => exact h
      | 4, h => exact h
      | 5, h => exact h
      | 6, h => exact h
      | 7, h => exact h
      | 8, h => exact h
      | 9, h => obtain ⟨b, h1, h2⟩ := h; exact ⟨b, h1, (hR.block b (Array.getElem?_eq_some_iff.1 h2).1).trans h2⟩
      | 10, h => obtain ⟨a, c, h1, h2⟩ := h; exact ⟨a, c, h1, h2.under hR⟩
      | 11, h => exact h
      | 12, h => exact h
      | 13, h => exact h
      | 14, h => exact h
      | 15, h => exact h
      | 16, h => exact h
      | _ + 17, _ => trivial
    · intro ix hix
      obtain rfl | rfl | rfl | rfl | rfl | rfl | rfl | rfl | rfl | rfl | rfl | rfl | rfl | rfl | rfl | rfl | rfl : ix = 0 ∨ ix = 1 ∨ ix = 2 ∨ ix = 3 ∨ ix = 4 ∨ ix = 5 ∨ ix = 6 ∨ ix = 7 ∨ ix = 8 ∨ ix = 9 ∨ ix = 10 ∨ ix = 11 ∨ ix = 12 ∨ ix = 13 ∨ ix = 14 ∨ ix = 15 ∨ ix = 16 := by omega
      · refine FrontStep.of [] _ rfl (by kernel_rfl) ?_
        intro vs LL wq hLL hC hf
        simp only [putL, List.foldl_nil]
        have g0 := cell_under f6 hC
        go_wp2_with fail
        first | exact Below.refl _ _ | exact hC | exact ⟨hC, Below.refl _ _⟩ | exact ⟨hC, Below.refl _ _, by omega⟩ | exact ⟨Below.refl _ _, by omega⟩
      · refine FrontStep.of [] _ rfl (by kernel_rfl) ?_
        intro vs LL wq hLL hC hf
        simp only [putL, List.foldl_nil]
        go_wp2_with fail
        first | exact Below.refl _ _ | exact hC | exact ⟨hC, Below.refl _ _⟩ | exact ⟨hC, Below.refl _ _, by omega⟩ | exact ⟨Below.refl _ _, by omega⟩
      · refine FrontStep.of [1] _ rfl (by kernel_rfl) ?_
        intro vs LL wq hLL hC hf
        simp only [putL, List.foldl_nil, List.foldl_cons, List.getElem?_cons_zero, List.getElem?_cons_succ]
        have e1 : vs 1 = _ := hf 1 (by simp)
        rw [e1]
        go_wp2_with fail
        first | exact Below.refl _ _ | exact hC | exact ⟨hC, Below.refl _ _⟩ | exact ⟨hC, Below.refl _ _, by omega⟩ | exact ⟨Below.refl _ _, by omega⟩
      · refine FrontStep.of [2] _ rfl (by kernel_rfl) ?_
        intro vs LL wq hLL hC hf
        simp only [putL, List.foldl_nil, List.foldl_cons, List.getElem?_cons_zero, List.getElem?_cons_succ]
        have e2 : vs 2 = _ := hf 2 (by simp)
        rw [e2]
        go_wp2_with fail
        first | exact Below.refl _ _ | exact hC | exact ⟨hC, Below.refl _ _⟩ | exact ⟨hC, Below.refl _ _, by omega⟩ | exact ⟨Below.refl _ _, by omega⟩
      · refine FrontStep.of [3] _ rfl (by kernel_rfl) ?_
        intro vs LL wq hLL hC hf
        simp only [putL, List.foldl_nil, List.foldl_cons, List.getElem?_cons_zero, List.getElem?_cons_succ]
        have e3 : vs 3 = _ := hf 3 (by simp)
        rw [e3]
        have g0 := cell_under f1 hC
        go_wp2_with fail
        first | exact Below.refl _ _ | exact hC | exact ⟨hC, Below.refl _ _⟩ | exact ⟨hC, Below.refl _ _, by omega⟩ | exact ⟨Below.refl _ _, by omega⟩
      · refine FrontStep.of [] _ rfl (by kernel_rfl) ?_
        intro vs LL wq hLL hC hf
        simp only [putL, List.foldl_nil]
        go_wp2_with fail
        first | exact Below.refl _ _ | exact hC | exact ⟨hC, Below.refl _ _⟩ | exact ⟨hC, Below.refl _ _, by omega⟩ | exact ⟨Below.refl _ _, by omega⟩
      · refine FrontStep.of [5] _ rfl (by kernel_rfl) ?_
        intro vs LL wq hLL hC hf
        simp only [putL, List.foldl_nil, List.foldl_cons, List.getElem?_cons_zero, List.getElem?_cons_succ]
        have e5 : vs 5 = _ := hf 5 (by simp)
        rw [e5]
        go_wp2_with fail
        first | exact Below.refl _ _ | exact hC | exact ⟨hC, Below.refl _ _⟩ | exact ⟨hC, Below.refl _ _, by omega⟩ | exact ⟨Below.refl _ _, by omega⟩
      · refine FrontStep.of [6] _ rfl (by kernel_rfl) ?_
        intro vs LL wq hLL hC hf
        simp only [putL, List.foldl_nil, List.foldl_cons, List.getElem?_cons_zero, List.getElem?_cons_succ]
        have e6 : vs 6 = _ := hf 6 (by simp)
        rw [e6]
        go_wp2_with fail
        first | exact Below.refl _ _ | exact hC | exact ⟨hC, Below.refl _ _⟩ | exact ⟨hC, Below.refl _ _, by omega⟩ | exact ⟨Below.refl _ _, by omega⟩
      · refine FrontStep.of [7] _ rfl (by kernel_rfl) ?_
        intro vs LL wq hLL hC hf
        simp only [putL, List.foldl_nil, List.foldl_cons, List.getElem?_cons_zero, List.getElem?_cons_succ]
        have e7 : vs 7 = _ := hf 7 (by simp)
        rw [e7]
        have g0 := cell_under f2 hC
        go_wp2_with fail
        first | exact Below.refl _ _ | exact hC | exact ⟨hC, Below.refl _ _⟩ | exact ⟨hC, Below.refl _ _, by omega⟩ | exact ⟨Below.refl _ _, by omega⟩
      · refine FrontStep.of [4, 8] _ rfl (by kernel_rfl) ?_
        intro vs LL wq hLL hC hf
        simp only [putL, List.foldl_nil, List.foldl_cons, List.getElem?_cons_zero, List.getElem?_cons_succ]
        have e4 : vs 4 = _ := hf 4 (by simp)
        rw [e4]
        have e8 : vs 8 = _ := hf 8 (by simp)
        rw [e8]
        have hn0 := heap_alloc_new wq (Obj.cells #[.slice a1 n1 q1, .slice (some ⟨g2, o2, none⟩) n2' q2] 22)
        have hb0 := (Below.refl wq.heap.size wq).alloc (Nat.le_refl _) (Obj.cells #[.slice a1 n1 q1, .slice (some ⟨g2, o2, none⟩) n2' q2] 22)
        go_wp2_with fail
        first | exact ⟨hC.trans (hb0.mono hC.size), hb0, _, rfl, hn0⟩ | exact ⟨hC.trans (hb0.mono hC.size), hb0, hn0⟩ | exact ⟨hC.trans (hb0.mono hC.size), hb0, (Array.getElem?_eq_some_iff.1 hn0).2⟩ | exact ⟨hC.trans (hb0.mono hC.size), (Array.getElem?_eq_some_iff.1 hn0).2⟩ | exact ⟨hC.trans (hb0.mono hC.size), rfl⟩ | exact hC.trans (hb0.mono hC.size) | trace_state
      · refine FrontStep.of [9] _ rfl (by kernel_rfl) ?_
        intro vs LL wq hLL hC hf
        simp only [putL, List.foldl_nil, List.foldl_cons, List.getElem?_cons_zero, List.getElem?_cons_succ]
        obtain ⟨b38, e38, hr38⟩ := hf 9 (by simp)
        rw [e38]
        have d0 : wq.cell? ⟨b38, 0, none⟩ = some (.slice a1 n1 q1) := by rw [cell_of_row wq b38 _ _ _ _ hr38]; rfl
        have d1 : wq.cell? ⟨b38, 1, none⟩ = some (.slice (some ⟨g2, o2, none⟩) n2' q2) := by rw [cell_of_row wq b38 _ _ _ _ hr38]; rfl
        have hcc := concat2_any b38 a1 n1 q1 s.1 _ n2' q2 s.2 wq d0 d1 ((unhide M1).under hC) ((unhide M2).under hC) (by omega) (by omega)
        clear d0 d1
        replace hcc := hide hcc
        go_wp2_with fail
        refine (unhide hcc).mono ?_
        rintro e wz ⟨v, rfl, hown, hbz⟩
        obtain ⟨a9, c9, rfl, hlen9, hL9⟩ := own_lst hown (unhide AA)
        rw [unhide hnn] at hL9 ⊢
        clear hcc hown
        replace hbz := hide hbz; replace hL9 := hide hL9
        go_wp2_with fail
        first | exact ⟨hC.trans ((unhide hbz).mono hC.size), unhide hbz, unhide hL9⟩ | exact ⟨hC.trans ((unhide hbz).mono hC.size), unhide hbz, _, _, rfl, unhide hL9⟩ | exact ⟨hC.trans ((unhide hbz).mono hC.size), unhide hbz, _, unhide hL9⟩ | trace_state
      · refine FrontStep.of [] _ rfl (by kernel_rfl) ?_
        intro vs LL wq hLL hC hf
        simp only [putL, List.foldl_nil]
        go_wp2_with fail
        first | exact Below.refl _ _ | exact hC | exact ⟨hC, Below.refl _ _⟩ | exact ⟨hC, Below.refl _ _, by omega⟩ | exact ⟨Below.refl _ _, by omega⟩
      · refine FrontStep.of [11] _ rfl (by kernel_rfl) ?_
        intro vs LL wq hLL hC hf
        simp only [putL, List.foldl_nil, List.foldl_cons, List.getElem?_cons_zero, List.getElem?_cons_succ]
        have e11 : vs 11 = _ := hf 11 (by simp)
        rw [e11]
        go_wp2_with fail
        first | exact Below.refl _ _ | exact hC | exact ⟨hC, Below.refl _ _⟩ | exact ⟨hC, Below.refl _ _, by omega⟩ | exact ⟨Below.refl _ _, by omega⟩
      · refine FrontStep.of [12] _ rfl (by kernel_rfl) ?_
        intro vs LL wq hLL hC hf
        simp only [putL, List.foldl_nil, List.foldl_cons, List.getElem?_cons_zero, List.getElem?_cons_succ]
        have e12 : vs 12 = _ := hf 12 (by simp)
        rw [e12]
        go_wp2_with fail
        first | exact Below.refl _ _ | exact hC | exact ⟨hC, Below.refl _ _⟩ | exact ⟨hC, Below.refl _ _, by omega⟩ | exact ⟨Below.refl _ _, by omega⟩
      · refine FrontStep.of [13] _ rfl (by kernel_rfl) ?_
        intro vs LL wq hLL hC hf
        simp only [putL, List.foldl_nil, List.foldl_cons, List.getElem?_cons_zero, List.getElem?_cons_succ]
        have e13 : vs 13 = _ := hf 13 (by simp)
        rw [e13]
        have g0 := cell_under f1 hC
        go_wp2_with fail
        first | exact Below.refl _ _ | exact hC | exact ⟨hC, Below.refl _ _⟩ | exact ⟨hC, Below.refl _ _, by omega⟩ | exact ⟨Below.refl _ _, by omega⟩
      · refine FrontStep.of [14] _ rfl (by kernel_rfl) ?_
        intro vs LL wq hLL hC hf
        simp only [putL, List.foldl_nil, List.foldl_cons, List.getElem?_cons_zero, List.getElem?_cons_succ]
        have e14 : vs 14 = _ := hf 14 (by simp)
        rw [e14]
        go_wp2_with fail
        first | exact Below.refl _ _ | exact hC | exact ⟨hC, Below.refl _ _⟩ | exact ⟨hC, Below.refl _ _, by omega⟩ | exact ⟨Below.refl _ _, by omega⟩
      · refine FrontStep.of [0, 10, 15] _ rfl (by kernel_rfl) ?_
        intro vs LL wq hLL hC hf
        simp only [putL, List.foldl_nil, List.foldl_cons, List.getElem?_cons_zero, List.getElem?_cons_succ]
        have e0 : vs 0 = _ := hf 0 (by simp)
        rw [e0]
        obtain ⟨a39, c39, e39, hL39⟩ := hf 10 (by simp)
        rw [e39]
        have e15 : vs 15 = _ := hf 15 (by simp)
        rw [e15]
        have hmm := match_any xa xn xc x a39 (n1 + n2') c39 (s.1 ++ s.2) (n1 : Int) wq ((unhide hLx3).under hC) hL39 (unhide hsm) (by omega)
        rw [unhide hK] at hmm
        replace hmm := hide hmm
        go_wp2_with fail
        refine (unhide hmm).mono ?_
        rintro e wz ⟨rfl, hbz⟩
        clear hmm
        replace hbz := hide hbz
        go_wp2_with fail
        first | exact ⟨hC.trans ((unhide hbz).mono hC.size), unhide hbz⟩ | exact hC.trans ((unhide hbz).mono hC.size) | trace_state
    · intro vs LL wq hLL hC hf
      have e16 : vs 16 = _ := hf 16 (by omega)
      rw [putSome_all]
      simp only [putL, List.range, List.range.loop, List.foldl_nil, List.foldl_cons, List.getElem?_cons_zero, List.getElem?_cons_succ, List.drop_succ_cons, List.drop_zero]
      rw [e16]
      have hw3 := (unhide hw).trans (hC.mono (unhide hw).size)
      have k63 := kept' hC (unhide k6)
      clear hf hLL hC hw k6 f6 f2 e16 hLx3 M1 M2 AA hnn
      replace hw3 := hide hw3; replace k63 := hide k63
      obtain ⟨w4, rfl⟩ : ∃ W : World, W = wq := ⟨_, rfl⟩
      go_simp
      go_upto_if 47 with fail
      obtain ⟨O, hO⟩ : ∃ O, decO x s = O := ⟨_, rfl⟩
      obtain ⟨N, hN⟩ : ∃ N, decN x s = N := ⟨_, rfl⟩
      have hKd : decK x s = K := by unfold decK; rw [unhide hn1]; exact unhide hK
      have hNp : 1 ≤ N ∧ N ≤ n2' := by have := decN_bd x s (by rw [unhide hn2']; exact h0); rw [hN, unhide hn2'] at this; exact this
      replace hO := hide hO; replace hN := hide hN; replace hKd := hide hKd; replace hNp := hide hNp
      go_cut [7, 8] (fun v7 v8 wr => v7 = .int .i64 O ∧ v8 = .int .i64 (N : Int) ∧ Below w.heap.size w wr)
      case first =>
        by_cases hK0 : 0 ≤ K
        · rcases matchS_inv (x := x) (g := s.1 ++ s.2) (i := (n1 : Int)) with hm | ⟨kk, sb, hm, hxs, _, _, _⟩
          · rw [unhide hK] at hm
            omega
          rw [unhide hK] at hm
          subst hm
          have hlx := hide ((unhide hLx).under (unhide hw3))
          obtain ⟨gx, ox, sb', aB, nB, cB, af, nf, cf, aA, nA, cA, rfl, _, hxs', _, ⟨_, _, pF⟩, _, hti, d0, d1, d2, d3⟩ := lst_sub (k := kk) (unhide hlx) (by rw [← (unhide hlx).1]; exact (List.getElem?_eq_some_iff.1 hxs).1)
          rw [hxs] at hxs'
          injection hxs' with hxs'
          subst hxs'
          have hkx : kk < xn := by rw [← (unhide hlx).1]; exact (List.getElem?_eq_some_iff.1 hxs).1
          have hfl : sb.2.1.length = nf := pF.1
          have hO1 : sb.2.2.2 = O := by rw [← unhide hO]; unfold decO; rw [unhide hKd, if_pos hK0]; unfold toS; rw [Int.toNat_natCast, hxs]
          have hN1 : max 1 (min nf n2') = N := by rw [← unhide hN]; unfold decN; rw [unhide hKd, if_pos hK0, unhide hn2']; unfold fromL; rw [Int.toNat_natCast, hxs]; simp only [hfl]
          obtain ⟨mn, hmn0⟩ : ∃ m, min nf n2' = m := ⟨_, rfl⟩
          have hmn : Hid (((n2' : Int) < (nf : Int) ∧ mn = n2') ∨ (¬ (n2' : Int) < (nf : Int) ∧ mn = nf)) := hide (by omega)
          have hmx : Hid (((1 : Int) < (mn : Int) ∧ N = mn) ∨ (¬ (1 : Int) < (mn : Int) ∧ N = 1)) := hide (by omega)
          have j1 : (0 : Int) ≤ (kk : Int) := by omega
          have j2 : (kk : Int) < (xn : Int) := by omega
          have hnf : nf ≤ 1000 := by rw [← hfl]; exact ((unhide hsm).2 sb (List.mem_of_getElem? hxs)).2.1
          have f6 : w4.cell? ⟨b6, 0, none⟩ = some (.slice (some ⟨gx, ox, none⟩) xn xc) := by rw [cell_of_row w4 b6 _ _ _ _ (unhide k63)]; rfl
          have f2 := cell_under (unhide c2) (unhide hw3)
          rw [hO1] at d3
          clear hlx pF hti hkx hfl hxs hK0 hmn0
          have hw4 := hw3
          replace hO1 := hide hO1; replace hN1 := hide hN1; replace d1 := hide d1; replace f2 := hide f2
          go_upto_region 6 with fail
          replace d1 := unhide d1; replace f2 := unhide f2
          refine wp_region_frontG 14 (fun _ _ w' => Below w4.heap.size w4 w') (fun wa wb => Below wa.heap.size wa wb)
            (fun ix v w' => match ix with
              | 0 => v = .pointer (some ⟨b6, 0, none⟩)
              | 1 => v = .slice (some ⟨gx, ox, none⟩) xn xc
              | 2 => v = .int .i64 (kk : Int)
              | 3 => v = .pointer (some ⟨gx, ox + kk * 4, none⟩)
              | 4 => v = .pointer (some ⟨gx, ox + kk * 4 + 1, none⟩)
              | 5 => v = .slice af nf cf
              | 6 => v = .int .i64 (nf : Int)
              | 7 => v = .pointer (some ⟨bs, k * 2, none⟩)
              | 8 => v = .pointer (some ⟨bs, k * 2, none⟩)
              | 9 => v = .pointer (some ⟨bs, k * 2 + 1, none⟩)
              | 10 => v = .slice (some ⟨g2, o2, none⟩) n2' q2
              | 11 => v = .int .i64 (n2' : Int)
              | 12 => v = .int .i64 (mn : Int)
              | 13 => v = .int .i64 (N : Int)
              | _ => True) (by rfl) (by kernel_rfl) ?_ ?_ ?_ ?_
          · exact (Below.refl _ _).drew
          · intro wa wb hR ix v hv
            match ix, hv with
            | 0, h => exact h
            | 1, h => exact h
            | 2, h => exact h
            | 3, h => exact h
            | 4, h => exact h
            | 5, h => exact h
            | 6, h => exact h
            | 7, h => exact h
            | 8, h => exact h
            | 9, h => exact h
            | 10, h => exact h
            | 11, h => exact h
            | 12, h => exact h
            | 13, h => exact h
            | _ + 14, _ => trivial
          · intro ix hix
            obtain rfl | rfl | rfl | rfl | rfl | rfl | rfl | rfl | rfl | rfl | rfl | rfl | rfl | rfl : ix = 0 ∨ ix = 1 ∨ ix = 2 ∨ ix = 3 ∨ ix = 4 ∨ ix = 5 ∨ ix = 6 ∨ ix = 7 ∨ ix = 8 ∨ ix = 9 ∨ ix = 10 ∨ ix = 11 ∨ ix = 12 ∨ ix = 13 := by omega
            · refine FrontStep.of [] _ rfl (by kernel_rfl) ?_
              intro vs LL wq hLL hC hf
              simp only [putL, List.foldl_nil]
              go_wp2_with fail
              first | exact Below.refl _ _ | exact hC | exact ⟨hC, Below.refl _ _⟩ | exact ⟨hC, Below.refl _ _, by omega⟩ | exact ⟨Below.refl _ _, by omega⟩
            · refine FrontStep.of [0] _ rfl (by kernel_rfl) ?_
              intro vs LL wq hLL hC hf
              simp only [putL, List.foldl_nil, List.foldl_cons, List.getElem?_cons_zero]
              have e0 : vs 0 = _ := hf 0 (by simp)
              rw [e0]
              have g0 := cell_under f6 hC
              go_wp2_with fail
              first | exact Below.refl _ _ | exact hC | exact ⟨hC, Below.refl _ _⟩ | exact ⟨hC, Below.refl _ _, by omega⟩ | exact ⟨Below.refl _ _, by omega⟩
            · refine FrontStep.of [] _ rfl (by kernel_rfl) ?_
              intro vs LL wq hLL hC hf
              simp only [putL, List.foldl_nil]
              go_wp2_with fail
              first | exact Below.refl _ _ | exact hC | exact ⟨hC, Below.refl _ _⟩ | exact ⟨hC, Below.refl _ _, by omega⟩ | exact ⟨Below.refl _ _, by omega⟩
            · refine FrontStep.of [1, 2] _ rfl (by kernel_rfl) ?_
              intro vs LL wq hLL hC hf
              simp only [putL, List.foldl_nil, List.foldl_cons, List.getElem?_cons_zero, List.getElem?_cons_succ]
              have e1 : vs 1 = _ := hf 1 (by simp)
              rw [e1]
              have e2 : vs 2 = _ := hf 2 (by simp)
              rw [e2]
              go_wp2_with fail
              first | exact Below.refl _ _ | exact hC | exact ⟨hC, Below.refl _ _⟩ | exact ⟨hC, Below.refl _ _, by omega⟩ | exact ⟨Below.refl _ _, by omega⟩
            · refine FrontStep.of [3] _ rfl (by kernel_rfl) ?_
              intro vs LL wq hLL hC hf
              simp only [putL, List.foldl_nil, List.foldl_cons, List.getElem?_cons_zero, List.getElem?_cons_succ]
              have e3 : vs 3 = _ := hf 3 (by simp)
              rw [e3]
              go_wp2_with fail
              first | exact Below.refl _ _ | exact hC | exact ⟨hC, Below.refl _ _⟩ | exact ⟨hC, Below.refl _ _, by omega⟩ | exact ⟨Below.refl _ _, by omega⟩
            · refine FrontStep.of [4] _ rfl (by kernel_rfl) ?_
              intro vs LL wq hLL hC hf
              simp only [putL, List.foldl_nil, List.foldl_cons, List.getElem?_cons_zero, List.getElem?_cons_succ]
              have e4 : vs 4 = _ := hf 4 (by simp)
              rw [e4]
              have g0 := cell_under d1 hC
              go_wp2_with fail
              first | exact Below.refl _ _ | exact hC | exact ⟨hC, Below.refl _ _⟩ | exact ⟨hC, Below.refl _ _, by omega⟩ | exact ⟨Below.refl _ _, by omega⟩
            · refine FrontStep.of [5] _ rfl (by kernel_rfl) ?_
              intro vs LL wq hLL hC hf
              simp only [putL, List.foldl_nil, List.foldl_cons, List.getElem?_cons_zero, List.getElem?_cons_succ]
              have e5 : vs 5 = _ := hf 5 (by simp)
              rw [e5]
              go_wp2_with fail
              first | exact Below.refl _ _ | exact hC | exact ⟨hC, Below.refl _ _⟩ | exact ⟨hC, Below.refl _ _, by omega⟩ | exact ⟨Below.refl _ _, by omega⟩
            · refine FrontStep.of [] _ rfl (by kernel_rfl) ?_
              intro vs LL wq hLL hC hf
              simp only [putL, List.foldl_nil]
              go_wp2_with fail
              first | exact Below.refl _ _ | exact hC | exact ⟨hC, Below.refl _ _⟩ | exact ⟨hC, Below.refl _ _, by omega⟩ | exact ⟨Below.refl _ _, by omega⟩
            · refine FrontStep.of [7] _ rfl (by kernel_rfl) ?_
              intro vs LL wq hLL hC hf
              simp only [putL, List.foldl_nil, List.foldl_cons, List.getElem?_cons_zero, List.getElem?_cons_succ]
              have e7 : vs 7 = _ := hf 7 (by simp)
              rw [e7]
              go_wp2_with fail
              first | exact Below.refl _ _ | exact hC | exact ⟨hC, Below.refl _ _⟩ | exact ⟨hC, Below.refl _ _, by omega⟩ | exact ⟨Below.refl _ _, by omega⟩
            · refine FrontStep.of [8] _ rfl (by kernel_rfl) ?_
              intro vs LL wq hLL hC hf
              simp only [putL, List.foldl_nil, List.foldl_cons, List.getElem?_cons_zero, List.getElem?_cons_succ]
              have e8 : vs 8 = _ := hf 8 (by simp)
              rw [e8]
              go_wp2_with fail
              first | exact Below.refl _ _ | exact hC | exact ⟨hC, Below.refl _ _⟩ | exact ⟨hC, Below.refl _ _, by omega⟩ | exact ⟨Below.refl _ _, by omega⟩
            · refine FrontStep.of [9] _ rfl (by kernel_rfl) ?_
              intro vs LL wq hLL hC hf
              simp only [putL, List.foldl_nil, List.foldl_cons, List.getElem?_cons_zero, List.getElem?_cons_succ]
              have e9 : vs 9 = _ := hf 9 (by simp)
              rw [e9]
              have g0 := cell_under f2 hC
              go_wp2_with fail
              first | exact Below.refl _ _ | exact hC | exact ⟨hC, Below.refl _ _⟩ | exact ⟨hC, Below.refl _ _, by omega⟩ | exact ⟨Below.refl _ _, by omega⟩
            · refine FrontStep.of [10] _ rfl (by kernel_rfl) ?_
              intro vs LL wq hLL hC hf
              simp only [putL, List.foldl_nil, List.foldl_cons, List.getElem?_cons_zero, List.getElem?_cons_succ]
              have e10 : vs 10 = _ := hf 10 (by simp)
              rw [e10]
              go_wp2_with fail
              first | exact Below.refl _ _ | exact hC | exact ⟨hC, Below.refl _ _⟩ | exact ⟨hC, Below.refl _ _, by omega⟩ | exact ⟨Below.refl _ _, by omega⟩
            · refine FrontStep.of [6, 11] _ rfl (by kernel_rfl) ?_
              intro vs LL wq hLL hC hf
              simp only [putL, List.foldl_nil, List.foldl_cons, List.getElem?_cons_zero, List.getElem?_cons_succ]
              have e6 : vs 6 = _ := hf 6 (by simp)
              rw [e6]
              have e11 : vs 11 = _ := hf 11 (by simp)
              rw [e11]
              rcases unhide hmn with ⟨hq, hz⟩ | ⟨hq, hz⟩
              · have hz0 := hz
                clear hz
                go_wp2_with fail
                exact Below.refl _ _
              · have hz0 := hz
                clear hz
                go_wp2_with fail
                exact Below.refl _ _
            · refine FrontStep.of [12] _ rfl (by kernel_rfl) ?_
              intro vs LL wq hLL hC hf
              simp only [putL, List.foldl_nil, List.foldl_cons, List.getElem?_cons_zero, List.getElem?_cons_succ]
              have e12 : vs 12 = _ := hf 12 (by simp)
              rw [e12]
              rcases unhide hmx with ⟨hq, hz⟩ | ⟨hq, hz⟩
              · have hz0 := hz
                clear hz
                go_wp2_with fail
                exact Below.refl _ _
              · have hz0 := hz
                clear hz
                go_wp2_with fail
                exact Below.refl _ _
          · intro vs LL wq hLL hC hf
            have e13 : vs 13 = _ := hf 13 (by omega)
            rw [putSome_all]
            simp only [putL, List.range, List.range.loop, List.foldl_nil, List.foldl_cons, List.getElem?_cons_zero, List.getElem?_cons_succ, List.drop_succ_cons, List.drop_zero]
            rw [e13]
            have hw5 := (unhide hw4).trans (hC.mono (unhide hw4).size)
            clear hf hLL hC hw4 e13
            replace hw5 := hide hw5
            go_simp
            go_wp2_with fail
            go_meet
            exact ⟨by first | rfl | rw [unhide hO1], by first | rfl | rw [unhide hN1], unhide hw5⟩
        · have t1 : ¬ (0 : Int) ≤ K := hK0
          have hO1 : y0 = O := by rw [← unhide hO]; unfold decO; rw [unhide hKd, if_neg hK0, getD_some (unhide hy0)]
          have hN1 : 1 = N := by rw [← unhide hN]; unfold decN; rw [unhide hKd, if_neg hK0]
          replace hO1 := hide hO1; replace hN1 := hide hN1
          go_wp2_with fail
          go_meet
          exact ⟨by rw [unhide hO1], by rw [← unhide hN1]; rfl, unhide hw3⟩
      case rest =>
        obtain ⟨rfl, rfl, hw5⟩ := hcut
        obtain ⟨w5, rfl⟩ : ∃ W : World, W = wc := ⟨_, rfl⟩
        have h5 := (unhide h).under hw5
        have kp5 := (unhide h).keeps hw5
        have V15 := (unhide V1).same (fun b hb => hw5.block b ((unhide V1).blk hb).2.1)
        have V25 := (unhide V2).same (fun b hb => hw5.block b ((unhide V2).blk hb).2.1)
        have f1 := cell_under (unhide c1) hw5
        have f2 := cell_under (unhide c2) hw5
        obtain ⟨_, gt, ot, hgt, htk⟩ := V25.take (unhide A2) (by rw [unhide hn2']) (by rw [unhide hn2']; exact (unhide hNp).2) (unhide hNp).1
        injection hgt with hgt
        injection hgt with hgt1 hgt2
        subst hgt1; subst hgt2
        have hqq : n2' ≤ q2 := by rw [← unhide hn2']; exact hq2
        have hq0 : ¬ q2 = 0 := by have := unhide hNp; omega
        have j1 : (0 : Int) ≤ (N : Int) := by omega
        have j2 : (N : Int) ≤ (q2 : Int) := by have := unhide hNp; omega
        have j3 : (N : Int) ≤ (n2' : Int) := by have := unhide hNp; omega
        have hx5 : ∀ wq : World, (wq.heap = w5.heap ∧ Below w5.heap.size w5 wq) → wq.cell? ⟨bs, k * 2, none⟩ = some (.slice a1 n1 q1) ∧ wq.cell? ⟨bs, k * 2 + 1, none⟩ = some (.slice (some ⟨g2, o2, none⟩) n2' q2) := fun wq hq => ⟨cell_under f1 hq.2, cell_under f2 hq.2⟩
        replace h5 := hide h5; replace kp5 := hide kp5; replace V15 := hide V15; replace V25 := hide V25; replace hw5 := hide hw5; replace htk := hide htk
        clear h V1 V2 L1 L2 hLx hsm hw3 k63 f1 f2 hKd hK
        go_upto_region 7 with fail
        refine wp_region_frontG 12 (fun LL vs w' => CA 11 [4, 10] [(10, 8)] (fun wz => wz.heap = w5.heap ∧ Below w5.heap.size w5 wz) (fun v wz => View wz (fun g => ¬ Q g) v (s.1 ++ s.2.take N) ∧ w5.grownBy wz (Value.slice a1 n1 q1).ownBlock ∧ (v.ownBlock = (Value.slice a1 n1 q1).ownBlock ∨ v.ownBlock = some w5.heap.size)) LL vs w') (fun _ _ => True)
          (fun ix v w' => match ix with
            | 0 => v = .pointer (some ⟨bs, k * 2, none⟩)
            | 1 => v = .pointer (some ⟨bs, k * 2, none⟩)
            | 2 => v = .pointer (some ⟨bs, k * 2, none⟩)
            | 3 => v = .pointer (some ⟨bs, k * 2, none⟩)
            | 4 => v = .slice a1 n1 q1
            | 5 => v = .pointer (some ⟨bs, k * 2, none⟩)
            | 6 => v = .pointer (some ⟨bs, k * 2, none⟩)
            | 7 => v = .pointer (some ⟨bs, k * 2 + 1, none⟩)
            | 8 => v = .slice (some ⟨g2, o2, none⟩) n2' q2
            | 9 => v = .int .i64 (N : Int)
            | 10 => v = .slice (some ⟨g2, o2, none⟩) N q2
            | 11 => True
            | _ => True) (by rfl) (by kernel_rfl) ?_ ?_ ?_ ?_
        · exact CA.start 11 [4, 10] [(10, 8)] _ ⟨rfl, (Below.refl _ _).drew⟩
        · intro wa wb hR ix v hv
          match ix, hv with
          | 0, h => exact h
          | 1, h => exact h
          | 2, h => exact h
          | 3, h => exact h
          | 4, h => exact h
          | 5, h => exact h
          | 6, h => exact h
          | 7, h => exact h
          | 8, h => exact h
          | 9, h => exact h
          | 10, h => exact h
          | 11, h => exact h
          | _ + 12, _ => trivial
        · intro ix hix
          obtain rfl | rfl | rfl | rfl | rfl | rfl | rfl | rfl | rfl | rfl | rfl | rfl : ix = 0 ∨ ix = 1 ∨ ix = 2 ∨ ix = 3 ∨ ix = 4 ∨ ix = 5 ∨ ix = 6 ∨ ix = 7 ∨ ix = 8 ∨ ix = 9 ∨ ix = 10 ∨ ix = 11 := by omega
          · refine FrontStep.of [] _ rfl (by kernel_rfl) ?_
            intro vs LL wq hLL hC hf
            simp only [putL, List.foldl_nil]
            have hcc : ∀ p ∈ ([(10, 8)] : List (Nat × Nat)), p.1 = 0 → LL p.2 = true := fun p hp e => by
              simp at hp
              rcases hp with rfl <;> exact absurd e (by decide)
            go_wp2_with fail
            first | exact hC.keep 0 _ (by decide) hcc | exact ⟨hC.keep 0 _ (by decide) hcc, trivial⟩ | exact ⟨hC.keep 0 _ (by decide) hcc, trivial, by omega⟩
          · refine FrontStep.of [] _ rfl (by kernel_rfl) ?_
            intro vs LL wq hLL hC hf
            simp only [putL, List.foldl_nil]
            have hcc : ∀ p ∈ ([(10, 8)] : List (Nat × Nat)), p.1 = 1 → LL p.2 = true := fun p hp e => by
              simp at hp
              rcases hp with rfl <;> exact absurd e (by decide)
            go_wp2_with fail
            first | exact hC.keep 1 _ (by decide) hcc | exact ⟨hC.keep 1 _ (by decide) hcc, trivial⟩ | exact ⟨hC.keep 1 _ (by decide) hcc, trivial, by omega⟩
          · refine FrontStep.of [1] _ rfl (by kernel_rfl) ?_
            intro vs LL wq hLL hC hf
            simp only [putL, List.foldl_nil, List.foldl_cons, List.getElem?_cons_zero, List.getElem?_cons_succ]
            have y1 : vs 1 = _ := hf 1 (by simp)
            try rw [y1]
            have hcc : ∀ p ∈ ([(10, 8)] : List (Nat × Nat)), p.1 = 2 → LL p.2 = true := fun p hp e => by
              simp at hp
              rcases hp with rfl <;> exact absurd e (by decide)
            go_wp2_with fail
            first | exact hC.keep 2 _ (by decide) hcc | exact ⟨hC.keep 2 _ (by decide) hcc, trivial⟩ | exact ⟨hC.keep 2 _ (by decide) hcc, trivial, by omega⟩
          · refine FrontStep.of [2] _ rfl (by kernel_rfl) ?_
            intro vs LL wq hLL hC hf
            simp only [putL, List.foldl_nil, List.foldl_cons, List.getElem?_cons_zero, List.getElem?_cons_succ]
            have y2 : vs 2 = _ := hf 2 (by simp)
            try rw [y2]
            have hcc : ∀ p ∈ ([(10, 8)] : List (Nat × Nat)), p.1 = 3 → LL p.2 = true := fun p hp e => by
              simp at hp
              rcases hp with rfl <;> exact absurd e (by decide)
            go_wp2_with fail
            first | exact hC.keep 3 _ (by decide) hcc | exact ⟨hC.keep 3 _ (by decide) hcc, trivial⟩ | exact ⟨hC.keep 3 _ (by decide) hcc, trivial, by omega⟩
          · refine FrontStep.of [3] _ rfl (by kernel_rfl) ?_
            intro vs LL wq hLL hC hf
            simp only [putL, List.foldl_nil, List.foldl_cons, List.getElem?_cons_zero, List.getElem?_cons_succ]
            have y3 : vs 3 = _ := hf 3 (by simp)
            try rw [y3]
            have hP := (hC.early hLL (by simp)).2
            have hcc : ∀ p ∈ ([(10, 8)] : List (Nat × Nat)), p.1 = 4 → LL p.2 = true := fun p hp e => by
              simp at hp
              rcases hp with rfl <;> exact absurd e (by decide)
            have g0 := (hx5 wq hP).1
            go_wp2_with fail
            first | exact hC.keep 4 _ (by decide) hcc | exact ⟨hC.keep 4 _ (by decide) hcc, trivial⟩ | exact ⟨hC.keep 4 _ (by decide) hcc, trivial, by omega⟩
          · refine FrontStep.of [] _ rfl (by kernel_rfl) ?_
            intro vs LL wq hLL hC hf
            simp only [putL, List.foldl_nil]
            have hcc : ∀ p ∈ ([(10, 8)] : List (Nat × Nat)), p.1 = 5 → LL p.2 = true := fun p hp e => by
              simp at hp
              rcases hp with rfl <;> exact absurd e (by decide)
            go_wp2_with fail
            first | exact hC.keep 5 _ (by decide) hcc | exact ⟨hC.keep 5 _ (by decide) hcc, trivial⟩ | exact ⟨hC.keep 5 _ (by decide) hcc, trivial, by omega⟩
          · refine FrontStep.of [5] _ rfl (by kernel_rfl) ?_
            intro vs LL wq hLL hC hf
            simp only [putL, List.foldl_nil, List.foldl_cons, List.getElem?_cons_zero, List.getElem?_cons_succ]
            have y5 : vs 5 = _ := hf 5 (by simp)
            try rw [y5]
            have hcc : ∀ p ∈ ([(10, 8)] : List (Nat × Nat)), p.1 = 6 → LL p.2 = true := fun p hp e => by
              simp at hp
              rcases hp with rfl <;> exact absurd e (by decide)
            go_wp2_with fail
            first | exact hC.keep 6 _ (by decide) hcc | exact ⟨hC.keep 6 _ (by decide) hcc, trivial⟩ | exact ⟨hC.keep 6 _ (by decide) hcc, trivial, by omega⟩
          · refine FrontStep.of [6] _ rfl (by kernel_rfl) ?_
            intro vs LL wq hLL hC hf
            simp only [putL, List.foldl_nil, List.foldl_cons, List.getElem?_cons_zero, List.getElem?_cons_succ]
            have y6 : vs 6 = _ := hf 6 (by simp)
            try rw [y6]
            have hcc : ∀ p ∈ ([(10, 8)] : List (Nat × Nat)), p.1 = 7 → LL p.2 = true := fun p hp e => by
              simp at hp
              rcases hp with rfl <;> exact absurd e (by decide)
            go_wp2_with fail
            first | exact hC.keep 7 _ (by decide) hcc | exact ⟨hC.keep 7 _ (by decide) hcc, trivial⟩ | exact ⟨hC.keep 7 _ (by decide) hcc, trivial, by omega⟩
          · refine FrontStep.of [7] _ rfl (by kernel_rfl) ?_
            intro vs LL wq hLL hC hf
            simp only [putL, List.foldl_nil, List.foldl_cons, List.getElem?_cons_zero, List.getElem?_cons_succ]
            have y7 : vs 7 = _ := hf 7 (by simp)
            try rw [y7]
            have hP := (hC.early hLL (by simp)).2
            have hcc : ∀ p ∈ ([(10, 8)] : List (Nat × Nat)), p.1 = 8 → LL p.2 = true := fun p hp e => by
              simp at hp
              rcases hp with rfl <;> exact absurd e (by decide)
            have g0 := (hx5 wq hP).2
            go_wp2_with fail
            first | exact hC.keep 8 _ (by decide) hcc | exact ⟨hC.keep 8 _ (by decide) hcc, trivial⟩ | exact ⟨hC.keep 8 _ (by decide) hcc, trivial, by omega⟩
          · refine FrontStep.of [] _ rfl (by kernel_rfl) ?_
            intro vs LL wq hLL hC hf
            simp only [putL, List.foldl_nil]
            have hcc : ∀ p ∈ ([(10, 8)] : List (Nat × Nat)), p.1 = 9 → LL p.2 = true := fun p hp e => by
              simp at hp
              rcases hp with rfl <;> exact absurd e (by decide)
            go_wp2_with fail
            first | exact hC.keep 9 _ (by decide) hcc | exact ⟨hC.keep 9 _ (by decide) hcc, trivial⟩ | exact ⟨hC.keep 9 _ (by decide) hcc, trivial, by omega⟩
          · refine FrontStep.of [8, 9] _ rfl (by kernel_rfl) ?_
            intro vs LL wq hLL hC hf
            simp only [putL, List.foldl_nil, List.foldl_cons, List.getElem?_cons_zero, List.getElem?_cons_succ]
            have y8 : vs 8 = _ := hf 8 (by simp)
            try rw [y8]
            have y9 : vs 9 = _ := hf 9 (by simp)
            try rw [y9]
            have hP := (hC.early hLL (by simp)).2
            have hcc : ∀ p ∈ ([(10, 8)] : List (Nat × Nat)), p.1 = 10 → LL p.2 = true := fun p hp e => by
              simp at hp
              first | (rcases hp with rfl <;> first | exact absurd e (by decide) | (exact hC.ran (by rw [y8]; first | exact slice_def _ _ _ | exact ptr_def _ | exact int_def _ _)))
            go_wp2_with fail
            first | exact hC.keep 10 _ (by decide) hcc | exact ⟨hC.keep 10 _ (by decide) hcc, trivial⟩ | exact ⟨hC.keep 10 _ (by decide) hcc, trivial, by omega⟩
          · refine FrontStep.of [4, 10] _ rfl (by kernel_rfl) ?_
            intro vs LL wq hLL hC hf
            simp only [putL, List.foldl_nil, List.foldl_cons, List.getElem?_cons_zero, List.getElem?_cons_succ]
            have y4 : vs 4 = _ := hf 4 (by simp)
            try rw [y4]
            have y10 : vs 10 = _ := hf 10 (by simp)
            try rw [y10]
            have hP := hC.pre hLL
            have VQ := (unhide V15).same (w' := wq) (fun b hb => by rw [hP.1])
            have LQ := (unhide htk).under hP.2
            have hsz : wq.heap.size = w5.heap.size := by rw [hP.1]
            have hnew : ¬ Q wq.heap.size := by rw [hsz]; exact (unhide h5).new
            have hg0 := grown_of_below hP.2 (Value.slice a1 n1 q1).ownBlock
            have hrun := fun v w2 q => hC.run (w2 := w2) v (fun j hj => by simp at hj; rcases hj with rfl | rfl <;> first | (rw [y4]; exact slice_def _ _ _) | (rw [y10]; exact slice_def _ _ _)) (fun p hp e => by simp at hp; subst hp; exact absurd e (by decide)) q
            replace VQ := hide VQ; replace LQ := hide LQ; replace hsz := hide hsz; replace hnew := hide hnew; replace hg0 := hide hg0; replace hrun := hide hrun
            clear y4 y10 hP hC
            go_wp2_with (at_builtin; refine wpList_append_viewn (S := fun g => ¬ Q g) rfl _ _ rfl _ s.1 rfl (unhide VQ) (unhide hnew) g2 o2 N q2 (s.2.take N) _ rfl (unhide LQ) ?d1 ?_)
            case d1 => rw [unhide hn1]; have := unhide hNp; omega
            intro v' w2 q1' q2' q3'
            have hfin := unhide hrun v' w2 ⟨q1', grown_trans (unhide hg0) q2', by rw [← unhide hsz]; exact q3'⟩
            replace hfin := hide hfin
            clear q1' q2' q3' VQ LQ hrun hg0
            go_wp2_with fail
            first | exact ⟨v', rfl, unhide hfin, trivial, trivial⟩ | exact ⟨v', unhide hfin⟩ | exact unhide hfin | exact ⟨v', rfl, unhide hfin⟩ | trace_state
        · intro vs LL wq hLL hC hf
          obtain ⟨pv, pg, po⟩ := hC.post (hLL 11 (by omega))
          obtain ⟨a7, c7, e11, _, _⟩ := pv.shape
          have e0 : vs 0 = _ := hf 0 (by omega)
          obtain ⟨m1, m2⟩ := (unhide h5).mid (unhide e1) pg
          obtain ⟨L7, hL7⟩ : ∃ m, (s.1 ++ s.2.take N).length = m := ⟨_, rfl⟩
          rw [hL7] at e11
          have hput := (unhide h5).put (unhide e1) pg pv po (sts' := pre ++ (s.1 ++ s.2.take N, s.2) :: ss) (by rw [flatS_set1, unhide hkk]) (fun t ht => by
                rcases List.mem_append.1 ht with ht | ht
                · exact (unhide h5).num t (by simp [ht])
                · rcases List.mem_cons.1 ht with rfl | ht
                  · exact ⟨fun y hy => by rcases List.mem_append.1 hy with hy | hy; exact unhide A1 y hy; exact unhide A2 y (List.mem_of_mem_take hy), unhide A2⟩
                  · exact (unhide h5).num t (by simp [ht]))
          rw [putSome_all]
          simp only [putL, List.range, List.range.loop, List.foldl_nil, List.foldl_cons, List.getElem?_cons_zero, List.getElem?_cons_succ, List.drop_succ_cons, List.drop_zero]
          rw [e0, e11]
          rw [e11] at hput
          obtain ⟨W7, hW7⟩ : ∃ W, wq.setCell ⟨bs, k * 2, none⟩ (.slice a7 L7 c7) = W := ⟨_, rfl⟩
          rw [hW7] at hput
          obtain ⟨h7, kp7⟩ := hput
          replace kp5 := hide ((unhide kp5).trans kp7)
          clear hf hLL hC pv pg po e0 e11 kp7 h5 hx5 V15 V25 htk hw5
          replace hW7 := hide hW7; replace h7 := hide h7; replace hL7 := hide hL7
          go_simp
          go_upto_region 8 with fail
          rw [unhide hW7]
          clear hW7 m1 m2
          obtain ⟨w7, rfl⟩ : ∃ W : World, W = W7 := ⟨_, rfl⟩
          replace h7 := unhide h7
          obtain ⟨u1, u2, y1, y2, U1, U2, B1, B2, x1, x2⟩ := h7.stage
          rw [unhide hkk] at y1 y2 x1 x2
          obtain ⟨a8, c8, hu1, hc8, hc8'⟩ := U1.shape
          rw [show ((s.1 ++ s.2.take N, s.2) : Stg).1 = s.1 ++ s.2.take N from rfl, unhide hL7] at hu1 hc8
          subst hu1
          obtain ⟨M, hMM⟩ : ∃ M, L7 - 2 = M := ⟨_, rfl⟩
          have hM : Hid (((0 : Int) < (L7 : Int) - 2 ∧ (M : Int) = (L7 : Int) - 2) ∨ (¬ (0 : Int) < (L7 : Int) - 2 ∧ M = 0)) := hide (by omega)
          have hML : M ≤ L7 := by omega
          have hM2 : Hid (last2 (s.1 ++ s.2.take N) = (s.1 ++ s.2.take N).drop M) := hide (by unfold last2; rw [unhide hL7, hMM])
          have hL7b : L7 ≤ 600000 := by rw [← unhide hL7, List.length_append, List.length_take, unhide hn1]; have := (unhide hNp).2; omega
          obtain ⟨Y8, Y9⟩ := U1.drop (k := M) (c := c8) (a := a8) (by rw [unhide hL7]) (by rw [show ((s.1 ++ s.2.take N, s.2) : Stg).1 = s.1 ++ s.2.take N from rfl, unhide hL7]; exact hML)
          rw [show ((s.1 ++ s.2.take N, s.2) : Stg).1 = s.1 ++ s.2.take N from rfl, unhide hL7] at Y8 Y9
          obtain ⟨a9, hs9⟩ : ∃ a, sliced a8 M L7 c8 1 = .slice a (L7 - M) (c8 - M) := ⟨_, rfl⟩
          have j7 : (if c8 = M then a8 else a8.map (·.add M)) = a9 := by unfold sliced at hs9; rw [Nat.mul_one] at hs9; injection hs9
          rw [hs9] at Y8 Y9
          have i5 : (M : Int) ≤ (L7 : Int) := by omega
          clear U1 U2 B2 x2 y2 hs9 hMM
          replace y1 := hide y1; replace Y8 := hide Y8; replace Y9 := hide Y9; replace B1 := hide B1
          refine wp_region_frontG 13 (fun _ _ w' => Below w7.heap.size w7 w') (fun wa wb => Below wa.heap.size wa wb)
            (fun ix v w' => match ix with
              | 0 => v = .pointer (some ⟨bs, k * 2, none⟩)
              | 1 => v = .pointer (some ⟨bs, k * 2, none⟩)
              | 2 => v = .pointer (some ⟨bs, k * 2, none⟩)
              | 3 => v = .pointer (some ⟨bs, k * 2, none⟩)
              | 4 => v = .slice a8 L7 c8
              | 5 => v = .pointer (some ⟨bs, k * 2, none⟩)
              | 6 => v = .pointer (some ⟨bs, k * 2, none⟩)
              | 7 => v = .pointer (some ⟨bs, k * 2, none⟩)
              | 8 => v = .slice a8 L7 c8
              | 9 => v = .int .i64 (L7 : Int)
              | 10 => v = .int .i64 ((L7 : Int) - 2)
              | 11 => v = .int .i64 (M : Int)
              | 12 => v = .slice a9 (L7 - M) (c8 - M)
              | _ => True) (by rfl) (by kernel_rfl) ?_ ?_ ?_ ?_
          · exact (Below.refl _ _).drew
          · intro wa wb hR ix v hv
            match ix, hv with
            | 0, h => exact h
            | 1, h => exact h
            | 2, h => exact h
            | 3, h => exact h
            | 4, h => exact h
            | 5, h => exact h
            | 6, h => exact h
            | 7, h => exact h
            | 8, h => exact h
            | 9, h => exact h
            | 10, h => exact h
            | 11, h => exact h
            | 12, h => exact h
            | _ + 13, _ => trivial
          · intro ix hix
            obtain rfl | rfl | rfl | rfl | rfl | rfl | rfl | rfl | rfl | rfl | rfl | rfl | rfl : ix = 0 ∨ ix = 1 ∨ ix = 2 ∨ ix = 3 ∨ ix = 4 ∨ ix = 5 ∨ ix = 6 ∨ ix = 7 ∨ ix = 8 ∨ ix = 9 ∨ ix = 10 ∨ ix = 11 ∨ ix = 12 := by omega
            · refine FrontStep.of [] _ rfl (by kernel_rfl) ?_
              intro vs LL wq hLL hC hf
              simp only [putL, List.foldl_nil]
              go_wp2_with fail
              first | exact Below.refl _ _ | exact hC | exact ⟨hC, Below.refl _ _⟩ | exact ⟨hC, Below.refl _ _, by omega⟩ | exact ⟨Below.refl _ _, by omega⟩
            · refine FrontStep.of [] _ rfl (by kernel_rfl) ?_
              intro vs LL wq hLL hC hf
              simp only [putL, List.foldl_nil]
              go_wp2_with fail
              first | exact Below.refl _ _ | exact hC | exact ⟨hC, Below.refl _ _⟩ | exact ⟨hC, Below.refl _ _, by omega⟩ | exact ⟨Below.refl _ _, by omega⟩
            · refine FrontStep.of [1] _ rfl (by kernel_rfl) ?_
              intro vs LL wq hLL hC hf
              simp only [putL, List.foldl_nil, List.foldl_cons, List.getElem?_cons_zero, List.getElem?_cons_succ]
              have e1 : vs 1 = _ := hf 1 (by simp)
              rw [e1]
              go_wp2_with fail
              first | exact Below.refl _ _ | exact hC | exact ⟨hC, Below.refl _ _⟩ | exact ⟨hC, Below.refl _ _, by omega⟩ | exact ⟨Below.refl _ _, by omega⟩
            · refine FrontStep.of [2] _ rfl (by kernel_rfl) ?_
              intro vs LL wq hLL hC hf
              simp only [putL, List.foldl_nil, List.foldl_cons, List.getElem?_cons_zero, List.getElem?_cons_succ]
              have e2 : vs 2 = _ := hf 2 (by simp)
              rw [e2]
              go_wp2_with fail
              first | exact Below.refl _ _ | exact hC | exact ⟨hC, Below.refl _ _⟩ | exact ⟨hC, Below.refl _ _, by omega⟩ | exact ⟨Below.refl _ _, by omega⟩
            · refine FrontStep.of [3] _ rfl (by kernel_rfl) ?_
              intro vs LL wq hLL hC hf
              simp only [putL, List.foldl_nil, List.foldl_cons, List.getElem?_cons_zero, List.getElem?_cons_succ]
              have e3 : vs 3 = _ := hf 3 (by simp)
              rw [e3]
              have g0 := cell_under x1 hC
              go_wp2_with fail
              first | exact Below.refl _ _ | exact hC | exact ⟨hC, Below.refl _ _⟩ | exact ⟨hC, Below.refl _ _, by omega⟩ | exact ⟨Below.refl _ _, by omega⟩
            · refine FrontStep.of [] _ rfl (by kernel_rfl) ?_
              intro vs LL wq hLL hC hf
              simp only [putL, List.foldl_nil]
              go_wp2_with fail
              first | exact Below.refl _ _ | exact hC | exact ⟨hC, Below.refl _ _⟩ | exact ⟨hC, Below.refl _ _, by omega⟩ | exact ⟨Below.refl _ _, by omega⟩
            · refine FrontStep.of [5] _ rfl (by kernel_rfl) ?_
              intro vs LL wq hLL hC hf
              simp only [putL, List.foldl_nil, List.foldl_cons, List.getElem?_cons_zero, List.getElem?_cons_succ]
              have e5 : vs 5 = _ := hf 5 (by simp)
              rw [e5]
              go_wp2_with fail
              first | exact Below.refl _ _ | exact hC | exact ⟨hC, Below.refl _ _⟩ | exact ⟨hC, Below.refl _ _, by omega⟩ | exact ⟨Below.refl _ _, by omega⟩
            · refine FrontStep.of [6] _ rfl (by kernel_rfl) ?_
              intro vs LL wq hLL hC hf
              simp only [putL, List.foldl_nil, List.foldl_cons, List.getElem?_cons_zero, List.getElem?_cons_succ]
              have e6 : vs 6 = _ := hf 6 (by simp)
              rw [e6]
              go_wp2_with fail
              first | exact Below.refl _ _ | exact hC | exact ⟨hC, Below.refl _ _⟩ | exact ⟨hC, Below.refl _ _, by omega⟩ | exact ⟨Below.refl _ _, by omega⟩
            · refine FrontStep.of [7] _ rfl (by kernel_rfl) ?_
              intro vs LL wq hLL hC hf
              simp only [putL, List.foldl_nil, List.foldl_cons, List.getElem?_cons_zero, List.getElem?_cons_succ]
              have e7 : vs 7 = _ := hf 7 (by simp)
              rw [e7]
              have g0 := cell_under x1 hC
              go_wp2_with fail
              first | exact Below.refl _ _ | exact hC | exact ⟨hC, Below.refl _ _⟩ | exact ⟨hC, Below.refl _ _, by omega⟩ | exact ⟨Below.refl _ _, by omega⟩
            · refine FrontStep.of [8] _ rfl (by kernel_rfl) ?_
              intro vs LL wq hLL hC hf
              simp only [putL, List.foldl_nil, List.foldl_cons, List.getElem?_cons_zero, List.getElem?_cons_succ]
              have e8 : vs 8 = _ := hf 8 (by simp)
              rw [e8]
              go_wp2_with fail
              first | exact Below.refl _ _ | exact hC | exact ⟨hC, Below.refl _ _⟩ | exact ⟨hC, Below.refl _ _, by omega⟩ | exact ⟨Below.refl _ _, by omega⟩
            · refine FrontStep.of [9] _ rfl (by kernel_rfl) ?_
              intro vs LL wq hLL hC hf
              simp only [putL, List.foldl_nil, List.foldl_cons, List.getElem?_cons_zero, List.getElem?_cons_succ]
              have e9 : vs 9 = _ := hf 9 (by simp)
              rw [e9]
              go_wp2_with fail
              first | exact Below.refl _ _ | exact hC | exact ⟨hC, Below.refl _ _⟩ | exact ⟨hC, Below.refl _ _, by omega⟩ | exact ⟨Below.refl _ _, by omega⟩
            · refine FrontStep.of [10] _ rfl (by kernel_rfl) ?_
              intro vs LL wq hLL hC hf
              simp only [putL, List.foldl_nil, List.foldl_cons, List.getElem?_cons_zero, List.getElem?_cons_succ]
              have e10 : vs 10 = _ := hf 10 (by simp)
              rw [e10]
              rcases unhide hM with ⟨hq, hz⟩ | ⟨hq, hz⟩
              · have hz0 := hz
                clear hz
                go_wp2_with fail
                first | exact Below.refl _ _ | exact hC | exact ⟨hC, Below.refl _ _⟩ | exact ⟨hC, Below.refl _ _, by omega⟩ | exact ⟨Below.refl _ _, by omega⟩ | trace_state
              · have hz0 := hz
                clear hz
                go_wp2_with fail
                first | exact Below.refl _ _ | exact hC | exact ⟨hC, Below.refl _ _⟩ | exact ⟨hC, Below.refl _ _, by omega⟩ | exact ⟨Below.refl _ _, by omega⟩ | trace_state
            · refine FrontStep.of [4, 11] _ rfl (by kernel_rfl) ?_
              intro vs LL wq hLL hC hf
              simp only [putL, List.foldl_nil, List.foldl_cons, List.getElem?_cons_zero, List.getElem?_cons_succ]
              have e4 : vs 4 = _ := hf 4 (by simp)
              rw [e4]
              have e11 : vs 11 = _ := hf 11 (by simp)
              rw [e11]
              have g1 := j7
              go_wp2_with fail
              first | exact Below.refl _ _ | exact hC | exact ⟨hC, Below.refl _ _⟩ | exact ⟨hC, Below.refl _ _, by omega⟩ | exact ⟨Below.refl _ _, by omega⟩ | trace_state
          · intro vs LL wq hLL hC hf
            have e0 : vs 0 = _ := hf 0 (by omega)
            have e12 : vs 12 = _ := hf 12 (by omega)
            have hq8 := h7.under hC
            have hkq := h7.keeps hC
            have r1 := cell_under x1 hC
            have r2 : wq.frozen? ⟨bs, k * 2, none⟩ = false := hq8.frozen _
            have hput := hq8.put (w1 := wq) (i := k * 2) (unhide y1) (grown_refl _ _) ((unhide Y8).same (fun b hb => hC.block b ((unhide Y8).blk hb).2.1)) (.inl (unhide Y9)) (sts' := pre ++ (last2 (s.1 ++ s.2.take N), s.2) :: ss) (by rw [flatS_set1 pre ss (s.1 ++ s.2.take N, s.2), unhide hkk]; exact congrArg _ (unhide hM2)) (fun t ht => by
              rcases List.mem_append.1 ht with ht | ht
              · exact h7.num t (by simp [ht])
              · rcases List.mem_cons.1 ht with rfl | ht
                · exact ⟨fun y hy => unhide B1 y (List.mem_of_mem_drop hy), unhide A2⟩
                · exact h7.num t (by simp [ht]))
            rw [putSome_all]
            simp only [putL, List.range, List.range.loop, List.foldl_nil, List.foldl_cons, List.getElem?_cons_zero, List.getElem?_cons_succ, List.drop_succ_cons, List.drop_zero]
            rw [e0, e12]
            obtain ⟨W8, hW8⟩ : ∃ W, wq.setCell ⟨bs, k * 2, none⟩ (.slice a9 (L7 - M) (c8 - M)) = W := ⟨_, rfl⟩
            rw [hW8] at hput
            obtain ⟨h8, kp8⟩ := hput
            replace kp5 := hide ((unhide kp5).trans (hkq.trans kp8))
            clear hf hLL hC e0 e12 kp8 hkq h7 hq8 x1 Y8 Y9
            replace hW8 := hide hW8; replace h8 := hide h8
            obtain ⟨u1, u2, z1, z2, Z1, Z2, D1, D2, x1, x2⟩ := (unhide h8).stage
            rw [unhide hkk] at z1 z2 x1 x2
            obtain ⟨a10, c10, hz2, _, _⟩ := Z2.shape
            subst hz2
            obtain ⟨Ya, Yb⟩ := Z2.drop (k := N) rfl (by rw [show ((last2 (s.1 ++ s.2.take N), s.2) : Stg).2 = s.2 from rfl, unhide hn2']; exact (unhide hNp).2)
            have x2' : W8.cell? ⟨bs, k * 2 + 1, none⟩ = some (.slice a10 n2' c10) := by rw [x2, unhide hn2']
            have x3 := (unhide h8).frozen (k * 2 + 1)
            rw [show ((last2 (s.1 ++ s.2.take N), s.2) : Stg).2 = s.2 from rfl, unhide hn2'] at Ya Yb z2
            have hsl : ∃ a, sliced a10 N n2' c10 1 = .slice a (n2' - N) (c10 - N) := ⟨_, rfl⟩
            obtain ⟨a11, hsl⟩ := hsl
            have ha11 : (if c10 = N then a10 else a10.map (·.add N)) = a11 := by unfold sliced at hsl; rw [Nat.mul_one] at hsl; injection hsl
            rw [hsl] at Ya Yb
            have i6 : (N : Int) ≤ (n2' : Int) := by have := (unhide hNp).2; omega
            have hput := (unhide h8).put (w1 := W8) (i := k * 2 + 1) z2 (grown_refl _ _) Ya (.inl Yb) (sts' := pre ++ decS x s :: ss) (by rw [← flatS_set2' (unhide hkk)]; unfold decS; rw [unhide hN]) (fun t ht => by
              rcases List.mem_append.1 ht with ht | ht
              · exact (unhide h8).num t (by simp [ht])
              · rcases List.mem_cons.1 ht with rfl | ht
                · exact decS_i64 (unhide A1) (unhide A2)
                · exact (unhide h8).num t (by simp [ht]))
            obtain ⟨W9, hW9⟩ : ∃ W, W8.setCell ⟨bs, k * 2 + 1, none⟩ (.slice a11 (n2' - N) (c10 - N)) = W := ⟨_, rfl⟩
            rw [hW9] at hput
            obtain ⟨h9, kp9⟩ := hput
            have kfin := (unhide kp5).trans kp9
            have hNq := (unhide hNp).2
            clear h8 kp5 kp9 z1 z2 Z1 Z2 D1 D2 x1 Ya Yb hsl e1 e2
            replace hW9 := hide hW9; replace h9 := hide h9; replace kfin := hide kfin; replace x2 := hide x2
            go_simp
            go_upto_region 9 with fail
            rw [unhide hW8]
            clear hW8 r1 r2
            replace x2' := x2'
            go_wp2_with fail
            go_ret
            rw [unhide hW9, unhide hO]
            exact ⟨rfl, ⟨_, unhide h9⟩, unhide kfin⟩
end Go.Proofs.Ytfbgbbbfpkpfkaa
