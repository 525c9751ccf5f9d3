/- KernBegins. -/
import Derived.Test.YtbbbldaccpfooaaKern8
import Derived.Test.YtbbbldaccpfooaaKernP
import Derived.Test.YtbbbldaccpfooaaFrontG
namespace Go.Proofs.Ytbbbldaccpfooaa
open Go.RowKit
theorem posL_take (P : Nat → Int) (n k : Nat) (h : k ≤ n) : (posL P n).take k = posL P k := by
  unfold posL
  rw [← List.map_take, List.take_range, Nat.min_eq_left h]
theorem posL_congr (P Q : Nat → Int) (n : Nat) (h : ∀ k, k < n → P k = Q k) : posL P n = posL Q n := by
  unfold posL
  refine List.map_congr_left fun k hk => ?_
  rw [h k (List.mem_range.1 hk)]
set_option maxRecDepth 100000 in
set_option maxHeartbeats 4000000 in
theorem kernBegins_nat (cs : Array Value) (y : List (List Int) × (List (Int × Int × Int) × (List Int × List Int))) (A0 S0 : Nat) (w : World) (hy : ECase.rep w (fun b => b < w.heap.size) cs.toList y) (hA0 : A0 ≤ 255) (hS0 : S0 ≤ 255) :
    Calls Try.prog 7 #[.agg cs, .int .u8 (A0 : Int), .int .u8 (S0 : Int)] w fun e w' => e = .returned (.bool true) ∧ Below w.heap.size w w' := by
  obtain ⟨fa, fn, fc, ka, kn, kc, ga, gn, gc, sa, sn, sc, rfl, _⟩ := case_open hy
  obtain ⟨bx, hbx⟩ : ∃ bx, bx = w.heap.size := ⟨_, rfl⟩
  obtain ⟨V, hV⟩ : ∃ V, V = w.alloc (Obj.cells #[.slice fa fn fc, .slice ka kn kc, .slice ga gn gc, .slice sa sn sc] 26) := ⟨_, rfl⟩
  have hr0 : V.heap[bx]? = some (.cells #[.slice fa fn fc, .slice ka kn kc, .slice ga gn gc, .slice sa sn sc] 26 (0, 0)) := by rw [hV, hbx]; exact heap_alloc_new w _
  have hb0 : Below w.heap.size w V := by rw [hV]; exact (Below.refl _ _).alloc (Nat.le_refl _) _
  have hyV := Enc.under hy hb0
  clear hy
  replace hbx := hide hbx; replace hV := hide hV; replace hr0 := hide hr0; replace hb0 := hide hb0; replace hyV := hide hyV
  go_enter Try.func7, Try.ntmps7
  go_wp2_with fail
  rw [← unhide hV, ← unhide hbx]
  go_wp2_with fail
  refine (sanity_any _).mono ?_
  rintro e w1 ⟨rfl, hb1⟩
  have hr1 := row_kept (unhide hr0) hb1
  have hB1 := (unhide hb0).trans (hb1.mono (unhide hb0).size)
  have hmk := cmade_any #[.slice fa fn fc, .slice ka kn kc, .slice ga gn gc, .slice sa sn sc] y w1 (Enc.under (unhide hyV) hb1)
  obtain ⟨y0, y1, y2, y3⟩ := row4 hr1
  clear hyV hr1 hr0 hb0 hb1 hV
  replace hmk := hide hmk; replace hB1 := hide hB1
  go_wp2_with fail
  refine (unhide hmk).mono ?_
  rintro e w2 ⟨⟨f, av, ks, pa, pc, gs, ra, rc, ss, rfl, hf, hg, hg10, hgc, hgb, hs, hs10, hsb⟩, hb2⟩
  obtain ⟨s, n, va, vn, vc, gla, glc, qa, qn, qc, ta, tn, tc, xa, xc, rfl⟩ := hf.shape
  have hB2 := (unhide hB1).trans (hb2.mono (unhide hB1).size)
  obtain ⟨av9, avs, kss⟩ := hf.avs
  obtain ⟨bf, hbf⟩ : ∃ bf, bf = w2.heap.size := ⟨_, rfl⟩
  obtain ⟨W, hW⟩ : ∃ W, W = w2.alloc (Obj.cells #[.string s, .int .i64 n, .slice va vn vc, .slice gla av.length glc, .slice qa qn qc, .slice ta tn tc, .slice xa ks.length xc] 33) := ⟨_, rfl⟩
  have hrF : W.heap[bf]? = some (.cells #[.string s, .int .i64 n, .slice va vn vc, .slice gla av.length glc, .slice qa qn qc, .slice ta tn tc, .slice xa ks.length xc] 33 (0, 0)) := by rw [hW, hbf]; exact heap_alloc_new w2 _
  have hb3 : Below w2.heap.size w2 W := by rw [hW]; exact (Below.refl _ _).alloc (Nat.le_refl _) _
  have hfW := hf.under hb3
  have hgW := hg.under hb3
  have hsW := hs.under hb3
  have hB := hB2.trans (hb3.mono hB2.size)
  clear hmk hB1 hB2 hf hg hs hb2 hb3 y0 y1 y2 y3
  replace hfW := hide hfW; replace hgW := hide hgW; replace hsW := hide hsW; replace hB := hide hB; replace hrF := hide hrF; replace hbf := hide hbf; replace hW := hide hW; replace avs := hide avs; replace kss := hide kss; replace hgb := hide hgb; replace hsb := hide hsb
  obtain ⟨q, hq⟩ : ∃ q, A0 % (gs.length + 1) = q := ⟨_, rfl⟩
  have tq : Int.tmod (A0 : Int) ((gs.length : Int) + 1) = (q : Int) := by rw [← hq]; rfl
  have hql : q ≤ gs.length := by have := Nat.mod_lt A0 (show gs.length + 1 > 0 by omega); omega
  obtain ⟨m, hm⟩ : ∃ m, S0 % 31 = m := ⟨_, rfl⟩
  have tm : Int.tmod (S0 : Int) 31 = (m : Int) := by rw [← hm]; rfl
  have hm30 : m ≤ 30 := by omega
  clear hq hm
  go_wp2_with fail
  rw [← unhide hbf, ← unhide hW]
  have c1 := kplace_font _ av ks pa gs.length pc gs ra ss.length rc ss (m : Int) W (unhide hfW) (unhide hgW) (unhide hsW) (by omega) (by omega) (by unfold I64; omega)
  obtain ⟨X, hX⟩ : ∃ X, roundI (penS av ks gs ss (m : Int) gs.length) 64 = X := ⟨_, rfl⟩
  obtain ⟨PA, hPA⟩ : ∃ PA, posL (penS av ks gs ss (m : Int)) gs.length = PA := ⟨_, rfl⟩
  obtain ⟨Y, hY⟩ : ∃ Y, roundI (penS av ks (gs.take q) ss (m : Int) q) 64 = Y := ⟨_, rfl⟩
  obtain ⟨PB, hPB⟩ : ∃ PB, posL (penS av ks (gs.take q) ss (m : Int)) q = PB := ⟨_, rfl⟩
  have hPBA : PB = PA.take q := by rw [← hPB, ← hPA, posL_take _ _ _ hql]; exact posL_congr _ _ _ (fun k hk => penS_take av ks gs ss m q hql k hk)
  have hYX : q = gs.length → Y = X := fun h => by rw [← hY, ← hX, h, List.take_length]
  have hY0 : q = 0 → Y = 0 := fun h => by rw [← hY, h]; exact (by decide : roundI 0 64 = 0)
  have hPA0 : 0 < gs.length → ∀ x, PA[0]? = some x → x = 0 := fun h x hx => by
    rw [← hPA, posL_get _ _ _ h] at hx
    exact (Option.some.inj hx).symm.trans (by decide : roundI 0 64 = 0)
  have hYa : ∀ r, q = r + 1 → r + 1 < gs.length → ∀ g1 g2, gs[r]? = some g1 → gs[q]? = some g2 → ∀ a1, PA[q]? = some a1 → findBy ks g1 g2 = 0 → a1 = Y := fun r hr hrl g1 g2 h1 h2 a1 ha hK => by
    subst hr
    rw [← hPA, posL_get _ _ _ hrl] at ha
    have e1 : gs.getD r 0 = g1 := by rw [List.getD_eq_getElem?_getD, h1]; rfl
    have e2 : gs.getD (r + 1) 0 = g2 := by rw [List.getD_eq_getElem?_getD, h2]; rfl
    rw [← hY, penS_last av ks gs ss m r hrl (by rw [e1, e2]; exact hK)]
    exact (Option.some.inj ha).symm
  rw [hX, hPA] at c1
  clear hX hPA
  obtain ⟨y0, y1, y2, y3, y4, y5, y6⟩ := row7 (unhide hrF)
  replace c1 := hide c1; replace hY := hide hY; replace hPB := hide hPB; replace hPBA := hide hPBA; replace hYX := hide hYX; replace hY0 := hide hY0; replace hPA0 := hide hPA0; replace hYa := hide hYa
  go_wp2_with fail
  refine (unhide c1).mono ?_
  rintro e w3 ⟨qo, rfl, hA, hb⟩
  have hf3 := (unhide hfW).under hb
  have hg3 := (unhide hgW).under hb
  have hs3 := (unhide hsW).under hb
  have hr3 := row_kept (unhide hrF) hb
  have hB3 := (unhide hB).trans (hb.mono (unhide hB).size)
  clear c1 hfW hgW hsW hrF hB hb y0 y1 y2 y3 y4 y5 y6
  replace hf3 := hide hf3; replace hg3 := hide hg3; replace hs3 := hide hs3; replace hr3 := hide hr3; replace hB3 := hide hB3; replace hA := hide hA
  go_wp2_with fail
  refine wp_region_frontG 13 (fun _ _ w' => Below w3.heap.size w3 w') (fun wa wb => Below wa.heap.size wa wb)
    (fun ix v w' => match ix with
      | 0 => v = .agg #[.string s, .int .i64 n, .slice va vn vc, .slice gla av.length glc, .slice qa qn qc, .slice ta tn tc, .slice xa ks.length xc]
      | 1 => v = .slice pa gs.length pc
      | 2 => v = .int .i64 (q : Int)
      | 3 => v = .slice pa q pc
      | 4 => v = .slice ra ss.length rc
      | 5 => v = .int .u8 (S0 : Int)
      | 6 => v = .int .i64 (S0 : Int)
      | 7 => v = .int .i64 (m : Int)
      | 8 => ∃ qb, v = .tuple #[.slice qb q q, .int .i64 Y] ∧ Lst Enc.int w' (fun b => b < w'.heap.size) qb q PB
      | 9 => ∃ qb, v = .tuple #[.slice qb q q, .int .i64 Y] ∧ Lst Enc.int w' (fun b => b < w'.heap.size) qb q PB
      | 10 => ∃ qb, v = .slice qb q q ∧ Lst Enc.int w' (fun b => b < w'.heap.size) qb q PB
      | 11 => v = .int .i64 Y
      | 12 => ∃ qb, v = .slice qb q q ∧ Lst Enc.int w' (fun b => b < w'.heap.size) qb q PB
      | _ => True) (by rfl) (by kernel_rfl) ?_ ?_ ?_ ?_
  · exact (Below.refl _ _).drew
  · intro wa wb hR ix v hv
    match ix, hv with
    | 0, h => exact h
    | 1, h => exact h
    | 2, h => exact h
    | 3, h => exact h
    | 4, h => exact h
    | 5, h => exact h
    | 6, h => exact h
    | 7, h => exact h
    | 8, h => obtain ⟨qb, h1, h2⟩ := h; exact ⟨qb, h1, h2.under hR⟩
    | 9, h => obtain ⟨qb, h1, h2⟩ := h; exact ⟨qb, h1, h2.under hR⟩
    | 10, h => obtain ⟨qb, h1, h2⟩ := h; exact ⟨qb, h1, h2.under hR⟩
    | 11, h => exact h
    | 12, h => obtain ⟨qb, h1, h2⟩ := h; exact ⟨qb, h1, h2.under hR⟩
    | _ + 13, _ => trivial
  · intro ix hix
    obtain rfl | rfl | rfl | rfl | rfl | rfl | rfl | rfl | rfl | rfl | rfl | rfl | rfl : ix = 0 ∨ ix = 1 ∨ ix = 2 ∨ ix = 3 ∨ ix = 4 ∨ ix = 5 ∨ ix = 6 ∨ ix = 7 ∨ ix = 8 ∨ ix = 9 ∨ ix = 10 ∨ ix = 11 ∨ ix = 12 := by omega
    · refine FrontStep.of [] _ rfl (by kernel_rfl) ?_
      intro vs LL wq hLL hC hf
      simp only [putL, List.foldl_nil]
      obtain ⟨y0, y1, y2, y3, y4, y5, y6⟩ := row7 (row_kept (unhide hr3) hC)
      go_wp2_with fail
      first | exact Below.refl _ _ | exact ⟨Below.refl _ _, by omega⟩
    · refine FrontStep.of [] _ rfl (by kernel_rfl) ?_
      intro vs LL wq hLL hC hf
      simp only [putL, List.foldl_nil]
      go_wp2_with fail
      first | exact Below.refl _ _ | exact ⟨Below.refl _ _, by omega⟩
    · refine FrontStep.of [] _ rfl (by kernel_rfl) ?_
      intro vs LL wq hLL hC hf
      simp only [putL, List.foldl_nil]
      go_wp2_with fail
      first | exact Below.refl _ _ | exact ⟨Below.refl _ _, by omega⟩
    · refine FrontStep.of [1, 2] _ rfl (by kernel_rfl) ?_
      intro vs LL wq hLL hC hf
      simp only [putL, List.foldl_nil, List.foldl_cons, List.getElem?_cons_zero, List.getElem?_cons_succ]
      have e1 : vs 1 = _ := hf 1 (by simp)
      rw [e1]
      have e2 : vs 2 = _ := hf 2 (by simp)
      rw [e2]
      go_wp2_with fail
      first | exact Below.refl _ _ | exact ⟨Below.refl _ _, by omega⟩
    · refine FrontStep.of [] _ rfl (by kernel_rfl) ?_
      intro vs LL wq hLL hC hf
      simp only [putL, List.foldl_nil]
      go_wp2_with fail
      first | exact Below.refl _ _ | exact ⟨Below.refl _ _, by omega⟩
    · refine FrontStep.of [] _ rfl (by kernel_rfl) ?_
      intro vs LL wq hLL hC hf
      simp only [putL, List.foldl_nil]
      go_wp2_with fail
      first | exact Below.refl _ _ | exact ⟨Below.refl _ _, by omega⟩
    · refine FrontStep.of [5] _ rfl (by kernel_rfl) ?_
      intro vs LL wq hLL hC hf
      simp only [putL, List.foldl_nil, List.foldl_cons, List.getElem?_cons_zero, List.getElem?_cons_succ]
      have e5 : vs 5 = _ := hf 5 (by simp)
      rw [e5]
      go_wp2_with fail
      first | exact Below.refl _ _ | exact ⟨Below.refl _ _, by omega⟩
    · refine FrontStep.of [6] _ rfl (by kernel_rfl) ?_
      intro vs LL wq hLL hC hf
      simp only [putL, List.foldl_nil, List.foldl_cons, List.getElem?_cons_zero, List.getElem?_cons_succ]
      have e6 : vs 6 = _ := hf 6 (by simp)
      rw [e6]
      go_wp2_with fail
      first | exact Below.refl _ _ | exact ⟨Below.refl _ _, by omega⟩
    · refine FrontStep.of [0, 3, 4, 7] _ rfl (by kernel_rfl) ?_
      intro vs LL wq hLL hC hf
      simp only [putL, List.foldl_nil, List.foldl_cons, List.getElem?_cons_zero, List.getElem?_cons_succ]
      have e0 : vs 0 = _ := hf 0 (by simp)
      rw [e0]
      have e3 : vs 3 = _ := hf 3 (by simp)
      rw [e3]
      have e4 : vs 4 = _ := hf 4 (by simp)
      rw [e4]
      have e7 : vs 7 = _ := hf 7 (by simp)
      rw [e7]
      have hfq := (unhide hf3).under hC
      have hgq := ((unhide hg3).under hC).take hql
      have hsq := (unhide hs3).under hC
      have c2 := kplace_font _ av ks pa q pc (gs.take q) ra ss.length rc ss (m : Int) wq hfq hgq hsq (by omega) (by omega) (by unfold I64; omega)
      rw [unhide hY, unhide hPB] at c2
      clear hfq hgq hsq
      replace c2 := hide c2
      go_wp2_with fail
      refine (unhide c2).mono ?_
      rintro e wz ⟨qb, rfl, hD, hb⟩
      go_wp2_with fail
      first | exact ⟨hC.trans (hb.mono hC.size), hb, qb, rfl, hD⟩ | exact ⟨hC.trans (hb.mono hC.size), hb, hD⟩ | exact hC.trans (hb.mono hC.size)
    · refine FrontStep.of [8] _ rfl (by kernel_rfl) ?_
      intro vs LL wq hLL hC hf
      simp only [putL, List.foldl_nil, List.foldl_cons, List.getElem?_cons_zero, List.getElem?_cons_succ]
      obtain ⟨qb, e48, hD⟩ := hf 8 (by simp)
      rw [e48]
      go_wp2_with fail
      first | exact ⟨Below.refl _ _, qb, rfl, hD⟩ | exact ⟨qb, rfl, hD⟩ | exact ⟨Below.refl _ _, hD⟩ | exact hD | exact Below.refl _ _
    · refine FrontStep.of [9] _ rfl (by kernel_rfl) ?_
      intro vs LL wq hLL hC hf
      simp only [putL, List.foldl_nil, List.foldl_cons, List.getElem?_cons_zero, List.getElem?_cons_succ]
      obtain ⟨qb, e39, hD⟩ := hf 9 (by simp)
      rw [e39]
      go_wp2_with fail
      first | exact ⟨Below.refl _ _, qb, rfl, hD⟩ | exact ⟨qb, rfl, hD⟩ | exact ⟨Below.refl _ _, hD⟩ | exact hD | exact Below.refl _ _
    · refine FrontStep.of [9] _ rfl (by kernel_rfl) ?_
      intro vs LL wq hLL hC hf
      simp only [putL, List.foldl_nil, List.foldl_cons, List.getElem?_cons_zero, List.getElem?_cons_succ]
      obtain ⟨qb, e39, hD⟩ := hf 9 (by simp)
      rw [e39]
      go_wp2_with fail
      first | exact Below.refl _ _ | exact ⟨Below.refl _ _, by omega⟩
    · refine FrontStep.of [0, 1, 2, 3, 4, 5, 6, 7, 8, 9, 10] _ rfl (by kernel_rfl) ?_
      intro vs LL wq hLL hC hf
      simp only [putL, List.foldl_nil, List.foldl_cons, List.getElem?_cons_zero, List.getElem?_cons_succ]
      have e0 : vs 0 = _ := hf 0 (by simp)
      rw [e0]
      have e1 : vs 1 = _ := hf 1 (by simp)
      rw [e1]
      have e2 : vs 2 = _ := hf 2 (by simp)
      rw [e2]
      have e3 : vs 3 = _ := hf 3 (by simp)
      rw [e3]
      have e4 : vs 4 = _ := hf 4 (by simp)
      rw [e4]
      have e5 : vs 5 = _ := hf 5 (by simp)
      rw [e5]
      have e6 : vs 6 = _ := hf 6 (by simp)
      rw [e6]
      have e7 : vs 7 = _ := hf 7 (by simp)
      rw [e7]
      obtain ⟨qb, e48, hD⟩ := hf 8 (by simp)
      rw [e48]
      obtain ⟨qb, e39, hD⟩ := hf 9 (by simp)
      rw [e39]
      obtain ⟨qb, e49, hD⟩ := hf 10 (by simp)
      rw [e49]
      go_wp2_with fail
      first | exact ⟨Below.refl _ _, qb, rfl, hD⟩ | exact ⟨qb, rfl, hD⟩ | exact ⟨Below.refl _ _, hD⟩ | exact hD | exact Below.refl _ _
  · intro vs LL wq hLL hC hf
    obtain ⟨qb, e12, hD⟩ := hf 12 (by omega)
    have e11 : vs 11 = _ := hf 11 (by omega)
    rw [putSome_all]
    simp only [putL, List.range, List.range.loop, List.foldl_nil, List.foldl_cons, List.getElem?_cons_zero, List.getElem?_cons_succ, List.drop_succ_cons, List.drop_zero]
    rw [e11, e12]
    clear e11 e12 hf hLL
    have hBl := hide hD
    clear hD
    have hb := hC
    clear hC
    have hf3' := (unhide hf3).under hb
    have hg3' := (unhide hg3).under hb
    have hr3' := row_kept (unhide hr3) hb
    have hB3' := (unhide hB3).trans (hb.mono (unhide hB3).size)
    have hA' := (unhide hA).under hb
    clear hf3 hg3 hr3 hB3 hA hb
    obtain hf3 := hide hf3'; clear hf3'
    obtain hg3 := hide hg3'; clear hg3'
    obtain hr3 := hide hr3'; clear hr3'
    obtain hB3 := hide hB3'; clear hB3'
    obtain hA := hide hA'; clear hA'
    obtain ⟨w4, rfl⟩ : ∃ w4 : World, w4 = wq := ⟨_, rfl⟩
    go_wp2_with fail
    have s1 := sameInts_below _ _ _ _ q gs.length _ _ _ (unhide hBl) ((unhide hA).take hql) (by omega) (by omega)
    rw [decide_eq_true (unhide hPBA)] at s1
    replace s1 := hide s1
    go_wp2_with fail
    refine (unhide s1).mono ?_
    rintro e w5 ⟨rfl, hb⟩
    clear s1 hBl
    have hf3' := (unhide hf3).under hb
    have hg3' := (unhide hg3).under hb
    have hr3' := row_kept (unhide hr3) hb
    have hB3' := (unhide hB3).trans (hb.mono (unhide hB3).size)
    have hA' := (unhide hA).under hb
    clear hf3 hg3 hr3 hB3 hA hb
    obtain hf3 := hide hf3'; clear hf3'
    obtain hg3 := hide hg3'; clear hg3'
    obtain hr3 := hide hr3'; clear hr3'
    obtain hB3 := hide hB3'; clear hB3'
    obtain hA := hide hA'; clear hA'
    have hbz := unhide hB3
    by_cases hqL : q = gs.length
    · have e1 := unhide hYX hqL
      subst hqL
      subst e1
      clear hYX hY0 hYa
      go_wp2_with fail
      go_ret
      exact ⟨rfl, hbz⟩
    have tqL : ¬ (q : Int) = (gs.length : Int) := by omega
    by_cases hq0 : q = 0
    · have e1 := unhide hY0 hq0
      obtain ⟨b2, off2, x, rfl, hSb, hx, _, hc⟩ := lst_int (unhide hA) (show 0 < gs.length by omega)
      have hx0 : x = 0 := unhide hPA0 (by omega) x hx
      subst hx0
      rw [Nat.add_zero] at hc
      subst hq0
      subst e1
      clear hYX hY0 hYa
      go_wp2_with fail
      go_ret
      exact ⟨rfl, hbz⟩
    have tq0 : ¬ (q : Int) = 0 := by omega
    obtain ⟨r, hr⟩ : ∃ r, q = r + 1 := ⟨q - 1, by omega⟩
    have tr : IntKind.i64.wrap ((q : Int) - 1) = (r : Int) := by rw [hr]; rw [IntWalk.i64_in _ (by omega)]; omega
    obtain ⟨b1, off1, g1, rfl, hb1, hg1x, hg1i, hc1⟩ := lst_int (unhide hg3) (show r < gs.length by omega)
    obtain ⟨b1', off1', g2, hbe, _, hg2x, hg2i, hc2⟩ := lst_int (unhide hg3) (show q < gs.length by omega)
    cases hbe
    obtain ⟨b2, off2, a1, rfl, hb2, hax, _, hc3⟩ := lst_int (unhide hA) (show q < gs.length by omega)
    have e1 := unhide hYa r hr (by omega) g1 g2 hg1x hg2x a1 hax
    obtain ⟨K, hKe⟩ : ∃ K, findBy ks g1 g2 = K := ⟨_, rfl⟩
    rw [hKe] at e1
    clear hYX hY0 hYa hPA0 hg1x hg2x hax
    have hrl : r < gs.length := by omega
    have hqlt : q < gs.length := by omega
    have trl : (r : Int) < (gs.length : Int) := by omega
    have tqlt : (q : Int) < (gs.length : Int) := by omega
    replace hr := hide hr
    by_cases hK : K = 0
    · have e2 := (e1 hK).symm
      subst e2
      replace tr := hide tr; skip
      go_wp2_with fail
      replace tr := unhide tr
      refine wp_region_frontG 23 (fun _ _ w' => Below w5.heap.size w5 w') (fun wa wb => Below wa.heap.size wa wb)
        (fun ix v w' => match ix with
          | 0 => v = .bool true
          | 1 => v = .bool true
          | 2 => v = .agg #[.string s, .int .i64 n, .slice va vn vc, .slice gla av.length glc, .slice qa qn qc, .slice ta tn tc, .slice xa ks.length xc]
          | 3 => v = .slice (some ⟨b1, off1, none⟩) gs.length pc
          | 4 => v = .int .i64 (q : Int)
          | 5 => v = .int .i64 (r : Int)
          | 6 => v = .pointer (some ⟨b1, off1 + r, none⟩)
          | 7 => v = .int .i64 g1
          | 8 => v = .slice (some ⟨b1, off1, none⟩) gs.length pc
          | 9 => v = .int .i64 (q : Int)
          | 10 => v = .pointer (some ⟨b1, off1 + q, none⟩)
          | 11 => v = .int .i64 g2
          | 12 => v = .int .i64 K
          | 13 => v = .bool false
          | 14 => v = .bool false
          | 15 => v = .int .i64 Y
          | 16 => v = .slice (some ⟨b2, off2, none⟩) gs.length gs.length
          | 17 => v = .int .i64 (q : Int)
          | 18 => v = .pointer (some ⟨b2, off2 + q, none⟩)
          | 19 => v = .int .i64 Y
          | 20 => v = .bool true
          | 21 => v = .bool true
          | 22 => v = .bool true
          | _ => True) (by rfl) (by kernel_rfl) ?_ ?_ ?_ ?_
      · exact (Below.refl _ _).drew
      · intro wa wb hR ix v hv
        match ix, hv with
        | 0, h => exact h
        | 1, h => exact h
        | 2, h => exact h
        | 3, h => exact h
        | 4, h => exact h
        | 5, h => exact h
        | 6, h => exact h
        | 7, h => exact h
        | 8, h => exact h
        | 9, h => exact h
        | 10, h => exact h
        | 11, h => exact h
        | 12, h => exact h
        | 13, h => exact h
        | 14, h => exact h
        | 15, h => exact h
        | 16, h => exact h
        | 17, h => exact h
        | 18, h => exact h
        | 19, h => exact h
        | 20, h => exact h
        | 21, h => exact h
        | 22, h => exact h
        | _ + 23, _ => trivial
      · intro ix hix
        obtain rfl | rfl | rfl | rfl | rfl | rfl | rfl | rfl | rfl | rfl | rfl | rfl | rfl | rfl | rfl | rfl | rfl | rfl | rfl | rfl | rfl | rfl | rfl : ix = 0 ∨ ix = 1 ∨ ix = 2 ∨ ix = 3 ∨ ix = 4 ∨ ix = 5 ∨ ix = 6 ∨ ix = 7 ∨ ix = 8 ∨ ix = 9 ∨ ix = 10 ∨ ix = 11 ∨ ix = 12 ∨ ix = 13 ∨ ix = 14 ∨ ix = 15 ∨ ix = 16 ∨ ix = 17 ∨ ix = 18 ∨ ix = 19 ∨ ix = 20 ∨ ix = 21 ∨ ix = 22 := by omega
        · refine FrontStep.of [] _ rfl (by kernel_rfl) ?_
          intro vs LL wq hLL hC hf
          simp only [putL, List.foldl_nil]
          go_wp2_with fail
          first | exact Below.refl _ _ | exact ⟨Below.refl _ _, by omega⟩
        · refine FrontStep.of [0] _ rfl (by kernel_rfl) ?_
          intro vs LL wq hLL hC hf
          simp only [putL, List.foldl_nil, List.foldl_cons, List.getElem?_cons_zero]
          have e0 : vs 0 = _ := hf 0 (by simp)
          rw [e0]
          go_wp2_with fail
          first | exact Below.refl _ _ | exact ⟨Below.refl _ _, by omega⟩
        · refine FrontStep.of [1] _ rfl (by kernel_rfl) ?_
          intro vs LL wq hLL hC hf
          simp only [putL, List.foldl_nil, List.foldl_cons, List.getElem?_cons_zero, List.getElem?_cons_succ]
          have e1 : vs 1 = _ := hf 1 (by simp)
          rw [e1]
          obtain ⟨y0, y1, y2, y3, y4, y5, y6⟩ := row7 (row_kept (unhide hr3) hC)
          go_wp2_with fail
          first | exact Below.refl _ _ | exact ⟨Below.refl _ _, by omega⟩
        · refine FrontStep.of [1] _ rfl (by kernel_rfl) ?_
          intro vs LL wq hLL hC hf
          simp only [putL, List.foldl_nil, List.foldl_cons, List.getElem?_cons_zero, List.getElem?_cons_succ]
          have e1 : vs 1 = _ := hf 1 (by simp)
          rw [e1]
          go_wp2_with fail
          first | exact Below.refl _ _ | exact ⟨Below.refl _ _, by omega⟩
        · refine FrontStep.of [1] _ rfl (by kernel_rfl) ?_
          intro vs LL wq hLL hC hf
          simp only [putL, List.foldl_nil, List.foldl_cons, List.getElem?_cons_zero, List.getElem?_cons_succ]
          have e1 : vs 1 = _ := hf 1 (by simp)
          rw [e1]
          go_wp2_with fail
          first | exact Below.refl _ _ | exact ⟨Below.refl _ _, by omega⟩
        · refine FrontStep.of [1, 4] _ rfl (by kernel_rfl) ?_
          intro vs LL wq hLL hC hf
          simp only [putL, List.foldl_nil, List.foldl_cons, List.getElem?_cons_zero, List.getElem?_cons_succ]
          have e1 : vs 1 = _ := hf 1 (by simp)
          rw [e1]
          have e4 : vs 4 = _ := hf 4 (by simp)
          rw [e4]
          go_wp2_with fail
          first | exact Below.refl _ _ | exact ⟨Below.refl _ _, by omega⟩
        · refine FrontStep.of [1, 3, 5] _ rfl (by kernel_rfl) ?_
          intro vs LL wq hLL hC hf
          simp only [putL, List.foldl_nil, List.foldl_cons, List.getElem?_cons_zero, List.getElem?_cons_succ]
          have e1 : vs 1 = _ := hf 1 (by simp)
          rw [e1]
          have e3 : vs 3 = _ := hf 3 (by simp)
          rw [e3]
          have e5 : vs 5 = _ := hf 5 (by simp)
          rw [e5]
          go_wp2_with fail
          first | exact Below.refl _ _ | exact ⟨Below.refl _ _, by omega⟩
        · refine FrontStep.of [1, 6] _ rfl (by kernel_rfl) ?_
          intro vs LL wq hLL hC hf
          simp only [putL, List.foldl_nil, List.foldl_cons, List.getElem?_cons_zero, List.getElem?_cons_succ]
          have e1 : vs 1 = _ := hf 1 (by simp)
          rw [e1]
          have e6 : vs 6 = _ := hf 6 (by simp)
          rw [e6]
          have hcq := (hC.cell (p := ⟨b1, off1 + r, none⟩) hb1).trans hc1
          go_wp2_with fail
          first | exact Below.refl _ _ | exact ⟨Below.refl _ _, by omega⟩
        · refine FrontStep.of [1] _ rfl (by kernel_rfl) ?_
          intro vs LL wq hLL hC hf
          simp only [putL, List.foldl_nil, List.foldl_cons, List.getElem?_cons_zero, List.getElem?_cons_succ]
          have e1 : vs 1 = _ := hf 1 (by simp)
          rw [e1]
          go_wp2_with fail
          first | exact Below.refl _ _ | exact ⟨Below.refl _ _, by omega⟩
        · refine FrontStep.of [1] _ rfl (by kernel_rfl) ?_
          intro vs LL wq hLL hC hf
          simp only [putL, List.foldl_nil, List.foldl_cons, List.getElem?_cons_zero, List.getElem?_cons_succ]
          have e1 : vs 1 = _ := hf 1 (by simp)
          rw [e1]
          go_wp2_with fail
          first | exact Below.refl _ _ | exact ⟨Below.refl _ _, by omega⟩
        · refine FrontStep.of [1, 8, 9] _ rfl (by kernel_rfl) ?_
          intro vs LL wq hLL hC hf
          simp only [putL, List.foldl_nil, List.foldl_cons, List.getElem?_cons_zero, List.getElem?_cons_succ]
          have e1 : vs 1 = _ := hf 1 (by simp)
          rw [e1]
          have e8 : vs 8 = _ := hf 8 (by simp)
          rw [e8]
          have e9 : vs 9 = _ := hf 9 (by simp)
          rw [e9]
          go_wp2_with fail
          first | exact Below.refl _ _ | exact ⟨Below.refl _ _, by omega⟩
        · refine FrontStep.of [1, 10] _ rfl (by kernel_rfl) ?_
          intro vs LL wq hLL hC hf
          simp only [putL, List.foldl_nil, List.foldl_cons, List.getElem?_cons_zero, List.getElem?_cons_succ]
          have e1 : vs 1 = _ := hf 1 (by simp)
          rw [e1]
          have e10 : vs 10 = _ := hf 10 (by simp)
          rw [e10]
          have hcq := (hC.cell (p := ⟨b1, off1 + q, none⟩) hb1).trans hc2
          go_wp2_with fail
          first | exact Below.refl _ _ | exact ⟨Below.refl _ _, by omega⟩
        · refine FrontStep.of [1, 2, 7, 11] _ rfl (by kernel_rfl) ?_
          intro vs LL wq hLL hC hf
          simp only [putL, List.foldl_nil, List.foldl_cons, List.getElem?_cons_zero, List.getElem?_cons_succ]
          have e1 : vs 1 = _ := hf 1 (by simp)
          rw [e1]
          have e2 : vs 2 = _ := hf 2 (by simp)
          rw [e2]
          have e7 : vs 7 = _ := hf 7 (by simp)
          rw [e7]
          have e11 : vs 11 = _ := hf 11 (by simp)
          rw [e11]
          go_wp2_with fail
          refine (kby_font _ av ks g1 g2 _ ((unhide hf3).under hC) hg1i hg2i).mono ?_
          rintro e w5 ⟨rfl, hb⟩
          rw [hKe]
          go_wp2_with fail
          first | exact ⟨hC.trans (hb.mono hC.size), hb⟩ | exact ⟨hC.trans (hb.mono hC.size), hb, rfl⟩ | exact hC.trans (hb.mono hC.size)
        · refine FrontStep.of [1, 12] _ rfl (by kernel_rfl) ?_
          intro vs LL wq hLL hC hf
          simp only [putL, List.foldl_nil, List.foldl_cons, List.getElem?_cons_zero, List.getElem?_cons_succ]
          have e1 : vs 1 = _ := hf 1 (by simp)
          rw [e1]
          have e12 : vs 12 = _ := hf 12 (by simp)
          rw [e12]
          go_wp2_with fail
          first | exact Below.refl _ _ | exact ⟨Below.refl _ _, by omega⟩
        · refine FrontStep.of [1, 12, 13] _ rfl (by kernel_rfl) ?_
          intro vs LL wq hLL hC hf
          simp only [putL, List.foldl_nil, List.foldl_cons, List.getElem?_cons_zero, List.getElem?_cons_succ]
          have e1 : vs 1 = _ := hf 1 (by simp)
          rw [e1]
          have e12 : vs 12 = _ := hf 12 (by simp)
          rw [e12]
          have e13 : vs 13 = _ := hf 13 (by simp)
          rw [e13]
          go_wp2_with fail
          first | exact Below.refl _ _ | exact ⟨Below.refl _ _, by omega⟩
        · refine FrontStep.of [14] _ rfl (by kernel_rfl) ?_
          intro vs LL wq hLL hC hf
          simp only [putL, List.foldl_nil, List.foldl_cons, List.getElem?_cons_zero, List.getElem?_cons_succ]
          have e14 : vs 14 = _ := hf 14 (by simp)
          rw [e14]
          go_wp2_with fail
          first | exact Below.refl _ _ | exact ⟨Below.refl _ _, by omega⟩
        · refine FrontStep.of [14] _ rfl (by kernel_rfl) ?_
          intro vs LL wq hLL hC hf
          simp only [putL, List.foldl_nil, List.foldl_cons, List.getElem?_cons_zero, List.getElem?_cons_succ]
          have e14 : vs 14 = _ := hf 14 (by simp)
          rw [e14]
          go_wp2_with fail
          first | exact Below.refl _ _ | exact ⟨Below.refl _ _, by omega⟩
        · refine FrontStep.of [14] _ rfl (by kernel_rfl) ?_
          intro vs LL wq hLL hC hf
          simp only [putL, List.foldl_nil, List.foldl_cons, List.getElem?_cons_zero, List.getElem?_cons_succ]
          have e14 : vs 14 = _ := hf 14 (by simp)
          rw [e14]
          go_wp2_with fail
          first | exact Below.refl _ _ | exact ⟨Below.refl _ _, by omega⟩
        · refine FrontStep.of [14, 16, 17] _ rfl (by kernel_rfl) ?_
          intro vs LL wq hLL hC hf
          simp only [putL, List.foldl_nil, List.foldl_cons, List.getElem?_cons_zero, List.getElem?_cons_succ]
          have e14 : vs 14 = _ := hf 14 (by simp)
          rw [e14]
          have e16 : vs 16 = _ := hf 16 (by simp)
          rw [e16]
          have e17 : vs 17 = _ := hf 17 (by simp)
          rw [e17]
          go_wp2_with fail
          first | exact Below.refl _ _ | exact ⟨Below.refl _ _, by omega⟩
        · refine FrontStep.of [14, 18] _ rfl (by kernel_rfl) ?_
          intro vs LL wq hLL hC hf
          simp only [putL, List.foldl_nil, List.foldl_cons, List.getElem?_cons_zero, List.getElem?_cons_succ]
          have e14 : vs 14 = _ := hf 14 (by simp)
          rw [e14]
          have e18 : vs 18 = _ := hf 18 (by simp)
          rw [e18]
          have hcq := (hC.cell (p := ⟨b2, off2 + q, none⟩) hb2).trans hc3
          go_wp2_with fail
          first | exact Below.refl _ _ | exact ⟨Below.refl _ _, by omega⟩
        · refine FrontStep.of [14, 15, 19] _ rfl (by kernel_rfl) ?_
          intro vs LL wq hLL hC hf
          simp only [putL, List.foldl_nil, List.foldl_cons, List.getElem?_cons_zero, List.getElem?_cons_succ]
          have e14 : vs 14 = _ := hf 14 (by simp)
          rw [e14]
          have e15 : vs 15 = _ := hf 15 (by simp)
          rw [e15]
          have e19 : vs 19 = _ := hf 19 (by simp)
          rw [e19]
          go_wp2_with fail
          first | exact Below.refl _ _ | exact ⟨Below.refl _ _, by omega⟩
        · refine FrontStep.of [1, 14, 20] _ rfl (by kernel_rfl) ?_
          intro vs LL wq hLL hC hf
          simp only [putL, List.foldl_nil, List.foldl_cons, List.getElem?_cons_zero, List.getElem?_cons_succ]
          have e1 : vs 1 = _ := hf 1 (by simp)
          rw [e1]
          have e14 : vs 14 = _ := hf 14 (by simp)
          rw [e14]
          have e20 : vs 20 = _ := hf 20 (by simp)
          rw [e20]
          go_wp2_with fail
          first | exact Below.refl _ _ | exact ⟨Below.refl _ _, by omega⟩
        · refine FrontStep.of [1, 21] _ rfl (by kernel_rfl) ?_
          intro vs LL wq hLL hC hf
          simp only [putL, List.foldl_nil, List.foldl_cons, List.getElem?_cons_zero, List.getElem?_cons_succ]
          have e1 : vs 1 = _ := hf 1 (by simp)
          rw [e1]
          have e21 : vs 21 = _ := hf 21 (by simp)
          rw [e21]
          go_wp2_with fail
          first | exact Below.refl _ _ | exact ⟨Below.refl _ _, by omega⟩
      · intro vs LL wq hLL hC hf
        have e22 : vs 22 = _ := hf 22 (by omega)
        rw [putSome_all]
        simp only [putL, List.range, List.range.loop, List.foldl_nil, List.foldl_cons, List.getElem?_cons_zero, List.getElem?_cons_succ, List.drop_succ_cons, List.drop_zero]
        rw [e22]
        clear e22 hf hLL
        have hbz := (unhide hB3).trans (hC.mono (unhide hB3).size)
        go_wp2_with fail
        go_ret
        exact ⟨rfl, hbz⟩
    · clear e1
      replace tr := hide tr
      go_wp2_with fail
      replace tr := unhide tr
      refine wp_region_frontG 23 (fun _ _ w' => Below w5.heap.size w5 w') (fun wa wb => Below wa.heap.size wa wb)
        (fun ix v w' => match ix with
          | 0 => v = .bool true
          | 1 => v = .bool true
          | 2 => v = .agg #[.string s, .int .i64 n, .slice va vn vc, .slice gla av.length glc, .slice qa qn qc, .slice ta tn tc, .slice xa ks.length xc]
          | 3 => v = .slice (some ⟨b1, off1, none⟩) gs.length pc
          | 4 => v = .int .i64 (q : Int)
          | 5 => v = .int .i64 (r : Int)
          | 6 => v = .pointer (some ⟨b1, off1 + r, none⟩)
          | 7 => v = .int .i64 g1
          | 8 => v = .slice (some ⟨b1, off1, none⟩) gs.length pc
          | 9 => v = .int .i64 (q : Int)
          | 10 => v = .pointer (some ⟨b1, off1 + q, none⟩)
          | 11 => v = .int .i64 g2
          | 12 => v = .int .i64 K
          | 13 => v = .bool true
          | 14 => v = .bool true
          | 15 => True
          | 16 => True
          | 17 => True
          | 18 => True
          | 19 => True
          | 20 => True
          | 21 => v = .bool true
          | 22 => v = .bool true
          | _ => True) (by rfl) (by kernel_rfl) ?_ ?_ ?_ ?_
      · exact (Below.refl _ _).drew
      · intro wa wb hR ix v hv
        match ix, hv with
        | 0, h => exact h
        | 1, h => exact h
        | 2, h => exact h
        | 3, h => exact h
        | 4, h => exact h
        | 5, h => exact h
        | 6, h => exact h
        | 7, h => exact h
        | 8, h => exact h
        | 9, h => exact h
        | 10, h => exact h
        | 11, h => exact h
        | 12, h => exact h
        | 13, h => exact h
        | 14, h => exact h
        | 15, h => exact h
        | 16, h => exact h
        | 17, h => exact h
        | 18, h => exact h
        | 19, h => exact h
        | 20, h => exact h
        | 21, h => exact h
        | 22, h => exact h
        | _ + 23, _ => trivial
      · intro ix hix
        obtain rfl | rfl | rfl | rfl | rfl | rfl | rfl | rfl | rfl | rfl | rfl | rfl | rfl | rfl | rfl | rfl | rfl | rfl | rfl | rfl | rfl | rfl | rfl : ix = 0 ∨ ix = 1 ∨ ix = 2 ∨ ix = 3 ∨ ix = 4 ∨ ix = 5 ∨ ix = 6 ∨ ix = 7 ∨ ix = 8 ∨ ix = 9 ∨ ix = 10 ∨ ix = 11 ∨ ix = 12 ∨ ix = 13 ∨ ix = 14 ∨ ix = 15 ∨ ix = 16 ∨ ix = 17 ∨ ix = 18 ∨ ix = 19 ∨ ix = 20 ∨ ix = 21 ∨ ix = 22 := by omega
        · refine FrontStep.of [] _ rfl (by kernel_rfl) ?_
          intro vs LL wq hLL hC hf
          simp only [putL, List.foldl_nil]
          go_wp2_with fail
          first | exact Below.refl _ _ | exact ⟨Below.refl _ _, by omega⟩
        · refine FrontStep.of [0] _ rfl (by kernel_rfl) ?_
          intro vs LL wq hLL hC hf
          simp only [putL, List.foldl_nil, List.foldl_cons, List.getElem?_cons_zero]
          have e0 : vs 0 = _ := hf 0 (by simp)
          rw [e0]
          go_wp2_with fail
          first | exact Below.refl _ _ | exact ⟨Below.refl _ _, by omega⟩
        · refine FrontStep.of [1] _ rfl (by kernel_rfl) ?_
          intro vs LL wq hLL hC hf
          simp only [putL, List.foldl_nil, List.foldl_cons, List.getElem?_cons_zero, List.getElem?_cons_succ]
          have e1 : vs 1 = _ := hf 1 (by simp)
          rw [e1]
          obtain ⟨y0, y1, y2, y3, y4, y5, y6⟩ := row7 (row_kept (unhide hr3) hC)
          go_wp2_with fail
          first | exact Below.refl _ _ | exact ⟨Below.refl _ _, by omega⟩
        · refine FrontStep.of [1] _ rfl (by kernel_rfl) ?_
          intro vs LL wq hLL hC hf
          simp only [putL, List.foldl_nil, List.foldl_cons, List.getElem?_cons_zero, List.getElem?_cons_succ]
          have e1 : vs 1 = _ := hf 1 (by simp)
          rw [e1]
          go_wp2_with fail
          first | exact Below.refl _ _ | exact ⟨Below.refl _ _, by omega⟩
        · refine FrontStep.of [1] _ rfl (by kernel_rfl) ?_
          intro vs LL wq hLL hC hf
          simp only [putL, List.foldl_nil, List.foldl_cons, List.getElem?_cons_zero, List.getElem?_cons_succ]
          have e1 : vs 1 = _ := hf 1 (by simp)
          rw [e1]
          go_wp2_with fail
          first | exact Below.refl _ _ | exact ⟨Below.refl _ _, by omega⟩
        · refine FrontStep.of [1, 4] _ rfl (by kernel_rfl) ?_
          intro vs LL wq hLL hC hf
          simp only [putL, List.foldl_nil, List.foldl_cons, List.getElem?_cons_zero, List.getElem?_cons_succ]
          have e1 : vs 1 = _ := hf 1 (by simp)
          rw [e1]
          have e4 : vs 4 = _ := hf 4 (by simp)
          rw [e4]
          go_wp2_with fail
          first | exact Below.refl _ _ | exact ⟨Below.refl _ _, by omega⟩
        · refine FrontStep.of [1, 3, 5] _ rfl (by kernel_rfl) ?_
          intro vs LL wq hLL hC hf
          simp only [putL, List.foldl_nil, List.foldl_cons, List.getElem?_cons_zero, List.getElem?_cons_succ]
          have e1 : vs 1 = _ := hf 1 (by simp)
          rw [e1]
          have e3 : vs 3 = _ := hf 3 (by simp)
          rw [e3]
          have e5 : vs 5 = _ := hf 5 (by simp)
          rw [e5]
          go_wp2_with fail
          first | exact Below.refl _ _ | exact ⟨Below.refl _ _, by omega⟩
        · refine FrontStep.of [1, 6] _ rfl (by kernel_rfl) ?_
          intro vs LL wq hLL hC hf
          simp only [putL, List.foldl_nil, List.foldl_cons, List.getElem?_cons_zero, List.getElem?_cons_succ]
          have e1 : vs 1 = _ := hf 1 (by simp)
          rw [e1]
          have e6 : vs 6 = _ := hf 6 (by simp)
          rw [e6]
          have hcq := (hC.cell (p := ⟨b1, off1 + r, none⟩) hb1).trans hc1
          go_wp2_with fail
          first | exact Below.refl _ _ | exact ⟨Below.refl _ _, by omega⟩
        · refine FrontStep.of [1] _ rfl (by kernel_rfl) ?_
          intro vs LL wq hLL hC hf
          simp only [putL, List.foldl_nil, List.foldl_cons, List.getElem?_cons_zero, List.getElem?_cons_succ]
          have e1 : vs 1 = _ := hf 1 (by simp)
          rw [e1]
          go_wp2_with fail
          first | exact Below.refl _ _ | exact ⟨Below.refl _ _, by omega⟩
        · refine FrontStep.of [1] _ rfl (by kernel_rfl) ?_
          intro vs LL wq hLL hC hf
          simp only [putL, List.foldl_nil, List.foldl_cons, List.getElem?_cons_zero, List.getElem?_cons_succ]
          have e1 : vs 1 = _ := hf 1 (by simp)
          rw [e1]
          go_wp2_with fail
          first | exact Below.refl _ _ | exact ⟨Below.refl _ _, by omega⟩
        · refine FrontStep.of [1, 8, 9] _ rfl (by kernel_rfl) ?_
          intro vs LL wq hLL hC hf
          simp only [putL, List.foldl_nil, List.foldl_cons, List.getElem?_cons_zero, List.getElem?_cons_succ]
          have e1 : vs 1 = _ := hf 1 (by simp)
          rw [e1]
          have e8 : vs 8 = _ := hf 8 (by simp)
          rw [e8]
          have e9 : vs 9 = _ := hf 9 (by simp)
          rw [e9]
          go_wp2_with fail
          first | exact Below.refl _ _ | exact ⟨Below.refl _ _, by omega⟩
        · refine FrontStep.of [1, 10] _ rfl (by kernel_rfl) ?_
          intro vs LL wq hLL hC hf
          simp only [putL, List.foldl_nil, List.foldl_cons, List.getElem?_cons_zero, List.getElem?_cons_succ]
          have e1 : vs 1 = _ := hf 1 (by simp)
          rw [e1]
          have e10 : vs 10 = _ := hf 10 (by simp)
          rw [e10]
          have hcq := (hC.cell (p := ⟨b1, off1 + q, none⟩) hb1).trans hc2
          go_wp2_with fail
          first | exact Below.refl _ _ | exact ⟨Below.refl _ _, by omega⟩
        · refine FrontStep.of [1, 2, 7, 11] _ rfl (by kernel_rfl) ?_
          intro vs LL wq hLL hC hf
          simp only [putL, List.foldl_nil, List.foldl_cons, List.getElem?_cons_zero, List.getElem?_cons_succ]
          have e1 : vs 1 = _ := hf 1 (by simp)
          rw [e1]
          have e2 : vs 2 = _ := hf 2 (by simp)
          rw [e2]
          have e7 : vs 7 = _ := hf 7 (by simp)
          rw [e7]
          have e11 : vs 11 = _ := hf 11 (by simp)
          rw [e11]
          go_wp2_with fail
          refine (kby_font _ av ks g1 g2 _ ((unhide hf3).under hC) hg1i hg2i).mono ?_
          rintro e w5 ⟨rfl, hb⟩
          rw [hKe]
          go_wp2_with fail
          first | exact ⟨hC.trans (hb.mono hC.size), hb⟩ | exact ⟨hC.trans (hb.mono hC.size), hb, rfl⟩ | exact hC.trans (hb.mono hC.size)
        · refine FrontStep.of [1, 12] _ rfl (by kernel_rfl) ?_
          intro vs LL wq hLL hC hf
          simp only [putL, List.foldl_nil, List.foldl_cons, List.getElem?_cons_zero, List.getElem?_cons_succ]
          have e1 : vs 1 = _ := hf 1 (by simp)
          rw [e1]
          have e12 : vs 12 = _ := hf 12 (by simp)
          rw [e12]
          go_wp2_with fail
          first | exact Below.refl _ _ | exact ⟨Below.refl _ _, by omega⟩
        · refine FrontStep.of [1, 12, 13] _ rfl (by kernel_rfl) ?_
          intro vs LL wq hLL hC hf
          simp only [putL, List.foldl_nil, List.foldl_cons, List.getElem?_cons_zero, List.getElem?_cons_succ]
          have e1 : vs 1 = _ := hf 1 (by simp)
          rw [e1]
          have e12 : vs 12 = _ := hf 12 (by simp)
          rw [e12]
          have e13 : vs 13 = _ := hf 13 (by simp)
          rw [e13]
          go_wp2_with fail
          first | exact Below.refl _ _ | exact ⟨Below.refl _ _, by omega⟩
        · refine FrontStep.of [14] _ rfl (by kernel_rfl) ?_
          intro vs LL wq hLL hC hf
          simp only [putL, List.foldl_nil, List.foldl_cons, List.getElem?_cons_zero, List.getElem?_cons_succ]
          have e14 : vs 14 = _ := hf 14 (by simp)
          rw [e14]
          go_wp2_with fail
          first | exact Below.refl _ _ | exact ⟨Below.refl _ _, by omega⟩
        · refine FrontStep.of [14] _ rfl (by kernel_rfl) ?_
          intro vs LL wq hLL hC hf
          simp only [putL, List.foldl_nil, List.foldl_cons, List.getElem?_cons_zero, List.getElem?_cons_succ]
          have e14 : vs 14 = _ := hf 14 (by simp)
          rw [e14]
          go_wp2_with fail
          first | exact Below.refl _ _ | exact ⟨Below.refl _ _, by omega⟩
        · refine FrontStep.of [14] _ rfl (by kernel_rfl) ?_
          intro vs LL wq hLL hC hf
          simp only [putL, List.foldl_nil, List.foldl_cons, List.getElem?_cons_zero, List.getElem?_cons_succ]
          have e14 : vs 14 = _ := hf 14 (by simp)
          rw [e14]
          go_wp2_with fail
          first | exact Below.refl _ _ | exact ⟨Below.refl _ _, by omega⟩
        · refine FrontStep.of [14, 16, 17] _ rfl (by kernel_rfl) ?_
          intro vs LL wq hLL hC hf
          simp only [putL, List.foldl_nil, List.foldl_cons, List.getElem?_cons_zero, List.getElem?_cons_succ]
          have e14 : vs 14 = _ := hf 14 (by simp)
          rw [e14]
          have e16 := hf 16 (by simp)
          have e17 := hf 17 (by simp)
          go_wp2_with fail
          first | exact Below.refl _ _ | exact ⟨Below.refl _ _, by omega⟩
        · refine FrontStep.of [14, 18] _ rfl (by kernel_rfl) ?_
          intro vs LL wq hLL hC hf
          simp only [putL, List.foldl_nil, List.foldl_cons, List.getElem?_cons_zero, List.getElem?_cons_succ]
          have e14 : vs 14 = _ := hf 14 (by simp)
          rw [e14]
          have e18 := hf 18 (by simp)
          go_wp2_with fail
          first | exact Below.refl _ _ | exact ⟨Below.refl _ _, by omega⟩
        · refine FrontStep.of [14, 15, 19] _ rfl (by kernel_rfl) ?_
          intro vs LL wq hLL hC hf
          simp only [putL, List.foldl_nil, List.foldl_cons, List.getElem?_cons_zero, List.getElem?_cons_succ]
          have e14 : vs 14 = _ := hf 14 (by simp)
          rw [e14]
          have e15 := hf 15 (by simp)
          have e19 := hf 19 (by simp)
          go_wp2_with fail
          first | exact Below.refl _ _ | exact ⟨Below.refl _ _, by omega⟩
        · refine FrontStep.of [1, 14, 20] _ rfl (by kernel_rfl) ?_
          intro vs LL wq hLL hC hf
          simp only [putL, List.foldl_nil, List.foldl_cons, List.getElem?_cons_zero, List.getElem?_cons_succ]
          have e1 : vs 1 = _ := hf 1 (by simp)
          rw [e1]
          have e14 : vs 14 = _ := hf 14 (by simp)
          rw [e14]
          have e20 := hf 20 (by simp)
          go_wp2_with fail
          first | exact Below.refl _ _ | exact ⟨Below.refl _ _, by omega⟩
        · refine FrontStep.of [1, 21] _ rfl (by kernel_rfl) ?_
          intro vs LL wq hLL hC hf
          simp only [putL, List.foldl_nil, List.foldl_cons, List.getElem?_cons_zero, List.getElem?_cons_succ]
          have e1 : vs 1 = _ := hf 1 (by simp)
          rw [e1]
          have e21 : vs 21 = _ := hf 21 (by simp)
          rw [e21]
          go_wp2_with fail
          first | exact Below.refl _ _ | exact ⟨Below.refl _ _, by omega⟩
      · intro vs LL wq hLL hC hf
        have e22 : vs 22 = _ := hf 22 (by omega)
        rw [putSome_all]
        simp only [putL, List.range, List.range.loop, List.foldl_nil, List.foldl_cons, List.getElem?_cons_zero, List.getElem?_cons_succ, List.drop_succ_cons, List.drop_zero]
        rw [e22]
        clear e22 hf hLL
        have hbz := (unhide hB3).trans (hC.mono (unhide hB3).size)
        go_wp2_with fail
        go_ret
        exact ⟨rfl, hbz⟩
theorem kernBegins_any (cs : Array Value) (y : List (List Int) × (List (Int × Int × Int) × (List Int × List Int))) (a s : Int) (w : World) (hy : ECase.rep w (fun b => b < w.heap.size) cs.toList y) (ha : 0 ≤ a ∧ a ≤ 255) (hs : 0 ≤ s ∧ s ≤ 255) :
    Calls Try.prog 7 #[.agg cs, .int .u8 a, .int .u8 s] w fun e w' => e = .returned (.bool true) ∧ Below w.heap.size w w' := by
  obtain ⟨A0, rfl⟩ := Int.eq_ofNat_of_zero_le ha.1
  obtain ⟨S0, rfl⟩ := Int.eq_ofNat_of_zero_le hs.1
  exact kernBegins_nat cs y A0 S0 w hy (by omega) (by omega)
end Go.Proofs.Ytbbbldaccpfooaa
