/- KernPlaces. -/
import Derived.Test.YtbbbldaccpfooaaKern8
import Derived.Test.YtbbbldaccpfooaaFrontG
namespace Go.Proofs.Ytbbbldaccpfooaa
open Go.RowKit
set_option maxRecDepth 100000 in
set_option maxHeartbeats 4000000 in
theorem kernPlaces_any (cs : Array Value) (y : List (List Int) × (List (Int × Int × Int) × (List Int × List Int))) (size : Int) (a2 : Option Addr) (n2 c2 : Nat) (l2 : List Int) (a3 : Option Addr) (n3 c3 : Nat) (l3 : List Int) (w : World) (hy : ECase.rep w (fun b => b < w.heap.size) cs.toList y) (hsz : I64 size) (hl2 : Lst Enc.int w (fun b => b < w.heap.size) a2 n2 l2) (hn2 : n2 ≤ c2) (hc2 : c2 ≤ maxLen) (hl3 : Lst Enc.int w (fun b => b < w.heap.size) a3 n3 l3) (hn3 : n3 ≤ c3) (hc3 : c3 ≤ maxLen) :
    Calls Try.prog 4 #[.agg cs, .int .i64 size, .slice a2 n2 c2, .slice a3 n3 c3] w fun e w' => e = .returned (.bool true) ∧ Below w.heap.size w w' := by
  obtain ⟨fa, fn, fc, ka, kn, kc, ga, gn, gc, sa, sn, sc, rfl, _⟩ := case_open hy
  obtain ⟨bx, hbx⟩ : ∃ bx, bx = w.heap.size := ⟨_, rfl⟩
  obtain ⟨V, hV⟩ : ∃ V, V = w.alloc (Obj.cells #[.slice fa fn fc, .slice ka kn kc, .slice ga gn gc, .slice sa sn sc] 26) := ⟨_, rfl⟩
  have hr0 : V.heap[bx]? = some (.cells #[.slice fa fn fc, .slice ka kn kc, .slice ga gn gc, .slice sa sn sc] 26 (0, 0)) := by rw [hV, hbx]; exact heap_alloc_new w _
  have hb0 : Below w.heap.size w V := by rw [hV]; exact (Below.refl _ _).alloc (Nat.le_refl _) _
  have hyV := Enc.under hy hb0
  clear hy
  replace hbx := hide hbx; replace hV := hide hV; replace hr0 := hide hr0; replace hb0 := hide hb0; replace hyV := hide hyV
  have hL2 := hl2.under (unhide hb0)
  have hL3 := hl3.under (unhide hb0)
  clear hl2 hl3
  replace hL2 := hide hL2; replace hL3 := hide hL3
  unfold maxLen at hc2 hc3
  go_enter Try.func4, Try.ntmps4
  go_wp2_with fail
  rw [← unhide hV, ← unhide hbx]
  go_wp2_with fail
  refine (sanity_any _).mono ?_
  rintro e w1 ⟨rfl, hb1⟩
  have hr1 := row_kept (unhide hr0) hb1
  have hB1 := (unhide hb0).trans (hb1.mono (unhide hb0).size)
  have hmk := cmade_any #[.slice fa fn fc, .slice ka kn kc, .slice ga gn gc, .slice sa sn sc] y w1 (Enc.under (unhide hyV) hb1)
  obtain ⟨y0, y1, y2, y3⟩ := row4 hr1
  have hL21 := (unhide hL2).under hb1
  have hL31 := (unhide hL3).under hb1
  clear hyV hr1 hr0 hb0 hb1 hV hL2 hL3
  replace hL21 := hide hL21; replace hL31 := hide hL31
  replace hmk := hide hmk; replace hB1 := hide hB1
  go_wp2_with fail
  refine (unhide hmk).mono ?_
  rintro e w2 ⟨⟨f, av, ks, pa, pc, gs, ra, rc, ss, rfl, hf, hg, hg10, hgc, hgb, hs, hs10, hsb⟩, hb2⟩
  obtain ⟨s, n, va, vn, vc, gla, glc, qa, qn, qc, ta, tn, tc, xa, xc, rfl⟩ := hf.shape
  have hB2 := (unhide hB1).trans (hb2.mono (unhide hB1).size)
  obtain ⟨av9, avs, kss⟩ := hf.avs
  obtain ⟨bf, hbf⟩ : ∃ bf, bf = w2.heap.size := ⟨_, rfl⟩
  obtain ⟨W, hW⟩ : ∃ W, W = w2.alloc (Obj.cells #[.string s, .int .i64 n, .slice va vn vc, .slice gla av.length glc, .slice qa qn qc, .slice ta tn tc, .slice xa ks.length xc] 33) := ⟨_, rfl⟩
  have hrF : W.heap[bf]? = some (.cells #[.string s, .int .i64 n, .slice va vn vc, .slice gla av.length glc, .slice qa qn qc, .slice ta tn tc, .slice xa ks.length xc] 33 (0, 0)) := by rw [hW, hbf]; exact heap_alloc_new w2 _
  have hb3 : Below w2.heap.size w2 W := by rw [hW]; exact (Below.refl _ _).alloc (Nat.le_refl _) _
  have hfW := hf.under hb3
  have hgW := hg.under hb3
  have hsW := hs.under hb3
  have hB := hB2.trans (hb3.mono hB2.size)
  have hLW2 := ((unhide hL21).under hb2).under hb3
  have hLW3 := ((unhide hL31).under hb2).under hb3
  clear hL21 hL31
  replace hLW2 := hide hLW2; replace hLW3 := hide hLW3
  clear hmk hB1 hB2 hf hg hs hb2 hb3 y0 y1 y2 y3
  replace hfW := hide hfW; replace hgW := hide hgW; replace hsW := hide hsW; replace hB := hide hB; replace hrF := hide hrF; replace hbf := hide hbf; replace hW := hide hW; replace avs := hide avs; replace kss := hide kss; replace hgb := hide hgb; replace hsb := hide hsb
  go_wp2_with fail
  rw [← unhide hbf, ← unhide hW]
  have hmod := mod_any size 30 W (by omega) (by omega)
  have hz0 : 0 ≤ size % 30 := Int.emod_nonneg _ (by omega)
  have hz1 : size % 30 < 30 := Int.emod_lt_of_pos _ (by omega)
  obtain ⟨z, hz⟩ : ∃ z, size % 30 = z := ⟨_, rfl⟩
  rw [hz] at hmod hz0 hz1
  clear hz
  replace hmod := hide hmod
  go_wp2_with fail
  refine (unhide hmod).mono ?_
  rintro e w3 ⟨rfl, hw3⟩
  rw [hw3]
  clear hw3
  clear hmod
  go_wp2_with fail
  go_loopw [34] (fun v wr => ∃ i : Nat, i ≤ 3 ∧ v = .int .i64 (i : Int) ∧ Below W.heap.size W wr) (fun v _ => (3 - intOf v).toNat)
  case atStart => exact ⟨0, by omega, rfl, Below.refl _ _⟩
  case round =>
    obtain ⟨i, hi3, rfl, hbw⟩ := hrel
    obtain ⟨wo, rfl⟩ : ∃ wo : World, wo = wr := ⟨_, rfl⟩
    by_cases hi : i < 3
    · have ti : (i : Int) < 3 := by omega
      go_upto_region 5 with fail
      go_cut [14] (fun v wx => (∃ m : Int, v = .int .i64 m ∧ I64 m) ∧ wx = wo)
      case first =>
        clear ti
        have j0 : ∀ w, (Instr.index 39 (.agg #[.int .i64 size, .int .i64 8, .int .i64 z]) (.int .i64 0)).run Try.prog w = .ok (.int .i64 size) w := fun _ => by kernel_rfl
        have j1 : ∀ w, (Instr.index 39 (.agg #[.int .i64 size, .int .i64 8, .int .i64 z]) (.int .i64 1)).run Try.prog w = .ok (.int .i64 8) w := fun _ => by kernel_rfl
        have j2 : ∀ w, (Instr.index 39 (.agg #[.int .i64 size, .int .i64 8, .int .i64 z]) (.int .i64 2)).run Try.prog w = .ok (.int .i64 z) w := fun _ => by kernel_rfl
        obtain rfl | rfl | rfl : i = 0 ∨ i = 1 ∨ i = 2 := by omega
        all_goals
          go_wp2_with fail
          go_meet
          first | exact ⟨⟨_, rfl, hsz⟩, rfl⟩ | exact ⟨⟨_, rfl, by unfold I64; omega⟩, rfl⟩
      case rest =>
        obtain ⟨⟨m, rfl, hm⟩, e8⟩ := hcut
        subst e8
        obtain ⟨wo, rfl⟩ : ∃ wo : World, wo = wc := ⟨_, rfl⟩
        have hfx := (unhide hfW).under hbw
        have hrx := row_kept (unhide hrF) hbw
        have hgx := (unhide hgW).under hbw
        have hsx := (unhide hsW).under hbw
        have hl2x := (unhide hLW2).under hbw
        have hl3x := (unhide hLW3).under hbw
        have c1 := kplace_font _ av ks pa gs.length pc gs ra ss.length rc ss m wo hfx hgx hsx (by omega) (by omega) hm
        have c2 := fun w hf hg hs => rplace_font (.agg #[.string s, .int .i64 n, .slice va vn vc, .slice gla av.length glc, .slice qa qn qc, .slice ta tn tc, .slice xa ks.length xc]) av ks pa gs.length pc gs ra ss.length rc ss m w hf hg hs (by omega) (by omega) hm
        obtain ⟨X, hX⟩ : ∃ X, roundI (penS av ks gs ss m gs.length) 64 = X := ⟨_, rfl⟩
        obtain ⟨PL, hPL⟩ : ∃ PL, posL (penS av ks gs ss m) gs.length = PL := ⟨_, rfl⟩
        rw [hX, hPL] at c1
        simp only [hX, hPL] at c2
        obtain ⟨y0, y1, y2, y3, y4, y5, y6⟩ := row7 hrx
        clear hX hPL
        replace c1 := hide c1; replace c2 := hide c2; replace hfx := hide hfx; replace hrx := hide hrx; replace hgx := hide hgx; replace hsx := hide hsx; replace hl2x := hide hl2x; replace hl3x := hide hl3x; replace hbw := hide hbw
        go_wp2_with fail
        refine (unhide c1).mono ?_
        rintro e w3 ⟨qo, rfl, hA, hb⟩
        replace hA := hide hA
        clear c1 y0 y1 y2 y3 y4 y5 y6
        have hfx' := (unhide hfx).under hb
        have hrx' := row_kept (unhide hrx) hb
        have hgx' := (unhide hgx).under hb
        have hsx' := (unhide hsx).under hb
        have hl2x' := (unhide hl2x).under hb
        have hl3x' := (unhide hl3x).under hb
        have hbw' := (unhide hbw).trans (hb.mono (unhide hbw).size)
        clear hfx hrx hgx hsx hl2x hl3x hbw hb
        obtain hfx := hide hfx'; clear hfx'
        obtain hrx := hide hrx'; clear hrx'
        obtain hgx := hide hgx'; clear hgx'
        obtain hsx := hide hsx'; clear hsx'
        obtain hl2x := hide hl2x'; clear hl2x'
        obtain hl3x := hide hl3x'; clear hl3x'
        obtain hbw := hide hbw'; clear hbw'
        have c3 := unhide c2 _ (unhide hfx) (unhide hgx) (unhide hsx)
        obtain ⟨y0, y1, y2, y3, y4, y5, y6⟩ := row7 (unhide hrx)
        clear c2
        replace c3 := hide c3
        go_wp2_with fail
        refine (unhide c3).mono ?_
        rintro e w4 ⟨qb, qbc, rfl, hBl, hb⟩
        replace hBl := hide hBl
        clear c3 y0 y1 y2 y3 y4 y5 y6
        have hfx' := (unhide hfx).under hb
        have hrx' := row_kept (unhide hrx) hb
        have hgx' := (unhide hgx).under hb
        have hsx' := (unhide hsx).under hb
        have hl2x' := (unhide hl2x).under hb
        have hl3x' := (unhide hl3x).under hb
        have hbw' := (unhide hbw).trans (hb.mono (unhide hbw).size)
        have hA' := (unhide hA).under hb
        clear hfx hrx hgx hsx hl2x hl3x hbw hA hb
        obtain hfx := hide hfx'; clear hfx'
        obtain hrx := hide hrx'; clear hrx'
        obtain hgx := hide hgx'; clear hgx'
        obtain hsx := hide hsx'; clear hsx'
        obtain hl2x := hide hl2x'; clear hl2x'
        obtain hl3x := hide hl3x'; clear hl3x'
        obtain hbw := hide hbw'; clear hbw'
        obtain hA := hide hA'; clear hA'
        obtain ⟨m2, hm2e⟩ : ∃ m2, min n2 10 = m2 := ⟨_, rfl⟩
        obtain ⟨m3, hm3e⟩ : ∃ m3, min n3 10 = m3 := ⟨_, rfl⟩
        have hm2 : m2 ≤ n2 := by omega
        have hm3 : m3 ≤ n3 := by omega
        have hm2' : m2 ≤ 10 := by omega
        have hm3' : m3 ≤ 10 := by omega
        have tg2 : m2 ≤ c2 := by omega
        have tg3 : m3 ≤ c3 := by omega
        replace hm2e := hide hm2e; replace hm3e := hide hm3e
        obtain ⟨X2, hX2⟩ : ∃ X2, roundI (penS av ks (l2.take m2) (l3.take m3) m m2) 64 = X2 := ⟨_, rfl⟩
        obtain ⟨PL2, hPL2⟩ : ∃ PL2, posL (penS av ks (l2.take m2) (l3.take m3) m) m2 = PL2 := ⟨_, rfl⟩
        replace hX2 := hide hX2; replace hPL2 := hide hPL2
        go_wp2_with fail
        refine wp_region_frontG 17 (fun _ _ w' => Below w4.heap.size w4 w') (fun wa wb => Below wa.heap.size wa wb)
          (fun ix v w' => match ix with
            | 0 => v = .agg #[.string s, .int .i64 n, .slice va vn vc, .slice gla av.length glc, .slice qa qn qc, .slice ta tn tc, .slice xa ks.length xc]
            | 1 => v = .slice a2 n2 c2
            | 2 => v = .slice a2 n2 c2
            | 3 => v = .int .i64 (n2 : Int)
            | 4 => v = .int .i64 (m2 : Int)
            | 5 => v = .slice a2 m2 c2
            | 6 => v = .slice a3 n3 c3
            | 7 => v = .slice a3 n3 c3
            | 8 => v = .int .i64 (n3 : Int)
            | 9 => v = .int .i64 (m3 : Int)
            | 10 => v = .slice a3 m3 c3
            | 11 => v = .int .i64 m
            | 12 => ∃ qd, v = .tuple #[.slice qd m2 m2, .int .i64 X2] ∧ Lst Enc.int w' (fun b => b < w'.heap.size) qd m2 PL2
            | 13 => ∃ qd, v = .tuple #[.slice qd m2 m2, .int .i64 X2] ∧ Lst Enc.int w' (fun b => b < w'.heap.size) qd m2 PL2
            | 14 => ∃ qd, v = .slice qd m2 m2 ∧ Lst Enc.int w' (fun b => b < w'.heap.size) qd m2 PL2
            | 15 => v = .int .i64 X2
            | 16 => ∃ qd, v = .slice qd m2 m2 ∧ Lst Enc.int w' (fun b => b < w'.heap.size) qd m2 PL2
            | _ => True) (by rfl) (by kernel_rfl) ?_ ?_ ?_ ?_
        · exact (Below.refl _ _).drew
        · intro wa wb hR ix v hv
          match ix, hv with
          | 0, h => exact h
          | 1, h => exact h
          | 2, h => exact h
          | 3, h => exact h
          | 4, h => exact h
          | 5, h => exact h
          | 6, h => exact h
          | 7, h => exact h
          | 8, h => exact h
          | 9, h => exact h
          | 10, h => exact h
          | 11, h => exact h
          | 12, h => obtain ⟨qd, h1, h2⟩ := h; exact ⟨qd, h1, h2.under hR⟩
          | 13, h => obtain ⟨qd, h1, h2⟩ := h; exact ⟨qd, h1, h2.under hR⟩
          | 14, h => obtain ⟨qd, h1, h2⟩ := h; exact ⟨qd, h1, h2.under hR⟩
          | 15, h => exact h
          | 16, h => obtain ⟨qd, h1, h2⟩ := h; exact ⟨qd, h1, h2.under hR⟩
          | _ + 17, _ => trivial
        · intro ix hix
          obtain rfl | rfl | rfl | rfl | rfl | rfl | rfl | rfl | rfl | rfl | rfl | rfl | rfl | rfl | rfl | rfl | rfl : ix = 0 ∨ ix = 1 ∨ ix = 2 ∨ ix = 3 ∨ ix = 4 ∨ ix = 5 ∨ ix = 6 ∨ ix = 7 ∨ ix = 8 ∨ ix = 9 ∨ ix = 10 ∨ ix = 11 ∨ ix = 12 ∨ ix = 13 ∨ ix = 14 ∨ ix = 15 ∨ ix = 16 := by omega
          · refine FrontStep.of [] _ rfl (by kernel_rfl) ?_
            intro vs LL wq hLL hC hf
            simp only [putL, List.foldl_nil]
            obtain ⟨y0, y1, y2, y3, y4, y5, y6⟩ := row7 (row_kept (unhide hrx) hC)
            go_wp2_with fail
            first | exact Below.refl _ _ | exact ⟨Below.refl _ _, by omega⟩
          · refine FrontStep.of [] _ rfl (by kernel_rfl) ?_
            intro vs LL wq hLL hC hf
            simp only [putL, List.foldl_nil]
            go_wp2_with fail
            first | exact Below.refl _ _ | exact ⟨Below.refl _ _, by omega⟩
          · refine FrontStep.of [] _ rfl (by kernel_rfl) ?_
            intro vs LL wq hLL hC hf
            simp only [putL, List.foldl_nil]
            go_wp2_with fail
            first | exact Below.refl _ _ | exact ⟨Below.refl _ _, by omega⟩
          · refine FrontStep.of [2] _ rfl (by kernel_rfl) ?_
            intro vs LL wq hLL hC hf
            simp only [putL, List.foldl_nil, List.foldl_cons, List.getElem?_cons_zero, List.getElem?_cons_succ]
            have e2 : vs 2 = _ := hf 2 (by simp)
            rw [e2]
            go_wp2_with fail
            first | exact Below.refl _ _ | exact ⟨Below.refl _ _, by omega⟩
          · refine FrontStep.of [3] _ rfl (by kernel_rfl) ?_
            intro vs LL wq hLL hC hf
            simp only [putL, List.foldl_nil, List.foldl_cons, List.getElem?_cons_zero, List.getElem?_cons_succ]
            have e3 : vs 3 = _ := hf 3 (by simp)
            rw [e3]
            rcases Nat.le_total n2 10 with hle | hle
            · have hme : n2 = m2 := by rw [← unhide hm2e]; omega
              have tle : (n2 : Int) ≤ 10 := by omega
              go_wp2_with fail
              first | exact ⟨Below.refl _ _, by rw [hme]⟩ | exact ⟨Below.refl _ _, by omega⟩
            · have hme : 10 = m2 := by rw [← unhide hm2e]; omega
              subst hme
              have tle : (10 : Int) ≤ (n2 : Int) := by omega
              go_wp2_with fail
              first | exact Below.refl _ _ | exact ⟨Below.refl _ _, by omega⟩
          · refine FrontStep.of [1, 4] _ rfl (by kernel_rfl) ?_
            intro vs LL wq hLL hC hf
            simp only [putL, List.foldl_nil, List.foldl_cons, List.getElem?_cons_zero, List.getElem?_cons_succ]
            have e1 : vs 1 = _ := hf 1 (by simp)
            rw [e1]
            have e4 : vs 4 = _ := hf 4 (by simp)
            rw [e4]
            go_wp2_with fail
            first | exact Below.refl _ _ | exact ⟨Below.refl _ _, by omega⟩
          · refine FrontStep.of [] _ rfl (by kernel_rfl) ?_
            intro vs LL wq hLL hC hf
            simp only [putL, List.foldl_nil]
            go_wp2_with fail
            first | exact Below.refl _ _ | exact ⟨Below.refl _ _, by omega⟩
          · refine FrontStep.of [] _ rfl (by kernel_rfl) ?_
            intro vs LL wq hLL hC hf
            simp only [putL, List.foldl_nil]
            go_wp2_with fail
            first | exact Below.refl _ _ | exact ⟨Below.refl _ _, by omega⟩
          · refine FrontStep.of [7] _ rfl (by kernel_rfl) ?_
            intro vs LL wq hLL hC hf
            simp only [putL, List.foldl_nil, List.foldl_cons, List.getElem?_cons_zero, List.getElem?_cons_succ]
            have e7 : vs 7 = _ := hf 7 (by simp)
            rw [e7]
            go_wp2_with fail
            first | exact Below.refl _ _ | exact ⟨Below.refl _ _, by omega⟩
          · refine FrontStep.of [8] _ rfl (by kernel_rfl) ?_
            intro vs LL wq hLL hC hf
            simp only [putL, List.foldl_nil, List.foldl_cons, List.getElem?_cons_zero, List.getElem?_cons_succ]
            have e8 : vs 8 = _ := hf 8 (by simp)
            rw [e8]
            rcases Nat.le_total n3 10 with hle | hle
            · have hme : n3 = m3 := by rw [← unhide hm3e]; omega
              have tle : (n3 : Int) ≤ 10 := by omega
              go_wp2_with fail
              first | exact ⟨Below.refl _ _, by rw [hme]⟩ | exact ⟨Below.refl _ _, by omega⟩
            · have hme : 10 = m3 := by rw [← unhide hm3e]; omega
              subst hme
              have tle : (10 : Int) ≤ (n3 : Int) := by omega
              go_wp2_with fail
              first | exact Below.refl _ _ | exact ⟨Below.refl _ _, by omega⟩
          · refine FrontStep.of [6, 9] _ rfl (by kernel_rfl) ?_
            intro vs LL wq hLL hC hf
            simp only [putL, List.foldl_nil, List.foldl_cons, List.getElem?_cons_zero, List.getElem?_cons_succ]
            have e6 : vs 6 = _ := hf 6 (by simp)
            rw [e6]
            have e9 : vs 9 = _ := hf 9 (by simp)
            rw [e9]
            go_wp2_with fail
            first | exact Below.refl _ _ | exact ⟨Below.refl _ _, by omega⟩
          · refine FrontStep.of [] _ rfl (by kernel_rfl) ?_
            intro vs LL wq hLL hC hf
            simp only [putL, List.foldl_nil]
            go_wp2_with fail
            first | exact Below.refl _ _ | exact ⟨Below.refl _ _, by omega⟩
          · refine FrontStep.of [0, 5, 10, 11] _ rfl (by kernel_rfl) ?_
            intro vs LL wq hLL hC hf
            simp only [putL, List.foldl_nil, List.foldl_cons, List.getElem?_cons_zero, List.getElem?_cons_succ]
            have e0 : vs 0 = _ := hf 0 (by simp)
            rw [e0]
            have e5 : vs 5 = _ := hf 5 (by simp)
            rw [e5]
            have e10 : vs 10 = _ := hf 10 (by simp)
            rw [e10]
            have e11 : vs 11 = _ := hf 11 (by simp)
            rw [e11]
            have hfq := (unhide hfx).under hC
            have h2q := ((unhide hl2x).under hC).take hm2
            have h3q := ((unhide hl3x).under hC).take hm3
            have c1 := kplace_font _ av ks a2 m2 c2 (l2.take m2) a3 m3 c3 (l3.take m3) m wq hfq h2q h3q (by omega) (by omega) hm
            rw [unhide hX2, unhide hPL2] at c1
            clear hfq h2q h3q
            replace c1 := hide c1
            go_wp2_with fail
            refine (unhide c1).mono ?_
            rintro e wz ⟨qd, rfl, hD, hb⟩
            go_wp2_with fail
            first | exact ⟨hC.trans (hb.mono hC.size), hb, qd, rfl, hD⟩ | exact ⟨hC.trans (hb.mono hC.size), hb, hD⟩ | exact hC.trans (hb.mono hC.size)
          · refine FrontStep.of [12] _ rfl (by kernel_rfl) ?_
            intro vs LL wq hLL hC hf
            simp only [putL, List.foldl_nil, List.foldl_cons, List.getElem?_cons_zero, List.getElem?_cons_succ]
            obtain ⟨qd, e66, hD⟩ := hf 12 (by simp)
            rw [e66]
            go_wp2_with fail
            first | exact ⟨Below.refl _ _, qd, rfl, hD⟩ | exact ⟨qd, rfl, hD⟩ | exact ⟨Below.refl _ _, hD⟩ | exact hD | exact Below.refl _ _
          · refine FrontStep.of [13] _ rfl (by kernel_rfl) ?_
            intro vs LL wq hLL hC hf
            simp only [putL, List.foldl_nil, List.foldl_cons, List.getElem?_cons_zero, List.getElem?_cons_succ]
            obtain ⟨qd, e53, hD⟩ := hf 13 (by simp)
            rw [e53]
            go_wp2_with fail
            first | exact ⟨Below.refl _ _, qd, rfl, hD⟩ | exact ⟨qd, rfl, hD⟩ | exact ⟨Below.refl _ _, hD⟩ | exact hD | exact Below.refl _ _
          · refine FrontStep.of [13] _ rfl (by kernel_rfl) ?_
            intro vs LL wq hLL hC hf
            simp only [putL, List.foldl_nil, List.foldl_cons, List.getElem?_cons_zero, List.getElem?_cons_succ]
            obtain ⟨qd, e53, hD⟩ := hf 13 (by simp)
            rw [e53]
            go_wp2_with fail
            first | exact Below.refl _ _ | exact ⟨Below.refl _ _, by omega⟩
          · refine FrontStep.of [0, 1, 2, 3, 4, 5, 6, 7, 8, 9, 10, 11, 12, 13, 14] _ rfl (by kernel_rfl) ?_
            intro vs LL wq hLL hC hf
            simp only [putL, List.foldl_nil, List.foldl_cons, List.getElem?_cons_zero, List.getElem?_cons_succ]
            have e0 : vs 0 = _ := hf 0 (by simp)
            rw [e0]
            have e1 : vs 1 = _ := hf 1 (by simp)
            rw [e1]
            have e2 : vs 2 = _ := hf 2 (by simp)
            rw [e2]
            have e3 : vs 3 = _ := hf 3 (by simp)
            rw [e3]
            have e4 : vs 4 = _ := hf 4 (by simp)
            rw [e4]
            have e5 : vs 5 = _ := hf 5 (by simp)
            rw [e5]
            have e6 : vs 6 = _ := hf 6 (by simp)
            rw [e6]
            have e7 : vs 7 = _ := hf 7 (by simp)
            rw [e7]
            have e8 : vs 8 = _ := hf 8 (by simp)
            rw [e8]
            have e9 : vs 9 = _ := hf 9 (by simp)
            rw [e9]
            have e10 : vs 10 = _ := hf 10 (by simp)
            rw [e10]
            have e11 : vs 11 = _ := hf 11 (by simp)
            rw [e11]
            obtain ⟨qd, e66, hD⟩ := hf 12 (by simp)
            rw [e66]
            obtain ⟨qd, e53, hD⟩ := hf 13 (by simp)
            rw [e53]
            obtain ⟨qd, e67, hD⟩ := hf 14 (by simp)
            rw [e67]
            go_wp2_with fail
            first | exact ⟨Below.refl _ _, qd, rfl, hD⟩ | exact ⟨qd, rfl, hD⟩ | exact ⟨Below.refl _ _, hD⟩ | exact hD | exact Below.refl _ _
        · intro vs LL wq hLL hC hf
          obtain ⟨qd, e16, hD⟩ := hf 16 (by omega)
          have e15 : vs 15 = _ := hf 15 (by omega)
          rw [putSome_all]
          simp only [putL, List.range, List.range.loop, List.foldl_nil, List.foldl_cons, List.getElem?_cons_zero, List.getElem?_cons_succ, List.drop_succ_cons, List.drop_zero]
          rw [e15, e16]
          clear e15 e16 hf hLL
          have hDD := hide hD
          clear hD
          have hb := hC
          clear hC
          have hfx' := (unhide hfx).under hb
          have hrx' := row_kept (unhide hrx) hb
          have hgx' := (unhide hgx).under hb
          have hsx' := (unhide hsx).under hb
          have hl2x' := (unhide hl2x).under hb
          have hl3x' := (unhide hl3x).under hb
          have hbw' := (unhide hbw).trans (hb.mono (unhide hbw).size)
          have hA' := (unhide hA).under hb
          have hBl' := (unhide hBl).under hb
          clear hfx hrx hgx hsx hl2x hl3x hbw hA hBl hb
          obtain hfx := hide hfx'; clear hfx'
          obtain hrx := hide hrx'; clear hrx'
          obtain hgx := hide hgx'; clear hgx'
          obtain hsx := hide hsx'; clear hsx'
          obtain hl2x := hide hl2x'; clear hl2x'
          obtain hl3x := hide hl3x'; clear hl3x'
          obtain hbw := hide hbw'; clear hbw'
          obtain hA := hide hA'; clear hA'
          obtain hBl := hide hBl'; clear hBl'
          obtain ⟨w5, rfl⟩ : ∃ w5 : World, w5 = wq := ⟨_, rfl⟩
          go_wp2_with fail
          refine wp_region_frontG 17 (fun _ _ w' => Below w5.heap.size w5 w') (fun wa wb => Below wa.heap.size wa wb)
            (fun ix v w' => match ix with
              | 0 => v = .agg #[.string s, .int .i64 n, .slice va vn vc, .slice gla av.length glc, .slice qa qn qc, .slice ta tn tc, .slice xa ks.length xc]
              | 1 => v = .slice a2 n2 c2
              | 2 => v = .slice a2 n2 c2
              | 3 => v = .int .i64 (n2 : Int)
              | 4 => v = .int .i64 (m2 : Int)
              | 5 => v = .slice a2 m2 c2
              | 6 => v = .slice a3 n3 c3
              | 7 => v = .slice a3 n3 c3
              | 8 => v = .int .i64 (n3 : Int)
              | 9 => v = .int .i64 (m3 : Int)
              | 10 => v = .slice a3 m3 c3
              | 11 => v = .int .i64 m
              | 12 => ∃ qd qk, v = .tuple #[.slice qd m2 qk, .int .i64 X2] ∧ Lst Enc.int w' (fun b => b < w'.heap.size) qd m2 PL2
              | 13 => ∃ qd qk, v = .tuple #[.slice qd m2 qk, .int .i64 X2] ∧ Lst Enc.int w' (fun b => b < w'.heap.size) qd m2 PL2
              | 14 => ∃ qd qk, v = .slice qd m2 qk ∧ Lst Enc.int w' (fun b => b < w'.heap.size) qd m2 PL2
              | 15 => v = .int .i64 X2
              | 16 => ∃ qd qk, v = .slice qd m2 qk ∧ Lst Enc.int w' (fun b => b < w'.heap.size) qd m2 PL2
              | _ => True) (by rfl) (by kernel_rfl) ?_ ?_ ?_ ?_
          · exact (Below.refl _ _).drew
          · intro wa wb hR ix v hv
            match ix, hv with
            | 0, h => exact h
            | 1, h => exact h
            | 2, h => exact h
            | 3, h => exact h
            | 4, h => exact h
            | 5, h => exact h
            | 6, h => exact h
            | 7, h => exact h
            | 8, h => exact h
            | 9, h => exact h
            | 10, h => exact h
            | 11, h => exact h
            | 12, h => obtain ⟨qd, qk, h1, h2⟩ := h; exact ⟨qd, qk, h1, h2.under hR⟩
            | 13, h => obtain ⟨qd, qk, h1, h2⟩ := h; exact ⟨qd, qk, h1, h2.under hR⟩
            | 14, h => obtain ⟨qd, qk, h1, h2⟩ := h; exact ⟨qd, qk, h1, h2.under hR⟩
            | 15, h => exact h
            | 16, h => obtain ⟨qd, qk, h1, h2⟩ := h; exact ⟨qd, qk, h1, h2.under hR⟩
            | _ + 17, _ => trivial
          · intro ix hix
            obtain rfl | rfl | rfl | rfl | rfl | rfl | rfl | rfl | rfl | rfl | rfl | rfl | rfl | rfl | rfl | rfl | rfl : ix = 0 ∨ ix = 1 ∨ ix = 2 ∨ ix = 3 ∨ ix = 4 ∨ ix = 5 ∨ ix = 6 ∨ ix = 7 ∨ ix = 8 ∨ ix = 9 ∨ ix = 10 ∨ ix = 11 ∨ ix = 12 ∨ ix = 13 ∨ ix = 14 ∨ ix = 15 ∨ ix = 16 := by omega
            · refine FrontStep.of [] _ rfl (by kernel_rfl) ?_
              intro vs LL wq hLL hC hf
              simp only [putL, List.foldl_nil]
              obtain ⟨y0, y1, y2, y3, y4, y5, y6⟩ := row7 (row_kept (unhide hrx) hC)
              go_wp2_with fail
              first | exact Below.refl _ _ | exact ⟨Below.refl _ _, by omega⟩
            · refine FrontStep.of [] _ rfl (by kernel_rfl) ?_
              intro vs LL wq hLL hC hf
              simp only [putL, List.foldl_nil]
              go_wp2_with fail
              first | exact Below.refl _ _ | exact ⟨Below.refl _ _, by omega⟩
            · refine FrontStep.of [] _ rfl (by kernel_rfl) ?_
              intro vs LL wq hLL hC hf
              simp only [putL, List.foldl_nil]
              go_wp2_with fail
              first | exact Below.refl _ _ | exact ⟨Below.refl _ _, by omega⟩
            · refine FrontStep.of [2] _ rfl (by kernel_rfl) ?_
              intro vs LL wq hLL hC hf
              simp only [putL, List.foldl_nil, List.foldl_cons, List.getElem?_cons_zero, List.getElem?_cons_succ]
              have e2 : vs 2 = _ := hf 2 (by simp)
              rw [e2]
              go_wp2_with fail
              first | exact Below.refl _ _ | exact ⟨Below.refl _ _, by omega⟩
            · refine FrontStep.of [3] _ rfl (by kernel_rfl) ?_
              intro vs LL wq hLL hC hf
              simp only [putL, List.foldl_nil, List.foldl_cons, List.getElem?_cons_zero, List.getElem?_cons_succ]
              have e3 : vs 3 = _ := hf 3 (by simp)
              rw [e3]
              rcases Nat.le_total n2 10 with hle | hle
              · have hme : n2 = m2 := by rw [← unhide hm2e]; omega
                have tle : (n2 : Int) ≤ 10 := by omega
                go_wp2_with fail
                first | exact ⟨Below.refl _ _, by rw [hme]⟩ | exact ⟨Below.refl _ _, by omega⟩
              · have hme : 10 = m2 := by rw [← unhide hm2e]; omega
                subst hme
                have tle : (10 : Int) ≤ (n2 : Int) := by omega
                go_wp2_with fail
                first | exact Below.refl _ _ | exact ⟨Below.refl _ _, by omega⟩
            · refine FrontStep.of [1, 4] _ rfl (by kernel_rfl) ?_
              intro vs LL wq hLL hC hf
              simp only [putL, List.foldl_nil, List.foldl_cons, List.getElem?_cons_zero, List.getElem?_cons_succ]
              have e1 : vs 1 = _ := hf 1 (by simp)
              rw [e1]
              have e4 : vs 4 = _ := hf 4 (by simp)
              rw [e4]
              go_wp2_with fail
              first | exact Below.refl _ _ | exact ⟨Below.refl _ _, by omega⟩
            · refine FrontStep.of [] _ rfl (by kernel_rfl) ?_
              intro vs LL wq hLL hC hf
              simp only [putL, List.foldl_nil]
              go_wp2_with fail
              first | exact Below.refl _ _ | exact ⟨Below.refl _ _, by omega⟩
            · refine FrontStep.of [] _ rfl (by kernel_rfl) ?_
              intro vs LL wq hLL hC hf
              simp only [putL, List.foldl_nil]
              go_wp2_with fail
              first | exact Below.refl _ _ | exact ⟨Below.refl _ _, by omega⟩
            · refine FrontStep.of [7] _ rfl (by kernel_rfl) ?_
              intro vs LL wq hLL hC hf
              simp only [putL, List.foldl_nil, List.foldl_cons, List.getElem?_cons_zero, List.getElem?_cons_succ]
              have e7 : vs 7 = _ := hf 7 (by simp)
              rw [e7]
              go_wp2_with fail
              first | exact Below.refl _ _ | exact ⟨Below.refl _ _, by omega⟩
            · refine FrontStep.of [8] _ rfl (by kernel_rfl) ?_
              intro vs LL wq hLL hC hf
              simp only [putL, List.foldl_nil, List.foldl_cons, List.getElem?_cons_zero, List.getElem?_cons_succ]
              have e8 : vs 8 = _ := hf 8 (by simp)
              rw [e8]
              rcases Nat.le_total n3 10 with hle | hle
              · have hme : n3 = m3 := by rw [← unhide hm3e]; omega
                have tle : (n3 : Int) ≤ 10 := by omega
                go_wp2_with fail
                first | exact ⟨Below.refl _ _, by rw [hme]⟩ | exact ⟨Below.refl _ _, by omega⟩
              · have hme : 10 = m3 := by rw [← unhide hm3e]; omega
                subst hme
                have tle : (10 : Int) ≤ (n3 : Int) := by omega
                go_wp2_with fail
                first | exact Below.refl _ _ | exact ⟨Below.refl _ _, by omega⟩
            · refine FrontStep.of [6, 9] _ rfl (by kernel_rfl) ?_
              intro vs LL wq hLL hC hf
              simp only [putL, List.foldl_nil, List.foldl_cons, List.getElem?_cons_zero, List.getElem?_cons_succ]
              have e6 : vs 6 = _ := hf 6 (by simp)
              rw [e6]
              have e9 : vs 9 = _ := hf 9 (by simp)
              rw [e9]
              go_wp2_with fail
              first | exact Below.refl _ _ | exact ⟨Below.refl _ _, by omega⟩
            · refine FrontStep.of [] _ rfl (by kernel_rfl) ?_
              intro vs LL wq hLL hC hf
              simp only [putL, List.foldl_nil]
              go_wp2_with fail
              first | exact Below.refl _ _ | exact ⟨Below.refl _ _, by omega⟩
            · refine FrontStep.of [0, 5, 10, 11] _ rfl (by kernel_rfl) ?_
              intro vs LL wq hLL hC hf
              simp only [putL, List.foldl_nil, List.foldl_cons, List.getElem?_cons_zero, List.getElem?_cons_succ]
              have e0 : vs 0 = _ := hf 0 (by simp)
              rw [e0]
              have e5 : vs 5 = _ := hf 5 (by simp)
              rw [e5]
              have e10 : vs 10 = _ := hf 10 (by simp)
              rw [e10]
              have e11 : vs 11 = _ := hf 11 (by simp)
              rw [e11]
              have hfq := (unhide hfx).under hC
              have h2q := ((unhide hl2x).under hC).take hm2
              have h3q := ((unhide hl3x).under hC).take hm3
              have c1 := rplace_font _ av ks a2 m2 c2 (l2.take m2) a3 m3 c3 (l3.take m3) m wq hfq h2q h3q (by omega) (by omega) hm
              rw [unhide hX2, unhide hPL2] at c1
              clear hfq h2q h3q
              replace c1 := hide c1
              go_wp2_with fail
              refine (unhide c1).mono ?_
              rintro e wz ⟨qd, qk, rfl, hD, hb⟩
              go_wp2_with fail
              first | exact ⟨hC.trans (hb.mono hC.size), hb, qd, qk, rfl, hD⟩ | exact ⟨hC.trans (hb.mono hC.size), hb, hD⟩ | exact hC.trans (hb.mono hC.size)
            · refine FrontStep.of [12] _ rfl (by kernel_rfl) ?_
              intro vs LL wq hLL hC hf
              simp only [putL, List.foldl_nil, List.foldl_cons, List.getElem?_cons_zero, List.getElem?_cons_succ]
              obtain ⟨qd, qk, e82, hD⟩ := hf 12 (by simp)
              rw [e82]
              go_wp2_with fail
              first | exact ⟨Below.refl _ _, qd, qk, rfl, hD⟩ | exact ⟨qd, qk, rfl, hD⟩ | exact ⟨Below.refl _ _, hD⟩ | exact hD | exact Below.refl _ _
            · refine FrontStep.of [13] _ rfl (by kernel_rfl) ?_
              intro vs LL wq hLL hC hf
              simp only [putL, List.foldl_nil, List.foldl_cons, List.getElem?_cons_zero, List.getElem?_cons_succ]
              obtain ⟨qd, qk, e69, hD⟩ := hf 13 (by simp)
              rw [e69]
              go_wp2_with fail
              first | exact ⟨Below.refl _ _, qd, qk, rfl, hD⟩ | exact ⟨qd, qk, rfl, hD⟩ | exact ⟨Below.refl _ _, hD⟩ | exact hD | exact Below.refl _ _
            · refine FrontStep.of [13] _ rfl (by kernel_rfl) ?_
              intro vs LL wq hLL hC hf
              simp only [putL, List.foldl_nil, List.foldl_cons, List.getElem?_cons_zero, List.getElem?_cons_succ]
              obtain ⟨qd, qk, e69, hD⟩ := hf 13 (by simp)
              rw [e69]
              go_wp2_with fail
              first | exact Below.refl _ _ | exact ⟨Below.refl _ _, by omega⟩
            · refine FrontStep.of [0, 1, 2, 3, 4, 5, 6, 7, 8, 9, 10, 11, 12, 13, 14] _ rfl (by kernel_rfl) ?_
              intro vs LL wq hLL hC hf
              simp only [putL, List.foldl_nil, List.foldl_cons, List.getElem?_cons_zero, List.getElem?_cons_succ]
              have e0 : vs 0 = _ := hf 0 (by simp)
              rw [e0]
              have e1 : vs 1 = _ := hf 1 (by simp)
              rw [e1]
              have e2 : vs 2 = _ := hf 2 (by simp)
              rw [e2]
              have e3 : vs 3 = _ := hf 3 (by simp)
              rw [e3]
              have e4 : vs 4 = _ := hf 4 (by simp)
              rw [e4]
              have e5 : vs 5 = _ := hf 5 (by simp)
              rw [e5]
              have e6 : vs 6 = _ := hf 6 (by simp)
              rw [e6]
              have e7 : vs 7 = _ := hf 7 (by simp)
              rw [e7]
              have e8 : vs 8 = _ := hf 8 (by simp)
              rw [e8]
              have e9 : vs 9 = _ := hf 9 (by simp)
              rw [e9]
              have e10 : vs 10 = _ := hf 10 (by simp)
              rw [e10]
              have e11 : vs 11 = _ := hf 11 (by simp)
              rw [e11]
              obtain ⟨qd, qk, e82, hD⟩ := hf 12 (by simp)
              rw [e82]
              obtain ⟨qd, qk, e69, hD⟩ := hf 13 (by simp)
              rw [e69]
              obtain ⟨qd, qk, e83, hD⟩ := hf 14 (by simp)
              rw [e83]
              go_wp2_with fail
              first | exact ⟨Below.refl _ _, qd, qk, rfl, hD⟩ | exact ⟨qd, qk, rfl, hD⟩ | exact ⟨Below.refl _ _, hD⟩ | exact hD | exact Below.refl _ _
          · intro vs LL wq hLL hC hf
            obtain ⟨qd, qk, e16, hD⟩ := hf 16 (by omega)
            have e15 : vs 15 = _ := hf 15 (by omega)
            rw [putSome_all]
            simp only [putL, List.range, List.range.loop, List.foldl_nil, List.foldl_cons, List.getElem?_cons_zero, List.getElem?_cons_succ, List.drop_succ_cons, List.drop_zero]
            rw [e15, e16]
            clear e15 e16 hf hLL
            have hE := hide hD
            clear hD
            have hb := hC
            clear hC
            have hbw' := (unhide hbw).trans (hb.mono (unhide hbw).size)
            have hA' := (unhide hA).under hb
            have hBl' := (unhide hBl).under hb
            have hDD' := (unhide hDD).under hb
            clear hbw hA hBl hDD hb
            obtain hbw := hide hbw'; clear hbw'
            obtain hA := hide hA'; clear hA'
            obtain hBl := hide hBl'; clear hBl'
            obtain hDD := hide hDD'; clear hDD'
            obtain ⟨w6, rfl⟩ : ∃ w6 : World, w6 = wq := ⟨_, rfl⟩
            go_wp2_with fail
            have s1 := sameInts_below _ _ _ _ gs.length qbc _ _ _ (unhide hA) (unhide hBl) (by omega) (by omega)
            rw [show decide (PL = PL) = true from decide_eq_true rfl] at s1
            replace s1 := hide s1
            go_wp2_with fail
            refine (unhide s1).mono ?_
            rintro e w7 ⟨rfl, hb⟩
            clear s1 hA hBl
            have hbw' := (unhide hbw).trans (hb.mono (unhide hbw).size)
            have hDD' := (unhide hDD).under hb
            have hE' := (unhide hE).under hb
            clear hbw hDD hE hb
            obtain hbw := hide hbw'; clear hbw'
            obtain hDD := hide hDD'; clear hDD'
            obtain hE := hide hE'; clear hE'
            have s2 := sameInts_below _ _ _ _ m2 qk _ _ _ (unhide hDD) (unhide hE) (by omega) (by omega)
            rw [show decide (PL2 = PL2) = true from decide_eq_true rfl] at s2
            replace s2 := hide s2
            go_wp2_with fail
            refine (unhide s2).mono ?_
            rintro e w8 ⟨rfl, hb⟩
            have hbz := (unhide hbw).trans (hb.mono (unhide hbw).size)
            clear s2
            go_wp2_with fail
            go_roundw
            case rel => exact ⟨i + 1, by omega, by go_num, hbz⟩
            case measure => simp [intOf]; omega
    · have : i = 3 := by omega
      subst this
      have hbz := (unhide hB).trans (hbw.mono (unhide hB).size)
      go_wp2_with fail
      go_ret
      exact ⟨rfl, hbz⟩
end Go.Proofs.Ytbbbldaccpfooaa
