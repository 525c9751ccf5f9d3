/- OutlineFlats, walked. -/
import Derived.Test.YtbodidhggdggmaaOlX
import Derived.Test.YtbodidhggdggmaaOpI
namespace Go.Proofs.Ytbodidhggdggmaa
open Go.RowKit
theorem sml_one {x : List Pt} (h : x.length ≤ 1000) : Sml [x] := ⟨by simp, fun c hc => by simp at hc; subst hc; exact h⟩
theorem flat_one (x : List Pt) : ([x] : Ot).flatten = x := by simp
theorem tmod_nextF {i n : Nat} (_ : i < n) : Int.tmod ((i : Int) + 1) (n : Int) = (((i + 1) % n : Nat) : Int) := by
  rw [Int.tmod_eq_emod_of_nonneg (by omega), Int.natCast_emod]
  rfl
set_option maxHeartbeats 16000000 in
set_option maxRecDepth 100000 in
theorem outlineFlats_any (la : Option Addr) (ln lc : Nat) (l : List (List Int)) (w : World) (hll : Lst (Enc.list Enc.int) w (fun b => b < w.heap.size) la ln l) (hl1 : ln ≤ lc) (hl2 : lc ≤ maxLen) :
    Calls Try.prog 5 #[.slice la ln lc] w fun e w' => e = .returned (.bool true) ∧ Below w.heap.size w w' := by
  have hsan := sanity6_any w
  have hlnm : ln ≤ maxLen := by omega
  replace hll := hide hll; replace hsan := hide hsan
  go_enter Try.func5, Try.ntmps5
  go_wp2_with fail
  refine (unhide hsan).mono ?_
  rintro e w1 ⟨rfl, hb1⟩
  clear hsan
  have hmade := made6_any la ln lc l w1 ((unhide hll).under hb1) hlnm
  replace hb1 := hide hb1; replace hmade := hide hmade
  go_wp2_with fail
  refine (unhide hmade).mono ?_
  rintro e w2 ⟨v4, mo, rfl, hoo, hgo, hb2⟩
  obtain ⟨ma, mc, ev, _, _, hmo⟩ := hoo.lst
  obtain ⟨mn, hmn⟩ : ∃ mn, mo.length = mn := ⟨_, rfl⟩
  rw [hmn] at ev hmo
  subst ev
  have hmo2 := hmo.wide (S' := fun b => b < w2.heap.size) (fun b hb => hb.2)
  have hflat := flat_any ma mn mc mo w2 hmo2 hgo.sml.1 hgo.sml.2
  have kk2 := (unhide hb1).trans (hb2.mono (unhide hb1).size)
  have hmn2 : mn ≤ 2 := by have := hgo.1; omega
  clear hmade hoo hmo hb1 hb2
  replace hmo2 := hide hmo2; replace hgo := hide hgo; replace hflat := hide hflat; replace kk2 := hide kk2; replace hmn := hide hmn
  go_wp2_with fail
  refine (unhide hflat).mono ?_
  rintro e w3 ⟨v5, rfl, hof, hb3⟩
  obtain ⟨fa, fc, ev, _, _, hfl⟩ := hof.lst
  have hfln : (flatS mo).length = mn := by unfold flatS; rw [List.length_map, unhide hmn]
  rw [hfln] at ev hfl
  subst ev
  have kk3 := hide ((unhide kk2).trans (hb3.mono (unhide kk2).size))
  have hmo3 := hide ((unhide hmo2).under hb3)
  have hfl3 := hide (hfl.wide (S' := fun b => b < w3.heap.size) (fun b hb => hb.2))
  have hmm : ((mn : Int) != (mn : Int)) = false := bne_self_eq_false _
  clear hflat hof hfl hb3 kk2 hmo2 hfln
  go_wp2_with fail
  clear hmm
  go_loopw [6] (fun v wr => ∃ k : Nat, k ≤ mn ∧ v = .int .i64 (k : Int) ∧ Below w3.heap.size w3 wr) (fun v _ => (mn - intOf v).toNat)
  case atStart => exact ⟨0, by omega, rfl, Below.refl _ _⟩
  case round =>
    obtain ⟨k, hk, rfl, hbw⟩ := hrel
    obtain ⟨wo, rfl⟩ : ∃ V : World, V = wr := ⟨_, rfl⟩
    by_cases hlt : k < mn
    · obtain ⟨bm, om, x, ax, nx, cx, rfl, _, hx, hnc, hcm, hlx, hcx⟩ := lst_list (unhide hmo3) hlt
      obtain ⟨bf, of_, y, af, fn, cf, rfl, _, hy, hfc1, hfc2, hly, hcf⟩ := lst_list (unhide hfl3) hlt
      have hyx : y = polyS x := by
        unfold flatS at hy
        rw [List.getElem?_map, hx] at hy
        injection hy with hy
        exact hy.symm
      subst hyx
      obtain ⟨hx3, hx6, hgx⟩ := (unhide hgo).2 x (List.mem_of_getElem? hx)
      have hxl : x.length = nx := hlx.1
      have hfn : (polyS x).length = fn := hly.1
      rw [hxl] at hx3 hx6
      have hcxo := cell_under hcx hbw
      have t1 : (k : Int) < (mn : Int) := by omega
      have hfnb : fn ≤ 24 := by have := poly_len x x.length; rw [← hfn]; unfold polyS; omega
      clear hx hy
      replace hlx := hide hlx; replace hly := hide hly; replace hbw := hide hbw; replace hgx := hide hgx; replace hxl := hide hxl; replace hfn := hide hfn; replace hcf := hide hcf; replace hcx := hide hcx
      go_wp2_with fail
      clear hcxo
      go_loopw [8, 9] (fun v8 v9 wi => ∃ i : Nat, i ≤ nx ∧ v9 = .int .i64 (i : Int) ∧ v8 = .int .i64 ((offS x i : Nat) : Int) ∧ Below w3.heap.size w3 wi) (fun _ v _ => (nx - intOf v).toNat)
      case atStart => exact ⟨0, by omega, rfl, rfl, unhide hbw⟩
      case round =>
        clear hbw
        obtain ⟨i, hi, rfl, rfl, hbw⟩ := hrel
        obtain ⟨wi, rfl⟩ : ∃ V : World, V = wr := ⟨_, rfl⟩
        by_cases hlti : i < nx
        · obtain ⟨b10, V, hb10, hV, nz, kz, sz⟩ : ∃ b V, wi.heap.size = b ∧ wi.alloc (.cells (pcell (pAt x ((i + 1) % nx))).toArray 56) = V ∧ V.heap[b]? = some (.cells (pcell (pAt x ((i + 1) % nx))).toArray 56 (0, 0)) ∧ Below wi.heap.size wi V ∧ V.heap.size = b + 1 := al1 wi _
          obtain ⟨nxt, hnxt⟩ : ∃ m, (i + 1) % nx = m := ⟨_, rfl⟩
          have hnn : nxt < nx := by rw [← hnxt]; exact Nat.mod_lt _ (by omega)
          have htm := tmod_nextF hlti
          rw [hnxt] at htm hV nz
          have hfo := fun h => flat_on (unhide hgx) (i := i) (by rw [unhide hxl]; exact hlti) h
          have hff := fun h => flat_off (unhide hgx) (i := i) (by rw [unhide hxl]; exact hlti) h
          rw [unhide hxl, hnxt] at hff
          obtain ⟨ga, oa, qx, qy, qz, rfl, _, hq, _, _, q0, q1, q2⟩ := lst_pt ((unhide hlx).under hbw) hnn
          obtain ⟨ga', oa', px, py, pz, e1, _, hp, _, _, r0, r1, r2⟩ := lst_pt ((unhide hlx).under hbw) hlti
          cases e1
          have bq := (unhide hgx).2 _ (List.mem_of_getElem? hq)
          have bp := (unhide hgx).2 _ (List.mem_of_getElem? hp)
          simp only at bq bp
          rw [pAt_some hq] at hV nz hff
          have honi := onAt_some hp
          have honn := onAt_some hq
          simp only at honi honn
          rw [honi] at hfo hff
          rw [honn] at hff
          have hppx := pAt_some hp
          rw [hppx] at hfo hff
          have hV' : wi.alloc (.cells #[.int .i64 qx, .int .i64 qy, .bool qz] 56) = V := hV
          have nz' : V.heap[b10]? = some (.cells #[.int .i64 qx, .int .i64 qy, .bool qz] 56 (0, 0)) := nz
          have nz0 : V.cell? ⟨b10, 0, none⟩ = some (.int .i64 qx) := (cell_of_row _ _ 0 _ _ _ nz').trans rfl
          have nz1 : V.cell? ⟨b10, 1, none⟩ = some (.int .i64 qy) := (cell_of_row _ _ 1 _ _ _ nz').trans rfl
          have nz2 : V.cell? ⟨b10, 2, none⟩ = some (.bool qz) := (cell_of_row _ _ 2 _ _ _ nz').trans rfl
          have p0 := cell_under r0 kz
          have p1 := cell_under r1 kz
          have p2 := cell_under r2 kz
          have cfk0 := cell_under (unhide hcf) hbw
          have cfk := cell_under cfk0 kz
          have hbV := hbw.trans (kz.mono hbw.size)
          have hlV := (unhide hly).under hbV
          obtain ⟨N, hN⟩ : ∃ N, offS x i = N := ⟨_, rfl⟩
          have hle1 : offS x (i + 1) ≤ fn := by rw [← unhide hfn, ← offS_all]; exact offS_mono x (by have := unhide hxl; omega)
          have hmono : offS x i < offS x (i + 1) := by
            cases hz : pz with
            | true => have := (hfo hz).2; omega
            | false =>
              obtain ⟨_, g1, g2⟩ := hff hz
              cases hz2 : qz with
              | true => have := g1 hz2; omega
              | false => have := (g2 hz2).1; omega
          rw [hN] at hmono
          rw [hN]
          have t2 : (i : Int) < (nx : Int) := by omega
          have t3 : (nxt : Int) < (nx : Int) := by omega
          have t4 : ¬ (fn : Int) ≤ (N : Int) := by omega
          have t5 : (N : Int) < (fn : Int) := by omega
          have hNb : N ≤ 24 := by omega
          clear sz hq hp nz' nz kz honi honn r0 r1 r2 cfk0 hbw hV
          cases pz with
          | true =>
            obtain ⟨f1, f2⟩ := hfo rfl
            rw [hN] at f1 f2
            obtain ⟨gf, og, u1, u2, u3, rfl, _, hfp, _, _, s0, s1, s2⟩ := lst_pt hlV (show N < fn by omega)
            rw [f1] at hfp
            injection hfp with hfp
            injection hfp with hfp1 hfp2
            injection hfp2 with hfp2 hfp3
            have hd := fun wz => pt_neq wz (32 * px, 32 * py, true) (32 * px, 32 * py, true)
            simp only [decide_true] at hd
            rw [← hfp1] at s0
            rw [← hfp2] at s1
            rw [← hfp3] at s2
            clear hff hfo hppx hfp1 hfp2 hfp3 f1 hlV hle1
            replace f2 := hide f2; replace hbV := hide hbV; replace hN := hide hN; replace hnxt := hide hnxt
            go_wp2_with fail
            go_quiet (fail)
            go_wp2_with fail
            go_roundw
            case rel => exact ⟨i + 1, by omega, by go_num, by rw [unhide f2]; go_num, blw_drewN (unhide hbV) _⟩
            case measure => simp [intOf]; omega
          | false =>
            obtain ⟨⟨P, hP⟩, g3, g4⟩ := hff rfl
            have hpos := hP.pos
            rw [hN] at hpos
            obtain ⟨N1, hN1⟩ : ∃ N1, N = N1 + 1 := ⟨N - 1, by omega⟩
            have hcv : ∀ wq, Below V.heap.size V wq → Calls Try.prog 26 #[.slice af fn cf, .int .i64 (N1 : Int), .agg #[.int .i64 px, .int .i64 py, .bool false]] wq fun e w' => e = .returned (.bool true) ∧ Below wq.heap.size wq w' := fun wq hb => by
              refine curve_any af fn cf (polyS x) N1 px py false wq P (hlV.under hb) (by omega) (by omega) (by omega) (fun t ht => ?_) hP.lo bp hP.dx hP.dy ?_ ?_
              · have h := hP.at_ t ht
                rw [hN, unhide hfn, show N - 1 + t = N1 + t by omega] at h
                exact h
              · have h := hP.mx
                rw [hppx] at h
                exact h
              · have h := hP.my
                rw [hppx] at h
                exact h
            have hN1' : (N : Int) - 1 = (N1 : Int) := by omega
            obtain ⟨M, hM⟩ : ∃ M, N + 3 = M := ⟨_, rfl⟩
            have hM' : (N : Int) + 3 = (M : Int) := by omega
            have hMb : M ≤ 30 := by omega
            have hend : (qz = true → offS x (i + 1) = M) ∧ (qz = false → offS x (i + 1) = M + 1 ∧ (polyS x)[M]? = some (16 * (px + qx), 16 * (py + qy), true)) := by
              rw [hN] at g3 g4
              rw [hM] at g3 g4
              exact ⟨g3, fun hz => ⟨by have := (g4 hz).1; omega, (g4 hz).2⟩⟩
            clear hff hfo hP g3 g4 hpos hN1 hM hppx
            have hbw := hide hbV
            replace hN1 := hN1'
            have hbV2 := hbV
            clear hN1' hbV
            replace hcv := hide hcv; replace hN := hide hN; replace hnxt := hide hnxt; replace hend := hide hend; replace hlV := hide hlV; replace hbV2 := hide hbV2
            go_wp2_with fail
            clear hbV2
            refine wp_region_frontG 12 (fun _ _ w' => Below V.heap.size V w') (fun wa wb => Below wa.heap.size wa wb)
              (fun ix v w' => match ix with
                | 0 => v = .slice (some ⟨bf, of_, none⟩) mn fc
                | 1 => v = .int .i64 (k : Int)
                | 2 => v = .pointer (some ⟨bf, of_ + k, none⟩)
                | 3 => v = .slice af fn cf
                | 4 => v = .int .i64 (N : Int)
                | 5 => v = .int .i64 (N1 : Int)
                | 6 => v = .slice (some ⟨ga, oa, none⟩) nx cx
                | 7 => v = .int .i64 (i : Int)
                | 8 => v = .pointer (some ⟨ga, oa + i * 3, none⟩)
                | 9 => v = .agg #[.int .i64 px, .int .i64 py, .bool false]
                | 10 => v = .bool true
                | 11 => v = .bool false
                | _ => True) (by rfl) (by kernel_rfl) ?_ ?_ ?_ ?_
            · exact (Below.refl _ _).drew
            · intro wa wb hR ix v hv
              match ix, hv with
              | 0, h => exact h
              | 1, h => exact h
              | 2, h => exact h
              | 3, h => exact h
              | 4, h => exact h
              | 5, h => exact h
              | 6, h => exact h
              | 7, h => exact h
              | 8, h => exact h
              | 9, h => exact h
              | 10, h => exact h
              | 11, h => exact h
              | _ + 12, _ => trivial
            --BEGIN21
            · intro ix hix
              obtain rfl | rfl | rfl | rfl | rfl | rfl | rfl | rfl | rfl | rfl | rfl | rfl : ix = 0 ∨ ix = 1 ∨ ix = 2 ∨ ix = 3 ∨ ix = 4 ∨ ix = 5 ∨ ix = 6 ∨ ix = 7 ∨ ix = 8 ∨ ix = 9 ∨ ix = 10 ∨ ix = 11 := by omega
              · refine FrontStep.of [] _ rfl (by kernel_rfl) ?_
                intro vs LL wq hLL hC hf
                simp only [putL, List.foldl_nil]
                go_wp2_with fail
                first | exact Below.refl _ _ | exact ⟨Below.refl _ _, by omega⟩
              · refine FrontStep.of [] _ rfl (by kernel_rfl) ?_
                intro vs LL wq hLL hC hf
                simp only [putL, List.foldl_nil]
                go_wp2_with fail
                first | exact Below.refl _ _ | exact ⟨Below.refl _ _, by omega⟩
              · refine FrontStep.of [0, 1] _ rfl (by kernel_rfl) ?_
                intro vs LL wq hLL hC hf
                simp only [putL, List.foldl_nil, List.foldl_cons, List.getElem?_cons_zero, List.getElem?_cons_succ]
                have e0 : vs 0 = _ := hf 0 (by simp)
                rw [e0]
                have e1 : vs 1 = _ := hf 1 (by simp)
                rw [e1]
                go_wp2_with fail
                first | exact Below.refl _ _ | exact ⟨Below.refl _ _, by omega⟩
              · refine FrontStep.of [2] _ rfl (by kernel_rfl) ?_
                intro vs LL wq hLL hC hf
                simp only [putL, List.foldl_nil, List.foldl_cons, List.getElem?_cons_zero, List.getElem?_cons_succ]
                have e2 : vs 2 = _ := hf 2 (by simp)
                rw [e2]
                have hcq := cell_under cfk hC
                go_wp2_with fail
                first | exact Below.refl _ _ | exact ⟨Below.refl _ _, by omega⟩
              · refine FrontStep.of [] _ rfl (by kernel_rfl) ?_
                intro vs LL wq hLL hC hf
                simp only [putL, List.foldl_nil]
                go_wp2_with fail
                first | exact Below.refl _ _ | exact ⟨Below.refl _ _, by omega⟩
              · refine FrontStep.of [4] _ rfl (by kernel_rfl) ?_
                intro vs LL wq hLL hC hf
                simp only [putL, List.foldl_nil, List.foldl_cons, List.getElem?_cons_zero, List.getElem?_cons_succ]
                have e4 : vs 4 = _ := hf 4 (by simp)
                rw [e4]
                have hn1 := unhide hN1
                go_wp2_with fail
                first | exact Below.refl _ _ | exact ⟨Below.refl _ _, by omega⟩ | (trace_state; fail)
              · refine FrontStep.of [] _ rfl (by kernel_rfl) ?_
                intro vs LL wq hLL hC hf
                simp only [putL, List.foldl_nil]
                go_wp2_with fail
                first | exact Below.refl _ _ | exact ⟨Below.refl _ _, by omega⟩
              · refine FrontStep.of [] _ rfl (by kernel_rfl) ?_
                intro vs LL wq hLL hC hf
                simp only [putL, List.foldl_nil]
                go_wp2_with fail
                first | exact Below.refl _ _ | exact ⟨Below.refl _ _, by omega⟩
              · refine FrontStep.of [6, 7] _ rfl (by kernel_rfl) ?_
                intro vs LL wq hLL hC hf
                simp only [putL, List.foldl_nil, List.foldl_cons, List.getElem?_cons_zero, List.getElem?_cons_succ]
                have e6 : vs 6 = _ := hf 6 (by simp)
                rw [e6]
                have e7 : vs 7 = _ := hf 7 (by simp)
                rw [e7]
                go_wp2_with fail
                first | exact Below.refl _ _ | exact ⟨Below.refl _ _, by omega⟩
              · refine FrontStep.of [8] _ rfl (by kernel_rfl) ?_
                intro vs LL wq hLL hC hf
                simp only [putL, List.foldl_nil, List.foldl_cons, List.getElem?_cons_zero, List.getElem?_cons_succ]
                have e8 : vs 8 = _ := hf 8 (by simp)
                rw [e8]
                have hcq0 := cell_under p0 hC
                have hcq1 := cell_under p1 hC
                have hcq2 := cell_under p2 hC
                go_wp2_with fail
                first | exact Below.refl _ _ | exact ⟨Below.refl _ _, by omega⟩
              · refine FrontStep.of [3, 5, 9] _ rfl (by kernel_rfl) ?_
                intro vs LL wq hLL hC hf
                simp only [putL, List.foldl_nil, List.foldl_cons, List.getElem?_cons_zero, List.getElem?_cons_succ]
                have e3 : vs 3 = _ := hf 3 (by simp)
                rw [e3]
                have e5 : vs 5 = _ := hf 5 (by simp)
                rw [e5]
                have e9 : vs 9 = _ := hf 9 (by simp)
                rw [e9]
                have hcq := unhide hcv wq hC
                replace hcq := hide hcq
                go_wp2_with fail
                refine (unhide hcq).mono ?_
                rintro e wz ⟨rfl, hbz⟩
                clear hcq
                go_wp2_with fail
                first | exact hC.trans (hbz.mono hC.size) | exact ⟨hC.trans (hbz.mono hC.size), hbz⟩ | (trace_state; fail)
              · refine FrontStep.of [10] _ rfl (by kernel_rfl) ?_
                intro vs LL wq hLL hC hf
                simp only [putL, List.foldl_nil, List.foldl_cons, List.getElem?_cons_zero, List.getElem?_cons_succ]
                have e10 : vs 10 = _ := hf 10 (by simp)
                rw [e10]
                go_wp2_with fail
                first | exact Below.refl _ _ | exact ⟨Below.refl _ _, by omega⟩
            --END21
            · intro vs LL wq hLL hC hf
              have e11 : vs 11 = _ := hf 11 (by omega)
              rw [putSome_all]
              simp only [putL, List.range, List.range.loop, List.foldl_nil, List.foldl_cons, List.getElem?_cons_zero, List.getElem?_cons_succ, List.drop_succ_cons, List.drop_zero]
              rw [e11]
              clear e11 hf hLL
              have kbw := (unhide hbw).trans (hC.mono (unhide hbw).size)
              have kn2 := cell_under nz2 hC
              have kn0 := cell_under nz0 hC
              have kn1 := cell_under nz1 hC
              have kp0 := cell_under p0 hC
              have kp1 := cell_under p1 hC
              have kcf := cell_under cfk hC
              clear hbw nz0 nz1 nz2 p0 p1 p2 cfk hC hcv
              replace kbw := hide kbw
              obtain ⟨V, rfl⟩ : ∃ W : World, W = wq := ⟨_, rfl⟩
              have hend2 := unhide hend
              cases qz with
              | true =>
                have hfin := hide (hend2.1 rfl)
                clear hend2 hend
                go_simp
                go_wp2_with fail
                go_roundw
                case rel => exact ⟨i + 1, by omega, by go_num, by rw [unhide hfin], unhide kbw⟩
                case measure => simp [intOf]; omega
              | false =>
                obtain ⟨hfin, f1⟩ := hend2.2 rfl
                have hMfn : M < fn := by rw [← unhide hfn]; exact (List.getElem?_eq_some_iff.1 f1).1
                obtain ⟨gf, og, u1, u2, u3, rfl, _, hfp, _, _, s0, s1, s2⟩ := lst_pt ((unhide hly).under (unhide kbw)) hMfn
                rw [f1] at hfp
                injection hfp with hfp
                injection hfp with hfp1 hfp2
                injection hfp2 with hfp2 hfp3
                rw [← hfp1] at s0
                rw [← hfp2] at s1
                rw [← hfp3] at s2
                obtain ⟨sx, hsx⟩ : ∃ s, px + qx = s := ⟨_, rfl⟩
                obtain ⟨sy, hsy⟩ : ∃ s, py + qy = s := ⟨_, rfl⟩
                have hsxb : 0 ≤ sx ∧ sx ≤ 96 := by omega
                have hsyb : 0 ≤ sy ∧ sy ≤ 96 := by omega
                obtain ⟨X, hX⟩ : ∃ X, 16 * sx = X := ⟨_, rfl⟩
                obtain ⟨Y, hY⟩ : ∃ Y, 16 * sy = Y := ⟨_, rfl⟩
                rw [hsx, hX] at s0
                rw [hsy, hY] at s1
                have hw1 : IntKind.i64.wrap sx = sx := by rw [IntWalk.i64_in _ (by omega)]
                have hw2 : IntKind.i64.wrap sy = sy := by rw [IntWalk.i64_in _ (by omega)]
                have hw3 : IntKind.i64.wrap X = X := by rw [IntWalk.i64_in _ (by omega)]
                have hw4 : IntKind.i64.wrap Y = Y := by rw [IntWalk.i64_in _ (by omega)]
                have hd := fun wz => pt_neq wz (X, Y, true) (X, Y, true)
                simp only [decide_true] at hd
                have t6 : ¬ (fn : Int) ≤ (M : Int) := by omega
                have t7 : (M : Int) < (fn : Int) := by omega
                have t8 : decide (fn ≤ M) = false := by simp; omega
                have t9 : ¬ fn ≤ M := by omega
                clear hfp1 hfp2 hfp3 f1 hend2 hend
                replace hfin := hide hfin
                go_simp
                go_wp2_with fail
                go_quiet (fail)
                go_wp2_with fail
                go_roundw
                case rel => exact ⟨i + 1, by omega, by go_num, by rw [unhide hfin]; go_num, blw_drewN (unhide kbw) _⟩
                case measure => simp [intOf]; omega
        · have hie : i = nx := by omega
          subst hie
          have hoff : offS x i = fn := by
            have h := offS_all x
            rw [unhide hxl, unhide hfn] at h
            exact h
          rw [hoff]
          have hlx2 := (unhide hlx).under hbw
          have hly2 := (unhide hly).under hbw
          obtain ⟨b28, V1, eb28, eV1, n28, k28, z28⟩ := al1 wi (.cells #[.slice ax i cx] 54)
          have hc := box_any (some ⟨b28, 0, none⟩) 1 1 [x] V1 (lst_cts_one n28 (hlx2.under k28) hnc hcm) (sml_one (by have := unhide hxl; omega))
          obtain ⟨⟨hB1, hB2, hB3, hB4⟩, ⟨hB5, hB6, hB7, hB8⟩, hB9, hBa, hBb, hBc⟩ := flat_box (unhide hgx) (by have := unhide hxl; omega)
          rw [flat_one] at hc
          obtain ⟨⟨x0, y0, x1, y1⟩, hbx⟩ : ∃ r, boxS x = r := ⟨_, rfl⟩
          obtain ⟨⟨u0, v0, u1, v1⟩, hbu⟩ : ∃ r, boxS (polyS x) = r := ⟨_, rfl⟩
          rw [hbx] at hc hB1 hB2 hB3 hB4 hB5 hB6 hB7 hB8 hB9 hBa hBb hBc
          rw [hbu] at hB1 hB2 hB3 hB4
          simp only at hB1 hB2 hB3 hB4 hB5 hB6 hB7 hB8 hB9 hBa hBb hBc
          have hc : Calls Try.prog 17 #[.slice (some ⟨b28, 0, none⟩) 1 1] V1 fun e w' => e = .returned (.agg #[.int .i64 x0, .int .i64 y0, .int .i64 x1, .int .i64 y1]) ∧ Below V1.heap.size V1 w' := hc
          have hkb := hbw.trans (k28.mono hbw.size)
          have hcfw := cell_under (unhide hcf) hbw
          clear n28 k28 z28 hoff hbx
          replace hc := hide hc; replace hkb := hide hkb; replace hly2 := hide hly2; replace hbu := hide hbu; replace hbw := hide hbw
          have hlx3 := hide hlx2
          clear hlx2
          go_wp2_with fail
          refine (unhide hc).mono ?_
          rintro e w4 ⟨rfl, hb4⟩
          clear hc eb28 eV1
          obtain ⟨b11, V5, eb11, eV5, n11, k11, z11⟩ := al1 w4 (.cells #[.int .i64 x0, .int .i64 y0, .int .i64 x1, .int .i64 y1] 34)
          have hk5 := (unhide hkb).trans ((hb4.trans (k11.mono hb4.size)).mono (unhide hkb).size)
          have hly5 := (unhide hly).under hk5
          have hcf5 := cell_under (unhide hcf) hk5
          obtain ⟨b29, V6, eb29, eV6, n29, k29, z29⟩ := al1 V5 (.cells #[.slice af fn cf] 54)
          have hc := box_any (some ⟨b29, 0, none⟩) 1 1 [polyS x] V6 (lst_cts_one n29 (hly5.under k29) hfc1 hfc2) (sml_one (by rw [unhide hfn]; omega))
          rw [flat_one, unhide hbu] at hc
          have hc : Calls Try.prog 17 #[.slice (some ⟨b29, 0, none⟩) 1 1] V6 fun e w' => e = .returned (.agg #[.int .i64 u0, .int .i64 v0, .int .i64 u1, .int .i64 v1]) ∧ Below V6.heap.size V6 w' := hc
          have n116 := (k29.block b11 (Array.getElem?_eq_some_iff.1 n11).1).trans n11
          have hk6 := hk5.trans (k29.mono hk5.size)
          clear n11 k11 z11 n29 k29 z29 hb4 hkb hly5 hk5
          replace hc := hide hc; replace n116 := hide n116; replace hk6 := hide hk6
          go_wp2_with fail
          refine (unhide hc).mono ?_
          rintro e w7 ⟨rfl, hb7⟩
          clear hc eb11 eV5 eb29 eV6 hcf5
          obtain ⟨b12, V8, eb12, eV8, n12, k12, z12⟩ := al1 w7 (.cells #[.int .i64 u0, .int .i64 v0, .int .i64 u1, .int .i64 v1] 34)
          have h78 := hb7.trans (k12.mono hb7.size)
          have n11 := (h78.block b11 (Array.getElem?_eq_some_iff.1 (unhide n116)).1).trans (unhide n116)
          have hk8 := hide ((unhide hk6).trans (h78.mono (unhide hk6).size))
          have hcf8 := cell_under (unhide hcf) (unhide hk8)
          have a0 : V8.cell? ⟨b11, 0, none⟩ = some (.int .i64 x0) := (cell_of_row _ _ 0 _ _ _ n11).trans rfl
          have a1 : V8.cell? ⟨b11, 1, none⟩ = some (.int .i64 y0) := (cell_of_row _ _ 1 _ _ _ n11).trans rfl
          have a2 : V8.cell? ⟨b11, 2, none⟩ = some (.int .i64 x1) := (cell_of_row _ _ 2 _ _ _ n11).trans rfl
          have a3 : V8.cell? ⟨b11, 3, none⟩ = some (.int .i64 y1) := (cell_of_row _ _ 3 _ _ _ n11).trans rfl
          have c0 : V8.cell? ⟨b12, 0, none⟩ = some (.int .i64 u0) := (cell_of_row _ _ 0 _ _ _ n12).trans rfl
          have c1 : V8.cell? ⟨b12, 1, none⟩ = some (.int .i64 v0) := (cell_of_row _ _ 1 _ _ _ n12).trans rfl
          have c2 : V8.cell? ⟨b12, 2, none⟩ = some (.int .i64 u1) := (cell_of_row _ _ 2 _ _ _ n12).trans rfl
          have c3 : V8.cell? ⟨b12, 3, none⟩ = some (.int .i64 v1) := (cell_of_row _ _ 3 _ _ _ n12).trans rfl
          have w0 : ((fn : Int) != (fn : Int)) = false := bne_self_eq_false _
          have w1 : decide (u0 < 32 * x0) = false := by simp; omega
          have w2 : decide (v0 < 32 * y0) = false := by simp; omega
          have w3' : decide (32 * x1 < u1) = false := by simp; omega
          have w4' : decide (32 * y1 < v1) = false := by simp; omega
          have w5 : ¬ u0 < 32 * x0 := by omega
          have w6 : ¬ v0 < 32 * y0 := by omega
          have w7' : ¬ 32 * x1 < u1 := by omega
          have w8 : ¬ 32 * y1 < v1 := by omega
          clear n11 n12 k12 z12 h78 hb7 hk6 n116
          go_wp2_with fail
          go_roundw
          case rel => exact ⟨k + 1, by omega, by go_num, unhide hk8⟩
          case measure => simp [intOf]; omega
    · have hke : k = mn := by omega
      have t1 : ¬ (k : Int) < (mn : Int) := by omega
      have hbz := hide ((unhide kk3).trans (hbw.mono (unhide kk3).size))
      clear hbw
      go_wp2_with fail
      go_ret
      exact ⟨rfl, unhide hbz⟩
end Go.Proofs.Ytbodidhggdggmaa
