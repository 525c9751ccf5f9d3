/- The program's changed. -/
import Derived.Test.YtbodidhggdggmaaOlN
import Derived.Test.YtbodidhggdggmaaFrontG
namespace Go.Proofs.Ytbodidhggdggmaa
open Go.RowKit
set_option maxHeartbeats 8000000 in
set_option maxRecDepth 100000 in
theorem changed_scale (a : Option Addr) (n c : Nat) (o : Ot) (ka : Nat) (g : Nat → Pt → Pt) (w : World) (hl : Lst Enc.ct w (· < w.heap.size) a n o) (hs : Sml o) (hg : ∀ k p, I64 (g k p).1 ∧ I64 (g k p).2.1)
    (hfn : ∀ (k : Nat) (p : Pt) (w1 : World), Below w.heap.size w w1 → o.flatten[k]? = some p → Calls Try.prog 56 #[.int .i64 (k : Int), .agg #[.int .i64 p.1, .int .i64 p.2.1, .bool p.2.2], .pointer (some ⟨ka, 0, none⟩)] w1 fun e w2 => e = .returned (.agg #[.int .i64 (g k p).1, .int .i64 (g k p).2.1, .bool (g k p).2.2]) ∧ Below w1.heap.size w1 w2) :
    Calls Try.prog 46 #[.slice a n c, .func (.func 56) #[] #[.pointer (some ⟨ka, 0, none⟩)]] w fun e w' => ∃ v, e = .returned v ∧ OO w' w.heap.size v (imgO g 0 o) ∧ Below w.heap.size w w' := by
  have hn : o.length = n := hl.1
  have hn2 : n ≤ 1000 := by have := hs.1; omega
  have hmk := make_out n (by omega) w
  have hoo0 := oo_made n (by omega) w
  have hb0 := (Below.refl w.heap.size w).alloc (Nat.le_refl _) (.cells (madeCells #[Value.slice none 0 0] n) 54)
  have hlen : (imgO g 0 o).length = (List.replicate n ([] : List Pt)).length := by rw [imgO_len, List.length_replicate, hn]
  obtain ⟨ob, hob⟩ : ∃ ob, w.heap.size = ob := ⟨_, rfl⟩
  obtain ⟨W0, hW0⟩ : ∃ W0, w.alloc (.cells (madeCells #[Value.slice none 0 0] n) 54) = W0 := ⟨_, rfl⟩
  rw [hW0] at hmk hoo0 hb0
  rw [hob] at hmk hoo0
  replace hl := hide hl; replace hs := hide hs; replace hfn := hide hfn; replace hn := hide hn; replace hoo0 := hide hoo0; replace hb0 := hide hb0; replace hlen := hide hlen; replace hob := hide hob; replace hg := hide hg; replace hW0 := hide hW0
  go_enter Try.func46, Try.ntmps46
  go_wp2_with fail
  clear hmk hW0
  go_loopw [6, 16] (fun v6 v16 wr => ∃ k : Nat, k ≤ n ∧ v16 = .int .i64 (k : Int) ∧ v6 = .int .i64 (((o.take k).flatten.length : Nat) : Int) ∧ OO wr ob (.slice (some ⟨ob, 0, none⟩) n n) (mix (imgO g 0 o) (List.replicate n []) k) ∧ Below w.heap.size w wr) (fun _ v _ => (n - intOf v).toNat)
  case atStart => exact ⟨0, by omega, rfl, by simp, by rw [mix_zero]; exact unhide hoo0, unhide hb0⟩
  case round =>
    clear hoo0 hb0
    obtain ⟨k, hk, rfl, rfl, hoo, hbw⟩ := hrel
    obtain ⟨wo, rfl⟩ : ∃ wo : World, wo = wr := ⟨_, rfl⟩
    by_cases hlt : k < n
    · obtain ⟨b, off, x, ax, nx, cx, rfl, hb, hx, hnc, hcm, hlx, hcx⟩ := lst_list (unhide hl) hlt
      replace hcx := cell_under hcx hbw
      have hxl : x.length = nx := hlx.1
      have mx : nx ≤ 1000 := by have := (unhide hs).ct hx; omega
      obtain ⟨L, hL⟩ : ∃ L, (o.take k).flatten.length = L := ⟨_, rfl⟩
      have hL1 : (o.take (k + 1)).flatten.length = L + nx := by rw [take_flat_len hx, hL, hxl]
      have hLb : L ≤ 1000000 := by rw [← hL]; exact flat_len_le ((unhide hs).take k)
      have himg : (imgO g 0 o)[k]? = some (rowN g L x) := by rw [imgO_get g o 0 k x hx, Nat.zero_add, hL]
      have hfl : ∀ i p, x[i]? = some p → o.flatten[L + i]? = some p := fun i p hp => by
        have h1 : (o.take (k + 1)).flatten[L + i]? = some p := by rw [take_flat hx, List.getElem?_append_right (by omega), hL, Nat.add_sub_cancel_left, hp]
        have h2 : o.flatten = (o.take (k + 1)).flatten ++ (o.drop (k + 1)).flatten := by rw [← List.flatten_append, List.take_append_drop]
        rw [h2, List.getElem?_append_left ((List.getElem?_eq_some_iff.1 h1).1), h1]
      have hmk := make_ct nx (by omega) wo
      have hrw := rw_made nx (by omega) wo
      have hb1 := (Below.refl wo.heap.size wo).alloc (Nat.le_refl _) (.cells (madeCells #[Value.int .i64 0, .int .i64 0, .bool false] (nx * 3)) 56)
      obtain ⟨bx, hbx⟩ : ∃ bx, wo.heap.size = bx := ⟨_, rfl⟩
      obtain ⟨V1, hV1⟩ : ∃ V, wo.alloc (.cells (madeCells #[Value.int .i64 0, .int .i64 0, .bool false] (nx * 3)) 56) = V := ⟨_, rfl⟩
      rw [hV1] at hmk hrw hb1
      have hobs : ob ≤ wo.heap.size := by have := hbw.size; have := unhide hob; omega
      obtain ⟨z1, z2, z3, z4, z5, z6⟩ := hoo.putS hb1 hrw (k := k) (by rw [mix_len (unhide hlen), List.length_replicate]; omega) hobs
      have e0 : (mix (imgO g 0 o) (List.replicate n []) k).set k (List.replicate nx zP) = stO (imgO g 0 o) (List.replicate n []) (rowN g L x) (List.replicate nx zP) k 0 := by unfold stO; rw [mix_zero]
      rw [e0] at z4
      rw [hbx] at z4 hmk
      have hb2 := (hbw.trans (hb1.mono hbw.size)).setCell (p := ⟨ob, k, none⟩) (by show w.heap.size ≤ ob; have := unhide hob; omega) (.slice (some ⟨bx, 0, none⟩) nx nx)
      obtain ⟨V2, hV2⟩ : ∃ V2, V1.setCell ⟨ob, k, none⟩ (.slice (some ⟨bx, 0, none⟩) nx nx) = V2 := ⟨_, rfl⟩
      rw [hV2] at z4 hb2
      rw [hL]
      have hrl : (rowN g L x).length = (List.replicate nx zP).length := by rw [rowN_len, List.length_replicate, hxl]
      have t1 : (k : Int) < (n : Int) := by omega
      have hlx0 := hlx
      clear hb hnc hcm hrw hb1 hoo e0
      replace hlx := hide hlx; replace hx := hide hx; replace himg := hide himg; replace hfl := hide hfl; replace z4 := hide z4; replace hb2 := hide hb2; replace hxl := hide hxl; replace hrl := hide hrl; replace hL := hide hL; replace hL1 := hide hL1; replace hbw := hide hbw
      clear hlx0
      go_wp2_with fail
      clear hmk hV1 hV2 hbx z3 z6 hcx
      go_loopw [6, 29] (fun v6 v29 wi => ∃ i : Nat, i ≤ nx ∧ v29 = .int .i64 (i : Int) ∧ v6 = .int .i64 ((L + i : Nat) : Int) ∧ OO wi ob (.slice (some ⟨ob, 0, none⟩) n n) (stO (imgO g 0 o) (List.replicate n []) (rowN g L x) (List.replicate nx zP) k i) ∧ Below w.heap.size w wi) (fun _ v _ => (nx - intOf v).toNat)
      case atStart => exact ⟨0, by omega, rfl, rfl, unhide z4, unhide hb2⟩
      case round =>
        clear z4 hb2
        obtain ⟨i, hi, rfl, rfl, hoo, hbi⟩ := hrel
        obtain ⟨wi, rfl⟩ : ∃ wi : World, wi = wr := ⟨_, rfl⟩
        by_cases hlt2 : i < nx
        · obtain ⟨b2, o2, px, py, pz, rfl, _, hp, _, _, p0, p1, p2⟩ := lst_pt ((unhide hlx).under hbi) hlt2
          have hpk := unhide hfl i _ hp
          obtain ⟨N, hN⟩ : ∃ N, L + i = N := ⟨_, rfl⟩
          rw [hN] at hpk ⊢
          obtain ⟨⟨qx, qy, qz⟩, hq⟩ : ∃ q, g N (px, py, pz) = q := ⟨_, rfl⟩
          have hgi := unhide hg N (px, py, pz)
          rw [hq] at hgi
          have hrp : (rowN g L x)[i]? = some (qx, qy, qz) := by rw [rowN_get hp, hN, hq]
          have hgx : (stO (imgO g 0 o) (List.replicate n []) (rowN g L x) (List.replicate nx zP) k i)[k]? = some (mix (rowN g L x) (List.replicate nx zP) i) := stO_get i (unhide hlen) (by rw [List.length_replicate]; exact hlt)
          have hgp : (mix (rowN g L x) (List.replicate nx zP) i)[i]? = some zP := by rw [mix_get (unhide hrl), List.getElem?_replicate, if_pos hlt2]
          have hml : (mix (rowN g L x) (List.replicate nx zP) i).length = nx := by rw [mix_len (unhide hrl), List.length_replicate]
          have hss := stO_set (a := imgO g 0 o) (b := List.replicate n []) (k := k) (unhide hrl) hrp
          obtain ⟨bp, hbp⟩ : ∃ bp, wi.heap.size = bp := ⟨_, rfl⟩
          have hb3 := (Below.refl wi.heap.size wi).alloc (Nat.le_refl _) (.cells #[.int .i64 px, .int .i64 py, .bool pz] 56)
          have hn3 := heap_alloc_new wi (.cells #[.int .i64 px, .int .i64 py, .bool pz] 56)
          obtain ⟨V3, hV3⟩ : ∃ V3, wi.alloc (.cells #[.int .i64 px, .int .i64 py, .bool pz] 56) = V3 := ⟨_, rfl⟩
          rw [hV3] at hb3 hn3
          rw [hbp] at hn3
          have hoo3 := hoo.below hb3
          obtain ⟨gk, capk, rc, hgkb, hgks, hobs3, hgne, _, ⟨r0, r1, r2⟩, ⟨f0, f1, f2⟩, _, hset⟩ := hoo3.ptS hgx hgp
          rw [hml] at rc
          have c0 : V3.cell? ⟨bp, 0, none⟩ = some (.int .i64 px) := (cell_of_row _ _ 0 _ _ _ hn3).trans rfl
          have c1 : V3.cell? ⟨bp, 1, none⟩ = some (.int .i64 py) := (cell_of_row _ _ 1 _ _ _ hn3).trans rfl
          have c2 : V3.cell? ⟨bp, 2, none⟩ = some (.bool pz) := (cell_of_row _ _ 2 _ _ _ hn3).trans rfl
          have hbw3 := hbi.trans (hb3.mono hbi.size)
          replace hgkb : w.heap.size ≤ gk := by have := unhide hob; omega
          have t2 : (i : Int) < (nx : Int) := by omega
          have t3 : ¬ (nx : Int) ≤ (i : Int) := by omega
          have t4 : ¬ (n : Int) ≤ (k : Int) := by omega
          clear hn3 hoo hoo3 hb3 hgx hgp hml hrp hbi hp
          have hNb : N ≤ 1002000 := by omega
          replace hN := hide hN; replace hpk := hide hpk; replace hq := hide hq; replace hset := hide hset; replace hss := hide hss; replace hbw3 := hide hbw3
          go_wp2_with fail
          clear hV3 hbp p0 p1 p2
          have p0 := c0; have p1 := c1; have p2 := c2; have hbw2 := hbw3
          clear c0 c1 c2 hbw3 hbw
          have hbw := hbw2
          clear hbw2
          refine wp_region_frontG 10 (fun _ _ w' => Below V3.heap.size V3 w') (fun wa wb => Below wa.heap.size wa wb)
            (fun ix v w' => match ix with
              | 0 => v = .slice (some ⟨ob, 0, none⟩) n n
              | 1 => v = .int .i64 (k : Int)
              | 2 => v = .pointer (some ⟨ob, k, none⟩)
              | 3 => v = .slice (some ⟨gk, 0, none⟩) nx capk
              | 4 => v = .int .i64 (i : Int)
              | 5 => v = .func (.func 56) #[] #[.pointer (some ⟨ka, 0, none⟩)]
              | 6 => v = .int .i64 (N : Int)
              | 7 => v = .agg #[.int .i64 px, .int .i64 py, .bool pz]
              | 8 => v = .agg #[.int .i64 qx, .int .i64 qy, .bool qz]
              | 9 => v = .pointer (some ⟨gk, i * 3, none⟩)
              | _ => True) (by rfl) (by kernel_rfl) ?_ ?_ ?_ ?_
          · exact (Below.refl _ _).drew
          · intro wa wb hR ix v hv
            match ix, hv with
            | 0, h => exact h
            | 1, h => exact h
            | 2, h => exact h
            | 3, h => exact h
            | 4, h => exact h
            | 5, h => exact h
            | 6, h => exact h
            | 7, h => exact h
            | 8, h => exact h
            | 9, h => exact h
            | _ + 10, _ => trivial
          · intro ix hix
            obtain rfl | rfl | rfl | rfl | rfl | rfl | rfl | rfl | rfl | rfl : ix = 0 ∨ ix = 1 ∨ ix = 2 ∨ ix = 3 ∨ ix = 4 ∨ ix = 5 ∨ ix = 6 ∨ ix = 7 ∨ ix = 8 ∨ ix = 9 := by omega
            · refine FrontStep.of [] _ rfl (by kernel_rfl) ?_
              intro vs LL wq hLL hC hf
              simp only [putL, List.foldl_nil]
              go_wp2_with fail
              first | exact Below.refl _ _ | exact ⟨Below.refl _ _, by omega⟩
            · refine FrontStep.of [] _ rfl (by kernel_rfl) ?_
              intro vs LL wq hLL hC hf
              simp only [putL, List.foldl_nil]
              go_wp2_with fail
              first | exact Below.refl _ _ | exact ⟨Below.refl _ _, by omega⟩
            · refine FrontStep.of [0, 1] _ rfl (by kernel_rfl) ?_
              intro vs LL wq hLL hC hf
              simp only [putL, List.foldl_nil, List.foldl_cons, List.getElem?_cons_zero, List.getElem?_cons_succ]
              have e0 : vs 0 = _ := hf 0 (by simp)
              rw [e0]
              have e1 : vs 1 = _ := hf 1 (by simp)
              rw [e1]
              go_wp2_with fail
              first | exact Below.refl _ _ | exact ⟨Below.refl _ _, by omega⟩
            · refine FrontStep.of [2] _ rfl (by kernel_rfl) ?_
              intro vs LL wq hLL hC hf
              simp only [putL, List.foldl_nil, List.foldl_cons, List.getElem?_cons_zero, List.getElem?_cons_succ]
              have e2 : vs 2 = _ := hf 2 (by simp)
              rw [e2]
              have hcq := cell_under rc hC
              go_wp2_with fail
              first | exact Below.refl _ _ | exact ⟨Below.refl _ _, by omega⟩
            · refine FrontStep.of [] _ rfl (by kernel_rfl) ?_
              intro vs LL wq hLL hC hf
              simp only [putL, List.foldl_nil]
              go_wp2_with fail
              first | exact Below.refl _ _ | exact ⟨Below.refl _ _, by omega⟩
            · refine FrontStep.of [] _ rfl (by kernel_rfl) ?_
              intro vs LL wq hLL hC hf
              simp only [putL, List.foldl_nil]
              go_wp2_with fail
              first | exact Below.refl _ _ | exact ⟨Below.refl _ _, by omega⟩
            · refine FrontStep.of [] _ rfl (by kernel_rfl) ?_
              intro vs LL wq hLL hC hf
              simp only [putL, List.foldl_nil]
              go_wp2_with fail
              first | exact Below.refl _ _ | exact ⟨Below.refl _ _, by omega⟩
            · refine FrontStep.of [] _ rfl (by kernel_rfl) ?_
              intro vs LL wq hLL hC hf
              simp only [putL, List.foldl_nil]
              have hcq0 := cell_under p0 hC
              have hcq1 := cell_under p1 hC
              have hcq2 := cell_under p2 hC
              go_wp2_with fail
              first | exact Below.refl _ _ | exact ⟨Below.refl _ _, by omega⟩
            · refine FrontStep.of [5, 6, 7] _ rfl (by kernel_rfl) ?_
              intro vs LL wq hLL hC hf
              simp only [putL, List.foldl_nil, List.foldl_cons, List.getElem?_cons_zero, List.getElem?_cons_succ]
              have e5 : vs 5 = _ := hf 5 (by simp)
              rw [e5]
              have e6 : vs 6 = _ := hf 6 (by simp)
              rw [e6]
              have e7 : vs 7 = _ := hf 7 (by simp)
              rw [e7]
              have hcq := unhide hfn N (px, py, pz) wq ((unhide hbw).trans (hC.mono (unhide hbw).size)) (unhide hpk)
              replace hcq := hide hcq
              go_wp2_with fail
              refine (unhide hcq).mono ?_
              rintro e wz ⟨rfl, hbz⟩
              clear hcq
              rw [unhide hq]
              go_wp2_with fail
              first | exact hC.trans (hbz.mono hC.size) | exact ⟨hC.trans (hbz.mono hC.size), hbz⟩ | exact ⟨hbz, hC.trans (hbz.mono hC.size)⟩
            · refine FrontStep.of [0, 1, 2, 3, 4, 5, 6, 7, 8] _ rfl (by kernel_rfl) ?_
              intro vs LL wq hLL hC hf
              simp only [putL, List.foldl_nil, List.foldl_cons, List.getElem?_cons_zero, List.getElem?_cons_succ]
              have e0 : vs 0 = _ := hf 0 (by simp)
              rw [e0]
              have e1 : vs 1 = _ := hf 1 (by simp)
              rw [e1]
              have e2 : vs 2 = _ := hf 2 (by simp)
              rw [e2]
              have e3 : vs 3 = _ := hf 3 (by simp)
              rw [e3]
              have e4 : vs 4 = _ := hf 4 (by simp)
              rw [e4]
              have e5 : vs 5 = _ := hf 5 (by simp)
              rw [e5]
              have e6 : vs 6 = _ := hf 6 (by simp)
              rw [e6]
              have e7 : vs 7 = _ := hf 7 (by simp)
              rw [e7]
              have e8 : vs 8 = _ := hf 8 (by simp)
              rw [e8]
              go_wp2_with fail
              first | exact Below.refl _ _ | exact ⟨Below.refl _ _, by omega⟩
          · intro vs LL wq hLL hC hf
            have e9 : vs 9 = _ := hf 9 (by omega)
            have e8 : vs 8 = _ := hf 8 (by omega)
            rw [putSome_all]
            simp only [putL, List.range, List.range.loop, List.foldl_nil, List.foldl_cons, List.getElem?_cons_zero, List.getElem?_cons_succ, List.drop_succ_cons, List.drop_zero]
            rw [e9, e8]
            clear e9 e8 hf hLL
            have hst := unhide hset wq hC (qx, qy, qz) hgi.1 hgi.2
            have k0 := cell_under r0 hC; have k1 := cell_under r1 hC; have k2 := cell_under r2 hC
            have f0' := frozen_under f0 r0 hC; have f1' := frozen_under f1 r1 hC; have f2' := frozen_under f2 r2 hC
            have hbz := (((((unhide hbw).trans (hC.mono (unhide hbw).size)).setCell (p := ⟨gk, i * 3, none⟩) hgkb (.int .i64 qx)).setCell (p := ⟨gk, i * 3 + 1, none⟩) hgkb (.int .i64 qy)).setCell (p := ⟨gk, i * 3 + 2, none⟩) hgkb (.bool qz))
            simp only at hst
            rw [unhide hss] at hst
            obtain ⟨wy, hwy⟩ : ∃ wy, ((wq.setCell ⟨gk, i * 3, none⟩ (.int .i64 qx)).setCell ⟨gk, i * 3 + 1, none⟩ (.int .i64 qy)).setCell ⟨gk, i * 3 + 2, none⟩ (.bool qz) = wy := ⟨_, rfl⟩
            rw [hwy] at hst hbz
            replace hst := hide hst; replace hbz := hide hbz
            clear hset hC hbw rc p0 p1 p2 r0 r1 r2 f0 f1 f2
            go_wp2_with fail
            go_roundw
            case rel => (have hN2 := unhide hN); exact ⟨i + 1, by omega, by go_num, by go_num, unhide hst, unhide hbz⟩
            case measure => simp [intOf]; omega
        · have hie : i = nx := by omega
          subst hie
          have hdone := stO_done (unhide hlen) (unhide hrl) (by rw [List.length_replicate]; exact Nat.le_refl i) (unhide himg)
          rw [hdone] at hoo
          rw [← unhide hL1]
          replace hoo := hide hoo; replace hbi := hide hbi; clear hdone
          go_wp2_with fail
          go_roundw
          case rel => exact ⟨k + 1, by omega, by go_num, rfl, unhide hoo, unhide hbi⟩
          case measure => simp [intOf]; omega
    · have hke : k = n := by omega
      subst hke
      rw [mix_all (by rw [imgO_len, unhide hn]; exact Nat.le_refl _) (by rw [List.length_replicate]; exact Nat.le_refl _)] at hoo
      replace hoo := hide hoo; replace hbw := hide hbw
      go_wp2_with fail
      go_ret
      exact ⟨_, rfl, by rw [unhide hob]; exact unhide hoo, unhide hbw⟩
set_option maxHeartbeats 8000000 in
set_option maxRecDepth 100000 in
theorem changed_shift (a : Option Addr) (n c : Nat) (o : Ot) (ka kb : Nat) (g : Nat → Pt → Pt) (w : World) (hl : Lst Enc.ct w (· < w.heap.size) a n o) (hs : Sml o) (hg : ∀ k p, I64 (g k p).1 ∧ I64 (g k p).2.1)
    (hfn : ∀ (k : Nat) (p : Pt) (w1 : World), Below w.heap.size w w1 → o.flatten[k]? = some p → Calls Try.prog 57 #[.int .i64 (k : Int), .agg #[.int .i64 p.1, .int .i64 p.2.1, .bool p.2.2], .pointer (some ⟨ka, 0, none⟩), .pointer (some ⟨kb, 0, none⟩)] w1 fun e w2 => e = .returned (.agg #[.int .i64 (g k p).1, .int .i64 (g k p).2.1, .bool (g k p).2.2]) ∧ Below w1.heap.size w1 w2) :
    Calls Try.prog 46 #[.slice a n c, .func (.func 57) #[] #[.pointer (some ⟨ka, 0, none⟩), .pointer (some ⟨kb, 0, none⟩)]] w fun e w' => ∃ v, e = .returned v ∧ OO w' w.heap.size v (imgO g 0 o) ∧ Below w.heap.size w w' := by
  have hn : o.length = n := hl.1
  have hn2 : n ≤ 1000 := by have := hs.1; omega
  have hmk := make_out n (by omega) w
  have hoo0 := oo_made n (by omega) w
  have hb0 := (Below.refl w.heap.size w).alloc (Nat.le_refl _) (.cells (madeCells #[Value.slice none 0 0] n) 54)
  have hlen : (imgO g 0 o).length = (List.replicate n ([] : List Pt)).length := by rw [imgO_len, List.length_replicate, hn]
  obtain ⟨ob, hob⟩ : ∃ ob, w.heap.size = ob := ⟨_, rfl⟩
  obtain ⟨W0, hW0⟩ : ∃ W0, w.alloc (.cells (madeCells #[Value.slice none 0 0] n) 54) = W0 := ⟨_, rfl⟩
  rw [hW0] at hmk hoo0 hb0
  rw [hob] at hmk hoo0
  replace hl := hide hl; replace hs := hide hs; replace hfn := hide hfn; replace hn := hide hn; replace hoo0 := hide hoo0; replace hb0 := hide hb0; replace hlen := hide hlen; replace hob := hide hob; replace hg := hide hg; replace hW0 := hide hW0
  go_enter Try.func46, Try.ntmps46
  go_wp2_with fail
  clear hmk hW0
  go_loopw [6, 16] (fun v6 v16 wr => ∃ k : Nat, k ≤ n ∧ v16 = .int .i64 (k : Int) ∧ v6 = .int .i64 (((o.take k).flatten.length : Nat) : Int) ∧ OO wr ob (.slice (some ⟨ob, 0, none⟩) n n) (mix (imgO g 0 o) (List.replicate n []) k) ∧ Below w.heap.size w wr) (fun _ v _ => (n - intOf v).toNat)
  case atStart => exact ⟨0, by omega, rfl, by simp, by rw [mix_zero]; exact unhide hoo0, unhide hb0⟩
  case round =>
    clear hoo0 hb0
    obtain ⟨k, hk, rfl, rfl, hoo, hbw⟩ := hrel
    obtain ⟨wo, rfl⟩ : ∃ wo : World, wo = wr := ⟨_, rfl⟩
    by_cases hlt : k < n
    · obtain ⟨b, off, x, ax, nx, cx, rfl, hb, hx, hnc, hcm, hlx, hcx⟩ := lst_list (unhide hl) hlt
      replace hcx := cell_under hcx hbw
      have hxl : x.length = nx := hlx.1
      have mx : nx ≤ 1000 := by have := (unhide hs).ct hx; omega
      obtain ⟨L, hL⟩ : ∃ L, (o.take k).flatten.length = L := ⟨_, rfl⟩
      have hL1 : (o.take (k + 1)).flatten.length = L + nx := by rw [take_flat_len hx, hL, hxl]
      have hLb : L ≤ 1000000 := by rw [← hL]; exact flat_len_le ((unhide hs).take k)
      have himg : (imgO g 0 o)[k]? = some (rowN g L x) := by rw [imgO_get g o 0 k x hx, Nat.zero_add, hL]
      have hfl : ∀ i p, x[i]? = some p → o.flatten[L + i]? = some p := fun i p hp => by
        have h1 : (o.take (k + 1)).flatten[L + i]? = some p := by rw [take_flat hx, List.getElem?_append_right (by omega), hL, Nat.add_sub_cancel_left, hp]
        have h2 : o.flatten = (o.take (k + 1)).flatten ++ (o.drop (k + 1)).flatten := by rw [← List.flatten_append, List.take_append_drop]
        rw [h2, List.getElem?_append_left ((List.getElem?_eq_some_iff.1 h1).1), h1]
      have hmk := make_ct nx (by omega) wo
      have hrw := rw_made nx (by omega) wo
      have hb1 := (Below.refl wo.heap.size wo).alloc (Nat.le_refl _) (.cells (madeCells #[Value.int .i64 0, .int .i64 0, .bool false] (nx * 3)) 56)
      obtain ⟨bx, hbx⟩ : ∃ bx, wo.heap.size = bx := ⟨_, rfl⟩
      obtain ⟨V1, hV1⟩ : ∃ V, wo.alloc (.cells (madeCells #[Value.int .i64 0, .int .i64 0, .bool false] (nx * 3)) 56) = V := ⟨_, rfl⟩
      rw [hV1] at hmk hrw hb1
      have hobs : ob ≤ wo.heap.size := by have := hbw.size; have := unhide hob; omega
      obtain ⟨z1, z2, z3, z4, z5, z6⟩ := hoo.putS hb1 hrw (k := k) (by rw [mix_len (unhide hlen), List.length_replicate]; omega) hobs
      have e0 : (mix (imgO g 0 o) (List.replicate n []) k).set k (List.replicate nx zP) = stO (imgO g 0 o) (List.replicate n []) (rowN g L x) (List.replicate nx zP) k 0 := by unfold stO; rw [mix_zero]
      rw [e0] at z4
      rw [hbx] at z4 hmk
      have hb2 := (hbw.trans (hb1.mono hbw.size)).setCell (p := ⟨ob, k, none⟩) (by show w.heap.size ≤ ob; have := unhide hob; omega) (.slice (some ⟨bx, 0, none⟩) nx nx)
      obtain ⟨V2, hV2⟩ : ∃ V2, V1.setCell ⟨ob, k, none⟩ (.slice (some ⟨bx, 0, none⟩) nx nx) = V2 := ⟨_, rfl⟩
      rw [hV2] at z4 hb2
      rw [hL]
      have hrl : (rowN g L x).length = (List.replicate nx zP).length := by rw [rowN_len, List.length_replicate, hxl]
      have t1 : (k : Int) < (n : Int) := by omega
      have hlx0 := hlx
      clear hb hnc hcm hrw hb1 hoo e0
      replace hlx := hide hlx; replace hx := hide hx; replace himg := hide himg; replace hfl := hide hfl; replace z4 := hide z4; replace hb2 := hide hb2; replace hxl := hide hxl; replace hrl := hide hrl; replace hL := hide hL; replace hL1 := hide hL1; replace hbw := hide hbw
      clear hlx0
      go_wp2_with fail
      clear hmk hV1 hV2 hbx z3 z6 hcx
      go_loopw [6, 29] (fun v6 v29 wi => ∃ i : Nat, i ≤ nx ∧ v29 = .int .i64 (i : Int) ∧ v6 = .int .i64 ((L + i : Nat) : Int) ∧ OO wi ob (.slice (some ⟨ob, 0, none⟩) n n) (stO (imgO g 0 o) (List.replicate n []) (rowN g L x) (List.replicate nx zP) k i) ∧ Below w.heap.size w wi) (fun _ v _ => (nx - intOf v).toNat)
      case atStart => exact ⟨0, by omega, rfl, rfl, unhide z4, unhide hb2⟩
      case round =>
        clear z4 hb2
        obtain ⟨i, hi, rfl, rfl, hoo, hbi⟩ := hrel
        obtain ⟨wi, rfl⟩ : ∃ wi : World, wi = wr := ⟨_, rfl⟩
        by_cases hlt2 : i < nx
        · obtain ⟨b2, o2, px, py, pz, rfl, _, hp, _, _, p0, p1, p2⟩ := lst_pt ((unhide hlx).under hbi) hlt2
          have hpk := unhide hfl i _ hp
          obtain ⟨N, hN⟩ : ∃ N, L + i = N := ⟨_, rfl⟩
          rw [hN] at hpk ⊢
          obtain ⟨⟨qx, qy, qz⟩, hq⟩ : ∃ q, g N (px, py, pz) = q := ⟨_, rfl⟩
          have hgi := unhide hg N (px, py, pz)
          rw [hq] at hgi
          have hrp : (rowN g L x)[i]? = some (qx, qy, qz) := by rw [rowN_get hp, hN, hq]
          have hgx : (stO (imgO g 0 o) (List.replicate n []) (rowN g L x) (List.replicate nx zP) k i)[k]? = some (mix (rowN g L x) (List.replicate nx zP) i) := stO_get i (unhide hlen) (by rw [List.length_replicate]; exact hlt)
          have hgp : (mix (rowN g L x) (List.replicate nx zP) i)[i]? = some zP := by rw [mix_get (unhide hrl), List.getElem?_replicate, if_pos hlt2]
          have hml : (mix (rowN g L x) (List.replicate nx zP) i).length = nx := by rw [mix_len (unhide hrl), List.length_replicate]
          have hss := stO_set (a := imgO g 0 o) (b := List.replicate n []) (k := k) (unhide hrl) hrp
          obtain ⟨bp, hbp⟩ : ∃ bp, wi.heap.size = bp := ⟨_, rfl⟩
          have hb3 := (Below.refl wi.heap.size wi).alloc (Nat.le_refl _) (.cells #[.int .i64 px, .int .i64 py, .bool pz] 56)
          have hn3 := heap_alloc_new wi (.cells #[.int .i64 px, .int .i64 py, .bool pz] 56)
          obtain ⟨V3, hV3⟩ : ∃ V3, wi.alloc (.cells #[.int .i64 px, .int .i64 py, .bool pz] 56) = V3 := ⟨_, rfl⟩
          rw [hV3] at hb3 hn3
          rw [hbp] at hn3
          have hoo3 := hoo.below hb3
          obtain ⟨gk, capk, rc, hgkb, hgks, hobs3, hgne, _, ⟨r0, r1, r2⟩, ⟨f0, f1, f2⟩, _, hset⟩ := hoo3.ptS hgx hgp
          rw [hml] at rc
          have c0 : V3.cell? ⟨bp, 0, none⟩ = some (.int .i64 px) := (cell_of_row _ _ 0 _ _ _ hn3).trans rfl
          have c1 : V3.cell? ⟨bp, 1, none⟩ = some (.int .i64 py) := (cell_of_row _ _ 1 _ _ _ hn3).trans rfl
          have c2 : V3.cell? ⟨bp, 2, none⟩ = some (.bool pz) := (cell_of_row _ _ 2 _ _ _ hn3).trans rfl
          have hbw3 := hbi.trans (hb3.mono hbi.size)
          replace hgkb : w.heap.size ≤ gk := by have := unhide hob; omega
          have t2 : (i : Int) < (nx : Int) := by omega
          have t3 : ¬ (nx : Int) ≤ (i : Int) := by omega
          have t4 : ¬ (n : Int) ≤ (k : Int) := by omega
          clear hn3 hoo hoo3 hb3 hgx hgp hml hrp hbi hp
          have hNb : N ≤ 1002000 := by omega
          replace hN := hide hN; replace hpk := hide hpk; replace hq := hide hq; replace hset := hide hset; replace hss := hide hss; replace hbw3 := hide hbw3
          go_wp2_with fail
          clear hV3 hbp p0 p1 p2
          have p0 := c0; have p1 := c1; have p2 := c2; have hbw2 := hbw3
          clear c0 c1 c2 hbw3 hbw
          have hbw := hbw2
          clear hbw2
          refine wp_region_frontG 10 (fun _ _ w' => Below V3.heap.size V3 w') (fun wa wb => Below wa.heap.size wa wb)
            (fun ix v w' => match ix with
              | 0 => v = .slice (some ⟨ob, 0, none⟩) n n
              | 1 => v = .int .i64 (k : Int)
              | 2 => v = .pointer (some ⟨ob, k, none⟩)
              | 3 => v = .slice (some ⟨gk, 0, none⟩) nx capk
              | 4 => v = .int .i64 (i : Int)
              | 5 => v = .func (.func 57) #[] #[.pointer (some ⟨ka, 0, none⟩), .pointer (some ⟨kb, 0, none⟩)]
              | 6 => v = .int .i64 (N : Int)
              | 7 => v = .agg #[.int .i64 px, .int .i64 py, .bool pz]
              | 8 => v = .agg #[.int .i64 qx, .int .i64 qy, .bool qz]
              | 9 => v = .pointer (some ⟨gk, i * 3, none⟩)
              | _ => True) (by rfl) (by kernel_rfl) ?_ ?_ ?_ ?_
          · exact (Below.refl _ _).drew
          · intro wa wb hR ix v hv
            match ix, hv with
            | 0, h => exact h
            | 1, h => exact h
            | 2, h => exact h
            | 3, h => exact h
            | 4, h => exact h
            | 5, h => exact h
            | 6, h => exact h
            | 7, h => exact h
            | 8, h => exact h
            | 9, h => exact h
            | _ + 10, _ => trivial
          · intro ix hix
            obtain rfl | rfl | rfl | rfl | rfl | rfl | rfl | rfl | rfl | rfl : ix = 0 ∨ ix = 1 ∨ ix = 2 ∨ ix = 3 ∨ ix = 4 ∨ ix = 5 ∨ ix = 6 ∨ ix = 7 ∨ ix = 8 ∨ ix = 9 := by omega
            · refine FrontStep.of [] _ rfl (by kernel_rfl) ?_
              intro vs LL wq hLL hC hf
              simp only [putL, List.foldl_nil]
              go_wp2_with fail
              first | exact Below.refl _ _ | exact ⟨Below.refl _ _, by omega⟩
            · refine FrontStep.of [] _ rfl (by kernel_rfl) ?_
              intro vs LL wq hLL hC hf
              simp only [putL, List.foldl_nil]
              go_wp2_with fail
              first | exact Below.refl _ _ | exact ⟨Below.refl _ _, by omega⟩
            · refine FrontStep.of [0, 1] _ rfl (by kernel_rfl) ?_
              intro vs LL wq hLL hC hf
              simp only [putL, List.foldl_nil, List.foldl_cons, List.getElem?_cons_zero, List.getElem?_cons_succ]
              have e0 : vs 0 = _ := hf 0 (by simp)
              rw [e0]
              have e1 : vs 1 = _ := hf 1 (by simp)
              rw [e1]
              go_wp2_with fail
              first | exact Below.refl _ _ | exact ⟨Below.refl _ _, by omega⟩
            · refine FrontStep.of [2] _ rfl (by kernel_rfl) ?_
              intro vs LL wq hLL hC hf
              simp only [putL, List.foldl_nil, List.foldl_cons, List.getElem?_cons_zero, List.getElem?_cons_succ]
              have e2 : vs 2 = _ := hf 2 (by simp)
              rw [e2]
              have hcq := cell_under rc hC
              go_wp2_with fail
              first | exact Below.refl _ _ | exact ⟨Below.refl _ _, by omega⟩
            · refine FrontStep.of [] _ rfl (by kernel_rfl) ?_
              intro vs LL wq hLL hC hf
              simp only [putL, List.foldl_nil]
              go_wp2_with fail
              first | exact Below.refl _ _ | exact ⟨Below.refl _ _, by omega⟩
            · refine FrontStep.of [] _ rfl (by kernel_rfl) ?_
              intro vs LL wq hLL hC hf
              simp only [putL, List.foldl_nil]
              go_wp2_with fail
              first | exact Below.refl _ _ | exact ⟨Below.refl _ _, by omega⟩
            · refine FrontStep.of [] _ rfl (by kernel_rfl) ?_
              intro vs LL wq hLL hC hf
              simp only [putL, List.foldl_nil]
              go_wp2_with fail
              first | exact Below.refl _ _ | exact ⟨Below.refl _ _, by omega⟩
            · refine FrontStep.of [] _ rfl (by kernel_rfl) ?_
              intro vs LL wq hLL hC hf
              simp only [putL, List.foldl_nil]
              have hcq0 := cell_under p0 hC
              have hcq1 := cell_under p1 hC
              have hcq2 := cell_under p2 hC
              go_wp2_with fail
              first | exact Below.refl _ _ | exact ⟨Below.refl _ _, by omega⟩
            · refine FrontStep.of [5, 6, 7] _ rfl (by kernel_rfl) ?_
              intro vs LL wq hLL hC hf
              simp only [putL, List.foldl_nil, List.foldl_cons, List.getElem?_cons_zero, List.getElem?_cons_succ]
              have e5 : vs 5 = _ := hf 5 (by simp)
              rw [e5]
              have e6 : vs 6 = _ := hf 6 (by simp)
              rw [e6]
              have e7 : vs 7 = _ := hf 7 (by simp)
              rw [e7]
              have hcq := unhide hfn N (px, py, pz) wq ((unhide hbw).trans (hC.mono (unhide hbw).size)) (unhide hpk)
              replace hcq := hide hcq
              go_wp2_with fail
              refine (unhide hcq).mono ?_
              rintro e wz ⟨rfl, hbz⟩
              clear hcq
              rw [unhide hq]
              go_wp2_with fail
              first | exact hC.trans (hbz.mono hC.size) | exact ⟨hC.trans (hbz.mono hC.size), hbz⟩ | exact ⟨hbz, hC.trans (hbz.mono hC.size)⟩
            · refine FrontStep.of [0, 1, 2, 3, 4, 5, 6, 7, 8] _ rfl (by kernel_rfl) ?_
              intro vs LL wq hLL hC hf
              simp only [putL, List.foldl_nil, List.foldl_cons, List.getElem?_cons_zero, List.getElem?_cons_succ]
              have e0 : vs 0 = _ := hf 0 (by simp)
              rw [e0]
              have e1 : vs 1 = _ := hf 1 (by simp)
              rw [e1]
              have e2 : vs 2 = _ := hf 2 (by simp)
              rw [e2]
              have e3 : vs 3 = _ := hf 3 (by simp)
              rw [e3]
              have e4 : vs 4 = _ := hf 4 (by simp)
              rw [e4]
              have e5 : vs 5 = _ := hf 5 (by simp)
              rw [e5]
              have e6 : vs 6 = _ := hf 6 (by simp)
              rw [e6]
              have e7 : vs 7 = _ := hf 7 (by simp)
              rw [e7]
              have e8 : vs 8 = _ := hf 8 (by simp)
              rw [e8]
              go_wp2_with fail
              first | exact Below.refl _ _ | exact ⟨Below.refl _ _, by omega⟩
          · intro vs LL wq hLL hC hf
            have e9 : vs 9 = _ := hf 9 (by omega)
            have e8 : vs 8 = _ := hf 8 (by omega)
            rw [putSome_all]
            simp only [putL, List.range, List.range.loop, List.foldl_nil, List.foldl_cons, List.getElem?_cons_zero, List.getElem?_cons_succ, List.drop_succ_cons, List.drop_zero]
            rw [e9, e8]
            clear e9 e8 hf hLL
            have hst := unhide hset wq hC (qx, qy, qz) hgi.1 hgi.2
            have k0 := cell_under r0 hC; have k1 := cell_under r1 hC; have k2 := cell_under r2 hC
            have f0' := frozen_under f0 r0 hC; have f1' := frozen_under f1 r1 hC; have f2' := frozen_under f2 r2 hC
            have hbz := (((((unhide hbw).trans (hC.mono (unhide hbw).size)).setCell (p := ⟨gk, i * 3, none⟩) hgkb (.int .i64 qx)).setCell (p := ⟨gk, i * 3 + 1, none⟩) hgkb (.int .i64 qy)).setCell (p := ⟨gk, i * 3 + 2, none⟩) hgkb (.bool qz))
            simp only at hst
            rw [unhide hss] at hst
            obtain ⟨wy, hwy⟩ : ∃ wy, ((wq.setCell ⟨gk, i * 3, none⟩ (.int .i64 qx)).setCell ⟨gk, i * 3 + 1, none⟩ (.int .i64 qy)).setCell ⟨gk, i * 3 + 2, none⟩ (.bool qz) = wy := ⟨_, rfl⟩
            rw [hwy] at hst hbz
            replace hst := hide hst; replace hbz := hide hbz
            clear hset hC hbw rc p0 p1 p2 r0 r1 r2 f0 f1 f2
            go_wp2_with fail
            go_roundw
            case rel => (have hN2 := unhide hN); exact ⟨i + 1, by omega, by go_num, by go_num, unhide hst, unhide hbz⟩
            case measure => simp [intOf]; omega
        · have hie : i = nx := by omega
          subst hie
          have hdone := stO_done (unhide hlen) (unhide hrl) (by rw [List.length_replicate]; exact Nat.le_refl i) (unhide himg)
          rw [hdone] at hoo
          rw [← unhide hL1]
          replace hoo := hide hoo; replace hbi := hide hbi; clear hdone
          go_wp2_with fail
          go_roundw
          case rel => exact ⟨k + 1, by omega, by go_num, rfl, unhide hoo, unhide hbi⟩
          case measure => simp [intOf]; omega
    · have hke : k = n := by omega
      subst hke
      rw [mix_all (by rw [imgO_len, unhide hn]; exact Nat.le_refl _) (by rw [List.length_replicate]; exact Nat.le_refl _)] at hoo
      replace hoo := hide hoo; replace hbw := hide hbw
      go_wp2_with fail
      go_ret
      exact ⟨_, rfl, by rw [unhide hob]; exact unhide hoo, unhide hbw⟩
set_option maxHeartbeats 8000000 in
set_option maxRecDepth 100000 in
theorem changed_inst (a : Option Addr) (n c : Nat) (o : Ot) (ka kb : Nat) (g : Nat → Pt → Pt) (w : World) (hl : Lst Enc.ct w (· < w.heap.size) a n o) (hs : Sml o) (hg : ∀ k p, I64 (g k p).1 ∧ I64 (g k p).2.1)
    (hfn : ∀ (k : Nat) (p : Pt) (w1 : World), Below w.heap.size w w1 → o.flatten[k]? = some p → Calls Try.prog 47 #[.int .i64 (k : Int), .agg #[.int .i64 p.1, .int .i64 p.2.1, .bool p.2.2], .pointer (some ⟨ka, 0, none⟩), .pointer (some ⟨kb, 0, none⟩)] w1 fun e w2 => e = .returned (.agg #[.int .i64 (g k p).1, .int .i64 (g k p).2.1, .bool (g k p).2.2]) ∧ Below w1.heap.size w1 w2) :
    Calls Try.prog 46 #[.slice a n c, .func (.func 47) #[] #[.pointer (some ⟨ka, 0, none⟩), .pointer (some ⟨kb, 0, none⟩)]] w fun e w' => ∃ v, e = .returned v ∧ OO w' w.heap.size v (imgO g 0 o) ∧ Below w.heap.size w w' := by
  have hn : o.length = n := hl.1
  have hn2 : n ≤ 1000 := by have := hs.1; omega
  have hmk := make_out n (by omega) w
  have hoo0 := oo_made n (by omega) w
  have hb0 := (Below.refl w.heap.size w).alloc (Nat.le_refl _) (.cells (madeCells #[Value.slice none 0 0] n) 54)
  have hlen : (imgO g 0 o).length = (List.replicate n ([] : List Pt)).length := by rw [imgO_len, List.length_replicate, hn]
  obtain ⟨ob, hob⟩ : ∃ ob, w.heap.size = ob := ⟨_, rfl⟩
  obtain ⟨W0, hW0⟩ : ∃ W0, w.alloc (.cells (madeCells #[Value.slice none 0 0] n) 54) = W0 := ⟨_, rfl⟩
  rw [hW0] at hmk hoo0 hb0
  rw [hob] at hmk hoo0
  replace hl := hide hl; replace hs := hide hs; replace hfn := hide hfn; replace hn := hide hn; replace hoo0 := hide hoo0; replace hb0 := hide hb0; replace hlen := hide hlen; replace hob := hide hob; replace hg := hide hg; replace hW0 := hide hW0
  go_enter Try.func46, Try.ntmps46
  go_wp2_with fail
  clear hmk hW0
  go_loopw [6, 16] (fun v6 v16 wr => ∃ k : Nat, k ≤ n ∧ v16 = .int .i64 (k : Int) ∧ v6 = .int .i64 (((o.take k).flatten.length : Nat) : Int) ∧ OO wr ob (.slice (some ⟨ob, 0, none⟩) n n) (mix (imgO g 0 o) (List.replicate n []) k) ∧ Below w.heap.size w wr) (fun _ v _ => (n - intOf v).toNat)
  case atStart => exact ⟨0, by omega, rfl, by simp, by rw [mix_zero]; exact unhide hoo0, unhide hb0⟩
  case round =>
    clear hoo0 hb0
    obtain ⟨k, hk, rfl, rfl, hoo, hbw⟩ := hrel
    obtain ⟨wo, rfl⟩ : ∃ wo : World, wo = wr := ⟨_, rfl⟩
    by_cases hlt : k < n
    · obtain ⟨b, off, x, ax, nx, cx, rfl, hb, hx, hnc, hcm, hlx, hcx⟩ := lst_list (unhide hl) hlt
      replace hcx := cell_under hcx hbw
      have hxl : x.length = nx := hlx.1
      have mx : nx ≤ 1000 := by have := (unhide hs).ct hx; omega
      obtain ⟨L, hL⟩ : ∃ L, (o.take k).flatten.length = L := ⟨_, rfl⟩
      have hL1 : (o.take (k + 1)).flatten.length = L + nx := by rw [take_flat_len hx, hL, hxl]
      have hLb : L ≤ 1000000 := by rw [← hL]; exact flat_len_le ((unhide hs).take k)
      have himg : (imgO g 0 o)[k]? = some (rowN g L x) := by rw [imgO_get g o 0 k x hx, Nat.zero_add, hL]
      have hfl : ∀ i p, x[i]? = some p → o.flatten[L + i]? = some p := fun i p hp => by
        have h1 : (o.take (k + 1)).flatten[L + i]? = some p := by rw [take_flat hx, List.getElem?_append_right (by omega), hL, Nat.add_sub_cancel_left, hp]
        have h2 : o.flatten = (o.take (k + 1)).flatten ++ (o.drop (k + 1)).flatten := by rw [← List.flatten_append, List.take_append_drop]
        rw [h2, List.getElem?_append_left ((List.getElem?_eq_some_iff.1 h1).1), h1]
      have hmk := make_ct nx (by omega) wo
      have hrw := rw_made nx (by omega) wo
      have hb1 := (Below.refl wo.heap.size wo).alloc (Nat.le_refl _) (.cells (madeCells #[Value.int .i64 0, .int .i64 0, .bool false] (nx * 3)) 56)
      obtain ⟨bx, hbx⟩ : ∃ bx, wo.heap.size = bx := ⟨_, rfl⟩
      obtain ⟨V1, hV1⟩ : ∃ V, wo.alloc (.cells (madeCells #[Value.int .i64 0, .int .i64 0, .bool false] (nx * 3)) 56) = V := ⟨_, rfl⟩
      rw [hV1] at hmk hrw hb1
      have hobs : ob ≤ wo.heap.size := by have := hbw.size; have := unhide hob; omega
      obtain ⟨z1, z2, z3, z4, z5, z6⟩ := hoo.putS hb1 hrw (k := k) (by rw [mix_len (unhide hlen), List.length_replicate]; omega) hobs
      have e0 : (mix (imgO g 0 o) (List.replicate n []) k).set k (List.replicate nx zP) = stO (imgO g 0 o) (List.replicate n []) (rowN g L x) (List.replicate nx zP) k 0 := by unfold stO; rw [mix_zero]
      rw [e0] at z4
      rw [hbx] at z4 hmk
      have hb2 := (hbw.trans (hb1.mono hbw.size)).setCell (p := ⟨ob, k, none⟩) (by show w.heap.size ≤ ob; have := unhide hob; omega) (.slice (some ⟨bx, 0, none⟩) nx nx)
      obtain ⟨V2, hV2⟩ : ∃ V2, V1.setCell ⟨ob, k, none⟩ (.slice (some ⟨bx, 0, none⟩) nx nx) = V2 := ⟨_, rfl⟩
      rw [hV2] at z4 hb2
      rw [hL]
      have hrl : (rowN g L x).length = (List.replicate nx zP).length := by rw [rowN_len, List.length_replicate, hxl]
      have t1 : (k : Int) < (n : Int) := by omega
      have hlx0 := hlx
      clear hb hnc hcm hrw hb1 hoo e0
      replace hlx := hide hlx; replace hx := hide hx; replace himg := hide himg; replace hfl := hide hfl; replace z4 := hide z4; replace hb2 := hide hb2; replace hxl := hide hxl; replace hrl := hide hrl; replace hL := hide hL; replace hL1 := hide hL1; replace hbw := hide hbw
      clear hlx0
      go_wp2_with fail
      clear hmk hV1 hV2 hbx z3 z6 hcx
      go_loopw [6, 29] (fun v6 v29 wi => ∃ i : Nat, i ≤ nx ∧ v29 = .int .i64 (i : Int) ∧ v6 = .int .i64 ((L + i : Nat) : Int) ∧ OO wi ob (.slice (some ⟨ob, 0, none⟩) n n) (stO (imgO g 0 o) (List.replicate n []) (rowN g L x) (List.replicate nx zP) k i) ∧ Below w.heap.size w wi) (fun _ v _ => (nx - intOf v).toNat)
      case atStart => exact ⟨0, by omega, rfl, rfl, unhide z4, unhide hb2⟩
      case round =>
        clear z4 hb2
        obtain ⟨i, hi, rfl, rfl, hoo, hbi⟩ := hrel
        obtain ⟨wi, rfl⟩ : ∃ wi : World, wi = wr := ⟨_, rfl⟩
        by_cases hlt2 : i < nx
        · obtain ⟨b2, o2, px, py, pz, rfl, _, hp, _, _, p0, p1, p2⟩ := lst_pt ((unhide hlx).under hbi) hlt2
          have hpk := unhide hfl i _ hp
          obtain ⟨N, hN⟩ : ∃ N, L + i = N := ⟨_, rfl⟩
          rw [hN] at hpk ⊢
          obtain ⟨⟨qx, qy, qz⟩, hq⟩ : ∃ q, g N (px, py, pz) = q := ⟨_, rfl⟩
          have hgi := unhide hg N (px, py, pz)
          rw [hq] at hgi
          have hrp : (rowN g L x)[i]? = some (qx, qy, qz) := by rw [rowN_get hp, hN, hq]
          have hgx : (stO (imgO g 0 o) (List.replicate n []) (rowN g L x) (List.replicate nx zP) k i)[k]? = some (mix (rowN g L x) (List.replicate nx zP) i) := stO_get i (unhide hlen) (by rw [List.length_replicate]; exact hlt)
          have hgp : (mix (rowN g L x) (List.replicate nx zP) i)[i]? = some zP := by rw [mix_get (unhide hrl), List.getElem?_replicate, if_pos hlt2]
          have hml : (mix (rowN g L x) (List.replicate nx zP) i).length = nx := by rw [mix_len (unhide hrl), List.length_replicate]
          have hss := stO_set (a := imgO g 0 o) (b := List.replicate n []) (k := k) (unhide hrl) hrp
          obtain ⟨bp, hbp⟩ : ∃ bp, wi.heap.size = bp := ⟨_, rfl⟩
          have hb3 := (Below.refl wi.heap.size wi).alloc (Nat.le_refl _) (.cells #[.int .i64 px, .int .i64 py, .bool pz] 56)
          have hn3 := heap_alloc_new wi (.cells #[.int .i64 px, .int .i64 py, .bool pz] 56)
          obtain ⟨V3, hV3⟩ : ∃ V3, wi.alloc (.cells #[.int .i64 px, .int .i64 py, .bool pz] 56) = V3 := ⟨_, rfl⟩
          rw [hV3] at hb3 hn3
          rw [hbp] at hn3
          have hoo3 := hoo.below hb3
          obtain ⟨gk, capk, rc, hgkb, hgks, hobs3, hgne, _, ⟨r0, r1, r2⟩, ⟨f0, f1, f2⟩, _, hset⟩ := hoo3.ptS hgx hgp
          rw [hml] at rc
          have c0 : V3.cell? ⟨bp, 0, none⟩ = some (.int .i64 px) := (cell_of_row _ _ 0 _ _ _ hn3).trans rfl
          have c1 : V3.cell? ⟨bp, 1, none⟩ = some (.int .i64 py) := (cell_of_row _ _ 1 _ _ _ hn3).trans rfl
          have c2 : V3.cell? ⟨bp, 2, none⟩ = some (.bool pz) := (cell_of_row _ _ 2 _ _ _ hn3).trans rfl
          have hbw3 := hbi.trans (hb3.mono hbi.size)
          replace hgkb : w.heap.size ≤ gk := by have := unhide hob; omega
          have t2 : (i : Int) < (nx : Int) := by omega
          have t3 : ¬ (nx : Int) ≤ (i : Int) := by omega
          have t4 : ¬ (n : Int) ≤ (k : Int) := by omega
          clear hn3 hoo hoo3 hb3 hgx hgp hml hrp hbi hp
          have hNb : N ≤ 1002000 := by omega
          replace hN := hide hN; replace hpk := hide hpk; replace hq := hide hq; replace hset := hide hset; replace hss := hide hss; replace hbw3 := hide hbw3
          go_wp2_with fail
          clear hV3 hbp p0 p1 p2
          have p0 := c0; have p1 := c1; have p2 := c2; have hbw2 := hbw3
          clear c0 c1 c2 hbw3 hbw
          have hbw := hbw2
          clear hbw2
          refine wp_region_frontG 10 (fun _ _ w' => Below V3.heap.size V3 w') (fun wa wb => Below wa.heap.size wa wb)
            (fun ix v w' => match ix with
              | 0 => v = .slice (some ⟨ob, 0, none⟩) n n
              | 1 => v = .int .i64 (k : Int)
              | 2 => v = .pointer (some ⟨ob, k, none⟩)
              | 3 => v = .slice (some ⟨gk, 0, none⟩) nx capk
              | 4 => v = .int .i64 (i : Int)
              | 5 => v = .func (.func 47) #[] #[.pointer (some ⟨ka, 0, none⟩), .pointer (some ⟨kb, 0, none⟩)]
              | 6 => v = .int .i64 (N : Int)
              | 7 => v = .agg #[.int .i64 px, .int .i64 py, .bool pz]
              | 8 => v = .agg #[.int .i64 qx, .int .i64 qy, .bool qz]
              | 9 => v = .pointer (some ⟨gk, i * 3, none⟩)
              | _ => True) (by rfl) (by kernel_rfl) ?_ ?_ ?_ ?_
          · exact (Below.refl _ _).drew
          · intro wa wb hR ix v hv
            match ix, hv with
            | 0, h => exact h
            | 1, h => exact h
            | 2, h => exact h
            | 3, h => exact h
            | 4, h => exact h
            | 5, h => exact h
            | 6, h => exact h
            | 7, h => exact h
            | 8, h => exact h
            | 9, h => exact h
            | _ + 10, _ => trivial
          · intro ix hix
            obtain rfl | rfl | rfl | rfl | rfl | rfl | rfl | rfl | rfl | rfl : ix = 0 ∨ ix = 1 ∨ ix = 2 ∨ ix = 3 ∨ ix = 4 ∨ ix = 5 ∨ ix = 6 ∨ ix = 7 ∨ ix = 8 ∨ ix = 9 := by omega
            · refine FrontStep.of [] _ rfl (by kernel_rfl) ?_
              intro vs LL wq hLL hC hf
              simp only [putL, List.foldl_nil]
              go_wp2_with fail
              first | exact Below.refl _ _ | exact ⟨Below.refl _ _, by omega⟩
            · refine FrontStep.of [] _ rfl (by kernel_rfl) ?_
              intro vs LL wq hLL hC hf
              simp only [putL, List.foldl_nil]
              go_wp2_with fail
              first | exact Below.refl _ _ | exact ⟨Below.refl _ _, by omega⟩
            · refine FrontStep.of [0, 1] _ rfl (by kernel_rfl) ?_
              intro vs LL wq hLL hC hf
              simp only [putL, List.foldl_nil, List.foldl_cons, List.getElem?_cons_zero, List.getElem?_cons_succ]
              have e0 : vs 0 = _ := hf 0 (by simp)
              rw [e0]
              have e1 : vs 1 = _ := hf 1 (by simp)
              rw [e1]
              go_wp2_with fail
              first | exact Below.refl _ _ | exact ⟨Below.refl _ _, by omega⟩
            · refine FrontStep.of [2] _ rfl (by kernel_rfl) ?_
              intro vs LL wq hLL hC hf
              simp only [putL, List.foldl_nil, List.foldl_cons, List.getElem?_cons_zero, List.getElem?_cons_succ]
              have e2 : vs 2 = _ := hf 2 (by simp)
              rw [e2]
              have hcq := cell_under rc hC
              go_wp2_with fail
              first | exact Below.refl _ _ | exact ⟨Below.refl _ _, by omega⟩
            · refine FrontStep.of [] _ rfl (by kernel_rfl) ?_
              intro vs LL wq hLL hC hf
              simp only [putL, List.foldl_nil]
              go_wp2_with fail
              first | exact Below.refl _ _ | exact ⟨Below.refl _ _, by omega⟩
            · refine FrontStep.of [] _ rfl (by kernel_rfl) ?_
              intro vs LL wq hLL hC hf
              simp only [putL, List.foldl_nil]
              go_wp2_with fail
              first | exact Below.refl _ _ | exact ⟨Below.refl _ _, by omega⟩
            · refine FrontStep.of [] _ rfl (by kernel_rfl) ?_
              intro vs LL wq hLL hC hf
              simp only [putL, List.foldl_nil]
              go_wp2_with fail
              first | exact Below.refl _ _ | exact ⟨Below.refl _ _, by omega⟩
            · refine FrontStep.of [] _ rfl (by kernel_rfl) ?_
              intro vs LL wq hLL hC hf
              simp only [putL, List.foldl_nil]
              have hcq0 := cell_under p0 hC
              have hcq1 := cell_under p1 hC
              have hcq2 := cell_under p2 hC
              go_wp2_with fail
              first | exact Below.refl _ _ | exact ⟨Below.refl _ _, by omega⟩
            · refine FrontStep.of [5, 6, 7] _ rfl (by kernel_rfl) ?_
              intro vs LL wq hLL hC hf
              simp only [putL, List.foldl_nil, List.foldl_cons, List.getElem?_cons_zero, List.getElem?_cons_succ]
              have e5 : vs 5 = _ := hf 5 (by simp)
              rw [e5]
              have e6 : vs 6 = _ := hf 6 (by simp)
              rw [e6]
              have e7 : vs 7 = _ := hf 7 (by simp)
              rw [e7]
              have hcq := unhide hfn N (px, py, pz) wq ((unhide hbw).trans (hC.mono (unhide hbw).size)) (unhide hpk)
              replace hcq := hide hcq
              go_wp2_with fail
              refine (unhide hcq).mono ?_
              rintro e wz ⟨rfl, hbz⟩
              clear hcq
              rw [unhide hq]
              go_wp2_with fail
              first | exact hC.trans (hbz.mono hC.size) | exact ⟨hC.trans (hbz.mono hC.size), hbz⟩ | exact ⟨hbz, hC.trans (hbz.mono hC.size)⟩
            · refine FrontStep.of [0, 1, 2, 3, 4, 5, 6, 7, 8] _ rfl (by kernel_rfl) ?_
              intro vs LL wq hLL hC hf
              simp only [putL, List.foldl_nil, List.foldl_cons, List.getElem?_cons_zero, List.getElem?_cons_succ]
              have e0 : vs 0 = _ := hf 0 (by simp)
              rw [e0]
              have e1 : vs 1 = _ := hf 1 (by simp)
              rw [e1]
              have e2 : vs 2 = _ := hf 2 (by simp)
              rw [e2]
              have e3 : vs 3 = _ := hf 3 (by simp)
              rw [e3]
              have e4 : vs 4 = _ := hf 4 (by simp)
              rw [e4]
              have e5 : vs 5 = _ := hf 5 (by simp)
              rw [e5]
              have e6 : vs 6 = _ := hf 6 (by simp)
              rw [e6]
              have e7 : vs 7 = _ := hf 7 (by simp)
              rw [e7]
              have e8 : vs 8 = _ := hf 8 (by simp)
              rw [e8]
              go_wp2_with fail
              first | exact Below.refl _ _ | exact ⟨Below.refl _ _, by omega⟩
          · intro vs LL wq hLL hC hf
            have e9 : vs 9 = _ := hf 9 (by omega)
            have e8 : vs 8 = _ := hf 8 (by omega)
            rw [putSome_all]
            simp only [putL, List.range, List.range.loop, List.foldl_nil, List.foldl_cons, List.getElem?_cons_zero, List.getElem?_cons_succ, List.drop_succ_cons, List.drop_zero]
            rw [e9, e8]
            clear e9 e8 hf hLL
            have hst := unhide hset wq hC (qx, qy, qz) hgi.1 hgi.2
            have k0 := cell_under r0 hC; have k1 := cell_under r1 hC; have k2 := cell_under r2 hC
            have f0' := frozen_under f0 r0 hC; have f1' := frozen_under f1 r1 hC; have f2' := frozen_under f2 r2 hC
            have hbz := (((((unhide hbw).trans (hC.mono (unhide hbw).size)).setCell (p := ⟨gk, i * 3, none⟩) hgkb (.int .i64 qx)).setCell (p := ⟨gk, i * 3 + 1, none⟩) hgkb (.int .i64 qy)).setCell (p := ⟨gk, i * 3 + 2, none⟩) hgkb (.bool qz))
            simp only at hst
            rw [unhide hss] at hst
            obtain ⟨wy, hwy⟩ : ∃ wy, ((wq.setCell ⟨gk, i * 3, none⟩ (.int .i64 qx)).setCell ⟨gk, i * 3 + 1, none⟩ (.int .i64 qy)).setCell ⟨gk, i * 3 + 2, none⟩ (.bool qz) = wy := ⟨_, rfl⟩
            rw [hwy] at hst hbz
            replace hst := hide hst; replace hbz := hide hbz
            clear hset hC hbw rc p0 p1 p2 r0 r1 r2 f0 f1 f2
            go_wp2_with fail
            go_roundw
            case rel => (have hN2 := unhide hN); exact ⟨i + 1, by omega, by go_num, by go_num, unhide hst, unhide hbz⟩
            case measure => simp [intOf]; omega
        · have hie : i = nx := by omega
          subst hie
          have hdone := stO_done (unhide hlen) (unhide hrl) (by rw [List.length_replicate]; exact Nat.le_refl i) (unhide himg)
          rw [hdone] at hoo
          rw [← unhide hL1]
          replace hoo := hide hoo; replace hbi := hide hbi; clear hdone
          go_wp2_with fail
          go_roundw
          case rel => exact ⟨k + 1, by omega, by go_num, rfl, unhide hoo, unhide hbi⟩
          case measure => simp [intOf]; omega
    · have hke : k = n := by omega
      subst hke
      rw [mix_all (by rw [imgO_len, unhide hn]; exact Nat.le_refl _) (by rw [List.length_replicate]; exact Nat.le_refl _)] at hoo
      replace hoo := hide hoo; replace hbw := hide hbw
      go_wp2_with fail
      go_ret
      exact ⟨_, rfl, by rw [unhide hob]; exact unhide hoo, unhide hbw⟩
end Go.Proofs.Ytbodidhggdggmaa
