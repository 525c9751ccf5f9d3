/- The reference's Scale and Shift. -/
import Derived.Test.YtbodidhggdggmaaOlY
import Derived.Test.YtbodidhggdggmaaOlQ
import Derived.Test.YtbodidhggdggmaaFrontG
namespace Go.Proofs.Ytbodidhggdggmaa
open Go.RowKit
set_option maxHeartbeats 8000000 in
set_option maxRecDepth 100000 in
theorem rscale_any (a : Option Addr) (n c : Nat) (o : Ot) (m : Int) (w : World) (hl : Lst Enc.ct w (· < w.heap.size) a n o) (hs : Sml o) :
    Calls Try.prog 29 #[.slice a n c, .int .i64 m] w fun e w' => ∃ v, e = .returned v ∧ OO w' w.heap.size v (o.map (List.map (scP m))) ∧ Below w.heap.size w w' := by
  have hn : o.length = n := hl.1
  have hn2 : n ≤ 1000 := by have := hs.1; omega
  have hc := rcopy_any a n c o w hl hs
  have hlen : (o.map (List.map (scP m))).length = o.length := by rw [List.length_map]
  clear hl
  replace hs := hide hs; replace hn := hide hn; replace hlen := hide hlen; replace hc := hide hc
  go_enter Try.func29, Try.ntmps29
  go_wp2_with fail
  refine (unhide hc).mono ?_
  rintro e w1 ⟨v, rfl, hoo0, hb0⟩
  obtain ⟨ao, co, ev, _⟩ := hoo0.lst
  rw [unhide hn] at ev
  subst ev
  clear hc
  replace hoo0 := hide hoo0; replace hb0 := hide hb0
  go_wp2_with fail
  go_loopw [6] (fun v wr => ∃ k : Nat, k ≤ n ∧ v = .int .i64 (k : Int) ∧ OO wr w.heap.size (.slice ao n co) (mix (o.map (List.map (scP m))) o k) ∧ Below w.heap.size w wr) (fun v _ => (n - intOf v).toNat)
  case atStart => exact ⟨0, by omega, rfl, by rw [mix_zero]; exact unhide hoo0, unhide hb0⟩
  case round =>
    clear hoo0 hb0
    obtain ⟨k, hk, rfl, hoo, hbw⟩ := hrel
    obtain ⟨wo, rfl⟩ : ∃ wo : World, wo = wr := ⟨_, rfl⟩
    by_cases hlt : k < n
    · obtain ⟨x, hx⟩ : ∃ x, o[k]? = some x := ⟨_, List.getElem?_eq_getElem (by rw [unhide hn]; exact hlt)⟩
      obtain ⟨ob, hob⟩ : ∃ ob, ao = some ⟨ob, 0, none⟩ := by
        obtain ⟨ob, _, _, hv, _⟩ := hoo.ct (k := k) (c := x) (by rw [mix_get (unhide hlen), hx])
        exact ⟨ob, (Value.slice.inj hv).1⟩
      subst hob
      obtain ⟨nx, hnx⟩ : ∃ nx, x.length = nx := ⟨_, rfl⟩
      have mx : nx ≤ 1000 := by have := (unhide hs).ct hx; omega
      have himg : (o.map (List.map (scP m)))[k]? = some (x.map (scP m)) := by rw [List.getElem?_map, hx]; rfl
      have hrl : (x.map (scP m)).length = x.length := by rw [List.length_map]
      rw [← stO_start (r := x.map (scP m)) (unhide hlen) hx] at hoo
      have hkl : k < o.length := by rw [unhide hn]; exact hlt
      have t1 : (k : Int) < (n : Int) := by omega
      have t2 : ¬ (n : Int) ≤ (k : Int) := by omega
      replace hoo := hide hoo; replace hbw := hide hbw; replace hx := hide hx; replace himg := hide himg; replace hrl := hide hrl; replace hnx := hide hnx; replace hkl := hide hkl
      go_wp2_with fail
      go_loopw [7] (fun v wi => ∃ i : Nat, i ≤ nx ∧ v = .int .i64 (i : Int) ∧ OO wi w.heap.size (.slice (some ⟨ob, 0, none⟩) n co) (stO (o.map (List.map (scP m))) o (x.map (scP m)) x k i) ∧ Below w.heap.size w wi) (fun v _ => (nx - intOf v).toNat)
      case atStart => exact ⟨0, by omega, rfl, unhide hoo, unhide hbw⟩
      case round =>
        clear hoo hbw
        obtain ⟨i, hi, rfl, hoo, hbw⟩ := hrel
        obtain ⟨V, rfl⟩ : ∃ V : World, V = wr := ⟨_, rfl⟩
        have hgx := stO_get (r := x.map (scP m)) (z := x) i (unhide hlen) (unhide hkl)
        have hml : (mix (x.map (scP m)) x i).length = nx := by rw [mix_len (unhide hrl), unhide hnx]
        by_cases hlt2 : i < nx
        · obtain ⟨⟨px, py, pz⟩, hp⟩ : ∃ p, x[i]? = some p := ⟨_, List.getElem?_eq_getElem (by rw [unhide hnx]; exact hlt2)⟩
          have hgp : (mix (x.map (scP m)) x i)[i]? = some (px, py, pz) := by rw [mix_get (unhide hrl), hp]
          obtain ⟨gk, capk, rc, hgkb, hgks, hobs, hgne, _, ⟨r0, r1, r2⟩, ⟨f0, f1, f2⟩, hset, _⟩ := hoo.ptS hgx hgp
          rw [hml] at rc
          obtain ⟨X, hX⟩ : ∃ X, wrap64 (m * px) = X := ⟨_, rfl⟩
          obtain ⟨Y, hY⟩ : ∃ Y, wrap64 (m * py) = Y := ⟨_, rfl⟩
          have hXi : I64 X := by rw [← hX]; exact wrap_i64 _
          have hYi : I64 Y := by rw [← hY]; exact wrap_i64 _
          have hr0 := hX
          have hr1 := hY
          have hpyi : I64 py := by
            obtain ⟨uv, uc, u2, hv2, _, _, hc2, _, hrw2⟩ := hoo.ct hgx
            exact (hrw2.2 _ (List.mem_of_getElem? hgp)).2
          have hfp : (x.map (scP m))[i]? = some (X, Y, pz) := by rw [List.getElem?_map, hp, ← hX, ← hY]; simp only [Option.map_some, scP, Int.mul_comm]
          have hss := stO_set (a := o.map (List.map (scP m))) (b := o) (k := k) (unhide hrl) hfp
          have hl2 : ((mix (x.map (scP m)) x i).set i (X, py, pz)).length = nx := by rw [List.length_set]; exact hml
          have hg2 : ((stO (o.map (List.map (scP m))) o (x.map (scP m)) x k i).set k ((mix (x.map (scP m)) x i).set i (X, py, pz)))[k]? = some ((mix (x.map (scP m)) x i).set i (X, py, pz)) := List.getElem?_set_self (by have := (List.getElem?_eq_some_iff.1 hgx).1; exact this)
          have hp2 : ((mix (x.map (scP m)) x i).set i (X, py, pz))[i]? = some (X, py, pz) := List.getElem?_set_self (by rw [hml]; exact hlt2)
          have t3 : (i : Int) < (nx : Int) := by omega
          have t4 : ¬ (nx : Int) ≤ (i : Int) := by omega
          clear hoo hp hX hY hgx hgp hfp
          replace hset := hide hset; replace hbw := hide hbw; replace hss := hide hss; replace hr0 := hide hr0; replace hr1 := hide hr1; replace hml := hide hml; replace hl2 := hide hl2; replace hg2 := hide hg2; replace hp2 := hide hp2
          go_wp2_with fail
          refine wp_region_frontG 17 (fun _ _ w' => Below V.heap.size V w') (fun wa wb => Below wa.heap.size wa wb)
            (fun ix v w' => match ix with
              | 0 => v = .slice (some ⟨ob, 0, none⟩) n co
              | 1 => v = .int .i64 (k : Int)
              | 2 => v = .pointer (some ⟨ob, k, none⟩)
              | 3 => v = .slice (some ⟨gk, 0, none⟩) nx capk
              | 4 => v = .int .i64 (i : Int)
              | 5 => v = .int .i64 m
              | 6 => v = .slice (some ⟨ob, 0, none⟩) n co
              | 7 => v = .int .i64 (k : Int)
              | 8 => v = .pointer (some ⟨ob, k, none⟩)
              | 9 => v = .slice (some ⟨gk, 0, none⟩) nx capk
              | 10 => v = .int .i64 (i : Int)
              | 11 => v = .pointer (some ⟨gk, i * 3, none⟩)
              | 12 => v = .pointer (some ⟨gk, i * 3, none⟩)
              | 13 => v = .int .i64 px
              | 14 => v = .int .i64 X
              | 15 => v = .pointer (some ⟨gk, i * 3, none⟩)
              | 16 => v = .pointer (some ⟨gk, i * 3, none⟩)
              | _ => True) (by rfl) (by kernel_rfl) ?_ ?_ ?_ ?_
          · exact (Below.refl _ _).drew
          · intro wa wb hR ix v hv
            match ix, hv with
            | 0, h => exact h
            | 1, h => exact h
            | 2, h => exact h
            | 3, h => exact h
            | 4, h => exact h
            | 5, h => exact h
            | 6, h => exact h
            | 7, h => exact h
            | 8, h => exact h
            | 9, h => exact h
            | 10, h => exact h
            | 11, h => exact h
            | 12, h => exact h
            | 13, h => exact h
            | 14, h => exact h
            | 15, h => exact h
            | 16, h => exact h
            | _ + 17, _ => trivial
          · intro ix hix
            obtain rfl | rfl | rfl | rfl | rfl | rfl | rfl | rfl | rfl | rfl | rfl | rfl | rfl | rfl | rfl | rfl | rfl : ix = 0 ∨ ix = 1 ∨ ix = 2 ∨ ix = 3 ∨ ix = 4 ∨ ix = 5 ∨ ix = 6 ∨ ix = 7 ∨ ix = 8 ∨ ix = 9 ∨ ix = 10 ∨ ix = 11 ∨ ix = 12 ∨ ix = 13 ∨ ix = 14 ∨ ix = 15 ∨ ix = 16 := by omega
            · refine FrontStep.of [] _ rfl (by kernel_rfl) ?_
              intro vs LL wq hLL hC hf
              simp only [putL, List.foldl_nil]
              go_wp2_with fail
              first | exact Below.refl _ _ | exact ⟨Below.refl _ _, by omega⟩
            · refine FrontStep.of [] _ rfl (by kernel_rfl) ?_
              intro vs LL wq hLL hC hf
              simp only [putL, List.foldl_nil]
              go_wp2_with fail
              first | exact Below.refl _ _ | exact ⟨Below.refl _ _, by omega⟩
            · refine FrontStep.of [0, 1] _ rfl (by kernel_rfl) ?_
              intro vs LL wq hLL hC hf
              simp only [putL, List.foldl_nil, List.foldl_cons, List.getElem?_cons_zero, List.getElem?_cons_succ]
              have e0 : vs 0 = _ := hf 0 (by simp)
              rw [e0]
              have e1 : vs 1 = _ := hf 1 (by simp)
              rw [e1]
              go_wp2_with fail
              first | exact Below.refl _ _ | exact ⟨Below.refl _ _, by omega⟩
            · refine FrontStep.of [2] _ rfl (by kernel_rfl) ?_
              intro vs LL wq hLL hC hf
              simp only [putL, List.foldl_nil, List.foldl_cons, List.getElem?_cons_zero, List.getElem?_cons_succ]
              have e2 : vs 2 = _ := hf 2 (by simp)
              rw [e2]
              have hcq := cell_under rc hC
              go_wp2_with fail
              first | exact Below.refl _ _ | exact ⟨Below.refl _ _, by omega⟩
            · refine FrontStep.of [] _ rfl (by kernel_rfl) ?_
              intro vs LL wq hLL hC hf
              simp only [putL, List.foldl_nil]
              go_wp2_with fail
              first | exact Below.refl _ _ | exact ⟨Below.refl _ _, by omega⟩
            · refine FrontStep.of [] _ rfl (by kernel_rfl) ?_
              intro vs LL wq hLL hC hf
              simp only [putL, List.foldl_nil]
              go_wp2_with fail
              first | exact Below.refl _ _ | exact ⟨Below.refl _ _, by omega⟩
            · refine FrontStep.of [] _ rfl (by kernel_rfl) ?_
              intro vs LL wq hLL hC hf
              simp only [putL, List.foldl_nil]
              go_wp2_with fail
              first | exact Below.refl _ _ | exact ⟨Below.refl _ _, by omega⟩
            · refine FrontStep.of [] _ rfl (by kernel_rfl) ?_
              intro vs LL wq hLL hC hf
              simp only [putL, List.foldl_nil]
              go_wp2_with fail
              first | exact Below.refl _ _ | exact ⟨Below.refl _ _, by omega⟩
            · refine FrontStep.of [6, 7] _ rfl (by kernel_rfl) ?_
              intro vs LL wq hLL hC hf
              simp only [putL, List.foldl_nil, List.foldl_cons, List.getElem?_cons_zero, List.getElem?_cons_succ]
              have e6 : vs 6 = _ := hf 6 (by simp)
              rw [e6]
              have e7 : vs 7 = _ := hf 7 (by simp)
              rw [e7]
              go_wp2_with fail
              first | exact Below.refl _ _ | exact ⟨Below.refl _ _, by omega⟩
            · refine FrontStep.of [8] _ rfl (by kernel_rfl) ?_
              intro vs LL wq hLL hC hf
              simp only [putL, List.foldl_nil, List.foldl_cons, List.getElem?_cons_zero, List.getElem?_cons_succ]
              have e8 : vs 8 = _ := hf 8 (by simp)
              rw [e8]
              have hcq := cell_under rc hC
              go_wp2_with fail
              first | exact Below.refl _ _ | exact ⟨Below.refl _ _, by omega⟩
            · refine FrontStep.of [] _ rfl (by kernel_rfl) ?_
              intro vs LL wq hLL hC hf
              simp only [putL, List.foldl_nil]
              go_wp2_with fail
              first | exact Below.refl _ _ | exact ⟨Below.refl _ _, by omega⟩
            · refine FrontStep.of [9, 10] _ rfl (by kernel_rfl) ?_
              intro vs LL wq hLL hC hf
              simp only [putL, List.foldl_nil, List.foldl_cons, List.getElem?_cons_zero, List.getElem?_cons_succ]
              have e9 : vs 9 = _ := hf 9 (by simp)
              rw [e9]
              have e10 : vs 10 = _ := hf 10 (by simp)
              rw [e10]
              go_wp2_with fail
              first | exact Below.refl _ _ | exact ⟨Below.refl _ _, by omega⟩
            · refine FrontStep.of [11] _ rfl (by kernel_rfl) ?_
              intro vs LL wq hLL hC hf
              simp only [putL, List.foldl_nil, List.foldl_cons, List.getElem?_cons_zero, List.getElem?_cons_succ]
              have e11 : vs 11 = _ := hf 11 (by simp)
              rw [e11]
              go_wp2_with fail
              first | exact Below.refl _ _ | exact ⟨Below.refl _ _, by omega⟩
            · refine FrontStep.of [12] _ rfl (by kernel_rfl) ?_
              intro vs LL wq hLL hC hf
              simp only [putL, List.foldl_nil, List.foldl_cons, List.getElem?_cons_zero, List.getElem?_cons_succ]
              have e12 : vs 12 = _ := hf 12 (by simp)
              rw [e12]
              have hcq := cell_under r0 hC
              go_wp2_with fail
              first | exact Below.refl _ _ | exact ⟨Below.refl _ _, by omega⟩
            · refine FrontStep.of [5, 13] _ rfl (by kernel_rfl) ?_
              intro vs LL wq hLL hC hf
              simp only [putL, List.foldl_nil, List.foldl_cons, List.getElem?_cons_zero, List.getElem?_cons_succ]
              have e5 : vs 5 = _ := hf 5 (by simp)
              rw [e5]
              have e13 : vs 13 = _ := hf 13 (by simp)
              rw [e13]
              have hcr := unhide hr0
              go_wp2_with fail
              first | exact Below.refl _ _ | exact ⟨Below.refl _ _, by omega⟩
            · refine FrontStep.of [0, 1, 2, 3, 4, 5, 6, 7, 8, 9, 10, 11, 12, 13, 14] _ rfl (by kernel_rfl) ?_
              intro vs LL wq hLL hC hf
              simp only [putL, List.foldl_nil, List.foldl_cons, List.getElem?_cons_zero, List.getElem?_cons_succ]
              have e0 : vs 0 = _ := hf 0 (by simp)
              rw [e0]
              have e1 : vs 1 = _ := hf 1 (by simp)
              rw [e1]
              have e2 : vs 2 = _ := hf 2 (by simp)
              rw [e2]
              have e3 : vs 3 = _ := hf 3 (by simp)
              rw [e3]
              have e4 : vs 4 = _ := hf 4 (by simp)
              rw [e4]
              have e5 : vs 5 = _ := hf 5 (by simp)
              rw [e5]
              have e6 : vs 6 = _ := hf 6 (by simp)
              rw [e6]
              have e7 : vs 7 = _ := hf 7 (by simp)
              rw [e7]
              have e8 : vs 8 = _ := hf 8 (by simp)
              rw [e8]
              have e9 : vs 9 = _ := hf 9 (by simp)
              rw [e9]
              have e10 : vs 10 = _ := hf 10 (by simp)
              rw [e10]
              have e11 : vs 11 = _ := hf 11 (by simp)
              rw [e11]
              have e12 : vs 12 = _ := hf 12 (by simp)
              rw [e12]
              have e13 : vs 13 = _ := hf 13 (by simp)
              rw [e13]
              have e14 : vs 14 = _ := hf 14 (by simp)
              rw [e14]
              go_wp2_with fail
              first | exact Below.refl _ _ | exact ⟨Below.refl _ _, by omega⟩
            · refine FrontStep.of [0, 1, 2, 3, 4, 5, 6, 7, 8, 9, 10, 11, 12, 13, 14, 15] _ rfl (by kernel_rfl) ?_
              intro vs LL wq hLL hC hf
              simp only [putL, List.foldl_nil, List.foldl_cons, List.getElem?_cons_zero, List.getElem?_cons_succ]
              have e0 : vs 0 = _ := hf 0 (by simp)
              rw [e0]
              have e1 : vs 1 = _ := hf 1 (by simp)
              rw [e1]
              have e2 : vs 2 = _ := hf 2 (by simp)
              rw [e2]
              have e3 : vs 3 = _ := hf 3 (by simp)
              rw [e3]
              have e4 : vs 4 = _ := hf 4 (by simp)
              rw [e4]
              have e5 : vs 5 = _ := hf 5 (by simp)
              rw [e5]
              have e6 : vs 6 = _ := hf 6 (by simp)
              rw [e6]
              have e7 : vs 7 = _ := hf 7 (by simp)
              rw [e7]
              have e8 : vs 8 = _ := hf 8 (by simp)
              rw [e8]
              have e9 : vs 9 = _ := hf 9 (by simp)
              rw [e9]
              have e10 : vs 10 = _ := hf 10 (by simp)
              rw [e10]
              have e11 : vs 11 = _ := hf 11 (by simp)
              rw [e11]
              have e12 : vs 12 = _ := hf 12 (by simp)
              rw [e12]
              have e13 : vs 13 = _ := hf 13 (by simp)
              rw [e13]
              have e14 : vs 14 = _ := hf 14 (by simp)
              rw [e14]
              have e15 : vs 15 = _ := hf 15 (by simp)
              rw [e15]
              go_wp2_with fail
              first | exact Below.refl _ _ | exact ⟨Below.refl _ _, by omega⟩
          · intro vs LL wq hLL hC hf
            have e16 : vs 16 = _ := hf 16 (by omega)
            have e14 : vs 14 = _ := hf 14 (by omega)
            rw [putSome_all]
            simp only [putL, List.range, List.range.loop, List.foldl_nil, List.foldl_cons, List.getElem?_cons_zero, List.getElem?_cons_succ, List.drop_succ_cons, List.drop_zero]
            rw [e16, e14]
            clear e16 e14 hf hLL
            have hst := unhide hset wq hC 0 (.int .i64 X) (X, py, pz) (by decide) rfl hXi hpyi
            have kk := cell_under r0 hC
            have ff := frozen_under f0 r0 hC
            have hbz := (((unhide hbw).trans (hC.mono (unhide hbw).size)).setCell (p := ⟨gk, i * 3, none⟩) hgkb (.int .i64 X))
            obtain ⟨V9, hV9⟩ : ∃ V9, wq.setCell ⟨gk, i * 3, none⟩ (.int .i64 X) = V9 := ⟨_, rfl⟩
            simp only [Nat.add_zero] at hst
            rw [hV9] at hst hbz
            clear hset hC hbw rc r0 r1 r2 f0 f1 f2
            replace hst := hide hst; replace hbz := hide hbz
            go_simp
            go_wp2_with fail
            clear hV9 kk ff
            obtain ⟨V, rfl⟩ : ∃ V : World, V = V9 := ⟨_, rfl⟩
            clear hgkb
            obtain ⟨gk, capk, rc, hgkb, hgks, hobs, hgne, _, ⟨r0, r1, r2⟩, ⟨f0, f1, f2⟩, hset, _⟩ := (unhide hst).ptS (unhide hg2) (unhide hp2)
            rw [unhide hl2] at rc
            have hbw := hbz
            clear hst hbz
            replace hset := hide hset
            refine wp_region_frontG 17 (fun _ _ w' => Below V.heap.size V w') (fun wa wb => Below wa.heap.size wa wb)
              (fun ix v w' => match ix with
                | 0 => v = .slice (some ⟨ob, 0, none⟩) n co
                | 1 => v = .int .i64 (k : Int)
                | 2 => v = .pointer (some ⟨ob, k, none⟩)
                | 3 => v = .slice (some ⟨gk, 0, none⟩) nx capk
                | 4 => v = .int .i64 (i : Int)
                | 5 => v = .int .i64 m
                | 6 => v = .slice (some ⟨ob, 0, none⟩) n co
                | 7 => v = .int .i64 (k : Int)
                | 8 => v = .pointer (some ⟨ob, k, none⟩)
                | 9 => v = .slice (some ⟨gk, 0, none⟩) nx capk
                | 10 => v = .int .i64 (i : Int)
                | 11 => v = .pointer (some ⟨gk, i * 3, none⟩)
                | 12 => v = .pointer (some ⟨gk, i * 3 + 1, none⟩)
                | 13 => v = .int .i64 py
                | 14 => v = .int .i64 Y
                | 15 => v = .pointer (some ⟨gk, i * 3, none⟩)
                | 16 => v = .pointer (some ⟨gk, i * 3 + 1, none⟩)
                | _ => True) (by rfl) (by kernel_rfl) ?_ ?_ ?_ ?_
            · exact (Below.refl _ _).drew
            · intro wa wb hR ix v hv
              match ix, hv with
              | 0, h => exact h
              | 1, h => exact h
              | 2, h => exact h
              | 3, h => exact h
              | 4, h => exact h
              | 5, h => exact h
              | 6, h => exact h
              | 7, h => exact h
              | 8, h => exact h
              | 9, h => exact h
              | 10, h => exact h
              | 11, h => exact h
              | 12, h => exact h
              | 13, h => exact h
              | 14, h => exact h
              | 15, h => exact h
              | 16, h => exact h
              | _ + 17, _ => trivial
            · intro ix hix
              obtain rfl | rfl | rfl | rfl | rfl | rfl | rfl | rfl | rfl | rfl | rfl | rfl | rfl | rfl | rfl | rfl | rfl : ix = 0 ∨ ix = 1 ∨ ix = 2 ∨ ix = 3 ∨ ix = 4 ∨ ix = 5 ∨ ix = 6 ∨ ix = 7 ∨ ix = 8 ∨ ix = 9 ∨ ix = 10 ∨ ix = 11 ∨ ix = 12 ∨ ix = 13 ∨ ix = 14 ∨ ix = 15 ∨ ix = 16 := by omega
              · refine FrontStep.of [] _ rfl (by kernel_rfl) ?_
                intro vs LL wq hLL hC hf
                simp only [putL, List.foldl_nil]
                go_wp2_with fail
                first | exact Below.refl _ _ | exact ⟨Below.refl _ _, by omega⟩
              · refine FrontStep.of [] _ rfl (by kernel_rfl) ?_
                intro vs LL wq hLL hC hf
                simp only [putL, List.foldl_nil]
                go_wp2_with fail
                first | exact Below.refl _ _ | exact ⟨Below.refl _ _, by omega⟩
              · refine FrontStep.of [0, 1] _ rfl (by kernel_rfl) ?_
                intro vs LL wq hLL hC hf
                simp only [putL, List.foldl_nil, List.foldl_cons, List.getElem?_cons_zero, List.getElem?_cons_succ]
                have e0 : vs 0 = _ := hf 0 (by simp)
                rw [e0]
                have e1 : vs 1 = _ := hf 1 (by simp)
                rw [e1]
                go_wp2_with fail
                first | exact Below.refl _ _ | exact ⟨Below.refl _ _, by omega⟩
              · refine FrontStep.of [2] _ rfl (by kernel_rfl) ?_
                intro vs LL wq hLL hC hf
                simp only [putL, List.foldl_nil, List.foldl_cons, List.getElem?_cons_zero, List.getElem?_cons_succ]
                have e2 : vs 2 = _ := hf 2 (by simp)
                rw [e2]
                have hcq := cell_under rc hC
                go_wp2_with fail
                first | exact Below.refl _ _ | exact ⟨Below.refl _ _, by omega⟩
              · refine FrontStep.of [] _ rfl (by kernel_rfl) ?_
                intro vs LL wq hLL hC hf
                simp only [putL, List.foldl_nil]
                go_wp2_with fail
                first | exact Below.refl _ _ | exact ⟨Below.refl _ _, by omega⟩
              · refine FrontStep.of [] _ rfl (by kernel_rfl) ?_
                intro vs LL wq hLL hC hf
                simp only [putL, List.foldl_nil]
                go_wp2_with fail
                first | exact Below.refl _ _ | exact ⟨Below.refl _ _, by omega⟩
              · refine FrontStep.of [] _ rfl (by kernel_rfl) ?_
                intro vs LL wq hLL hC hf
                simp only [putL, List.foldl_nil]
                go_wp2_with fail
                first | exact Below.refl _ _ | exact ⟨Below.refl _ _, by omega⟩
              · refine FrontStep.of [] _ rfl (by kernel_rfl) ?_
                intro vs LL wq hLL hC hf
                simp only [putL, List.foldl_nil]
                go_wp2_with fail
                first | exact Below.refl _ _ | exact ⟨Below.refl _ _, by omega⟩
              · refine FrontStep.of [6, 7] _ rfl (by kernel_rfl) ?_
                intro vs LL wq hLL hC hf
                simp only [putL, List.foldl_nil, List.foldl_cons, List.getElem?_cons_zero, List.getElem?_cons_succ]
                have e6 : vs 6 = _ := hf 6 (by simp)
                rw [e6]
                have e7 : vs 7 = _ := hf 7 (by simp)
                rw [e7]
                go_wp2_with fail
                first | exact Below.refl _ _ | exact ⟨Below.refl _ _, by omega⟩
              · refine FrontStep.of [8] _ rfl (by kernel_rfl) ?_
                intro vs LL wq hLL hC hf
                simp only [putL, List.foldl_nil, List.foldl_cons, List.getElem?_cons_zero, List.getElem?_cons_succ]
                have e8 : vs 8 = _ := hf 8 (by simp)
                rw [e8]
                have hcq := cell_under rc hC
                go_wp2_with fail
                first | exact Below.refl _ _ | exact ⟨Below.refl _ _, by omega⟩
              · refine FrontStep.of [] _ rfl (by kernel_rfl) ?_
                intro vs LL wq hLL hC hf
                simp only [putL, List.foldl_nil]
                go_wp2_with fail
                first | exact Below.refl _ _ | exact ⟨Below.refl _ _, by omega⟩
              · refine FrontStep.of [9, 10] _ rfl (by kernel_rfl) ?_
                intro vs LL wq hLL hC hf
                simp only [putL, List.foldl_nil, List.foldl_cons, List.getElem?_cons_zero, List.getElem?_cons_succ]
                have e9 : vs 9 = _ := hf 9 (by simp)
                rw [e9]
                have e10 : vs 10 = _ := hf 10 (by simp)
                rw [e10]
                go_wp2_with fail
                first | exact Below.refl _ _ | exact ⟨Below.refl _ _, by omega⟩
              · refine FrontStep.of [11] _ rfl (by kernel_rfl) ?_
                intro vs LL wq hLL hC hf
                simp only [putL, List.foldl_nil, List.foldl_cons, List.getElem?_cons_zero, List.getElem?_cons_succ]
                have e11 : vs 11 = _ := hf 11 (by simp)
                rw [e11]
                go_wp2_with fail
                first | exact Below.refl _ _ | exact ⟨Below.refl _ _, by omega⟩
              · refine FrontStep.of [12] _ rfl (by kernel_rfl) ?_
                intro vs LL wq hLL hC hf
                simp only [putL, List.foldl_nil, List.foldl_cons, List.getElem?_cons_zero, List.getElem?_cons_succ]
                have e12 : vs 12 = _ := hf 12 (by simp)
                rw [e12]
                have hcq := cell_under r1 hC
                go_wp2_with fail
                first | exact Below.refl _ _ | exact ⟨Below.refl _ _, by omega⟩
              · refine FrontStep.of [5, 13] _ rfl (by kernel_rfl) ?_
                intro vs LL wq hLL hC hf
                simp only [putL, List.foldl_nil, List.foldl_cons, List.getElem?_cons_zero, List.getElem?_cons_succ]
                have e5 : vs 5 = _ := hf 5 (by simp)
                rw [e5]
                have e13 : vs 13 = _ := hf 13 (by simp)
                rw [e13]
                have hcr := unhide hr1
                go_wp2_with fail
                first | exact Below.refl _ _ | exact ⟨Below.refl _ _, by omega⟩
              · refine FrontStep.of [0, 1, 2, 3, 4, 5, 6, 7, 8, 9, 10, 11, 12, 13, 14] _ rfl (by kernel_rfl) ?_
                intro vs LL wq hLL hC hf
                simp only [putL, List.foldl_nil, List.foldl_cons, List.getElem?_cons_zero, List.getElem?_cons_succ]
                have e0 : vs 0 = _ := hf 0 (by simp)
                rw [e0]
                have e1 : vs 1 = _ := hf 1 (by simp)
                rw [e1]
                have e2 : vs 2 = _ := hf 2 (by simp)
                rw [e2]
                have e3 : vs 3 = _ := hf 3 (by simp)
                rw [e3]
                have e4 : vs 4 = _ := hf 4 (by simp)
                rw [e4]
                have e5 : vs 5 = _ := hf 5 (by simp)
                rw [e5]
                have e6 : vs 6 = _ := hf 6 (by simp)
                rw [e6]
                have e7 : vs 7 = _ := hf 7 (by simp)
                rw [e7]
                have e8 : vs 8 = _ := hf 8 (by simp)
                rw [e8]
                have e9 : vs 9 = _ := hf 9 (by simp)
                rw [e9]
                have e10 : vs 10 = _ := hf 10 (by simp)
                rw [e10]
                have e11 : vs 11 = _ := hf 11 (by simp)
                rw [e11]
                have e12 : vs 12 = _ := hf 12 (by simp)
                rw [e12]
                have e13 : vs 13 = _ := hf 13 (by simp)
                rw [e13]
                have e14 : vs 14 = _ := hf 14 (by simp)
                rw [e14]
                go_wp2_with fail
                first | exact Below.refl _ _ | exact ⟨Below.refl _ _, by omega⟩
              · refine FrontStep.of [0, 1, 2, 3, 4, 5, 6, 7, 8, 9, 10, 11, 12, 13, 14, 15] _ rfl (by kernel_rfl) ?_
                intro vs LL wq hLL hC hf
                simp only [putL, List.foldl_nil, List.foldl_cons, List.getElem?_cons_zero, List.getElem?_cons_succ]
                have e0 : vs 0 = _ := hf 0 (by simp)
                rw [e0]
                have e1 : vs 1 = _ := hf 1 (by simp)
                rw [e1]
                have e2 : vs 2 = _ := hf 2 (by simp)
                rw [e2]
                have e3 : vs 3 = _ := hf 3 (by simp)
                rw [e3]
                have e4 : vs 4 = _ := hf 4 (by simp)
                rw [e4]
                have e5 : vs 5 = _ := hf 5 (by simp)
                rw [e5]
                have e6 : vs 6 = _ := hf 6 (by simp)
                rw [e6]
                have e7 : vs 7 = _ := hf 7 (by simp)
                rw [e7]
                have e8 : vs 8 = _ := hf 8 (by simp)
                rw [e8]
                have e9 : vs 9 = _ := hf 9 (by simp)
                rw [e9]
                have e10 : vs 10 = _ := hf 10 (by simp)
                rw [e10]
                have e11 : vs 11 = _ := hf 11 (by simp)
                rw [e11]
                have e12 : vs 12 = _ := hf 12 (by simp)
                rw [e12]
                have e13 : vs 13 = _ := hf 13 (by simp)
                rw [e13]
                have e14 : vs 14 = _ := hf 14 (by simp)
                rw [e14]
                have e15 : vs 15 = _ := hf 15 (by simp)
                rw [e15]
                go_wp2_with fail
                first | exact Below.refl _ _ | exact ⟨Below.refl _ _, by omega⟩
            · intro vs LL wq hLL hC hf
              have e16 : vs 16 = _ := hf 16 (by omega)
              have e14 : vs 14 = _ := hf 14 (by omega)
              rw [putSome_all]
              simp only [putL, List.range, List.range.loop, List.foldl_nil, List.foldl_cons, List.getElem?_cons_zero, List.getElem?_cons_succ, List.drop_succ_cons, List.drop_zero]
              rw [e16, e14]
              clear e16 e14 hf hLL
              have hst := unhide hset wq hC 1 (.int .i64 Y) (X, Y, pz) (by decide) rfl hXi hYi
              have kk := cell_under r1 hC
              have ff := frozen_under f1 r1 hC
              have hbz := (((unhide hbw).trans (hC.mono (unhide hbw).size)).setCell (p := ⟨gk, i * 3 + 1, none⟩) hgkb (.int .i64 Y))
              obtain ⟨V9, hV9⟩ : ∃ V9, wq.setCell ⟨gk, i * 3 + 1, none⟩ (.int .i64 Y) = V9 := ⟨_, rfl⟩
              skip
              rw [hV9] at hst hbz
              clear hset hC hbw rc r0 r1 r2 f0 f1 f2
              replace hst := hide hst; replace hbz := hide hbz
              go_simp
              go_wp2_with fail
              clear hV9 kk ff
              have hst2 := unhide hst
              rw [List.set_set, List.set_set, unhide hss] at hst2
              replace hst2 := hide hst2
              clear hst
              go_roundw
              case rel => exact ⟨i + 1, by omega, by go_num, unhide hst2, unhide hbz⟩
              case measure => simp [intOf]; omega
        · have hie : i = nx := by omega
          obtain ⟨a9, d9, hc9⟩ : ∃ a9 d9, V.cell? ⟨ob, k, none⟩ = some (.slice a9 nx d9) := by
            obtain ⟨g9, c9, u9, hv9, _, _, hc9, _, hrw9⟩ := hoo.ct hgx
            obtain ⟨e9, _⟩ := Value.slice.inj hv9
            injection e9 with e9
            injection e9 with e9
            obtain ⟨a9, d9, ev9, _⟩ := hrw9.lst
            rw [hml] at ev9
            exact ⟨a9, d9, by rw [e9, hc9, ev9]⟩
          have hdone := stO_done (a := o.map (List.map (scP m))) (b := o) (z := x) (k := k) (i := i) (unhide hlen) (unhide hrl) (by rw [unhide hnx]; omega) (unhide himg)
          rw [hdone] at hoo
          have t3 : ¬ (i : Int) < (nx : Int) := by omega
          have t4 : (nx : Int) ≤ (i : Int) := by omega
          clear hdone hgx hml
          replace hie := hide hie; replace hoo := hide hoo; replace hbw := hide hbw
          go_wp2_with fail
          go_roundw
          case rel => exact ⟨k + 1, by omega, by go_num, unhide hoo, unhide hbw⟩
          case measure => simp [intOf]; omega
    · have hke : k = n := by omega
      subst hke
      rw [mix_all (by rw [List.length_map, unhide hn]; exact Nat.le_refl _) (by rw [unhide hn]; exact Nat.le_refl _)] at hoo
      replace hoo := hide hoo; replace hbw := hide hbw
      go_wp2_with fail
      go_ret
      exact ⟨_, rfl, unhide hoo, unhide hbw⟩
set_option maxHeartbeats 8000000 in
set_option maxRecDepth 100000 in
theorem rshift_any (a : Option Addr) (n c : Nat) (o : Ot) (x0 y0 : Int) (w : World) (hl : Lst Enc.ct w (· < w.heap.size) a n o) (hs : Sml o) :
    Calls Try.prog 31 #[.slice a n c, .int .i64 x0, .int .i64 y0] w fun e w' => ∃ v, e = .returned v ∧ OO w' w.heap.size v (o.map (List.map (shP x0 y0))) ∧ Below w.heap.size w w' := by
  have hn : o.length = n := hl.1
  have hn2 : n ≤ 1000 := by have := hs.1; omega
  have hc := rcopy_any a n c o w hl hs
  have hlen : (o.map (List.map (shP x0 y0))).length = o.length := by rw [List.length_map]
  clear hl
  replace hs := hide hs; replace hn := hide hn; replace hlen := hide hlen; replace hc := hide hc
  go_enter Try.func31, Try.ntmps31
  go_wp2_with fail
  refine (unhide hc).mono ?_
  rintro e w1 ⟨v, rfl, hoo0, hb0⟩
  obtain ⟨ao, co, ev, _⟩ := hoo0.lst
  rw [unhide hn] at ev
  subst ev
  clear hc
  replace hoo0 := hide hoo0; replace hb0 := hide hb0
  go_wp2_with fail
  go_loopw [8] (fun v wr => ∃ k : Nat, k ≤ n ∧ v = .int .i64 (k : Int) ∧ OO wr w.heap.size (.slice ao n co) (mix (o.map (List.map (shP x0 y0))) o k) ∧ Below w.heap.size w wr) (fun v _ => (n - intOf v).toNat)
  case atStart => exact ⟨0, by omega, rfl, by rw [mix_zero]; exact unhide hoo0, unhide hb0⟩
  case round =>
    clear hoo0 hb0
    obtain ⟨k, hk, rfl, hoo, hbw⟩ := hrel
    obtain ⟨wo, rfl⟩ : ∃ wo : World, wo = wr := ⟨_, rfl⟩
    by_cases hlt : k < n
    · obtain ⟨x, hx⟩ : ∃ x, o[k]? = some x := ⟨_, List.getElem?_eq_getElem (by rw [unhide hn]; exact hlt)⟩
      obtain ⟨ob, hob⟩ : ∃ ob, ao = some ⟨ob, 0, none⟩ := by
        obtain ⟨ob, _, _, hv, _⟩ := hoo.ct (k := k) (c := x) (by rw [mix_get (unhide hlen), hx])
        exact ⟨ob, (Value.slice.inj hv).1⟩
      subst hob
      obtain ⟨nx, hnx⟩ : ∃ nx, x.length = nx := ⟨_, rfl⟩
      have mx : nx ≤ 1000 := by have := (unhide hs).ct hx; omega
      have himg : (o.map (List.map (shP x0 y0)))[k]? = some (x.map (shP x0 y0)) := by rw [List.getElem?_map, hx]; rfl
      have hrl : (x.map (shP x0 y0)).length = x.length := by rw [List.length_map]
      rw [← stO_start (r := x.map (shP x0 y0)) (unhide hlen) hx] at hoo
      have hkl : k < o.length := by rw [unhide hn]; exact hlt
      have t1 : (k : Int) < (n : Int) := by omega
      have t2 : ¬ (n : Int) ≤ (k : Int) := by omega
      replace hoo := hide hoo; replace hbw := hide hbw; replace hx := hide hx; replace himg := hide himg; replace hrl := hide hrl; replace hnx := hide hnx; replace hkl := hide hkl
      go_wp2_with fail
      go_loopw [9] (fun v wi => ∃ i : Nat, i ≤ nx ∧ v = .int .i64 (i : Int) ∧ OO wi w.heap.size (.slice (some ⟨ob, 0, none⟩) n co) (stO (o.map (List.map (shP x0 y0))) o (x.map (shP x0 y0)) x k i) ∧ Below w.heap.size w wi) (fun v _ => (nx - intOf v).toNat)
      case atStart => exact ⟨0, by omega, rfl, unhide hoo, unhide hbw⟩
      case round =>
        clear hoo hbw
        obtain ⟨i, hi, rfl, hoo, hbw⟩ := hrel
        obtain ⟨V, rfl⟩ : ∃ V : World, V = wr := ⟨_, rfl⟩
        have hgx := stO_get (r := x.map (shP x0 y0)) (z := x) i (unhide hlen) (unhide hkl)
        have hml : (mix (x.map (shP x0 y0)) x i).length = nx := by rw [mix_len (unhide hrl), unhide hnx]
        by_cases hlt2 : i < nx
        · obtain ⟨⟨px, py, pz⟩, hp⟩ : ∃ p, x[i]? = some p := ⟨_, List.getElem?_eq_getElem (by rw [unhide hnx]; exact hlt2)⟩
          have hgp : (mix (x.map (shP x0 y0)) x i)[i]? = some (px, py, pz) := by rw [mix_get (unhide hrl), hp]
          obtain ⟨gk, capk, rc, hgkb, hgks, hobs, hgne, _, ⟨r0, r1, r2⟩, ⟨f0, f1, f2⟩, hset, _⟩ := hoo.ptS hgx hgp
          rw [hml] at rc
          obtain ⟨X, hX⟩ : ∃ X, wrap64 (px + x0) = X := ⟨_, rfl⟩
          obtain ⟨Y, hY⟩ : ∃ Y, wrap64 (py + y0) = Y := ⟨_, rfl⟩
          have hXi : I64 X := by rw [← hX]; exact wrap_i64 _
          have hYi : I64 Y := by rw [← hY]; exact wrap_i64 _
          have hr0 := hX
          have hr1 := hY
          have hpyi : I64 py := by
            obtain ⟨uv, uc, u2, hv2, _, _, hc2, _, hrw2⟩ := hoo.ct hgx
            exact (hrw2.2 _ (List.mem_of_getElem? hgp)).2
          have hfp : (x.map (shP x0 y0))[i]? = some (X, Y, pz) := by rw [List.getElem?_map, hp, ← hX, ← hY]; rfl
          have hss := stO_set (a := o.map (List.map (shP x0 y0))) (b := o) (k := k) (unhide hrl) hfp
          have hl2 : ((mix (x.map (shP x0 y0)) x i).set i (X, py, pz)).length = nx := by rw [List.length_set]; exact hml
          have hg2 : ((stO (o.map (List.map (shP x0 y0))) o (x.map (shP x0 y0)) x k i).set k ((mix (x.map (shP x0 y0)) x i).set i (X, py, pz)))[k]? = some ((mix (x.map (shP x0 y0)) x i).set i (X, py, pz)) := List.getElem?_set_self (by have := (List.getElem?_eq_some_iff.1 hgx).1; exact this)
          have hp2 : ((mix (x.map (shP x0 y0)) x i).set i (X, py, pz))[i]? = some (X, py, pz) := List.getElem?_set_self (by rw [hml]; exact hlt2)
          have t3 : (i : Int) < (nx : Int) := by omega
          have t4 : ¬ (nx : Int) ≤ (i : Int) := by omega
          clear hoo hp hX hY hgx hgp hfp
          replace hset := hide hset; replace hbw := hide hbw; replace hss := hide hss; replace hr0 := hide hr0; replace hr1 := hide hr1; replace hml := hide hml; replace hl2 := hide hl2; replace hg2 := hide hg2; replace hp2 := hide hp2
          go_wp2_with fail
          refine wp_region_frontG 17 (fun _ _ w' => Below V.heap.size V w') (fun wa wb => Below wa.heap.size wa wb)
            (fun ix v w' => match ix with
              | 0 => v = .slice (some ⟨ob, 0, none⟩) n co
              | 1 => v = .int .i64 (k : Int)
              | 2 => v = .pointer (some ⟨ob, k, none⟩)
              | 3 => v = .slice (some ⟨gk, 0, none⟩) nx capk
              | 4 => v = .int .i64 (i : Int)
              | 5 => v = .slice (some ⟨ob, 0, none⟩) n co
              | 6 => v = .int .i64 (k : Int)
              | 7 => v = .pointer (some ⟨ob, k, none⟩)
              | 8 => v = .slice (some ⟨gk, 0, none⟩) nx capk
              | 9 => v = .int .i64 (i : Int)
              | 10 => v = .pointer (some ⟨gk, i * 3, none⟩)
              | 11 => v = .pointer (some ⟨gk, i * 3, none⟩)
              | 12 => v = .int .i64 px
              | 13 => v = .int .i64 x0
              | 14 => v = .int .i64 X
              | 15 => v = .pointer (some ⟨gk, i * 3, none⟩)
              | 16 => v = .pointer (some ⟨gk, i * 3, none⟩)
              | _ => True) (by rfl) (by kernel_rfl) ?_ ?_ ?_ ?_
          · exact (Below.refl _ _).drew
          · intro wa wb hR ix v hv
            match ix, hv with
            | 0, h => exact h
            | 1, h => exact h
            | 2, h => exact h
            | 3, h => exact h
            | 4, h => exact h
            | 5, h => exact h
            | 6, h => exact h
            | 7, h => exact h
            | 8, h => exact h
            | 9, h => exact h
            | 10, h => exact h
            | 11, h => exact h
            | 12, h => exact h
            | 13, h => exact h
            | 14, h => exact h
            | 15, h => exact h
            | 16, h => exact h
            | _ + 17, _ => trivial
          · intro ix hix
            obtain rfl | rfl | rfl | rfl | rfl | rfl | rfl | rfl | rfl | rfl | rfl | rfl | rfl | rfl | rfl | rfl | rfl : ix = 0 ∨ ix = 1 ∨ ix = 2 ∨ ix = 3 ∨ ix = 4 ∨ ix = 5 ∨ ix = 6 ∨ ix = 7 ∨ ix = 8 ∨ ix = 9 ∨ ix = 10 ∨ ix = 11 ∨ ix = 12 ∨ ix = 13 ∨ ix = 14 ∨ ix = 15 ∨ ix = 16 := by omega
            · refine FrontStep.of [] _ rfl (by kernel_rfl) ?_
              intro vs LL wq hLL hC hf
              simp only [putL, List.foldl_nil]
              go_wp2_with fail
              first | exact Below.refl _ _ | exact ⟨Below.refl _ _, by omega⟩
            · refine FrontStep.of [] _ rfl (by kernel_rfl) ?_
              intro vs LL wq hLL hC hf
              simp only [putL, List.foldl_nil]
              go_wp2_with fail
              first | exact Below.refl _ _ | exact ⟨Below.refl _ _, by omega⟩
            · refine FrontStep.of [0, 1] _ rfl (by kernel_rfl) ?_
              intro vs LL wq hLL hC hf
              simp only [putL, List.foldl_nil, List.foldl_cons, List.getElem?_cons_zero, List.getElem?_cons_succ]
              have e0 : vs 0 = _ := hf 0 (by simp)
              rw [e0]
              have e1 : vs 1 = _ := hf 1 (by simp)
              rw [e1]
              go_wp2_with fail
              first | exact Below.refl _ _ | exact ⟨Below.refl _ _, by omega⟩
            · refine FrontStep.of [2] _ rfl (by kernel_rfl) ?_
              intro vs LL wq hLL hC hf
              simp only [putL, List.foldl_nil, List.foldl_cons, List.getElem?_cons_zero, List.getElem?_cons_succ]
              have e2 : vs 2 = _ := hf 2 (by simp)
              rw [e2]
              have hcq := cell_under rc hC
              go_wp2_with fail
              first | exact Below.refl _ _ | exact ⟨Below.refl _ _, by omega⟩
            · refine FrontStep.of [] _ rfl (by kernel_rfl) ?_
              intro vs LL wq hLL hC hf
              simp only [putL, List.foldl_nil]
              go_wp2_with fail
              first | exact Below.refl _ _ | exact ⟨Below.refl _ _, by omega⟩
            · refine FrontStep.of [] _ rfl (by kernel_rfl) ?_
              intro vs LL wq hLL hC hf
              simp only [putL, List.foldl_nil]
              go_wp2_with fail
              first | exact Below.refl _ _ | exact ⟨Below.refl _ _, by omega⟩
            · refine FrontStep.of [] _ rfl (by kernel_rfl) ?_
              intro vs LL wq hLL hC hf
              simp only [putL, List.foldl_nil]
              go_wp2_with fail
              first | exact Below.refl _ _ | exact ⟨Below.refl _ _, by omega⟩
            · refine FrontStep.of [5, 6] _ rfl (by kernel_rfl) ?_
              intro vs LL wq hLL hC hf
              simp only [putL, List.foldl_nil, List.foldl_cons, List.getElem?_cons_zero, List.getElem?_cons_succ]
              have e5 : vs 5 = _ := hf 5 (by simp)
              rw [e5]
              have e6 : vs 6 = _ := hf 6 (by simp)
              rw [e6]
              go_wp2_with fail
              first | exact Below.refl _ _ | exact ⟨Below.refl _ _, by omega⟩
            · refine FrontStep.of [7] _ rfl (by kernel_rfl) ?_
              intro vs LL wq hLL hC hf
              simp only [putL, List.foldl_nil, List.foldl_cons, List.getElem?_cons_zero, List.getElem?_cons_succ]
              have e7 : vs 7 = _ := hf 7 (by simp)
              rw [e7]
              have hcq := cell_under rc hC
              go_wp2_with fail
              first | exact Below.refl _ _ | exact ⟨Below.refl _ _, by omega⟩
            · refine FrontStep.of [] _ rfl (by kernel_rfl) ?_
              intro vs LL wq hLL hC hf
              simp only [putL, List.foldl_nil]
              go_wp2_with fail
              first | exact Below.refl _ _ | exact ⟨Below.refl _ _, by omega⟩
            · refine FrontStep.of [8, 9] _ rfl (by kernel_rfl) ?_
              intro vs LL wq hLL hC hf
              simp only [putL, List.foldl_nil, List.foldl_cons, List.getElem?_cons_zero, List.getElem?_cons_succ]
              have e8 : vs 8 = _ := hf 8 (by simp)
              rw [e8]
              have e9 : vs 9 = _ := hf 9 (by simp)
              rw [e9]
              go_wp2_with fail
              first | exact Below.refl _ _ | exact ⟨Below.refl _ _, by omega⟩
            · refine FrontStep.of [10] _ rfl (by kernel_rfl) ?_
              intro vs LL wq hLL hC hf
              simp only [putL, List.foldl_nil, List.foldl_cons, List.getElem?_cons_zero, List.getElem?_cons_succ]
              have e10 : vs 10 = _ := hf 10 (by simp)
              rw [e10]
              go_wp2_with fail
              first | exact Below.refl _ _ | exact ⟨Below.refl _ _, by omega⟩
            · refine FrontStep.of [11] _ rfl (by kernel_rfl) ?_
              intro vs LL wq hLL hC hf
              simp only [putL, List.foldl_nil, List.foldl_cons, List.getElem?_cons_zero, List.getElem?_cons_succ]
              have e11 : vs 11 = _ := hf 11 (by simp)
              rw [e11]
              have hcq := cell_under r0 hC
              go_wp2_with fail
              first | exact Below.refl _ _ | exact ⟨Below.refl _ _, by omega⟩
            · refine FrontStep.of [] _ rfl (by kernel_rfl) ?_
              intro vs LL wq hLL hC hf
              simp only [putL, List.foldl_nil]
              go_wp2_with fail
              first | exact Below.refl _ _ | exact ⟨Below.refl _ _, by omega⟩
            · refine FrontStep.of [12, 13] _ rfl (by kernel_rfl) ?_
              intro vs LL wq hLL hC hf
              simp only [putL, List.foldl_nil, List.foldl_cons, List.getElem?_cons_zero, List.getElem?_cons_succ]
              have e12 : vs 12 = _ := hf 12 (by simp)
              rw [e12]
              have e13 : vs 13 = _ := hf 13 (by simp)
              rw [e13]
              have hcr := unhide hr0
              go_wp2_with fail
              first | exact Below.refl _ _ | exact ⟨Below.refl _ _, by omega⟩
            · refine FrontStep.of [0, 1, 2, 3, 4, 5, 6, 7, 8, 9, 10, 11, 12, 13, 14] _ rfl (by kernel_rfl) ?_
              intro vs LL wq hLL hC hf
              simp only [putL, List.foldl_nil, List.foldl_cons, List.getElem?_cons_zero, List.getElem?_cons_succ]
              have e0 : vs 0 = _ := hf 0 (by simp)
              rw [e0]
              have e1 : vs 1 = _ := hf 1 (by simp)
              rw [e1]
              have e2 : vs 2 = _ := hf 2 (by simp)
              rw [e2]
              have e3 : vs 3 = _ := hf 3 (by simp)
              rw [e3]
              have e4 : vs 4 = _ := hf 4 (by simp)
              rw [e4]
              have e5 : vs 5 = _ := hf 5 (by simp)
              rw [e5]
              have e6 : vs 6 = _ := hf 6 (by simp)
              rw [e6]
              have e7 : vs 7 = _ := hf 7 (by simp)
              rw [e7]
              have e8 : vs 8 = _ := hf 8 (by simp)
              rw [e8]
              have e9 : vs 9 = _ := hf 9 (by simp)
              rw [e9]
              have e10 : vs 10 = _ := hf 10 (by simp)
              rw [e10]
              have e11 : vs 11 = _ := hf 11 (by simp)
              rw [e11]
              have e12 : vs 12 = _ := hf 12 (by simp)
              rw [e12]
              have e13 : vs 13 = _ := hf 13 (by simp)
              rw [e13]
              have e14 : vs 14 = _ := hf 14 (by simp)
              rw [e14]
              go_wp2_with fail
              first | exact Below.refl _ _ | exact ⟨Below.refl _ _, by omega⟩
            · refine FrontStep.of [0, 1, 2, 3, 4, 5, 6, 7, 8, 9, 10, 11, 12, 13, 14, 15] _ rfl (by kernel_rfl) ?_
              intro vs LL wq hLL hC hf
              simp only [putL, List.foldl_nil, List.foldl_cons, List.getElem?_cons_zero, List.getElem?_cons_succ]
              have e0 : vs 0 = _ := hf 0 (by simp)
              rw [e0]
              have e1 : vs 1 = _ := hf 1 (by simp)
              rw [e1]
              have e2 : vs 2 = _ := hf 2 (by simp)
              rw [e2]
              have e3 : vs 3 = _ := hf 3 (by simp)
              rw [e3]
              have e4 : vs 4 = _ := hf 4 (by simp)
              rw [e4]
              have e5 : vs 5 = _ := hf 5 (by simp)
              rw [e5]
              have e6 : vs 6 = _ := hf 6 (by simp)
              rw [e6]
              have e7 : vs 7 = _ := hf 7 (by simp)
              rw [e7]
              have e8 : vs 8 = _ := hf 8 (by simp)
              rw [e8]
              have e9 : vs 9 = _ := hf 9 (by simp)
              rw [e9]
              have e10 : vs 10 = _ := hf 10 (by simp)
              rw [e10]
              have e11 : vs 11 = _ := hf 11 (by simp)
              rw [e11]
              have e12 : vs 12 = _ := hf 12 (by simp)
              rw [e12]
              have e13 : vs 13 = _ := hf 13 (by simp)
              rw [e13]
              have e14 : vs 14 = _ := hf 14 (by simp)
              rw [e14]
              have e15 : vs 15 = _ := hf 15 (by simp)
              rw [e15]
              go_wp2_with fail
              first | exact Below.refl _ _ | exact ⟨Below.refl _ _, by omega⟩
          · intro vs LL wq hLL hC hf
            have e16 : vs 16 = _ := hf 16 (by omega)
            have e14 : vs 14 = _ := hf 14 (by omega)
            rw [putSome_all]
            simp only [putL, List.range, List.range.loop, List.foldl_nil, List.foldl_cons, List.getElem?_cons_zero, List.getElem?_cons_succ, List.drop_succ_cons, List.drop_zero]
            rw [e16, e14]
            clear e16 e14 hf hLL
            have hst := unhide hset wq hC 0 (.int .i64 X) (X, py, pz) (by decide) rfl hXi hpyi
            have kk := cell_under r0 hC
            have ff := frozen_under f0 r0 hC
            have hbz := (((unhide hbw).trans (hC.mono (unhide hbw).size)).setCell (p := ⟨gk, i * 3, none⟩) hgkb (.int .i64 X))
            obtain ⟨V9, hV9⟩ : ∃ V9, wq.setCell ⟨gk, i * 3, none⟩ (.int .i64 X) = V9 := ⟨_, rfl⟩
            simp only [Nat.add_zero] at hst
            rw [hV9] at hst hbz
            clear hset hC hbw rc r0 r1 r2 f0 f1 f2
            replace hst := hide hst; replace hbz := hide hbz
            go_simp
            go_wp2_with fail
            clear hV9 kk ff
            obtain ⟨V, rfl⟩ : ∃ V : World, V = V9 := ⟨_, rfl⟩
            clear hgkb
            obtain ⟨gk, capk, rc, hgkb, hgks, hobs, hgne, _, ⟨r0, r1, r2⟩, ⟨f0, f1, f2⟩, hset, _⟩ := (unhide hst).ptS (unhide hg2) (unhide hp2)
            rw [unhide hl2] at rc
            have hbw := hbz
            clear hst hbz
            replace hset := hide hset
            refine wp_region_frontG 17 (fun _ _ w' => Below V.heap.size V w') (fun wa wb => Below wa.heap.size wa wb)
              (fun ix v w' => match ix with
                | 0 => v = .slice (some ⟨ob, 0, none⟩) n co
                | 1 => v = .int .i64 (k : Int)
                | 2 => v = .pointer (some ⟨ob, k, none⟩)
                | 3 => v = .slice (some ⟨gk, 0, none⟩) nx capk
                | 4 => v = .int .i64 (i : Int)
                | 5 => v = .slice (some ⟨ob, 0, none⟩) n co
                | 6 => v = .int .i64 (k : Int)
                | 7 => v = .pointer (some ⟨ob, k, none⟩)
                | 8 => v = .slice (some ⟨gk, 0, none⟩) nx capk
                | 9 => v = .int .i64 (i : Int)
                | 10 => v = .pointer (some ⟨gk, i * 3, none⟩)
                | 11 => v = .pointer (some ⟨gk, i * 3 + 1, none⟩)
                | 12 => v = .int .i64 py
                | 13 => v = .int .i64 y0
                | 14 => v = .int .i64 Y
                | 15 => v = .pointer (some ⟨gk, i * 3, none⟩)
                | 16 => v = .pointer (some ⟨gk, i * 3 + 1, none⟩)
                | _ => True) (by rfl) (by kernel_rfl) ?_ ?_ ?_ ?_
            · exact (Below.refl _ _).drew
            · intro wa wb hR ix v hv
              match ix, hv with
              | 0, h => exact h
              | 1, h => exact h
              | 2, h => exact h
              | 3, h => exact h
              | 4, h => exact h
              | 5, h => exact h
              | 6, h => exact h
              | 7, h => exact h
              | 8, h => exact h
              | 9, h => exact h
              | 10, h => exact h
              | 11, h => exact h
              | 12, h => exact h
              | 13, h => exact h
              | 14, h => exact h
              | 15, h => exact h
              | 16, h => exact h
              | _ + 17, _ => trivial
            · intro ix hix
              obtain rfl | rfl | rfl | rfl | rfl | rfl | rfl | rfl | rfl | rfl | rfl | rfl | rfl | rfl | rfl | rfl | rfl : ix = 0 ∨ ix = 1 ∨ ix = 2 ∨ ix = 3 ∨ ix = 4 ∨ ix = 5 ∨ ix = 6 ∨ ix = 7 ∨ ix = 8 ∨ ix = 9 ∨ ix = 10 ∨ ix = 11 ∨ ix = 12 ∨ ix = 13 ∨ ix = 14 ∨ ix = 15 ∨ ix = 16 := by omega
              · refine FrontStep.of [] _ rfl (by kernel_rfl) ?_
                intro vs LL wq hLL hC hf
                simp only [putL, List.foldl_nil]
                go_wp2_with fail
                first | exact Below.refl _ _ | exact ⟨Below.refl _ _, by omega⟩
              · refine FrontStep.of [] _ rfl (by kernel_rfl) ?_
                intro vs LL wq hLL hC hf
                simp only [putL, List.foldl_nil]
                go_wp2_with fail
                first | exact Below.refl _ _ | exact ⟨Below.refl _ _, by omega⟩
              · refine FrontStep.of [0, 1] _ rfl (by kernel_rfl) ?_
                intro vs LL wq hLL hC hf
                simp only [putL, List.foldl_nil, List.foldl_cons, List.getElem?_cons_zero, List.getElem?_cons_succ]
                have e0 : vs 0 = _ := hf 0 (by simp)
                rw [e0]
                have e1 : vs 1 = _ := hf 1 (by simp)
                rw [e1]
                go_wp2_with fail
                first | exact Below.refl _ _ | exact ⟨Below.refl _ _, by omega⟩
              · refine FrontStep.of [2] _ rfl (by kernel_rfl) ?_
                intro vs LL wq hLL hC hf
                simp only [putL, List.foldl_nil, List.foldl_cons, List.getElem?_cons_zero, List.getElem?_cons_succ]
                have e2 : vs 2 = _ := hf 2 (by simp)
                rw [e2]
                have hcq := cell_under rc hC
                go_wp2_with fail
                first | exact Below.refl _ _ | exact ⟨Below.refl _ _, by omega⟩
              · refine FrontStep.of [] _ rfl (by kernel_rfl) ?_
                intro vs LL wq hLL hC hf
                simp only [putL, List.foldl_nil]
                go_wp2_with fail
                first | exact Below.refl _ _ | exact ⟨Below.refl _ _, by omega⟩
              · refine FrontStep.of [] _ rfl (by kernel_rfl) ?_
                intro vs LL wq hLL hC hf
                simp only [putL, List.foldl_nil]
                go_wp2_with fail
                first | exact Below.refl _ _ | exact ⟨Below.refl _ _, by omega⟩
              · refine FrontStep.of [] _ rfl (by kernel_rfl) ?_
                intro vs LL wq hLL hC hf
                simp only [putL, List.foldl_nil]
                go_wp2_with fail
                first | exact Below.refl _ _ | exact ⟨Below.refl _ _, by omega⟩
              · refine FrontStep.of [5, 6] _ rfl (by kernel_rfl) ?_
                intro vs LL wq hLL hC hf
                simp only [putL, List.foldl_nil, List.foldl_cons, List.getElem?_cons_zero, List.getElem?_cons_succ]
                have e5 : vs 5 = _ := hf 5 (by simp)
                rw [e5]
                have e6 : vs 6 = _ := hf 6 (by simp)
                rw [e6]
                go_wp2_with fail
                first | exact Below.refl _ _ | exact ⟨Below.refl _ _, by omega⟩
              · refine FrontStep.of [7] _ rfl (by kernel_rfl) ?_
                intro vs LL wq hLL hC hf
                simp only [putL, List.foldl_nil, List.foldl_cons, List.getElem?_cons_zero, List.getElem?_cons_succ]
                have e7 : vs 7 = _ := hf 7 (by simp)
                rw [e7]
                have hcq := cell_under rc hC
                go_wp2_with fail
                first | exact Below.refl _ _ | exact ⟨Below.refl _ _, by omega⟩
              · refine FrontStep.of [] _ rfl (by kernel_rfl) ?_
                intro vs LL wq hLL hC hf
                simp only [putL, List.foldl_nil]
                go_wp2_with fail
                first | exact Below.refl _ _ | exact ⟨Below.refl _ _, by omega⟩
              · refine FrontStep.of [8, 9] _ rfl (by kernel_rfl) ?_
                intro vs LL wq hLL hC hf
                simp only [putL, List.foldl_nil, List.foldl_cons, List.getElem?_cons_zero, List.getElem?_cons_succ]
                have e8 : vs 8 = _ := hf 8 (by simp)
                rw [e8]
                have e9 : vs 9 = _ := hf 9 (by simp)
                rw [e9]
                go_wp2_with fail
                first | exact Below.refl _ _ | exact ⟨Below.refl _ _, by omega⟩
              · refine FrontStep.of [10] _ rfl (by kernel_rfl) ?_
                intro vs LL wq hLL hC hf
                simp only [putL, List.foldl_nil, List.foldl_cons, List.getElem?_cons_zero, List.getElem?_cons_succ]
                have e10 : vs 10 = _ := hf 10 (by simp)
                rw [e10]
                go_wp2_with fail
                first | exact Below.refl _ _ | exact ⟨Below.refl _ _, by omega⟩
              · refine FrontStep.of [11] _ rfl (by kernel_rfl) ?_
                intro vs LL wq hLL hC hf
                simp only [putL, List.foldl_nil, List.foldl_cons, List.getElem?_cons_zero, List.getElem?_cons_succ]
                have e11 : vs 11 = _ := hf 11 (by simp)
                rw [e11]
                have hcq := cell_under r1 hC
                go_wp2_with fail
                first | exact Below.refl _ _ | exact ⟨Below.refl _ _, by omega⟩
              · refine FrontStep.of [] _ rfl (by kernel_rfl) ?_
                intro vs LL wq hLL hC hf
                simp only [putL, List.foldl_nil]
                go_wp2_with fail
                first | exact Below.refl _ _ | exact ⟨Below.refl _ _, by omega⟩
              · refine FrontStep.of [12, 13] _ rfl (by kernel_rfl) ?_
                intro vs LL wq hLL hC hf
                simp only [putL, List.foldl_nil, List.foldl_cons, List.getElem?_cons_zero, List.getElem?_cons_succ]
                have e12 : vs 12 = _ := hf 12 (by simp)
                rw [e12]
                have e13 : vs 13 = _ := hf 13 (by simp)
                rw [e13]
                have hcr := unhide hr1
                go_wp2_with fail
                first | exact Below.refl _ _ | exact ⟨Below.refl _ _, by omega⟩
              · refine FrontStep.of [0, 1, 2, 3, 4, 5, 6, 7, 8, 9, 10, 11, 12, 13, 14] _ rfl (by kernel_rfl) ?_
                intro vs LL wq hLL hC hf
                simp only [putL, List.foldl_nil, List.foldl_cons, List.getElem?_cons_zero, List.getElem?_cons_succ]
                have e0 : vs 0 = _ := hf 0 (by simp)
                rw [e0]
                have e1 : vs 1 = _ := hf 1 (by simp)
                rw [e1]
                have e2 : vs 2 = _ := hf 2 (by simp)
                rw [e2]
                have e3 : vs 3 = _ := hf 3 (by simp)
                rw [e3]
                have e4 : vs 4 = _ := hf 4 (by simp)
                rw [e4]
                have e5 : vs 5 = _ := hf 5 (by simp)
                rw [e5]
                have e6 : vs 6 = _ := hf 6 (by simp)
                rw [e6]
                have e7 : vs 7 = _ := hf 7 (by simp)
                rw [e7]
                have e8 : vs 8 = _ := hf 8 (by simp)
                rw [e8]
                have e9 : vs 9 = _ := hf 9 (by simp)
                rw [e9]
                have e10 : vs 10 = _ := hf 10 (by simp)
                rw [e10]
                have e11 : vs 11 = _ := hf 11 (by simp)
                rw [e11]
                have e12 : vs 12 = _ := hf 12 (by simp)
                rw [e12]
                have e13 : vs 13 = _ := hf 13 (by simp)
                rw [e13]
                have e14 : vs 14 = _ := hf 14 (by simp)
                rw [e14]
                go_wp2_with fail
                first | exact Below.refl _ _ | exact ⟨Below.refl _ _, by omega⟩
              · refine FrontStep.of [0, 1, 2, 3, 4, 5, 6, 7, 8, 9, 10, 11, 12, 13, 14, 15] _ rfl (by kernel_rfl) ?_
                intro vs LL wq hLL hC hf
                simp only [putL, List.foldl_nil, List.foldl_cons, List.getElem?_cons_zero, List.getElem?_cons_succ]
                have e0 : vs 0 = _ := hf 0 (by simp)
                rw [e0]
                have e1 : vs 1 = _ := hf 1 (by simp)
                rw [e1]
                have e2 : vs 2 = _ := hf 2 (by simp)
                rw [e2]
                have e3 : vs 3 = _ := hf 3 (by simp)
                rw [e3]
                have e4 : vs 4 = _ := hf 4 (by simp)
                rw [e4]
                have e5 : vs 5 = _ := hf 5 (by simp)
                rw [e5]
                have e6 : vs 6 = _ := hf 6 (by simp)
                rw [e6]
                have e7 : vs 7 = _ := hf 7 (by simp)
                rw [e7]
                have e8 : vs 8 = _ := hf 8 (by simp)
                rw [e8]
                have e9 : vs 9 = _ := hf 9 (by simp)
                rw [e9]
                have e10 : vs 10 = _ := hf 10 (by simp)
                rw [e10]
                have e11 : vs 11 = _ := hf 11 (by simp)
                rw [e11]
                have e12 : vs 12 = _ := hf 12 (by simp)
                rw [e12]
                have e13 : vs 13 = _ := hf 13 (by simp)
                rw [e13]
                have e14 : vs 14 = _ := hf 14 (by simp)
                rw [e14]
                have e15 : vs 15 = _ := hf 15 (by simp)
                rw [e15]
                go_wp2_with fail
                first | exact Below.refl _ _ | exact ⟨Below.refl _ _, by omega⟩
            · intro vs LL wq hLL hC hf
              have e16 : vs 16 = _ := hf 16 (by omega)
              have e14 : vs 14 = _ := hf 14 (by omega)
              rw [putSome_all]
              simp only [putL, List.range, List.range.loop, List.foldl_nil, List.foldl_cons, List.getElem?_cons_zero, List.getElem?_cons_succ, List.drop_succ_cons, List.drop_zero]
              rw [e16, e14]
              clear e16 e14 hf hLL
              have hst := unhide hset wq hC 1 (.int .i64 Y) (X, Y, pz) (by decide) rfl hXi hYi
              have kk := cell_under r1 hC
              have ff := frozen_under f1 r1 hC
              have hbz := (((unhide hbw).trans (hC.mono (unhide hbw).size)).setCell (p := ⟨gk, i * 3 + 1, none⟩) hgkb (.int .i64 Y))
              obtain ⟨V9, hV9⟩ : ∃ V9, wq.setCell ⟨gk, i * 3 + 1, none⟩ (.int .i64 Y) = V9 := ⟨_, rfl⟩
              skip
              rw [hV9] at hst hbz
              clear hset hC hbw rc r0 r1 r2 f0 f1 f2
              replace hst := hide hst; replace hbz := hide hbz
              go_simp
              go_wp2_with fail
              clear hV9 kk ff
              have hst2 := unhide hst
              rw [List.set_set, List.set_set, unhide hss] at hst2
              replace hst2 := hide hst2
              clear hst
              go_roundw
              case rel => exact ⟨i + 1, by omega, by go_num, unhide hst2, unhide hbz⟩
              case measure => simp [intOf]; omega
        · have hie : i = nx := by omega
          obtain ⟨a9, d9, hc9⟩ : ∃ a9 d9, V.cell? ⟨ob, k, none⟩ = some (.slice a9 nx d9) := by
            obtain ⟨g9, c9, u9, hv9, _, _, hc9, _, hrw9⟩ := hoo.ct hgx
            obtain ⟨e9, _⟩ := Value.slice.inj hv9
            injection e9 with e9
            injection e9 with e9
            obtain ⟨a9, d9, ev9, _⟩ := hrw9.lst
            rw [hml] at ev9
            exact ⟨a9, d9, by rw [e9, hc9, ev9]⟩
          have hdone := stO_done (a := o.map (List.map (shP x0 y0))) (b := o) (z := x) (k := k) (i := i) (unhide hlen) (unhide hrl) (by rw [unhide hnx]; omega) (unhide himg)
          rw [hdone] at hoo
          have t3 : ¬ (i : Int) < (nx : Int) := by omega
          have t4 : (nx : Int) ≤ (i : Int) := by omega
          clear hdone hgx hml
          replace hie := hide hie; replace hoo := hide hoo; replace hbw := hide hbw
          go_wp2_with fail
          go_roundw
          case rel => exact ⟨k + 1, by omega, by go_num, unhide hoo, unhide hbw⟩
          case measure => simp [intOf]; omega
    · have hke : k = n := by omega
      subst hke
      rw [mix_all (by rw [List.length_map, unhide hn]; exact Nat.le_refl _) (by rw [unhide hn]; exact Nat.le_refl _)] at hoo
      replace hoo := hide hoo; replace hbw := hide hbw
      go_wp2_with fail
      go_ret
      exact ⟨_, rfl, unhide hoo, unhide hbw⟩
end Go.Proofs.Ytbodidhggdggmaa
