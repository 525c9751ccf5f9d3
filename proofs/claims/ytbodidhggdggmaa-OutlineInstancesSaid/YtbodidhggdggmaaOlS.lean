/- The program's polygon. -/
import Derived.Test.YtbodidhggdggmaaOlR
import Derived.Test.YtbodidhggdggmaaFrontG
namespace Go.Proofs.Ytbodidhggdggmaa
open Go.RowKit
theorem make_ct0 (n : Nat) (hn : n ≤ 1000000) (w : World) : (Instr.makeSlice 54 (.int .i64 0) (.int .i64 (4 * (n : Int)))).run Try.prog w = .ok (.slice (some ⟨w.heap.size, 0, none⟩) 0 (4 * n)) (w.alloc (.cells (madeCells #[Value.int .i64 0, .int .i64 0, .bool false] (4 * n * 3)) 56)) := by
  obtain ⟨i0, hi, hz0, hz1, hz2⟩ := info_parts info_pt
  have := run_make (P := Try.prog) w 54 56 i0 _ Try.underlying54 hi hz0 .i64 .i64 0 (4 * (n : Int)) (by omega) (by omega) (by rw [hz2]; omega) (by omega)
  have e4 : (4 * (n : Int)).toNat = 4 * n := by omega
  have h2 : (Instr.makeSlice 54 (.int .i64 0) (.int .i64 (4 * (n : Int)))).run Try.prog w = .ok (.slice (some ⟨w.heap.size, 0, none⟩) 0 (4 * n)) (w.alloc (.cells (madeCells (Value.agg #[.int .i64 0, .int .i64 0, .bool false]).cells (4 * n * 3)) 56)) := by simpa [hz1, e4] using this
  have e : (Value.agg #[.int .i64 0, .int .i64 0, .bool false]).cells = #[.int .i64 0, .int .i64 0, .bool false] := by kernel_rfl
  rw [e] at h2
  exact h2
theorem tmod_next {i n : Nat} (_ : i < n) : Int.tmod ((i : Int) + 1) (n : Int) = (((i + 1) % n : Nat) : Int) := by
  rw [Int.tmod_eq_emod_of_nonneg (by omega), Int.natCast_emod]
  rfl
set_option maxHeartbeats 8000000 in
set_option maxRecDepth 100000 in
theorem polygon_any (a : Option Addr) (n c : Nat) (l : List Pt) (w : World) (hl : Lst Enc.pt w (· < w.heap.size) a n l) (hn : n ≤ 250) :
    Calls Try.prog 52 #[.slice a n c] w fun e w' => ∃ v, e = .returned v ∧ Rw w' w.heap.size v (polyS l) ∧ Below w.heap.size w w' := by
  have hln : l.length = n := hl.1
  obtain ⟨b1, hb1⟩ : ∃ b, w.heap.size = b := ⟨_, rfl⟩
  obtain ⟨V1, hV1⟩ : ∃ V, w.alloc (.cells #[.slice a n c] 54) = V := ⟨_, rfl⟩
  have n1 := heap_alloc_new w (.cells #[.slice a n c] 54)
  have k1 := (Below.refl w.heap.size w).alloc (Nat.le_refl _) (.cells #[.slice a n c] 54)
  have s1 : V1.heap.size = w.heap.size + 1 := by rw [← hV1, World.size_alloc]
  rw [hV1] at n1 k1
  rw [hb1] at n1
  have h1c1 : V1.cell? ⟨b1, 0, none⟩ = some (.slice a n c) := (cell_of_row _ _ 0 _ _ _ n1).trans rfl
  have hmk := make_ct0 n (by omega) V1
  obtain ⟨r2, hr2⟩ : ∃ b, V1.heap.size = b := ⟨_, rfl⟩
  obtain ⟨V2, hV2⟩ : ∃ V, V1.alloc (.cells (madeCells #[Value.int .i64 0, .int .i64 0, .bool false] (4 * n * 3)) 56) = V := ⟨_, rfl⟩
  have hrow := World.ownsRow_made (base := r2) (e := 56) (size := 3) V1 (madeCells #[Value.int .i64 0, .int .i64 0, .bool false] (4 * n * 3)) (4 * n) (by omega) (by unfold maxLen; omega) (size_madeCells _ _)
  have k2 := (Below.refl V1.heap.size V1).alloc (Nat.le_refl _) (.cells (madeCells #[Value.int .i64 0, .int .i64 0, .bool false] (4 * n * 3)) 56)
  have s2 : V2.heap.size = V1.heap.size + 1 := by rw [← hV2, World.size_alloc]
  rw [hV2] at hmk hrow k2
  rw [hr2] at hmk hrow
  obtain ⟨b3, hb3⟩ : ∃ b, V2.heap.size = b := ⟨_, rfl⟩
  obtain ⟨V3, hV3⟩ : ∃ V, V2.alloc (.cells #[.slice (some ⟨r2, 0, none⟩) 0 (4 * n)] 54) = V := ⟨_, rfl⟩
  have n3 := heap_alloc_new V2 (.cells #[.slice (some ⟨r2, 0, none⟩) 0 (4 * n)] 54)
  have k3 := (Below.refl V2.heap.size V2).alloc (Nat.le_refl _) (.cells #[.slice (some ⟨r2, 0, none⟩) 0 (4 * n)] 54)
  have s3 : V3.heap.size = V2.heap.size + 1 := by rw [← hV3, World.size_alloc]
  rw [hV3] at n3 k3
  rw [hb3] at n3
  have k12 := k1.trans (k2.mono k1.size)
  have k13 := k12.trans (k3.mono k12.size)
  have k23 := k2.trans (k3.mono k2.size)
  have hpg : PG V3 r2 b3 (· < r2) [] := ⟨_, n3, ⟨hrow.kept (grown_of_below k3 none) (.inr (by simp [Value.ownBlock])), fun p h => by simp at h⟩, fun d hd => ⟨by omega, by omega, by simp [Value.ownBlock]; omega⟩⟩
  have n13 := (k23.block b1 (by omega)).trans n1
  have h1c : V3.cell? ⟨b1, 0, none⟩ = some (.slice a n c) := (cell_of_row _ _ 0 _ _ _ n13).trans rfl
  have hw2 : w.heap.size ≤ r2 := by omega
  have hb1r : b1 < r2 := by omega
  have hr2V3 : r2 ≤ V3.heap.size := by omega
  clear hrow n1 k1 k2 k3 n3 k12 k23 n13
  have c4 : IntKind.i64.wrap (4 * (n : Int)) = 4 * (n : Int) := by rw [IntWalk.i64_in _ (by omega)]
  replace hl := hide hl; replace hpg := hide hpg; replace k13 := hide k13; replace s1 := hide s1; replace s2 := hide s2; replace s3 := hide s3; replace hln := hide hln
  have h1V := hide h1c
  go_enter Try.func52, Try.ntmps52
  go_wp2_with fail
  clear hmk hV1 hV2 hV3 hb1 hr2 hb3 c4 h1c h1c1
  go_loopw [24] (fun v wr => ∃ i : Nat, i ≤ n ∧ v = .int .i64 (i : Int) ∧ PG wr r2 b3 (· < r2) ((List.range i).flatMap (segS l)) ∧ Below r2 V3 wr) (fun v _ => (n - intOf v).toNat)
  case atStart => exact ⟨0, by omega, rfl, unhide hpg, Below.refl _ _⟩
  case round =>
    clear hpg
    obtain ⟨i, hi, rfl, hpg, hbw⟩ := hrel
    obtain ⟨wo, rfl⟩ : ∃ wo : World, wo = wr := ⟨_, rfl⟩
    have h3s := (unhide k13).size
    obtain ⟨P, hP⟩ : ∃ P, (List.range i).flatMap (segS l) = P := ⟨_, rfl⟩
    have hRl : P.length ≤ 4 * i := by rw [← hP]; exact poly_len l i
    have hz1 : (List.range (i + 1)).flatMap (segS l) = P ++ segS l i := by rw [← hP]; exact poly_next l i
    rw [hP] at hpg
    replace hP := hide hP; replace hz1 := hide hz1
    by_cases hlt : i < n
    · have hbW := (unhide k13).trans (hbw.mono hw2)
      obtain ⟨ga, oa, px, py, pz, rfl, _, hp, _, _, g0, g1, g2⟩ := lst_pt ((unhide hl).under hbW) hlt
      obtain ⟨b8, hb8⟩ : ∃ b, wo.heap.size = b := ⟨_, rfl⟩
      obtain ⟨V4, hV4⟩ : ∃ V, wo.alloc (.cells #[.int .i64 px, .int .i64 py, .bool pz] 56) = V := ⟨_, rfl⟩
      have n4 := heap_alloc_new wo (.cells #[.int .i64 px, .int .i64 py, .bool pz] 56)
      have k4 := (Below.refl wo.heap.size wo).alloc (Nat.le_refl _) (.cells #[.int .i64 px, .int .i64 py, .bool pz] 56)
      have s4 : V4.heap.size = wo.heap.size + 1 := by rw [← hV4, World.size_alloc]
      rw [hV4] at n4 k4
      have hpg4 := hpg.fresh (b8 := wo.heap.size) k4 (Nat.le_refl _) (by omega)
      rw [hb8] at n4 hpg4
      have hr2o : r2 ≤ wo.heap.size := by have := hbw.size; omega
      have hb4 := hbw.trans (k4.mono hr2o)
      have hbW4 := hbW.trans (k4.mono (Nat.le_trans hw2 hr2o))
      have h1c : V4.cell? ⟨b1, 0, none⟩ = some (.slice (some ⟨ga, oa, none⟩) n c) := (hb4.cell (p := ⟨b1, 0, none⟩) hb1r).trans (unhide h1V)
      have hlw := hide ((unhide hl).under hbW4)
      have q0 : V4.cell? ⟨b8, 0, none⟩ = some (.int .i64 px) := (cell_of_row _ _ 0 _ _ _ n4).trans rfl
      have q1 : V4.cell? ⟨b8, 1, none⟩ = some (.int .i64 py) := (cell_of_row _ _ 1 _ _ _ n4).trans rfl
      have q2 : V4.cell? ⟨b8, 2, none⟩ = some (.bool pz) := (cell_of_row _ _ 2 _ _ _ n4).trans rfl
      have hcon := on1_any i b1 (some ⟨ga, oa, none⟩) n c l V4 h1c (unhide hlw) hlt
      have hpp := pAt_some hp
      have hlen : P.length ≤ 1000 := by omega
      have hr2V : r2 ≤ V4.heap.size := by omega
      clear hpg hbw hbW k4 hp
      replace hpg4 := hide hpg4; replace hb4 := hide hb4; replace hbW4 := hide hbW4; replace s4 := hide s4; replace n4 := hide n4; replace hpp := hide hpp
      by_cases hon : onS l i = true
      · rw [hon] at hcon
        have hseg : segS l i = [(wrap64 (32 * px), wrap64 (32 * py), true)] := by unfold segS; rw [if_pos hon, unhide hpp]
        have had := add1_any (wrap64 (32 * px)) (wrap64 (32 * py)) r2 b3 _ _ V4 (unhide hpg4) (wrap_i64 _) (wrap_i64 _) hr2V hlen
        replace hcon := hide hcon; replace had := hide had; replace hseg := hide hseg; replace hon := hide hon
        go_wp2_with fail
        refine (unhide hcon).mono ?_
        rintro e wz ⟨rfl, rfl⟩
        clear hcon
        go_wp2_with fail
        refine (unhide had).mono ?_
        rintro e w5 ⟨rfl, hpg5, hkp⟩
        have hpg6 := hide (hpg5.wider (D' := (· < r2)) (fun d hd => .inl hd))
        have hb6 := hide ((unhide hb4).trans (hkp.below (fun k hk => .inl hk)))
        clear had hpg5 hkp hV4 hb8 g0 g1 g2 h1c q0 q1 q2
        go_wp2_with fail
        go_roundw
        case rel => exact ⟨i + 1, by omega, by go_num, by rw [unhide hz1, unhide hseg]; exact unhide hpg6, unhide hb6⟩
        case measure => simp [intOf]; omega
      · have hon : onS l i = false := by cases h : onS l i <;> simp_all
        rw [hon] at hcon
        obtain ⟨j, hj⟩ : ∃ j, i = j + 1 := ⟨i - 1, (by have : i ≠ 0 := (fun e => by rw [e] at hon; simp [onS] at hon); omega)⟩
        have hj1 : (i : Int) - 1 = (j : Int) := by omega
        obtain ⟨nx, hnx⟩ : ∃ x, (i + 1) % n = x := ⟨_, rfl⟩
        have hnxn : nx < n := by rw [← hnx]; exact Nat.mod_lt _ (by omega)
        have htm := tmod_next hlt
        rw [hnx] at htm
        obtain ⟨ga', oa', qx, qy, qz, e1, _, hq, _, _, y0, y1, y2⟩ := lst_pt (unhide hlw) (show j < n by omega)
        obtain ⟨ga'', oa'', ux, uy, uz, e2, _, hu, _, _, u0, u1, u2⟩ := lst_pt (unhide hlw) hnxn
        cases e1
        cases e2
        obtain ⟨isq, hisq⟩ : ∃ b, onS l j = b := ⟨_, rfl⟩
        obtain ⟨isu, hisu⟩ : ∃ b, onS l nx = b := ⟨_, rfl⟩
        obtain ⟨⟨ex, ey⟩, hex⟩ : ∃ e, endS (px, py, pz) (qx, qy, qz) isq = e := ⟨_, rfl⟩
        obtain ⟨⟨fx, fy⟩, hfx⟩ : ∃ e, endS (px, py, pz) (ux, uy, uz) isu = e := ⟨_, rfl⟩
        obtain ⟨cv, hcv⟩ : ∃ cv : Nat → Pt, (fun t => curveP (px, py, pz) (ex, ey) (fx, fy) (t + 1)) = cv := ⟨_, rfl⟩
        have hseg : segS l i = (List.range (if isu then 3 else 4)).map cv := by
          unfold segS
          rw [if_neg (by rw [hon]; decide), unhide hln, hnx, hisu, unhide hpp, show i - 1 = j by omega, hisq, pAt_some hq, pAt_some hu, hex, hfx, hcv]
        clear hq hu hon
        replace hcon := hide hcon; replace hseg := hide hseg; replace hisq := hide hisq; replace hisu := hide hisu; replace hex := hide hex; replace hfx := hide hfx; replace hcv := hide hcv; replace hnx := hide hnx; replace hj := hide hj
        go_wp2_with fail
        refine (unhide hcon).mono ?_
        rintro e wz ⟨rfl, rfl⟩
        clear hcon hV4 hb8 g0 g1 g2
        obtain ⟨V5, rfl⟩ : ∃ V5 : World, V5 = wz := ⟨_, rfl⟩
        go_wp2_with fail
        have p0 := q0; have p1 := q1; have p2 := q2
        clear q0 q1 q2
        refine wp_region_frontG 16 (fun _ _ w' => Below V5.heap.size V5 w') (fun wa wb => Below wa.heap.size wa wb)
          (fun ix v w' => match ix with
            | 0 => v = .func (.func 70) #[] #[]
            | 1 => v = .agg #[.int .i64 px, .int .i64 py, .bool pz]
            | 2 => v = .slice (some ⟨ga, oa, none⟩) n c
            | 3 => v = .int .i64 (i : Int)
            | 4 => v = .int .i64 (j : Int)
            | 5 => v = .pointer (some ⟨ga, oa + j * 3, none⟩)
            | 6 => v = .agg #[.int .i64 qx, .int .i64 qy, .bool qz]
            | 7 => v = .func (.func 68) #[] #[.pointer (some ⟨b1, 0, none⟩)]
            | 8 => v = .int .i64 (i : Int)
            | 9 => v = .int .i64 (j : Int)
            | 10 => v = .bool isq
            | 11 => v = .tuple #[.int .i64 ex, .int .i64 ey]
            | 12 => v = .tuple #[.int .i64 ex, .int .i64 ey]
            | 13 => v = .int .i64 ex
            | 14 => v = .int .i64 ey
            | 15 => v = .int .i64 ex
            | _ => True) (by rfl) (by kernel_rfl) ?_ ?_ ?_ ?_
        · exact (Below.refl _ _).drew
        · intro wa wb hR ix v hv
          match ix, hv with
          | 0, h => exact h
          | 1, h => exact h
          | 2, h => exact h
          | 3, h => exact h
          | 4, h => exact h
          | 5, h => exact h
          | 6, h => exact h
          | 7, h => exact h
          | 8, h => exact h
          | 9, h => exact h
          | 10, h => exact h
          | 11, h => exact h
          | 12, h => exact h
          | 13, h => exact h
          | 14, h => exact h
          | 15, h => exact h
          | _ + 16, _ => trivial
        --BEGIN1
        · intro ix hix
          obtain rfl | rfl | rfl | rfl | rfl | rfl | rfl | rfl | rfl | rfl | rfl | rfl | rfl | rfl | rfl | rfl : ix = 0 ∨ ix = 1 ∨ ix = 2 ∨ ix = 3 ∨ ix = 4 ∨ ix = 5 ∨ ix = 6 ∨ ix = 7 ∨ ix = 8 ∨ ix = 9 ∨ ix = 10 ∨ ix = 11 ∨ ix = 12 ∨ ix = 13 ∨ ix = 14 ∨ ix = 15 := by omega
          · refine FrontStep.of [] _ rfl (by kernel_rfl) ?_
            intro vs LL wq hLL hC hf
            simp only [putL, List.foldl_nil]
            go_wp2_with fail
            first | exact Below.refl _ _ | exact ⟨Below.refl _ _, by omega⟩
          · refine FrontStep.of [] _ rfl (by kernel_rfl) ?_
            intro vs LL wq hLL hC hf
            simp only [putL, List.foldl_nil]
            have hcq0 := cell_under p0 hC
            have hcq1 := cell_under p1 hC
            have hcq2 := cell_under p2 hC
            go_wp2_with fail
            first | exact Below.refl _ _ | exact ⟨Below.refl _ _, by omega⟩
          · refine FrontStep.of [] _ rfl (by kernel_rfl) ?_
            intro vs LL wq hLL hC hf
            simp only [putL, List.foldl_nil]
            have hcq := cell_under h1c hC
            go_wp2_with fail
            first | exact Below.refl _ _ | exact ⟨Below.refl _ _, by omega⟩
          · refine FrontStep.of [] _ rfl (by kernel_rfl) ?_
            intro vs LL wq hLL hC hf
            simp only [putL, List.foldl_nil]
            go_wp2_with fail
            first | exact Below.refl _ _ | exact ⟨Below.refl _ _, by omega⟩
          · refine FrontStep.of [3] _ rfl (by kernel_rfl) ?_
            intro vs LL wq hLL hC hf
            simp only [putL, List.foldl_nil, List.foldl_cons, List.getElem?_cons_zero, List.getElem?_cons_succ]
            have e3 : vs 3 = _ := hf 3 (by simp)
            rw [e3]
            go_wp2_with fail
            first | exact Below.refl _ _ | exact ⟨Below.refl _ _, by omega⟩
          · refine FrontStep.of [2, 4] _ rfl (by kernel_rfl) ?_
            intro vs LL wq hLL hC hf
            simp only [putL, List.foldl_nil, List.foldl_cons, List.getElem?_cons_zero, List.getElem?_cons_succ]
            have e2 : vs 2 = _ := hf 2 (by simp)
            rw [e2]
            have e4 : vs 4 = _ := hf 4 (by simp)
            rw [e4]
            go_wp2_with fail
            first | exact Below.refl _ _ | exact ⟨Below.refl _ _, by omega⟩
          · refine FrontStep.of [5] _ rfl (by kernel_rfl) ?_
            intro vs LL wq hLL hC hf
            simp only [putL, List.foldl_nil, List.foldl_cons, List.getElem?_cons_zero, List.getElem?_cons_succ]
            have e5 : vs 5 = _ := hf 5 (by simp)
            rw [e5]
            have hcq0 := cell_under y0 hC
            have hcq1 := cell_under y1 hC
            have hcq2 := cell_under y2 hC
            go_wp2_with fail
            first | exact Below.refl _ _ | exact ⟨Below.refl _ _, by omega⟩
          · refine FrontStep.of [] _ rfl (by kernel_rfl) ?_
            intro vs LL wq hLL hC hf
            simp only [putL, List.foldl_nil]
            go_wp2_with fail
            first | exact Below.refl _ _ | exact ⟨Below.refl _ _, by omega⟩
          · refine FrontStep.of [] _ rfl (by kernel_rfl) ?_
            intro vs LL wq hLL hC hf
            simp only [putL, List.foldl_nil]
            go_wp2_with fail
            first | exact Below.refl _ _ | exact ⟨Below.refl _ _, by omega⟩
          · refine FrontStep.of [8] _ rfl (by kernel_rfl) ?_
            intro vs LL wq hLL hC hf
            simp only [putL, List.foldl_nil, List.foldl_cons, List.getElem?_cons_zero, List.getElem?_cons_succ]
            have e8 : vs 8 = _ := hf 8 (by simp)
            rw [e8]
            go_wp2_with fail
            first | exact Below.refl _ _ | exact ⟨Below.refl _ _, by omega⟩
          · refine FrontStep.of [7, 9] _ rfl (by kernel_rfl) ?_
            intro vs LL wq hLL hC hf
            simp only [putL, List.foldl_nil, List.foldl_cons, List.getElem?_cons_zero, List.getElem?_cons_succ]
            have e7 : vs 7 = _ := hf 7 (by simp)
            rw [e7]
            have e9 : vs 9 = _ := hf 9 (by simp)
            rw [e9]
            have hcq := on1_any j b1 (some ⟨ga, oa, none⟩) n c l wq (cell_under h1c hC) ((unhide hlw).under hC) (by omega)
            rw [unhide hisq] at hcq
            replace hcq := hide hcq
            go_wp2_with fail
            refine (unhide hcq).mono ?_
            rintro e wz ⟨rfl, ew⟩
            rw [ew]
            clear hcq ew
            go_wp2_with fail
            first | exact ⟨hC, Below.refl _ _⟩ | exact hC | exact Below.refl _ _
          · refine FrontStep.of [0, 1, 6, 10] _ rfl (by kernel_rfl) ?_
            intro vs LL wq hLL hC hf
            simp only [putL, List.foldl_nil, List.foldl_cons, List.getElem?_cons_zero, List.getElem?_cons_succ]
            have e0 : vs 0 = _ := hf 0 (by simp)
            rw [e0]
            have e1 : vs 1 = _ := hf 1 (by simp)
            rw [e1]
            have e6 : vs 6 = _ := hf 6 (by simp)
            rw [e6]
            have e10 : vs 10 = _ := hf 10 (by simp)
            rw [e10]
            have hcq := end1_any px py pz qx qy qz isq wq
            rw [unhide hex] at hcq
            replace hcq := hide hcq
            go_wp2_with fail
            refine (unhide hcq).mono ?_
            rintro e wz ⟨rfl, hbz⟩
            clear hcq
            go_wp2_with fail
            first | exact hC.trans (hbz.mono hC.size) | exact ⟨hC.trans (hbz.mono hC.size), hbz⟩ | exact ⟨hbz, hC.trans (hbz.mono hC.size)⟩
          · refine FrontStep.of [11] _ rfl (by kernel_rfl) ?_
            intro vs LL wq hLL hC hf
            simp only [putL, List.foldl_nil, List.foldl_cons, List.getElem?_cons_zero, List.getElem?_cons_succ]
            have e11 : vs 11 = _ := hf 11 (by simp)
            rw [e11]
            go_wp2_with fail
            first | exact Below.refl _ _ | exact ⟨Below.refl _ _, by omega⟩
          · refine FrontStep.of [12] _ rfl (by kernel_rfl) ?_
            intro vs LL wq hLL hC hf
            simp only [putL, List.foldl_nil, List.foldl_cons, List.getElem?_cons_zero, List.getElem?_cons_succ]
            have e12 : vs 12 = _ := hf 12 (by simp)
            rw [e12]
            go_wp2_with fail
            first | exact Below.refl _ _ | exact ⟨Below.refl _ _, by omega⟩
          · refine FrontStep.of [12] _ rfl (by kernel_rfl) ?_
            intro vs LL wq hLL hC hf
            simp only [putL, List.foldl_nil, List.foldl_cons, List.getElem?_cons_zero, List.getElem?_cons_succ]
            have e12 : vs 12 = _ := hf 12 (by simp)
            rw [e12]
            go_wp2_with fail
            first | exact Below.refl _ _ | exact ⟨Below.refl _ _, by omega⟩
          · refine FrontStep.of [0, 1, 2, 3, 4, 5, 6, 7, 8, 9, 10, 11, 12, 13] _ rfl (by kernel_rfl) ?_
            intro vs LL wq hLL hC hf
            simp only [putL, List.foldl_nil, List.foldl_cons, List.getElem?_cons_zero, List.getElem?_cons_succ]
            have e0 : vs 0 = _ := hf 0 (by simp)
            rw [e0]
            have e1 : vs 1 = _ := hf 1 (by simp)
            rw [e1]
            have e2 : vs 2 = _ := hf 2 (by simp)
            rw [e2]
            have e3 : vs 3 = _ := hf 3 (by simp)
            rw [e3]
            have e4 : vs 4 = _ := hf 4 (by simp)
            rw [e4]
            have e5 : vs 5 = _ := hf 5 (by simp)
            rw [e5]
            have e6 : vs 6 = _ := hf 6 (by simp)
            rw [e6]
            have e7 : vs 7 = _ := hf 7 (by simp)
            rw [e7]
            have e8 : vs 8 = _ := hf 8 (by simp)
            rw [e8]
            have e9 : vs 9 = _ := hf 9 (by simp)
            rw [e9]
            have e10 : vs 10 = _ := hf 10 (by simp)
            rw [e10]
            have e11 : vs 11 = _ := hf 11 (by simp)
            rw [e11]
            have e12 : vs 12 = _ := hf 12 (by simp)
            rw [e12]
            have e13 : vs 13 = _ := hf 13 (by simp)
            rw [e13]
            go_wp2_with fail
            first | exact Below.refl _ _ | exact ⟨Below.refl _ _, by omega⟩
        --END1
        · intro vs LL wq hLL hC hf
          have e15 : vs 15 = _ := hf 15 (by omega)
          have e14 : vs 14 = _ := hf 14 (by omega)
          rw [putSome_all]
          simp only [putL, List.range, List.range.loop, List.foldl_nil, List.foldl_cons, List.getElem?_cons_zero, List.getElem?_cons_succ, List.drop_succ_cons, List.drop_zero]
          rw [e15, e14]
          clear e15 e14 hf hLL
          have kk_h1c := cell_under h1c hC
          have kk_p0 := cell_under p0 hC
          have kk_p1 := cell_under p1 hC
          have kk_p2 := cell_under p2 hC
          have kk_u0 := cell_under u0 hC
          have kk_u1 := cell_under u1 hC
          have kk_u2 := cell_under u2 hC
          have kk_hlw := hide ((unhide hlw).under hC)
          have kk_n4 := hide ((hC.block b8 (Array.getElem?_eq_some_iff.1 (unhide n4)).1).trans (unhide n4))
          have kk_hpg4 := hide ((unhide hpg4).below hC)
          have kk_hb4 := hide ((unhide hb4).trans (hC.mono hr2V))
          have kk_hbW4 := hide ((unhide hbW4).trans (hC.mono (unhide hbW4).size))
          have kk_hr2V := Nat.le_trans hr2V hC.size
          skip
          clear h1c p0 p1 p2 u0 u1 u2 hlw n4 hpg4 hb4 hbW4 hr2V hC
          obtain ⟨V5, rfl⟩ : ∃ V5 : World, V5 = wq := ⟨_, rfl⟩
          have h1c := kk_h1c
          clear kk_h1c
          have p0 := kk_p0
          clear kk_p0
          have p1 := kk_p1
          clear kk_p1
          have p2 := kk_p2
          clear kk_p2
          have u0 := kk_u0
          clear kk_u0
          have u1 := kk_u1
          clear kk_u1
          have u2 := kk_u2
          clear kk_u2
          have hlw := kk_hlw
          clear kk_hlw
          have n4 := kk_n4
          clear kk_n4
          have hpg4 := kk_hpg4
          clear kk_hpg4
          have hb4 := kk_hb4
          clear kk_hb4
          have hbW4 := kk_hbW4
          clear kk_hbW4
          have hr2V := kk_hr2V
          clear kk_hr2V
          go_simp
          go_wp2_with fail
          clear hex hisq
          refine wp_region_frontG 14 (fun _ _ w' => Below V5.heap.size V5 w') (fun wa wb => Below wa.heap.size wa wb)
            (fun ix v w' => match ix with
              | 0 => v = .func (.func 70) #[] #[]
              | 1 => v = .agg #[.int .i64 px, .int .i64 py, .bool pz]
              | 2 => v = .slice (some ⟨ga, oa, none⟩) n c
              | 3 => v = .int .i64 (nx : Int)
              | 4 => v = .pointer (some ⟨ga, oa + nx * 3, none⟩)
              | 5 => v = .agg #[.int .i64 ux, .int .i64 uy, .bool uz]
              | 6 => v = .func (.func 68) #[] #[.pointer (some ⟨b1, 0, none⟩)]
              | 7 => v = .int .i64 (nx : Int)
              | 8 => v = .bool isu
              | 9 => v = .tuple #[.int .i64 fx, .int .i64 fy]
              | 10 => v = .tuple #[.int .i64 fx, .int .i64 fy]
              | 11 => v = .int .i64 fx
              | 12 => v = .int .i64 fy
              | 13 => v = .int .i64 fx
              | _ => True) (by rfl) (by kernel_rfl) ?_ ?_ ?_ ?_
          · exact (Below.refl _ _).drew
          · intro wa wb hR ix v hv
            match ix, hv with
            | 0, h => exact h
            | 1, h => exact h
            | 2, h => exact h
            | 3, h => exact h
            | 4, h => exact h
            | 5, h => exact h
            | 6, h => exact h
            | 7, h => exact h
            | 8, h => exact h
            | 9, h => exact h
            | 10, h => exact h
            | 11, h => exact h
            | 12, h => exact h
            | 13, h => exact h
            | _ + 14, _ => trivial
          --BEGIN2
          · intro ix hix
            obtain rfl | rfl | rfl | rfl | rfl | rfl | rfl | rfl | rfl | rfl | rfl | rfl | rfl | rfl : ix = 0 ∨ ix = 1 ∨ ix = 2 ∨ ix = 3 ∨ ix = 4 ∨ ix = 5 ∨ ix = 6 ∨ ix = 7 ∨ ix = 8 ∨ ix = 9 ∨ ix = 10 ∨ ix = 11 ∨ ix = 12 ∨ ix = 13 := by omega
            · refine FrontStep.of [] _ rfl (by kernel_rfl) ?_
              intro vs LL wq hLL hC hf
              simp only [putL, List.foldl_nil]
              go_wp2_with fail
              first | exact Below.refl _ _ | exact ⟨Below.refl _ _, by omega⟩
            · refine FrontStep.of [] _ rfl (by kernel_rfl) ?_
              intro vs LL wq hLL hC hf
              simp only [putL, List.foldl_nil]
              have hcq0 := cell_under p0 hC
              have hcq1 := cell_under p1 hC
              have hcq2 := cell_under p2 hC
              go_wp2_with fail
              first | exact Below.refl _ _ | exact ⟨Below.refl _ _, by omega⟩
            · refine FrontStep.of [] _ rfl (by kernel_rfl) ?_
              intro vs LL wq hLL hC hf
              simp only [putL, List.foldl_nil]
              have hcq := cell_under h1c hC
              go_wp2_with fail
              first | exact Below.refl _ _ | exact ⟨Below.refl _ _, by omega⟩
            · refine FrontStep.of [] _ rfl (by kernel_rfl) ?_
              intro vs LL wq hLL hC hf
              simp only [putL, List.foldl_nil]
              go_wp2_with fail
              first | exact Below.refl _ _ | exact ⟨Below.refl _ _, by omega⟩
            · refine FrontStep.of [2, 3] _ rfl (by kernel_rfl) ?_
              intro vs LL wq hLL hC hf
              simp only [putL, List.foldl_nil, List.foldl_cons, List.getElem?_cons_zero, List.getElem?_cons_succ]
              have e2 : vs 2 = _ := hf 2 (by simp)
              rw [e2]
              have e3 : vs 3 = _ := hf 3 (by simp)
              rw [e3]
              go_wp2_with fail
              first | exact Below.refl _ _ | exact ⟨Below.refl _ _, by omega⟩
            · refine FrontStep.of [4] _ rfl (by kernel_rfl) ?_
              intro vs LL wq hLL hC hf
              simp only [putL, List.foldl_nil, List.foldl_cons, List.getElem?_cons_zero, List.getElem?_cons_succ]
              have e4 : vs 4 = _ := hf 4 (by simp)
              rw [e4]
              have hcq0 := cell_under u0 hC
              have hcq1 := cell_under u1 hC
              have hcq2 := cell_under u2 hC
              go_wp2_with fail
              first | exact Below.refl _ _ | exact ⟨Below.refl _ _, by omega⟩
            · refine FrontStep.of [] _ rfl (by kernel_rfl) ?_
              intro vs LL wq hLL hC hf
              simp only [putL, List.foldl_nil]
              go_wp2_with fail
              first | exact Below.refl _ _ | exact ⟨Below.refl _ _, by omega⟩
            · refine FrontStep.of [] _ rfl (by kernel_rfl) ?_
              intro vs LL wq hLL hC hf
              simp only [putL, List.foldl_nil]
              go_wp2_with fail
              first | exact Below.refl _ _ | exact ⟨Below.refl _ _, by omega⟩
            · refine FrontStep.of [6, 7] _ rfl (by kernel_rfl) ?_
              intro vs LL wq hLL hC hf
              simp only [putL, List.foldl_nil, List.foldl_cons, List.getElem?_cons_zero, List.getElem?_cons_succ]
              have e6 : vs 6 = _ := hf 6 (by simp)
              rw [e6]
              have e7 : vs 7 = _ := hf 7 (by simp)
              rw [e7]
              have hcq := on1_any nx b1 (some ⟨ga, oa, none⟩) n c l wq (cell_under h1c hC) ((unhide hlw).under hC) (by omega)
              rw [unhide hisu] at hcq
              replace hcq := hide hcq
              go_wp2_with fail
              refine (unhide hcq).mono ?_
              rintro e wz ⟨rfl, ew⟩
              rw [ew]
              clear hcq ew
              go_wp2_with fail
              first | exact ⟨hC, Below.refl _ _⟩ | exact hC | exact Below.refl _ _
            · refine FrontStep.of [0, 1, 5, 8] _ rfl (by kernel_rfl) ?_
              intro vs LL wq hLL hC hf
              simp only [putL, List.foldl_nil, List.foldl_cons, List.getElem?_cons_zero, List.getElem?_cons_succ]
              have e0 : vs 0 = _ := hf 0 (by simp)
              rw [e0]
              have e1 : vs 1 = _ := hf 1 (by simp)
              rw [e1]
              have e5 : vs 5 = _ := hf 5 (by simp)
              rw [e5]
              have e8 : vs 8 = _ := hf 8 (by simp)
              rw [e8]
              have hcq := end1_any px py pz ux uy uz isu wq
              rw [unhide hfx] at hcq
              replace hcq := hide hcq
              go_wp2_with fail
              refine (unhide hcq).mono ?_
              rintro e wz ⟨rfl, hbz⟩
              clear hcq
              go_wp2_with fail
              first | exact hC.trans (hbz.mono hC.size) | exact ⟨hC.trans (hbz.mono hC.size), hbz⟩ | exact ⟨hbz, hC.trans (hbz.mono hC.size)⟩
            · refine FrontStep.of [9] _ rfl (by kernel_rfl) ?_
              intro vs LL wq hLL hC hf
              simp only [putL, List.foldl_nil, List.foldl_cons, List.getElem?_cons_zero, List.getElem?_cons_succ]
              have e9 : vs 9 = _ := hf 9 (by simp)
              rw [e9]
              go_wp2_with fail
              first | exact Below.refl _ _ | exact ⟨Below.refl _ _, by omega⟩
            · refine FrontStep.of [10] _ rfl (by kernel_rfl) ?_
              intro vs LL wq hLL hC hf
              simp only [putL, List.foldl_nil, List.foldl_cons, List.getElem?_cons_zero, List.getElem?_cons_succ]
              have e10 : vs 10 = _ := hf 10 (by simp)
              rw [e10]
              go_wp2_with fail
              first | exact Below.refl _ _ | exact ⟨Below.refl _ _, by omega⟩
            · refine FrontStep.of [10] _ rfl (by kernel_rfl) ?_
              intro vs LL wq hLL hC hf
              simp only [putL, List.foldl_nil, List.foldl_cons, List.getElem?_cons_zero, List.getElem?_cons_succ]
              have e10 : vs 10 = _ := hf 10 (by simp)
              rw [e10]
              go_wp2_with fail
              first | exact Below.refl _ _ | exact ⟨Below.refl _ _, by omega⟩
            · refine FrontStep.of [0, 1, 2, 3, 4, 5, 6, 7, 8, 9, 10, 11] _ rfl (by kernel_rfl) ?_
              intro vs LL wq hLL hC hf
              simp only [putL, List.foldl_nil, List.foldl_cons, List.getElem?_cons_zero, List.getElem?_cons_succ]
              have e0 : vs 0 = _ := hf 0 (by simp)
              rw [e0]
              have e1 : vs 1 = _ := hf 1 (by simp)
              rw [e1]
              have e2 : vs 2 = _ := hf 2 (by simp)
              rw [e2]
              have e3 : vs 3 = _ := hf 3 (by simp)
              rw [e3]
              have e4 : vs 4 = _ := hf 4 (by simp)
              rw [e4]
              have e5 : vs 5 = _ := hf 5 (by simp)
              rw [e5]
              have e6 : vs 6 = _ := hf 6 (by simp)
              rw [e6]
              have e7 : vs 7 = _ := hf 7 (by simp)
              rw [e7]
              have e8 : vs 8 = _ := hf 8 (by simp)
              rw [e8]
              have e9 : vs 9 = _ := hf 9 (by simp)
              rw [e9]
              have e10 : vs 10 = _ := hf 10 (by simp)
              rw [e10]
              have e11 : vs 11 = _ := hf 11 (by simp)
              rw [e11]
              go_wp2_with fail
              first | exact Below.refl _ _ | exact ⟨Below.refl _ _, by omega⟩
          --END2
          · intro vs LL wq hLL hC hf
            have e13 : vs 13 = _ := hf 13 (by omega)
            have e12 : vs 12 = _ := hf 12 (by omega)
            rw [putSome_all]
            simp only [putL, List.range, List.range.loop, List.foldl_nil, List.foldl_cons, List.getElem?_cons_zero, List.getElem?_cons_succ, List.drop_succ_cons, List.drop_zero]
            rw [e13, e12]
            clear e13 e12 hf hLL
            have kk_h1c := cell_under h1c hC
            have kk_p0 := cell_under p0 hC
            have kk_p1 := cell_under p1 hC
            have kk_p2 := cell_under p2 hC
            have kk_u0 := cell_under u0 hC
            have kk_u1 := cell_under u1 hC
            have kk_u2 := cell_under u2 hC
            have kk_hlw := hide ((unhide hlw).under hC)
            have kk_n4 := hide ((hC.block b8 (Array.getElem?_eq_some_iff.1 (unhide n4)).1).trans (unhide n4))
            have kk_hpg4 := hide ((unhide hpg4).below hC)
            have kk_hb4 := hide ((unhide hb4).trans (hC.mono hr2V))
            have kk_hbW4 := hide ((unhide hbW4).trans (hC.mono (unhide hbW4).size))
            have kk_hr2V := Nat.le_trans hr2V hC.size
            skip
            clear h1c p0 p1 p2 u0 u1 u2 hlw n4 hpg4 hb4 hbW4 hr2V hC
            obtain ⟨V5, rfl⟩ : ∃ V5 : World, V5 = wq := ⟨_, rfl⟩
            have h1c := kk_h1c
            clear kk_h1c
            have p0 := kk_p0
            clear kk_p0
            have p1 := kk_p1
            clear kk_p1
            have p2 := kk_p2
            clear kk_p2
            have u0 := kk_u0
            clear kk_u0
            have u1 := kk_u1
            clear kk_u1
            have u2 := kk_u2
            clear kk_u2
            have hlw := kk_hlw
            clear kk_hlw
            have n4 := kk_n4
            clear kk_n4
            have hpg4 := kk_hpg4
            clear kk_hpg4
            have hb4 := kk_hb4
            clear kk_hb4
            have hbW4 := kk_hbW4
            clear kk_hbW4
            have hr2V := kk_hr2V
            clear kk_hr2V
            go_simp
            go_wp2_with fail
            clear hfx u0 u1 u2 p0 p1 p2
            go_loopw [14] (fun v wi => ∃ t : Nat, t ≤ 3 ∧ v = .int .i64 ((t : Int) + 1) ∧ PG wi r2 b3 (fun d => d < r2 ∨ d = b8) (P ++ (List.range t).map cv) ∧ Kp (fun d => d < r2 ∨ d = b8) V5 wi) (fun v _ => (4 - intOf v).toNat)
            case atStart => exact ⟨0, by omega, by go_num, by simpa using unhide hpg4, ⟨rfl, rfl, rfl, Nat.le_refl _, fun _ _ => rfl⟩⟩
            case round =>
              clear hpg4
              obtain ⟨t, ht, rfl, hpg, hkp⟩ := hrel
              obtain ⟨wi, rfl⟩ : ∃ wi : World, wi = wr := ⟨_, rfl⟩
              have m4 := (hkp.block b8 (.inr rfl)).trans (unhide n4)
              have q0 : wi.cell? ⟨b8, 0, none⟩ = some (.int .i64 px) := (cell_of_row _ _ 0 _ _ _ m4).trans rfl
              have q1 : wi.cell? ⟨b8, 1, none⟩ = some (.int .i64 py) := (cell_of_row _ _ 1 _ _ _ m4).trans rfl
              have q2 : wi.cell? ⟨b8, 2, none⟩ = some (.bool pz) := (cell_of_row _ _ 2 _ _ _ m4).trans rfl
              have hbD : Below r2 V5 wi := hkp.below (fun k hk => .inl hk)
              have hls : (P ++ (List.range t).map cv).length ≤ 1000 := by rw [List.length_append, List.length_map, List.length_range]; omega
              have hB : r2 ≤ wi.heap.size := Nat.le_trans hr2V hkp.size
              clear m4
              by_cases ht3 : t < 3
              · have had := fun X Y hX hY => add1_any X Y r2 b3 _ _ wi hpg hX hY hB hls
                have hpx := curve_at px py pz ex ey fx fy t
                have hcvt : curveP (px, py, pz) (ex, ey) (fx, fy) (t + 1) = cv t := congrFun (unhide hcv) t
                rw [hcvt] at hpx
                clear hcvt
                replace had := hide had; replace hpg := hide hpg; replace hkp := hide hkp; replace hbD := hide hbD; replace hpx := hide hpx
                go_wp2_with fail
                refine ((unhide had) _ _ ?_ ?_).mono ?_
                · exact wrap_i64 _
                · exact wrap_i64 _
                rintro e w7 ⟨rfl, hpg7, hkp7⟩
                simp only [wrap_mul_l, wrap_add_l, wrap_add_r] at hpg7
                rw [← unhide hpx, List.append_assoc] at hpg7
                have el : (List.range t).map cv ++ [cv t] = (List.range (t + 1)).map cv := by rw [List.range_succ, List.map_append]; rfl
                rw [el] at hpg7
                have hkp8 := hide ((unhide hkp).trans hkp7)
                clear el had hpx hkp7 hpg hkp hbD q0 q1 q2
                replace hpg7 := hide hpg7
                go_wp2_with fail
                go_roundw
                case rel => exact ⟨t + 1, by omega, by go_num, unhide hpg7, unhide hkp8⟩
                case measure => simp [intOf]; omega
              · have hte : t = 3 := by omega
                subst hte
                have hcon := on1_any nx b1 (some ⟨ga, oa, none⟩) n c l wi ((hbD.cell (p := ⟨b1, 0, none⟩) hb1r).trans h1c) ((unhide hl).under ((unhide hbW4).trans (hbD.mono hw2))) hnxn
                rw [unhide hisu] at hcon
                have had := add1_any (wrap64 (16 * fx)) (wrap64 (16 * fy)) r2 b3 _ _ wi hpg (wrap_i64 _) (wrap_i64 _) hB hls
                have hpx := curve_end px py pz ex ey fx fy
                have hcvt : curveP (px, py, pz) (ex, ey) (fx, fy) (3 + 1) = cv 3 := congrFun (unhide hcv) 3
                rw [hcvt] at hpx
                clear hcvt
                have hbz := hide ((unhide hb4).trans hbD)
                have hseg2 := unhide hseg
                clear hkp hbD q0 q1 q2 h1c hseg
                replace hcon := hide hcon; replace had := hide had; replace hpg := hide hpg; replace hpx := hide hpx; replace hseg2 := hide hseg2
                cases isu with
                | true =>
                  clear had
                  go_wp2_with fail
                  refine (unhide hcon).mono ?_
                  rintro e wz ⟨rfl, rfl⟩
                  clear hcon
                  go_wp2_with fail
                  go_roundw
                  case rel => exact ⟨i + 1, by omega, by go_num, by rw [unhide hz1, unhide hseg2]; exact (unhide hpg).wider (fun d hd => .inl hd), unhide hbz⟩
                  case measure => simp [intOf]; omega
                | false =>
                  go_wp2_with fail
                  refine (unhide hcon).mono ?_
                  rintro e wz ⟨rfl, rfl⟩
                  clear hcon
                  go_wp2_with fail
                  refine (unhide had).mono ?_
                  rintro e w7 ⟨rfl, hpg7, hkp7⟩
                  rw [← unhide hpx, List.append_assoc] at hpg7
                  have el : (List.range 3).map cv ++ [cv 3] = (List.range 4).map cv := rfl
                  rw [el] at hpg7
                  have hby := hide ((unhide hbz).trans (hkp7.below (fun k hk => .inl hk)))
                  have hpg8 := hide (hpg7.wider (D' := (· < r2)) (fun d hd => .inl hd))
                  clear el had hpx hkp7 hpg hpg7 hbz
                  go_wp2_with fail
                  go_roundw
                  case rel => exact ⟨i + 1, by omega, by go_num, by rw [unhide hz1, unhide hseg2]; exact unhide hpg8, unhide hby⟩
                  case measure => simp [intOf]; omega

    · have hie : i = n := by omega
      subst hie
      obtain ⟨v, n5, hrw, _⟩ := hpg
      have c3 : wo.cell? ⟨b3, 0, none⟩ = some v := (cell_of_row _ _ 0 _ _ _ n5).trans rfl
      obtain ⟨a', cap', rfl, _⟩ := hrw.lst
      have hbz := hide ((unhide k13).trans (hbw.mono hw2))
      replace hrw := hide (hrw.mono hw2)
      clear hbw n5
      go_wp2_with fail
      go_ret
      exact ⟨_, rfl, by unfold polyS; rw [unhide hln, unhide hP]; exact unhide hrw, unhide hbz⟩
end Go.Proofs.Ytbodidhggdggmaa
