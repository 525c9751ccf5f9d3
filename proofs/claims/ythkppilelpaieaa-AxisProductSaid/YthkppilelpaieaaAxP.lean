/- The walk of AxisProduct. -/
import Derived.Test.YthkppilelpaieaaAxP0
namespace Go.Proofs.Ythkppilelpaieaa
open Go.RowKit
set_option maxHeartbeats 8000000 in
set_option maxRecDepth 100000 in
theorem axisProduct_any (a : Option Addr) (n c : Nat) (L : List Int) (cs : Array Value) (y : List Int) (w : World) (hl : Lst Enc.int w (fun b => b < w.heap.size) a n L) (hn : n ≤ c) (hc : c ≤ maxLen) (hy : (Enc.arr 3 (Enc.num .i16 (-32768) 32767)).rep w (fun b => b < w.heap.size) cs.toList y) :
    Calls Try.prog 8 #[.slice a n c, .agg cs] w fun e w' => e = .returned (.bool true) ∧ Below w.heap.size w w' := by
  obtain ⟨a0, a1, a2, l0, u0, l1, u1, l2, u2, rfl⟩ := arr3_open hy
  clear hy
  obtain ⟨p0, hp0⟩ : ∃ x, Int.tmod a0 65 = x := ⟨_, rfl⟩
  obtain ⟨p1, hp1⟩ : ∃ x, Int.tmod a1 65 = x := ⟨_, rfl⟩
  obtain ⟨p2, hp2⟩ : ∃ x, Int.tmod a2 65 = x := ⟨_, rfl⟩
  have bp0 : -64 ≤ p0 ∧ p0 ≤ 64 := by rw [← hp0]; have := Int.tmod_lt_of_pos a0 (show (0:Int) < 65 by decide); have := Int.lt_tmod_of_pos a0 (show (0:Int) < 65 by decide); omega
  have bp1 : -64 ≤ p1 ∧ p1 ≤ 64 := by rw [← hp1]; have := Int.tmod_lt_of_pos a1 (show (0:Int) < 65 by decide); have := Int.lt_tmod_of_pos a1 (show (0:Int) < 65 by decide); omega
  have bp2 : -64 ≤ p2 ∧ p2 ≤ 64 := by rw [← hp2]; have := Int.tmod_lt_of_pos a2 (show (0:Int) < 65 by decide); have := Int.lt_tmod_of_pos a2 (show (0:Int) < 65 by decide); omega
  obtain ⟨gm, egm⟩ : ∃ gm : Nat, (min (n : Int) 30).toNat = gm := ⟨_, rfl⟩
  have mgm : gm ≤ c := by omega
  have ggn : gm ≤ n := by omega
  replace egm := hide egm
  obtain ⟨b3, V3, hb3, hV3, st⟩ := (St.start w).new (Obj.cells #[.int .i16 a0, .int .i16 a1, .int .i16 a2] 54)
  have h3 := hide (st.get 0 rfl)
  have hz := hide st.below
  clear st
  replace hl := hide hl; replace hb3 := hide hb3; replace hV3 := hide hV3
  go_enter Try.func8, Try.ntmps8
  go_wp2_with fail
  rw [unhide hV3]
  try rw [unhide hb3]
  refine (sanity_any _).mono ?_
  rintro e w1 ⟨rfl, hb1⟩
  have hz1 := (unhide hz).trans (hb1.mono (unhide hz).size)
  have hr := region_three a gm c (L.take gm) w1 (((unhide hl).under hz1).take ggn) (by omega)
  have h31 := (hb1.block b3 (Array.getElem?_eq_some_iff.1 (unhide h3)).1).trans (unhide h3)
  clear hz h3 hl hb1 hV3 hb3
  replace hr := hide hr; replace hz1 := hide hz1; replace h31 := hide h31
  go_wp2_with fail
  rw [unhide egm]
  refine (unhide hr).mono ?_
  rintro e w2 ⟨br, off, rc, t0, t1, t2, rfl, hR, hR1, hR2, hall, hb2⟩
  clear hr
  have hz2 := (unhide hz1).trans (hb2.mono (unhide hz1).size)
  have h32 := (hb2.block b3 (Array.getElem?_eq_some_iff.1 (unhide h31)).1).trans (unhide h31)
  have c0 : w2.cell? ⟨b3, 0, none⟩ = some (.int .i16 a0) := (cell_of_row _ _ 0 _ _ _ h32).trans rfl
  have c1 : w2.cell? ⟨b3, 1, none⟩ = some (.int .i16 a1) := (cell_of_row _ _ 1 _ _ _ h32).trans rfl
  have c2 : w2.cell? ⟨b3, 2, none⟩ = some (.int .i16 a2) := (cell_of_row _ _ 2 _ _ _ h32).trans rfl
  clear hz1 h31 h32 hb2
  obtain ⟨bp, Vp, hbp, hVp, st⟩ := (St.start w2).new (Obj.cells #[.int .i64 p0, .int .i64 p1, .int .i64 p2] 3)
  have hprow := st.get 0 rfl
  have hps : ∀ p ∈ [p0, p1, p2], -64 ≤ p ∧ p ≤ 64 := fun p hp => by
    simp at hp
    rcases hp with rfl | rfl | rfl
    · exact bp0
    · exact bp1
    · exact bp2
  have hPl := lst_ints (l := [p0, p1, p2]) hprow (fun x hx => by have := hps x hx; exact ⟨by omega, by omega⟩) (S := (· < Vp.heap.size)) (Array.getElem?_eq_some_iff.1 hprow).1
  have hRp := hR.under st.below
  have hzp := hz2.trans (st.below.mono hz2.size)
  have hs := scalar_any _ 3 rc [t0, t1, t2] _ 3 3 [p0, p1, p2] Vp hRp hPl (by omega) (by omega)
  have hbd := scalS_bd [p0, p1, p2] hall rfl
  have hprod := prod_three hall bp0 bp1 bp2
  have hless := scalS_less t0 t1 t2 p0
  obtain ⟨q, hq⟩ := three_low hall bp0 bp1 bp2
  have hN : q.num = (scalS [t0, t1, t2] [p0, p1, p2]).1 := by rw [hq]
  have hD : (q.den : Int) = (scalS [t0, t1, t2] [p0, p1, p2]).2 := by rw [hq]
  clear hq
  obtain ⟨N, eN⟩ : ∃ x, (scalS [t0, t1, t2] [p0, p1, p2]).1 = x := ⟨_, rfl⟩
  obtain ⟨D, eD⟩ : ∃ x, (scalS [t0, t1, t2] [p0, p1, p2]).2 = x := ⟨_, rfl⟩
  rw [eN, eD] at hs hbd hprod
  rw [eN] at hN
  rw [eD] at hD
  clear eN eD st hR hz2
  replace hs := hide hs; replace hbp := hide hbp; replace hVp := hide hVp; replace hprow := hide hprow; replace hps := hide hps; replace hRp := hide hRp; replace hPl := hide hPl; replace hzp := hide hzp; replace hprod := hide hprod; replace hless := hide hless; replace hN := hide hN; replace hD := hide hD; replace hall := hide hall
  go_wp2_with fail
  rw [unhide hVp]
  try rw [unhide hbp]
  refine (unhide hs).mono ?_
  rintro e w3 ⟨rfl, hb3⟩
  obtain ⟨b8, V8, hb8, hV8, st⟩ := (St.start w3).new (Obj.cells #[.int .i64 N, .int .i64 D] 44)
  have hbw := hb3.trans (st.below.mono hb3.size)
  have h8 := st.get 0 rfl
  have hz8 := (unhide hzp).trans (hbw.mono (unhide hzp).size)
  have hR8 := (unhide hRp).under hbw
  have hP8 := (unhide hPl).under hbw
  have hpr8 := (hbw.block bp (Array.getElem?_eq_some_iff.1 (unhide hprow)).1).trans (unhide hprow)
  clear hs hbp hVp hprow hRp hPl hzp hb3 hbw st c0 c1 c2
  have hcs : ∀ (W : World), Below V8.heap.size V8 W → ∀ k, k < 3 → ∀ c1 c2 : Nat, Calls Try.prog 21 #[.slice (some ⟨br, off + k * 3, none⟩) 1 c1, .slice (some ⟨bp, k, none⟩) 1 c2] W fun e w' => e = .returned (.agg #[.int .i64 (qAt [t0, t1, t2] [p0, p1, p2] k).num, .int .i64 ((qAt [t0, t1, t2] [p0, p1, p2] k).den : Int)]) ∧ Below W.heap.size W w' :=
    fun W hW k hk c1 c2 => scalar_at (hR8.under hW) (unhide hall) (hP8.under hW) (unhide hps) hk
  replace hcs := hide hcs; replace h8 := hide h8; replace hz8 := hide hz8; replace hR8 := hide hR8; replace hP8 := hide hP8; replace hpr8 := hide hpr8; replace hb8 := hide hb8; replace hV8 := hide hV8
  go_wp2_with fail
  rw [unhide hV8]
  try rw [unhide hb8]
  go_loopw [9, 10, 11] (fun vn vd vk wr => ∃ k : Nat, k ≤ 3 ∧ vn = .int .i64 (nP [t0, t1, t2] [p0, p1, p2] k) ∧ vd = .int .i64 (dP [t0, t1, t2] [p0, p1, p2] k) ∧ vk = .int .i64 (k : Int) ∧ Below V8.heap.size V8 wr) (fun _ _ v _ => 3 - (intOf v).toNat)
  case atStart => exact ⟨0, by omega, rfl, rfl, rfl, Below.refl _ _⟩
  case round =>
    obtain ⟨k, hk, rfl, rfl, rfl, hbw⟩ := hrel
    obtain ⟨wo, rfl⟩ : ∃ wo : World, wo = wr := ⟨_, rfl⟩
    by_cases hlt : k < 3
    · have tk : (k : Int) < 3 := by omega
      obtain ⟨b1, b2, b3, b4⟩ := nP_small [p0, p1, p2] (unhide hall) hk
      obtain ⟨q1, q2, q3, q4⟩ := qAt_bd [p0, p1, p2] (unhide hall) k
      have hcs := fun (W : World) (hW : Below wo.heap.size wo W) => unhide hcs W (hbw.trans (hW.mono hbw.size))
      have hn1 : nP [t0, t1, t2] [p0, p1, p2] (k + 1) = nP [t0, t1, t2] [p0, p1, p2] k * (qAt [t0, t1, t2] [p0, p1, p2] k).num := rfl
      have hd1 : dP [t0, t1, t2] [p0, p1, p2] (k + 1) = dP [t0, t1, t2] [p0, p1, p2] k * ((qAt [t0, t1, t2] [p0, p1, p2] k).den : Int) := rfl
      have m1 := mul_in b1 b2 q1 q2
      have m2 := mul_in (show (0 : Int) ≤ dP [t0, t1, t2] [p0, p1, p2] k by omega) b4 (show (0 : Int) ≤ ((qAt [t0, t1, t2] [p0, p1, p2] k).den : Int) by omega) q4
      replace hcs := fun (W : World) (hW : Below wo.heap.size wo W) => hcs W hW k hlt (rc - k) (3 - k)
      obtain ⟨qn, eqn⟩ : ∃ x, (qAt [t0, t1, t2] [p0, p1, p2] k).num = x := ⟨_, rfl⟩
      obtain ⟨qd, eqd⟩ : ∃ x, ((qAt [t0, t1, t2] [p0, p1, p2] k).den : Int) = x := ⟨_, rfl⟩
      obtain ⟨nk, enk⟩ : ∃ x, nP [t0, t1, t2] [p0, p1, p2] k = x := ⟨_, rfl⟩
      obtain ⟨dk, edk⟩ : ∃ x, dP [t0, t1, t2] [p0, p1, p2] k = x := ⟨_, rfl⟩
      simp only [eqn, eqd] at hcs
      rw [eqn, enk] at hn1 m1
      rw [eqd, edk] at hd1 m2
      rw [enk] at b1 b2
      rw [edk] at b3 b4
      rw [enk, edk]
      rw [eqn] at q1 q2
      rw [eqd] at q3 q4
      have x1 : IntKind.i64.wrap (nk * qn) = nk * qn := IntWalk.i64_in _ (by omega)
      have x2 : IntKind.i64.wrap (dk * qd) = dk * qd := IntWalk.i64_in _ (by omega)
      clear eqn eqd enk edk m1 m2 h8 hz8 hR8 hP8 hpr8 hb8 hV8 hprod hless hN hD hps hall hp0 hp1 hp2
      replace hn1 := hide hn1; replace hd1 := hide hd1; replace hcs := hide hcs; replace hbw := hide hbw; replace x1 := hide x1; replace x2 := hide x2
      go_wp2_with fail
      refine wp_region_frontG 12 (fun _ _ w' => Below wo.heap.size wo w') (fun wa wb => Below wa.heap.size wa wb)
        (fun ix v w' => match ix with
          | 0 => v = .slice (some ⟨br, off, none⟩) 3 rc
          | 1 => v = .int .i64 (k : Int)
          | 2 => v = .int .i64 (k : Int)
          | 3 => v = .int .i64 ((k : Int) + 1)
          | 4 => v = .slice (some ⟨br, off + k * 3, none⟩) 1 (rc - k)
          | 5 => v = .slice (some ⟨bp, 0, none⟩) 3 3
          | 6 => v = .int .i64 (k : Int)
          | 7 => v = .int .i64 (k : Int)
          | 8 => v = .int .i64 ((k : Int) + 1)
          | 9 => v = .slice (some ⟨bp, k, none⟩) 1 (3 - k)
          | 10 => v = .agg #[.int .i64 qn, .int .i64 qd]
          | 11 => ∃ b, v = .pointer (some ⟨b, 0, none⟩) ∧ wo.heap.size ≤ b ∧ w'.heap[b]? = some (.cells #[.int .i64 0, .int .i64 0] 44 (0, 0))
          | _ => True) (by rfl) (by kernel_rfl) ?_ ?_ ?_ ?_
      · exact (Below.refl _ _).drew
      · intro wa wb hR ix v hv
        match ix, hv with
        | 0, h => exact h
        | 1, h => exact h
        | 2, h => exact h
        | 3, h => exact h
        | 4, h => exact h
        | 5, h => exact h
        | 6, h => exact h
        | 7, h => exact h
        | 8, h => exact h
        | 9, h => exact h
        | 10, h => exact h
        | 11, h => obtain ⟨b, h1, h3, h2⟩ := h; exact ⟨b, h1, h3, (hR.block b (Array.getElem?_eq_some_iff.1 h2).1).trans h2⟩
        | _ + 12, _ => trivial
      · intro ix hix
        obtain rfl | rfl | rfl | rfl | rfl | rfl | rfl | rfl | rfl | rfl | rfl | rfl : ix = 0 ∨ ix = 1 ∨ ix = 2 ∨ ix = 3 ∨ ix = 4 ∨ ix = 5 ∨ ix = 6 ∨ ix = 7 ∨ ix = 8 ∨ ix = 9 ∨ ix = 10 ∨ ix = 11 := by omega
        · refine FrontStep.of [] _ rfl (by kernel_rfl) ?_
          intro vs LL wq hLL hC hf
          simp only [putL, List.foldl_nil]
          go_wp2_with fail
          first | exact Below.refl _ _ | exact hC | exact ⟨hC, Below.refl _ _⟩ | exact ⟨hC, Below.refl _ _, by omega⟩ | exact ⟨Below.refl _ _, by omega⟩
        · refine FrontStep.of [] _ rfl (by kernel_rfl) ?_
          intro vs LL wq hLL hC hf
          simp only [putL, List.foldl_nil]
          go_wp2_with fail
          first | exact Below.refl _ _ | exact hC | exact ⟨hC, Below.refl _ _⟩ | exact ⟨hC, Below.refl _ _, by omega⟩ | exact ⟨Below.refl _ _, by omega⟩
        · refine FrontStep.of [] _ rfl (by kernel_rfl) ?_
          intro vs LL wq hLL hC hf
          simp only [putL, List.foldl_nil]
          go_wp2_with fail
          first | exact Below.refl _ _ | exact hC | exact ⟨hC, Below.refl _ _⟩ | exact ⟨hC, Below.refl _ _, by omega⟩ | exact ⟨Below.refl _ _, by omega⟩
        · refine FrontStep.of [2] _ rfl (by kernel_rfl) ?_
          intro vs LL wq hLL hC hf
          simp only [putL, List.foldl_nil, List.foldl_cons, List.getElem?_cons_zero, List.getElem?_cons_succ]
          have e2 : vs 2 = _ := hf 2 (by simp)
          rw [e2]
          go_wp2_with fail
          first | exact Below.refl _ _ | exact hC | exact ⟨hC, Below.refl _ _⟩ | exact ⟨hC, Below.refl _ _, by omega⟩ | exact ⟨Below.refl _ _, by omega⟩
        · refine FrontStep.of [0, 1, 3] _ rfl (by kernel_rfl) ?_
          intro vs LL wq hLL hC hf
          simp only [putL, List.foldl_nil, List.foldl_cons, List.getElem?_cons_zero, List.getElem?_cons_succ]
          have e0 : vs 0 = _ := hf 0 (by simp)
          rw [e0]
          have e1 : vs 1 = _ := hf 1 (by simp)
          rw [e1]
          have e3 : vs 3 = _ := hf 3 (by simp)
          rw [e3]
          go_wp2_with fail
          first | exact Below.refl _ _ | exact hC | exact ⟨hC, Below.refl _ _⟩ | exact ⟨hC, Below.refl _ _, by omega⟩ | exact ⟨Below.refl _ _, by omega⟩
        · refine FrontStep.of [] _ rfl (by kernel_rfl) ?_
          intro vs LL wq hLL hC hf
          simp only [putL, List.foldl_nil]
          go_wp2_with fail
          first | exact Below.refl _ _ | exact hC | exact ⟨hC, Below.refl _ _⟩ | exact ⟨hC, Below.refl _ _, by omega⟩ | exact ⟨Below.refl _ _, by omega⟩
        · refine FrontStep.of [] _ rfl (by kernel_rfl) ?_
          intro vs LL wq hLL hC hf
          simp only [putL, List.foldl_nil]
          go_wp2_with fail
          first | exact Below.refl _ _ | exact hC | exact ⟨hC, Below.refl _ _⟩ | exact ⟨hC, Below.refl _ _, by omega⟩ | exact ⟨Below.refl _ _, by omega⟩
        · refine FrontStep.of [] _ rfl (by kernel_rfl) ?_
          intro vs LL wq hLL hC hf
          simp only [putL, List.foldl_nil]
          go_wp2_with fail
          first | exact Below.refl _ _ | exact hC | exact ⟨hC, Below.refl _ _⟩ | exact ⟨hC, Below.refl _ _, by omega⟩ | exact ⟨Below.refl _ _, by omega⟩
        · refine FrontStep.of [7] _ rfl (by kernel_rfl) ?_
          intro vs LL wq hLL hC hf
          simp only [putL, List.foldl_nil, List.foldl_cons, List.getElem?_cons_zero, List.getElem?_cons_succ]
          have e7 : vs 7 = _ := hf 7 (by simp)
          rw [e7]
          go_wp2_with fail
          first | exact Below.refl _ _ | exact hC | exact ⟨hC, Below.refl _ _⟩ | exact ⟨hC, Below.refl _ _, by omega⟩ | exact ⟨Below.refl _ _, by omega⟩
        · refine FrontStep.of [5, 6, 8] _ rfl (by kernel_rfl) ?_
          intro vs LL wq hLL hC hf
          simp only [putL, List.foldl_nil, List.foldl_cons, List.getElem?_cons_zero, List.getElem?_cons_succ]
          have e5 : vs 5 = _ := hf 5 (by simp)
          rw [e5]
          have e6 : vs 6 = _ := hf 6 (by simp)
          rw [e6]
          have e8 : vs 8 = _ := hf 8 (by simp)
          rw [e8]
          go_wp2_with fail
          first | exact Below.refl _ _ | exact hC | exact ⟨hC, Below.refl _ _⟩ | exact ⟨hC, Below.refl _ _, by omega⟩ | exact ⟨Below.refl _ _, by omega⟩
        · refine FrontStep.of [4, 9] _ rfl (by kernel_rfl) ?_
          intro vs LL wq hLL hC hf
          simp only [putL, List.foldl_nil, List.foldl_cons, List.getElem?_cons_zero, List.getElem?_cons_succ]
          have e4 : vs 4 = _ := hf 4 (by simp)
          rw [e4]
          have e9 : vs 9 = _ := hf 9 (by simp)
          rw [e9]
          have hcq := unhide hcs wq hC
          replace hcq := hide hcq
          go_wp2_with fail
          refine (unhide hcq).mono ?_
          rintro e wz ⟨rfl, hbz⟩
          clear hcq
          replace hbz := hide hbz
          go_wp2_with fail
          first | exact ⟨hC.trans ((unhide hbz).mono hC.size), unhide hbz⟩ | exact hC.trans ((unhide hbz).mono hC.size) | exact ⟨hC.trans ((unhide hbz).mono hC.size), unhide hbz, rfl⟩
        · refine FrontStep.of [] _ rfl (by kernel_rfl) ?_
          intro vs LL wq hLL hC hf
          simp only [putL, List.foldl_nil]
          go_wp2_with fail
          have hn := heap_alloc_new wq (Obj.cells #[.int .i64 0, .int .i64 0] 44)
          have hb1 := (Below.refl wq.heap.size wq).alloc (Nat.le_refl _) (Obj.cells #[.int .i64 0, .int .i64 0] 44)
          first | exact ⟨hC.trans (hb1.mono hC.size), hb1, _, rfl, hC.size, hn⟩ | exact ⟨hC.trans (hb1.mono hC.size), hb1, hC.size, hn⟩ | exact ⟨hC.trans (hb1.mono hC.size), hb1, hC.size, (Array.getElem?_eq_some_iff.1 hn).2⟩
      · intro vs LL wq hLL hC hf
        obtain ⟨b12, e11, hge, h12⟩ := hf 11 (by omega)
        have e10 : vs 10 = _ := hf 10 (by omega)
        rw [putSome_all]
        simp only [putL, List.range, List.range.loop, List.foldl_nil, List.foldl_cons, List.getElem?_cons_zero, List.getElem?_cons_succ, List.drop_succ_cons, List.drop_zero]
        rw [e10, e11]
        clear e10 e11 hf hLL
        have z0 : wq.cell? ⟨b12, 0, none⟩ = some (.int .i64 0) := (cell_of_row _ _ 0 _ _ _ h12).trans rfl
        have z1 : wq.cell? ⟨b12, 1, none⟩ = some (.int .i64 0) := (cell_of_row _ _ 1 _ _ _ h12).trans rfl
        have g0 : wq.frozen? ⟨b12, 0, none⟩ = false := by simp [World.frozen?, h12]
        have g1 : wq.frozen? ⟨b12, 1, none⟩ = false := by simp [World.frozen?, h12]
        have z1' : (wq.setCell ⟨b12, 0, none⟩ (.int .i64 qn)).cell? ⟨b12, 1, none⟩ = some (.int .i64 0) := (cell_of_row _ _ 1 _ _ _ (heap_set (off := 0) h12 (.int .i64 qn))).trans rfl
        have g1' : (wq.setCell ⟨b12, 0, none⟩ (.int .i64 qn)).frozen? ⟨b12, 1, none⟩ = false := by simp [World.frozen?, heap_set (off := 0) h12 (.int .i64 qn)]
        have s12 := heap_set (off := 1) (heap_set (off := 0) h12 (.int .i64 qn)) (.int .i64 qd)
        have gs1 := grown_set (w := wq) b12 0 (.int .i64 qn)
        have gs2 := grown_set (w := wq.setCell ⟨b12, 0, none⟩ (.int .i64 qn)) b12 1 (.int .i64 qd)
        have hbo := unhide hbw
        have hbz := (hbo.trans (hC.mono hbo.size)).trans (⟨rfl, rfl, rfl, Nat.le_trans gs1.size gs2.size, fun b hb => (gs2.block b (Nat.lt_of_lt_of_le hb (Nat.le_trans (Nat.le_trans hbo.size hC.size) gs1.size)) (fun e => by injection e with e; have := hbo.size; omega)).trans (gs1.block b (Nat.lt_of_lt_of_le hb (Nat.le_trans hbo.size hC.size)) (fun e => by injection e with e; have := hbo.size; omega))⟩ : Below V8.heap.size wq ((wq.setCell ⟨b12, 0, none⟩ (.int .i64 qn)).setCell ⟨b12, 1, none⟩ (.int .i64 qd)))
        obtain ⟨wf, hwf⟩ : ∃ wf, (wq.setCell ⟨b12, 0, none⟩ (.int .i64 qn)).setCell ⟨b12, 1, none⟩ (.int .i64 qd) = wf := ⟨_, rfl⟩
        rw [hwf] at s12 hbz
        clear gs1 gs2 hbo hC h12 hbw hcs
        have f0 : wf.cell? ⟨b12, 0, none⟩ = some (.int .i64 qn) := (cell_of_row _ _ 0 _ _ _ s12).trans rfl
        have f1 : wf.cell? ⟨b12, 1, none⟩ = some (.int .i64 qd) := (cell_of_row _ _ 1 _ _ _ s12).trans rfl
        clear s12
        replace hwf := hide hwf; replace f0 := hide f0; replace f1 := hide f1; replace hbz := hide hbz
        go_simp
        go_upto_region 10 with fail
        rw [unhide hwf]
        clear hwf z0 z1 g0 g1 z1' g1'
        replace f0 := unhide f0; replace f1 := unhide f1; replace x1 := unhide x1; replace x2 := unhide x2
        go_quiet (fail)
        go_wp2_with fail
        go_roundw
        case rel => exact ⟨k + 1, by omega, by rw [unhide hn1], by rw [unhide hd1], by go_num, ⟨(unhide hbz).os, (unhide hbz).tape, (unhide hbz).output, (unhide hbz).size, (unhide hbz).block⟩⟩
        case measure => simp [intOf]; omega
    · have hk3 : k = 3 := by omega
      subst hk3
      have tk : ¬ (3 : Int) < 3 := by omega
      have hprod := unhide hprod
      obtain ⟨b1, b2, b3, b4⟩ := nP_small [p0, p1, p2] (unhide hall) (Nat.le_refl 3)
      obtain ⟨q1, q2, q3, q4⟩ := hbd
      obtain ⟨nk, enk⟩ : ∃ x, nP [t0, t1, t2] [p0, p1, p2] 3 = x := ⟨_, rfl⟩
      obtain ⟨dk, edk⟩ : ∃ x, dP [t0, t1, t2] [p0, p1, p2] 3 = x := ⟨_, rfl⟩
      rw [enk] at b1 b2 hprod
      rw [edk] at b3 b4 hprod
      rw [enk, edk]
      clear enk edk
      have m1 := mul_in q1 q2 (show (0 : Int) ≤ dk by omega) b4
      obtain ⟨P, eP⟩ : ∃ x, N * dk = x := ⟨_, rfl⟩
      have x1 : IntKind.i64.wrap (N * dk) = P := by rw [← eP]; exact IntWalk.i64_in _ (by omega)
      have x2 : IntKind.i64.wrap (nk * D) = P := by rw [← eP, hprod]; exact IntWalk.i64_in _ (by omega)
      rw [eP] at m1
      clear eP hprod
      have x3 : (P != P) = false := by simp
      have hR8 := unhide hR8
      have hca := fun (W : World) (hW : Below wo.heap.size wo W) => scalar_any _ 3 rc [t0, t1, t2] (some ⟨bp, 0, none⟩) 1 3 [p0] W (hR8.under (hbw.trans (hW.mono hbw.size))) (((unhide hP8).under (hbw.trans (hW.mono hbw.size))).take (by omega : 1 ≤ 3)) (by omega) (by omega)
      have hcb := fun (W : World) (b : Nat) (hW : Below wo.heap.size wo W) (h : W.heap[b]? = some (.cells #[.int .i64 p0, .int .i64 0, .int .i64 0] 3 (0, 0))) => scalar_any _ 3 rc [t0, t1, t2] (some ⟨b, 0, none⟩) 3 3 [p0, 0, 0] W (hR8.under (hbw.trans (hW.mono hbw.size))) (lst_ints (l := [p0, 0, 0]) h (fun x hx => by simp at hx; rcases hx with rfl | rfl | rfl <;> exact ⟨by omega, by omega⟩) (S := (· < W.heap.size)) (Array.getElem?_eq_some_iff.1 h).1) (by omega) (by omega)
      rw [unhide hless] at hca
      obtain ⟨sn, esn⟩ : ∃ x, (scalS [t0, t1, t2] [p0, 0, 0]).1 = x := ⟨_, rfl⟩
      obtain ⟨sd, esd⟩ : ∃ x, (scalS [t0, t1, t2] [p0, 0, 0]).2 = x := ⟨_, rfl⟩
      simp only [esn, esd] at hca hcb
      clear esn esd hless
      have r8 := (hbw.block b8 (Array.getElem?_eq_some_iff.1 (unhide h8)).1).trans (unhide h8)
      have rp := (hbw.block bp (Array.getElem?_eq_some_iff.1 (unhide hpr8)).1).trans (unhide hpr8)
      have f0 : wo.cell? ⟨b8, 0, none⟩ = some (.int .i64 N) := (cell_of_row _ _ 0 _ _ _ r8).trans rfl
      have f1 : wo.cell? ⟨b8, 1, none⟩ = some (.int .i64 D) := (cell_of_row _ _ 1 _ _ _ r8).trans rfl
      have fp : wo.cell? ⟨bp, 0, none⟩ = some (.int .i64 p0) := (cell_of_row _ _ 0 _ _ _ rp).trans rfl
      replace hbw := (unhide hz8).trans (hbw.mono (unhide hz8).size)
      clear r8 rp h8 hz8 hR8 hP8 hpr8 hb8 hV8 hcs hps hall hp0 hp1 hp2
      replace hca := hide hca; replace hcb := hide hcb; replace hbw := hide hbw
      go_wp2_with fail
      replace hbw := unhide hbw
      refine wp_region_frontG 31 (fun _ _ w' => Below wo.heap.size wo w') (fun wa wb => Below wa.heap.size wa wb)
        (fun ix v w' => match ix with
          | 0 => v = .pointer (some ⟨b8, 1, none⟩)
          | 1 => v = .int .i64 D
          | 2 => v = .bool false
          | 3 => v = .bool false
          | 4 => v = .int .i64 dk
          | 5 => v = .bool false
          | 6 => v = .bool false
          | 7 => v = .bool false
          | 8 => v = .pointer (some ⟨b8, 0, none⟩)
          | 9 => v = .int .i64 N
          | 10 => v = .int .i64 dk
          | 11 => v = .int .i64 P
          | 12 => v = .int .i64 nk
          | 13 => v = .pointer (some ⟨b8, 1, none⟩)
          | 14 => v = .int .i64 D
          | 15 => v = .int .i64 P
          | 16 => v = .bool false
          | 17 => v = .bool false
          | 18 => v = .bool false
          | 19 => v = .slice (some ⟨br, off, none⟩) 3 rc
          | 20 => v = .slice (some ⟨bp, 0, none⟩) 3 3
          | 21 => v = .slice (some ⟨bp, 0, none⟩) 1 3
          | 22 => v = .agg #[.int .i64 sn, .int .i64 sd]
          | 23 => v = .slice (some ⟨br, off, none⟩) 3 rc
          | 24 => v = .slice (some ⟨bp, 0, none⟩) 3 3
          | 25 => v = .pointer (some ⟨bp, 0, none⟩)
          | 26 => v = .int .i64 p0
          | 27 => ∃ b, v = .slice (some ⟨b, 0, none⟩) 3 3 ∧ w'.heap[b]? = some (.cells #[.int .i64 p0, .int .i64 0, .int .i64 0] 3 (0, 0))
          | 28 => v = .agg #[.int .i64 sn, .int .i64 sd]
          | 29 => v = .bool false
          | 30 => v = .bool false
          | _ => True) (by rfl) (by kernel_rfl) ?_ ?_ ?_ ?_
      · exact (Below.refl _ _).drew
      · intro wa wb hR ix v hv
        match ix, hv with
        | 0, h => exact h
        | 1, h => exact h
        | 2, h => exact h
        | 3, h => exact h
        | 4, h => exact h
        | 5, h => exact h
        | 6, h => exact h
        | 7, h => exact h
        | 8, h => exact h
        | 9, h => exact h
        | 10, h => exact h
        | 11, h => exact h
        | 12, h => exact h
        | 13, h => exact h
        | 14, h => exact h
        | 15, h => exact h
        | 16, h => exact h
        | 17, h => exact h
        | 18, h => exact h
        | 19, h => exact h
        | 20, h => exact h
        | 21, h => exact h
        | 22, h => exact h
        | 23, h => exact h
        | 24, h => exact h
        | 25, h => exact h
        | 26, h => exact h
        | 27, h => obtain ⟨b, h1, h2⟩ := h; exact ⟨b, h1, (hR.block b (Array.getElem?_eq_some_iff.1 h2).1).trans h2⟩
        | 28, h => exact h
        | 29, h => exact h
        | 30, h => exact h
        | _ + 31, _ => trivial
      · intro ix hix
        obtain rfl | rfl | rfl | rfl | rfl | rfl | rfl | rfl | rfl | rfl | rfl | rfl | rfl | rfl | rfl | rfl | rfl | rfl | rfl | rfl | rfl | rfl | rfl | rfl | rfl | rfl | rfl | rfl | rfl | rfl | rfl : ix = 0 ∨ ix = 1 ∨ ix = 2 ∨ ix = 3 ∨ ix = 4 ∨ ix = 5 ∨ ix = 6 ∨ ix = 7 ∨ ix = 8 ∨ ix = 9 ∨ ix = 10 ∨ ix = 11 ∨ ix = 12 ∨ ix = 13 ∨ ix = 14 ∨ ix = 15 ∨ ix = 16 ∨ ix = 17 ∨ ix = 18 ∨ ix = 19 ∨ ix = 20 ∨ ix = 21 ∨ ix = 22 ∨ ix = 23 ∨ ix = 24 ∨ ix = 25 ∨ ix = 26 ∨ ix = 27 ∨ ix = 28 ∨ ix = 29 ∨ ix = 30 := by omega
        · refine FrontStep.of [] _ rfl (by kernel_rfl) ?_
          intro vs LL wq hLL hC hf
          simp only [putL, List.foldl_nil]
          go_wp2_with fail
          first | exact Below.refl _ _ | exact hC | exact ⟨hC, Below.refl _ _⟩ | exact ⟨hC, Below.refl _ _, by omega⟩ | exact ⟨Below.refl _ _, by omega⟩
        · refine FrontStep.of [0] _ rfl (by kernel_rfl) ?_
          intro vs LL wq hLL hC hf
          simp only [putL, List.foldl_nil, List.foldl_cons, List.getElem?_cons_zero]
          have e0 : vs 0 = _ := hf 0 (by simp)
          rw [e0]
          have h1 := cell_under f1 hC
          go_wp2_with fail
          first | exact Below.refl _ _ | exact hC | exact ⟨hC, Below.refl _ _⟩ | exact ⟨hC, Below.refl _ _, by omega⟩ | exact ⟨Below.refl _ _, by omega⟩
        · refine FrontStep.of [1] _ rfl (by kernel_rfl) ?_
          intro vs LL wq hLL hC hf
          simp only [putL, List.foldl_nil, List.foldl_cons, List.getElem?_cons_zero, List.getElem?_cons_succ]
          have e1 : vs 1 = _ := hf 1 (by simp)
          rw [e1]
          go_wp2_with fail
          first | exact Below.refl _ _ | exact hC | exact ⟨hC, Below.refl _ _⟩ | exact ⟨hC, Below.refl _ _, by omega⟩ | exact ⟨Below.refl _ _, by omega⟩
        · refine FrontStep.of [2] _ rfl (by kernel_rfl) ?_
          intro vs LL wq hLL hC hf
          simp only [putL, List.foldl_nil, List.foldl_cons, List.getElem?_cons_zero, List.getElem?_cons_succ]
          have e2 : vs 2 = _ := hf 2 (by simp)
          rw [e2]
          go_wp2_with fail
          first | exact Below.refl _ _ | exact hC | exact ⟨hC, Below.refl _ _⟩ | exact ⟨hC, Below.refl _ _, by omega⟩ | exact ⟨Below.refl _ _, by omega⟩
        · refine FrontStep.of [3] _ rfl (by kernel_rfl) ?_
          intro vs LL wq hLL hC hf
          simp only [putL, List.foldl_nil, List.foldl_cons, List.getElem?_cons_zero, List.getElem?_cons_succ]
          have e3 : vs 3 = _ := hf 3 (by simp)
          rw [e3]
          go_wp2_with fail
          first | exact Below.refl _ _ | exact hC | exact ⟨hC, Below.refl _ _⟩ | exact ⟨hC, Below.refl _ _, by omega⟩ | exact ⟨Below.refl _ _, by omega⟩
        · refine FrontStep.of [3, 4] _ rfl (by kernel_rfl) ?_
          intro vs LL wq hLL hC hf
          simp only [putL, List.foldl_nil, List.foldl_cons, List.getElem?_cons_zero, List.getElem?_cons_succ]
          have e3 : vs 3 = _ := hf 3 (by simp)
          rw [e3]
          have e4 : vs 4 = _ := hf 4 (by simp)
          rw [e4]
          go_wp2_with fail
          first | exact Below.refl _ _ | exact hC | exact ⟨hC, Below.refl _ _⟩ | exact ⟨hC, Below.refl _ _, by omega⟩ | exact ⟨Below.refl _ _, by omega⟩
        · refine FrontStep.of [3, 5] _ rfl (by kernel_rfl) ?_
          intro vs LL wq hLL hC hf
          simp only [putL, List.foldl_nil, List.foldl_cons, List.getElem?_cons_zero, List.getElem?_cons_succ]
          have e3 : vs 3 = _ := hf 3 (by simp)
          rw [e3]
          have e5 : vs 5 = _ := hf 5 (by simp)
          rw [e5]
          go_wp2_with fail
          first | exact Below.refl _ _ | exact hC | exact ⟨hC, Below.refl _ _⟩ | exact ⟨hC, Below.refl _ _, by omega⟩ | exact ⟨Below.refl _ _, by omega⟩
        · refine FrontStep.of [3, 6] _ rfl (by kernel_rfl) ?_
          intro vs LL wq hLL hC hf
          simp only [putL, List.foldl_nil, List.foldl_cons, List.getElem?_cons_zero, List.getElem?_cons_succ]
          have e3 : vs 3 = _ := hf 3 (by simp)
          rw [e3]
          have e6 : vs 6 = _ := hf 6 (by simp)
          rw [e6]
          go_wp2_with fail
          first | exact Below.refl _ _ | exact hC | exact ⟨hC, Below.refl _ _⟩ | exact ⟨hC, Below.refl _ _, by omega⟩ | exact ⟨Below.refl _ _, by omega⟩
        · refine FrontStep.of [7] _ rfl (by kernel_rfl) ?_
          intro vs LL wq hLL hC hf
          simp only [putL, List.foldl_nil, List.foldl_cons, List.getElem?_cons_zero, List.getElem?_cons_succ]
          have e7 : vs 7 = _ := hf 7 (by simp)
          rw [e7]
          go_wp2_with fail
          first | exact Below.refl _ _ | exact hC | exact ⟨hC, Below.refl _ _⟩ | exact ⟨hC, Below.refl _ _, by omega⟩ | exact ⟨Below.refl _ _, by omega⟩
        · refine FrontStep.of [7, 8] _ rfl (by kernel_rfl) ?_
          intro vs LL wq hLL hC hf
          simp only [putL, List.foldl_nil, List.foldl_cons, List.getElem?_cons_zero, List.getElem?_cons_succ]
          have e7 : vs 7 = _ := hf 7 (by simp)
          rw [e7]
          have e8 : vs 8 = _ := hf 8 (by simp)
          rw [e8]
          have h0 := cell_under f0 hC
          go_wp2_with fail
          first | exact Below.refl _ _ | exact hC | exact ⟨hC, Below.refl _ _⟩ | exact ⟨hC, Below.refl _ _, by omega⟩ | exact ⟨Below.refl _ _, by omega⟩
        · refine FrontStep.of [7] _ rfl (by kernel_rfl) ?_
          intro vs LL wq hLL hC hf
          simp only [putL, List.foldl_nil, List.foldl_cons, List.getElem?_cons_zero, List.getElem?_cons_succ]
          have e7 : vs 7 = _ := hf 7 (by simp)
          rw [e7]
          go_wp2_with fail
          first | exact Below.refl _ _ | exact hC | exact ⟨hC, Below.refl _ _⟩ | exact ⟨hC, Below.refl _ _, by omega⟩ | exact ⟨Below.refl _ _, by omega⟩
        · refine FrontStep.of [7, 9, 10] _ rfl (by kernel_rfl) ?_
          intro vs LL wq hLL hC hf
          simp only [putL, List.foldl_nil, List.foldl_cons, List.getElem?_cons_zero, List.getElem?_cons_succ]
          have e7 : vs 7 = _ := hf 7 (by simp)
          rw [e7]
          have e9 : vs 9 = _ := hf 9 (by simp)
          rw [e9]
          have e10 : vs 10 = _ := hf 10 (by simp)
          rw [e10]
          go_wp2_with fail
          first | exact Below.refl _ _ | exact hC | exact ⟨hC, Below.refl _ _⟩ | exact ⟨hC, Below.refl _ _, by omega⟩ | exact ⟨Below.refl _ _, by omega⟩
        · refine FrontStep.of [7] _ rfl (by kernel_rfl) ?_
          intro vs LL wq hLL hC hf
          simp only [putL, List.foldl_nil, List.foldl_cons, List.getElem?_cons_zero, List.getElem?_cons_succ]
          have e7 : vs 7 = _ := hf 7 (by simp)
          rw [e7]
          go_wp2_with fail
          first | exact Below.refl _ _ | exact hC | exact ⟨hC, Below.refl _ _⟩ | exact ⟨hC, Below.refl _ _, by omega⟩ | exact ⟨Below.refl _ _, by omega⟩
        · refine FrontStep.of [7] _ rfl (by kernel_rfl) ?_
          intro vs LL wq hLL hC hf
          simp only [putL, List.foldl_nil, List.foldl_cons, List.getElem?_cons_zero, List.getElem?_cons_succ]
          have e7 : vs 7 = _ := hf 7 (by simp)
          rw [e7]
          go_wp2_with fail
          first | exact Below.refl _ _ | exact hC | exact ⟨hC, Below.refl _ _⟩ | exact ⟨hC, Below.refl _ _, by omega⟩ | exact ⟨Below.refl _ _, by omega⟩
        · refine FrontStep.of [7, 13] _ rfl (by kernel_rfl) ?_
          intro vs LL wq hLL hC hf
          simp only [putL, List.foldl_nil, List.foldl_cons, List.getElem?_cons_zero, List.getElem?_cons_succ]
          have e7 : vs 7 = _ := hf 7 (by simp)
          rw [e7]
          have e13 : vs 13 = _ := hf 13 (by simp)
          rw [e13]
          have h1 := cell_under f1 hC
          go_wp2_with fail
          first | exact Below.refl _ _ | exact hC | exact ⟨hC, Below.refl _ _⟩ | exact ⟨hC, Below.refl _ _, by omega⟩ | exact ⟨Below.refl _ _, by omega⟩
        · refine FrontStep.of [7, 12, 14] _ rfl (by kernel_rfl) ?_
          intro vs LL wq hLL hC hf
          simp only [putL, List.foldl_nil, List.foldl_cons, List.getElem?_cons_zero, List.getElem?_cons_succ]
          have e7 : vs 7 = _ := hf 7 (by simp)
          rw [e7]
          have e12 : vs 12 = _ := hf 12 (by simp)
          rw [e12]
          have e14 : vs 14 = _ := hf 14 (by simp)
          rw [e14]
          go_wp2_with fail
          first | exact Below.refl _ _ | exact hC | exact ⟨hC, Below.refl _ _⟩ | exact ⟨hC, Below.refl _ _, by omega⟩ | exact ⟨Below.refl _ _, by omega⟩
        · refine FrontStep.of [7, 11, 15] _ rfl (by kernel_rfl) ?_
          intro vs LL wq hLL hC hf
          simp only [putL, List.foldl_nil, List.foldl_cons, List.getElem?_cons_zero, List.getElem?_cons_succ]
          have e7 : vs 7 = _ := hf 7 (by simp)
          rw [e7]
          have e11 : vs 11 = _ := hf 11 (by simp)
          rw [e11]
          have e15 : vs 15 = _ := hf 15 (by simp)
          rw [e15]
          go_wp2_with fail
          first | exact Below.refl _ _ | exact hC | exact ⟨hC, Below.refl _ _⟩ | exact ⟨hC, Below.refl _ _, by omega⟩ | exact ⟨Below.refl _ _, by omega⟩
        · refine FrontStep.of [7, 16] _ rfl (by kernel_rfl) ?_
          intro vs LL wq hLL hC hf
          simp only [putL, List.foldl_nil, List.foldl_cons, List.getElem?_cons_zero, List.getElem?_cons_succ]
          have e7 : vs 7 = _ := hf 7 (by simp)
          rw [e7]
          have e16 : vs 16 = _ := hf 16 (by simp)
          rw [e16]
          go_wp2_with fail
          first | exact Below.refl _ _ | exact hC | exact ⟨hC, Below.refl _ _⟩ | exact ⟨hC, Below.refl _ _, by omega⟩ | exact ⟨Below.refl _ _, by omega⟩
        · refine FrontStep.of [7, 17] _ rfl (by kernel_rfl) ?_
          intro vs LL wq hLL hC hf
          simp only [putL, List.foldl_nil, List.foldl_cons, List.getElem?_cons_zero, List.getElem?_cons_succ]
          have e7 : vs 7 = _ := hf 7 (by simp)
          rw [e7]
          have e17 : vs 17 = _ := hf 17 (by simp)
          rw [e17]
          go_wp2_with fail
          first | exact Below.refl _ _ | exact hC | exact ⟨hC, Below.refl _ _⟩ | exact ⟨hC, Below.refl _ _, by omega⟩ | exact ⟨Below.refl _ _, by omega⟩
        · refine FrontStep.of [18] _ rfl (by kernel_rfl) ?_
          intro vs LL wq hLL hC hf
          simp only [putL, List.foldl_nil, List.foldl_cons, List.getElem?_cons_zero, List.getElem?_cons_succ]
          have e18 : vs 18 = _ := hf 18 (by simp)
          rw [e18]
          go_wp2_with fail
          first | exact Below.refl _ _ | exact hC | exact ⟨hC, Below.refl _ _⟩ | exact ⟨hC, Below.refl _ _, by omega⟩ | exact ⟨Below.refl _ _, by omega⟩
        · refine FrontStep.of [18] _ rfl (by kernel_rfl) ?_
          intro vs LL wq hLL hC hf
          simp only [putL, List.foldl_nil, List.foldl_cons, List.getElem?_cons_zero, List.getElem?_cons_succ]
          have e18 : vs 18 = _ := hf 18 (by simp)
          rw [e18]
          go_wp2_with fail
          first | exact Below.refl _ _ | exact hC | exact ⟨hC, Below.refl _ _⟩ | exact ⟨hC, Below.refl _ _, by omega⟩ | exact ⟨Below.refl _ _, by omega⟩
        · refine FrontStep.of [18, 20] _ rfl (by kernel_rfl) ?_
          intro vs LL wq hLL hC hf
          simp only [putL, List.foldl_nil, List.foldl_cons, List.getElem?_cons_zero, List.getElem?_cons_succ]
          have e18 : vs 18 = _ := hf 18 (by simp)
          rw [e18]
          have e20 : vs 20 = _ := hf 20 (by simp)
          rw [e20]
          go_wp2_with fail
          first | exact Below.refl _ _ | exact hC | exact ⟨hC, Below.refl _ _⟩ | exact ⟨hC, Below.refl _ _, by omega⟩ | exact ⟨Below.refl _ _, by omega⟩
        · refine FrontStep.of [18, 19, 21] _ rfl (by kernel_rfl) ?_
          intro vs LL wq hLL hC hf
          simp only [putL, List.foldl_nil, List.foldl_cons, List.getElem?_cons_zero, List.getElem?_cons_succ]
          have e18 : vs 18 = _ := hf 18 (by simp)
          rw [e18]
          have e19 : vs 19 = _ := hf 19 (by simp)
          rw [e19]
          have e21 : vs 21 = _ := hf 21 (by simp)
          rw [e21]
          have hcq := unhide hca wq hC
          replace hcq := hide hcq
          go_wp2_with fail
          refine (unhide hcq).mono ?_
          rintro e wz ⟨rfl, hbz⟩
          clear hcq
          replace hbz := hide hbz
          go_wp2_with fail
          first | exact ⟨hC.trans ((unhide hbz).mono hC.size), unhide hbz⟩ | exact hC.trans ((unhide hbz).mono hC.size) | exact ⟨hC.trans ((unhide hbz).mono hC.size), unhide hbz, rfl⟩
        · refine FrontStep.of [18] _ rfl (by kernel_rfl) ?_
          intro vs LL wq hLL hC hf
          simp only [putL, List.foldl_nil, List.foldl_cons, List.getElem?_cons_zero, List.getElem?_cons_succ]
          have e18 : vs 18 = _ := hf 18 (by simp)
          rw [e18]
          go_wp2_with fail
          first | exact Below.refl _ _ | exact hC | exact ⟨hC, Below.refl _ _⟩ | exact ⟨hC, Below.refl _ _, by omega⟩ | exact ⟨Below.refl _ _, by omega⟩
        · refine FrontStep.of [18] _ rfl (by kernel_rfl) ?_
          intro vs LL wq hLL hC hf
          simp only [putL, List.foldl_nil, List.foldl_cons, List.getElem?_cons_zero, List.getElem?_cons_succ]
          have e18 : vs 18 = _ := hf 18 (by simp)
          rw [e18]
          go_wp2_with fail
          first | exact Below.refl _ _ | exact hC | exact ⟨hC, Below.refl _ _⟩ | exact ⟨hC, Below.refl _ _, by omega⟩ | exact ⟨Below.refl _ _, by omega⟩
        · refine FrontStep.of [18, 24] _ rfl (by kernel_rfl) ?_
          intro vs LL wq hLL hC hf
          simp only [putL, List.foldl_nil, List.foldl_cons, List.getElem?_cons_zero, List.getElem?_cons_succ]
          have e18 : vs 18 = _ := hf 18 (by simp)
          rw [e18]
          have e24 : vs 24 = _ := hf 24 (by simp)
          rw [e24]
          go_wp2_with fail
          first | exact Below.refl _ _ | exact hC | exact ⟨hC, Below.refl _ _⟩ | exact ⟨hC, Below.refl _ _, by omega⟩ | exact ⟨Below.refl _ _, by omega⟩
        · refine FrontStep.of [18, 25] _ rfl (by kernel_rfl) ?_
          intro vs LL wq hLL hC hf
          simp only [putL, List.foldl_nil, List.foldl_cons, List.getElem?_cons_zero, List.getElem?_cons_succ]
          have e18 : vs 18 = _ := hf 18 (by simp)
          rw [e18]
          have e25 : vs 25 = _ := hf 25 (by simp)
          rw [e25]
          have h0 := cell_under fp hC
          go_wp2_with fail
          first | exact Below.refl _ _ | exact hC | exact ⟨hC, Below.refl _ _⟩ | exact ⟨hC, Below.refl _ _, by omega⟩ | exact ⟨Below.refl _ _, by omega⟩
        · refine FrontStep.of [18, 26] _ rfl (by kernel_rfl) ?_
          intro vs LL wq hLL hC hf
          simp only [putL, List.foldl_nil, List.foldl_cons, List.getElem?_cons_zero, List.getElem?_cons_succ]
          have e18 : vs 18 = _ := hf 18 (by simp)
          rw [e18]
          have e26 : vs 26 = _ := hf 26 (by simp)
          rw [e26]
          go_wp2_with fail
          have hn := heap_alloc_new wq (Obj.cells #[.int .i64 p0, .int .i64 0, .int .i64 0] 3)
          have hb1 := (Below.refl wq.heap.size wq).alloc (Nat.le_refl _) (Obj.cells #[.int .i64 p0, .int .i64 0, .int .i64 0] 3)
          first | exact ⟨hC.trans (hb1.mono hC.size), hb1, _, rfl, hn⟩ | exact ⟨hC.trans (hb1.mono hC.size), hb1, hn⟩ | exact ⟨hC.trans (hb1.mono hC.size), hb1, (Array.getElem?_eq_some_iff.1 hn).2⟩ | exact ⟨hC.trans (hb1.mono hC.size), (Array.getElem?_eq_some_iff.1 hn).2⟩ | exact ⟨hC.trans (hb1.mono hC.size), hn⟩
        · refine FrontStep.of [18, 22, 23, 27] _ rfl (by kernel_rfl) ?_
          intro vs LL wq hLL hC hf
          simp only [putL, List.foldl_nil, List.foldl_cons, List.getElem?_cons_zero, List.getElem?_cons_succ]
          have e18 : vs 18 = _ := hf 18 (by simp)
          rw [e18]
          have e22 : vs 22 = _ := hf 22 (by simp)
          rw [e22]
          have e23 : vs 23 = _ := hf 23 (by simp)
          rw [e23]
          obtain ⟨b87, e87, hb87⟩ := hf 27 (by simp)
          rw [e87]
          have hcq := unhide hcb wq b87 hC hb87
          replace hcq := hide hcq
          go_wp2_with fail
          refine (unhide hcq).mono ?_
          rintro e wz ⟨rfl, hbz⟩
          clear hcq
          replace hbz := hide hbz
          go_wp2_with fail
          first | exact ⟨hC.trans ((unhide hbz).mono hC.size), unhide hbz⟩ | exact hC.trans ((unhide hbz).mono hC.size) | exact ⟨hC.trans ((unhide hbz).mono hC.size), unhide hbz, rfl⟩
        · refine FrontStep.of [18, 22, 28] _ rfl (by kernel_rfl) ?_
          intro vs LL wq hLL hC hf
          simp only [putL, List.foldl_nil, List.foldl_cons, List.getElem?_cons_zero, List.getElem?_cons_succ]
          have e18 : vs 18 = _ := hf 18 (by simp)
          rw [e18]
          have e22 : vs 22 = _ := hf 22 (by simp)
          rw [e22]
          have e28 : vs 28 = _ := hf 28 (by simp)
          rw [e28]
          go_wp2_with fail
          first | exact Below.refl _ _ | exact hC | exact ⟨hC, Below.refl _ _⟩ | exact ⟨hC, Below.refl _ _, by omega⟩ | exact ⟨Below.refl _ _, by omega⟩
        · refine FrontStep.of [18, 29] _ rfl (by kernel_rfl) ?_
          intro vs LL wq hLL hC hf
          simp only [putL, List.foldl_nil, List.foldl_cons, List.getElem?_cons_zero, List.getElem?_cons_succ]
          have e18 : vs 18 = _ := hf 18 (by simp)
          rw [e18]
          have e29 : vs 29 = _ := hf 29 (by simp)
          rw [e29]
          go_wp2_with fail
          first | exact Below.refl _ _ | exact hC | exact ⟨hC, Below.refl _ _⟩ | exact ⟨hC, Below.refl _ _, by omega⟩ | exact ⟨Below.refl _ _, by omega⟩
      · intro vs LL wq hLL hC hf
        have e30 : vs 30 = _ := hf 30 (by omega)
        rw [putSome_all]
        simp only [putL, List.range, List.range.loop, List.foldl_nil, List.foldl_cons, List.getElem?_cons_zero, List.getElem?_cons_succ, List.drop_succ_cons, List.drop_zero]
        rw [e30]
        clear e30 hf hLL
        have hbz := hide (hbw.trans (hC.mono hbw.size))
        have g0 := cell_under f0 hC
        have g1 := cell_under f1 hC
        clear hC hbw f0 f1 fp hca hcb x1 x2 x3
        go_simp
        go_wp2_with fail
        go_loopw [13] (fun v wr => ∃ k : Nat, 2 ≤ k ∧ k ≤ 65 ∧ v = .int .i64 (k : Int) ∧ wr = wq) (fun v _ => 65 - (intOf v).toNat)
        case atStart => exact ⟨2, by omega, by omega, rfl, rfl⟩
        case round =>
          obtain ⟨k, hk2, hk, rfl, rfl⟩ := hrel
          by_cases hlt : k ≤ 64
          · have tk : (k : Int) ≤ 64 := by omega
            have tk0 : (k : Int) ≠ 0 := by omega
            obtain ⟨rN, erN⟩ : ∃ x, Int.tmod N (k : Int) = x := ⟨_, rfl⟩
            obtain ⟨rD, erD⟩ : ∃ x, Int.tmod D (k : Int) = x := ⟨_, rfl⟩
            have brN : 0 ≤ rN ∧ rN ≤ 64 := by rw [← erN]; have := Int.tmod_lt_of_pos N (show (0 : Int) < (k : Int) by omega); have := Int.tmod_nonneg (k : Int) q1; omega
            have brD : 0 ≤ rD ∧ rD ≤ 64 := by rw [← erD]; have := Int.tmod_lt_of_pos D (show (0 : Int) < (k : Int) by omega); have := Int.tmod_nonneg (k : Int) (show (0 : Int) ≤ D by omega); omega
            by_cases hA : rN = 0
            · have hB : (rD == 0) = false := by
                rw [beq_eq_false_iff_ne]
                intro e
                exact low_div q (show (2 : Int) ≤ (k : Int) by omega) (by rw [unhide hN, erN, hA]) (by rw [unhide hD, erD, e])
              have hA' : (rN == 0) = true := by rw [hA]; rfl
              go_wp2_with fail
              go_roundw
              case rel => exact ⟨k + 1, by omega, by omega, by go_num, trivial⟩
              case measure => simp [intOf]; omega
            · have hA' : (rN == 0) = false := by rw [beq_eq_false_iff_ne]; exact hA
              go_wp2_with fail
              go_roundw
              case rel => exact ⟨k + 1, by omega, by omega, by go_num, trivial⟩
              case measure => simp [intOf]; omega
          · have hk5 : k = 65 := by omega
            subst hk5
            have tk : ¬ (65 : Int) ≤ 64 := by omega
            by_cases hZ : N = 0
            · have hZ1 : D = 1 := by
                have h1 := num_zero q (by rw [unhide hN, hZ])
                have h2 := unhide hD
                omega
              have hZ' : (N != 0) = false := by rw [hZ]; rfl
              have hZ2 : (D == 1) = true := by rw [hZ1]; rfl
              go_wp2_with fail
              go_ret
              exact ⟨rfl, unhide hbz⟩
            · have hZ' : (N != 0) = true := by rw [bne_iff_ne]; exact hZ
              go_wp2_with fail
              go_ret
              exact ⟨rfl, unhide hbz⟩
end Go.Proofs.Ythkppilelpaieaa
