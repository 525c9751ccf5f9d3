/- KernSpaces. -/
import Derived.Test.YtbbbldaccpfooaaKern8
import Derived.Test.YtbbbldaccpfooaaKernP
namespace Go.Proofs.Ytbbbldaccpfooaa
open Go.RowKit
/-- a list that is filled from the front -/
def fillAt (F : Nat → Int) (n k : Nat) : List Value := ((List.range k).map fun i => Value.int .i64 (F i)) ++ List.replicate (n - k) (Value.int .i64 0)
theorem fillAt_zero (F : Nat → Int) (n : Nat) : fillAt F n 0 = List.replicate n (Value.int .i64 0) := rfl
theorem fillAt_full (F : Nat → Int) (n : Nat) : fillAt F n n = ((List.range n).map F).map (Value.int .i64) := by
  unfold fillAt
  simp
theorem fillAt_len (F : Nat → Int) (n k : Nat) (h : k ≤ n) : (fillAt F n k).length = n := by
  unfold fillAt
  simp
  omega
theorem fillAt_set (F : Nat → Int) (n k : Nat) (h : k < n) : (fillAt F n k).set k (.int .i64 (F k)) = fillAt F n (k + 1) := by
  unfold fillAt
  rw [List.set_append_right _ _ (by simp), List.range_succ, show n - k = (n - (k + 1)) + 1 by omega, List.replicate_succ]
  simp
def moreL (F : Nat → Int) (n i : Nat) (d : Int) : List Int := ((List.range n).map F).set i (F i + d)
theorem moreL_len (F : Nat → Int) (n i : Nat) (d : Int) : (moreL F n i d).length = n := by unfold moreL; simp
theorem moreL_getD (F : Nat → Int) (n i : Nat) (d : Int) (k : Nat) (h : k < n) : (moreL F n i d).getD k 0 = F k + (if k = i then d else 0) := by
  unfold moreL
  rw [List.getD_eq_getElem?_getD, List.getElem?_set]
  by_cases hki : k = i
  · subst hki
    simp [h]
  · rw [if_neg (fun e => hki e.symm), if_neg hki]
    simp [h]
theorem moreL_mem (F : Nat → Int) (n i : Nat) (d : Int) (hF : ∀ k, 0 ≤ F k ∧ F k ≤ 5) (hd : -20 ≤ d ∧ d ≤ 20) : ∀ x ∈ moreL F n i d, -20 ≤ x ∧ x ≤ 25 := by
  intro x hx
  unfold moreL at hx
  rcases List.mem_or_eq_of_mem_set hx with h | h
  · obtain ⟨k, _, rfl⟩ := List.mem_map.1 h
    have := hF k
    omega
  · have := hF i
    omega
theorem moreL_row (F : Nat → Int) (n i : Nat) (d : Int) : (fillAt F n n).set i (.int .i64 (F i + d)) = (moreL F n i d).map (Value.int .i64) := by
  rw [fillAt_full]
  unfold moreL
  rw [List.map_set]
set_option maxRecDepth 100000 in
set_option maxHeartbeats 4000000 in
theorem kernSpaces_nat (cs : Array Value) (y : List (List Int) × (List (Int × Int × Int) × (List Int × List Int))) (A0 : Nat) (dy : Int) (S0 : Nat) (w : World) (hy : ECase.rep w (fun b => b < w.heap.size) cs.toList y) (hA0 : A0 ≤ 255) (hdy : -128 ≤ dy ∧ dy ≤ 127) (hS0 : S0 ≤ 255) :
    Calls Try.prog 6 #[.agg cs, .int .u8 (A0 : Int), .int .i8 dy, .int .u8 (S0 : Int)] w fun e w' => e = .returned (.bool true) ∧ Below w.heap.size w w' := by
  obtain ⟨fa, fn, fc, ka, kn, kc, ga, gn, gc, sa, sn, sc, rfl, _⟩ := case_open hy
  obtain ⟨bx, hbx⟩ : ∃ bx, bx = w.heap.size := ⟨_, rfl⟩
  obtain ⟨V, hV⟩ : ∃ V, V = w.alloc (Obj.cells #[.slice fa fn fc, .slice ka kn kc, .slice ga gn gc, .slice sa sn sc] 26) := ⟨_, rfl⟩
  have hr0 : V.heap[bx]? = some (.cells #[.slice fa fn fc, .slice ka kn kc, .slice ga gn gc, .slice sa sn sc] 26 (0, 0)) := by rw [hV, hbx]; exact heap_alloc_new w _
  have hb0 : Below w.heap.size w V := by rw [hV]; exact (Below.refl _ _).alloc (Nat.le_refl _) _
  have hyV := Enc.under hy hb0
  clear hy
  replace hbx := hide hbx; replace hV := hide hV; replace hr0 := hide hr0; replace hb0 := hide hb0; replace hyV := hide hyV
  go_enter Try.func6, Try.ntmps6
  go_wp2_with fail
  rw [← unhide hV, ← unhide hbx]
  go_wp2_with fail
  refine (sanity_any _).mono ?_
  rintro e w1 ⟨rfl, hb1⟩
  have hr1 := row_kept (unhide hr0) hb1
  have hB1 := (unhide hb0).trans (hb1.mono (unhide hb0).size)
  have hmk := cmade_any #[.slice fa fn fc, .slice ka kn kc, .slice ga gn gc, .slice sa sn sc] y w1 (Enc.under (unhide hyV) hb1)
  obtain ⟨y0, y1, y2, y3⟩ := row4 hr1
  clear hyV hr1 hr0 hb0 hb1 hV
  replace hmk := hide hmk; replace hB1 := hide hB1
  go_wp2_with fail
  refine (unhide hmk).mono ?_
  rintro e w2 ⟨⟨f, av, ks, pa, pc, gs, ra, rc, ss, rfl, hf, hg, hg10, hgc, hgb, hs, hs10, hsb⟩, hb2⟩
  obtain ⟨s, n, va, vn, vc, gla, glc, qa, qn, qc, ta, tn, tc, xa, xc, rfl⟩ := hf.shape
  have hB2 := (unhide hB1).trans (hb2.mono (unhide hB1).size)
  obtain ⟨av9, avs, kss⟩ := hf.avs
  obtain ⟨bf, hbf⟩ : ∃ bf, bf = w2.heap.size := ⟨_, rfl⟩
  obtain ⟨W, hW⟩ : ∃ W, W = w2.alloc (Obj.cells #[.string s, .int .i64 n, .slice va vn vc, .slice gla av.length glc, .slice qa qn qc, .slice ta tn tc, .slice xa ks.length xc] 33) := ⟨_, rfl⟩
  have hrF : W.heap[bf]? = some (.cells #[.string s, .int .i64 n, .slice va vn vc, .slice gla av.length glc, .slice qa qn qc, .slice ta tn tc, .slice xa ks.length xc] 33 (0, 0)) := by rw [hW, hbf]; exact heap_alloc_new w2 _
  have hb3 : Below w2.heap.size w2 W := by rw [hW]; exact (Below.refl _ _).alloc (Nat.le_refl _) _
  have hfW := hf.under hb3
  have hgW := hg.under hb3
  have hsW := hs.under hb3
  have hB := hB2.trans (hb3.mono hB2.size)
  clear hmk hB1 hB2 hf hg hs hb2 hb3 y0 y1 y2 y3
  replace hfW := hide hfW; replace hgW := hide hgW; replace hsW := hide hsW; replace hB := hide hB; replace hrF := hide hrF; replace hbf := hide hbf; replace hW := hide hW; replace avs := hide avs; replace kss := hide kss; replace hgb := hide hgb; replace hsb := hide hsb
  by_cases hz : gs.length = 0
  · have tz : (gs.length : Int) = 0 := by omega
    have hbz := unhide hB
    go_wp2_with fail
    rw [← unhide hbf, ← unhide hW]
    go_ret
    exact ⟨rfl, hbz⟩
  have tz : ¬ (gs.length : Int) = 0 := by omega
  have hpos : 0 < gs.length := by omega
  obtain ⟨i, hi⟩ : ∃ i, A0 % gs.length = i := ⟨_, rfl⟩
  have ti : Int.tmod (A0 : Int) (gs.length : Int) = (i : Int) := by rw [← hi]; rfl
  have hil : i < gs.length := by rw [← hi]; exact Nat.mod_lt _ hpos
  obtain ⟨m, hm⟩ : ∃ m, S0 % 31 = m := ⟨_, rfl⟩
  have tm : Int.tmod (S0 : Int) 31 = (m : Int) := by rw [← hm]; rfl
  have hm30 : m ≤ 30 := by omega
  obtain ⟨d, td⟩ : ∃ d, Int.tmod dy 21 = d := ⟨_, rfl⟩
  have hdb : -20 ≤ d ∧ d ≤ 20 := by have := tmod_bounds dy 21 (by omega); omega
  clear hi hm
  have hmk := make24 gs.length (by omega)
  obtain ⟨F, hF⟩ : ∃ F : Nat → Int, (fun k => ss.getD k 0) = F := ⟨_, rfl⟩
  have hFk : ∀ k, ss.getD k 0 = F k := fun k => by rw [← hF]
  have hFb : ∀ k, 0 ≤ F k ∧ F k ≤ 5 := fun k => by
    rw [← hFk, List.getD_eq_getElem?_getD]
    cases hk : ss[k]? with
    | none => simp
    | some x => exact unhide hsb x (List.mem_of_getElem? hk)
  have hsb2 : ∀ x ∈ ss, -20 ≤ x ∧ x ≤ 25 := fun x hx => by have := unhide hsb x hx; omega
  clear hF
  replace hFk := hide hFk; replace hFb := hide hFb; replace hsb2 := hide hsb2
  go_wp2_with fail
  rw [← unhide hbf, ← unhide hW]
  obtain ⟨M, hM'⟩ : ∃ M, bf + 1 = M := ⟨_, rfl⟩
  have hM : W.heap.size = M := by rw [← hM', unhide hW, unhide hbf]; simp
  rw [hM']
  clear hM'
  have hrow0 : (W.alloc (.cells (madeCells #[Value.int .i64 0] gs.length) 3)).ownsRow W.heap.size 3 1 (.slice (some ⟨M, 0, none⟩) gs.length gs.length) gs.length (fillAt F gs.length 0) := by
    have := World.ownsRow_lit (base := W.heap.size) (e := 3) (size := 1) W (madeCells #[Value.int .i64 0] gs.length) gs.length (Nat.le_refl _) (by unfold maxLen; omega) (by rw [size_madeCells]; omega)
    rw [hM, toList_madeCells_one] at this
    rw [hM]
    exact this
  have hbA : Below W.heap.size W (W.alloc (.cells (madeCells #[Value.int .i64 0] gs.length) 3)) := (Below.refl _ _).alloc (Nat.le_refl _) _
  obtain ⟨W1, hW1⟩ : ∃ W1, W.alloc (.cells (madeCells #[Value.int .i64 0] gs.length) 3) = W1 := ⟨_, rfl⟩
  rw [hW1]
  rw [hW1] at hrow0 hbA
  clear hmk ti
  replace hW1 := hide hW1; replace hM := hide hM; replace hrow0 := hide hrow0; replace hbA := hide hbA
  go_wp2_with fail
  have tzb : ((gs.length : Int) == 0) = false := beq_eq_false_iff_ne.2 tz
  simp only [tzb]
  clear tzb
  go_loopw [16] (fun v wr => ∃ k : Nat, k ≤ gs.length ∧ v = .int .i64 (k : Int) ∧ wr.ownsRow W.heap.size 3 1 (.slice (some ⟨M, 0, none⟩) gs.length gs.length) gs.length (fillAt F gs.length k) ∧ Below W.heap.size W wr) (fun v _ => gs.length - (intOf v).toNat)
  case atStart => exact ⟨0, by omega, rfl, unhide hrow0, unhide hbA⟩
  case round =>
    obtain ⟨k, hk, rfl, hrow, hbw⟩ := hrel
    by_cases hlt : k < gs.length
    · have cB := at_any (· < wr.heap.size) ra ss.length rc ss k wr ((unhide hsW).under hbw) (by omega) (by omega)
      rw [unhide hFk k] at cB
      obtain ⟨wo, rfl⟩ : ∃ wo : World, wo = wr := ⟨_, rfl⟩
      have hsn := fillAt_set F gs.length k hlt
      obtain ⟨x, hx⟩ : ∃ x, F k = x := ⟨_, rfl⟩
      rw [hx] at cB hsn
      clear hx
      replace cB := hide cB; replace hsn := hide hsn
      replace hrow := hide hrow; replace hbw := hide hbw
      go_wp2_with fail
      refine (unhide cB).mono ?_
      rintro e w1 ⟨rfl, hb1⟩
      have hrow1 := own_below (unhide hrow) hb1
      have hbw1 := (unhide hbw).trans (hb1.mono (unhide hbw).size)
      clear hrow hbw hb1 cB
      have hf0 := hrow1.frozenAt k
      obtain ⟨v0, hcM⟩ : ∃ v0, w1.cell? ⟨M, k, none⟩ = some v0 := ⟨_, (hrow1.cellAt k (by omega)).trans (List.getElem?_eq_getElem (by rw [fillAt_len _ _ _ hk]; omega))⟩
      obtain ⟨hrow2, hgr2⟩ := hrow1.stored k (.int .i64 x)
      rw [unhide hsn] at hrow2
      have hbw2 := hbw1.grown hgr2 hbw1.size (fun j hj => by cases hj; rw [← unhide hM]; exact Nat.le_refl _)
      clear hrow1 hbw1 hgr2 hsn
      replace hrow2 := hide hrow2; replace hbw2 := hide hbw2
      go_wp2_with fail
      go_roundw
      case rel =>
        first
        | exact ⟨k + 1, by omega, by go_num, unhide hrow2, unhide hbw2⟩
        | exact ⟨_, _, _, _, _, _, _, _, _, _, _, _, _, ⟨k + 1, by omega, by go_num, unhide hrow2, unhide hbw2⟩, rfl⟩
      case measure => simp [intOf]; omega
    · have hke : k = gs.length := by omega
      subst hke
      obtain ⟨wo, rfl⟩ : ∃ wo : World, wo = wr := ⟨_, rfl⟩
      clear hrow0 hbA hW1
      have hcM : wo.cell? ⟨M, i, none⟩ = some (.int .i64 (F i)) := by
        refine (hrow.cellAt i (by omega)).trans ?_
        rw [fillAt_full, List.getElem?_map, List.getElem?_map, List.getElem?_range hil]
        rfl
      have hf0 := hrow.frozenAt i
      obtain ⟨hrow2, hgr2⟩ := hrow.stored i (.int .i64 (F i + d))
      rw [moreL_row] at hrow2
      have hbw2 := hbw.grown hgr2 hbw.size (fun j hj => by cases hj; rw [← unhide hM]; exact Nat.le_refl _)
      have hFi := unhide hFb i
      have hmo := lst_own hrow2 (fun x hx => by have := moreL_mem F gs.length i d (unhide hFb) hdb x hx; unfold I64; omega)
      have hmo1 := hmo.1
      have hps := fun k (hk : k ≤ gs.length) => pos_more av ks gs ss (moreL F gs.length i d) (m : Int) i d (unhide avs) (unhide kss) (unhide hsb2) (moreL_mem F gs.length i d (unhide hFb) hdb) (by omega) (by omega) hg10 (fun q hq => by rw [moreL_getD _ _ _ _ _ hq, unhide hFk q]) k hk
      have hsm := fun k (hk : k ≤ gs.length) => pos_small av ks gs ss (m : Int) (unhide avs) (unhide kss) (unhide hsb2) (by omega) (by omega) k (by omega)
      obtain ⟨MO, hMO⟩ : ∃ MO, moreL F gs.length i d = MO := ⟨_, rfl⟩
      rw [hMO] at hmo1 hps
      obtain ⟨Fi, hFi'⟩ : ∃ Fi, F i = Fi := ⟨_, rfl⟩
      rw [hFi'] at hcM hFi hbw2 hmo1
      obtain ⟨wn, hwn⟩ : ∃ wn, wo.setCell ⟨M, i, none⟩ (.int .i64 (Fi + d)) = wn := ⟨_, rfl⟩
      rw [hwn] at hbw2 hmo1
      clear hrow hrow2 hgr2 hMO hFi' hmo
      replace hwn := hide hwn; replace hbw2 := hide hbw2; replace hmo1 := hide hmo1; replace hps := hide hps; replace hsm := hide hsm; replace hbw := hide hbw
      have hf1 := hide ((unhide hfW).under (unhide hbw2))
      have hg1 := hide ((unhide hgW).under (unhide hbw2))
      have hs1 := hide ((unhide hsW).under (unhide hbw2))
      have hr1 := hide (row_kept (unhide hrF) (unhide hbw2))
      have hr1s := unhide hr1
      rw [← unhide hwn] at hr1s
      obtain ⟨y0, y1, y2, y3, y4, y5, y6⟩ := row7 hr1s
      clear hr1s
      have c1 := hide (kplace_font _ av ks pa gs.length pc gs ra ss.length rc ss (m : Int) wn (unhide hf1) (unhide hg1) (unhide hs1) (by omega) (by omega) (by unfold I64; omega))
      have hp0 : ∀ k x, k < gs.length → (posL (penS av ks gs ss (m : Int)) gs.length)[k]? = some x → x = roundI (penS av ks gs ss (m : Int) k) 64 := fun k x hk h => by
        rw [posL_get _ _ _ hk] at h
        exact (Option.some.inj h).symm
      have hp1 : ∀ k x, k < gs.length → (posL (penS av ks gs MO (m : Int)) gs.length)[k]? = some x → x = roundI (penS av ks gs ss (m : Int) k) 64 + (if i < k then d else 0) := fun k x hk h => by
        rw [posL_get _ _ _ hk, unhide hps k (Nat.le_of_lt hk)] at h
        exact (Option.some.inj h).symm
      have hX2 := unhide hps gs.length (Nat.le_refl _)
      rw [if_pos hil] at hX2
      have hR := unhide hsm
      obtain ⟨R, hRe⟩ : ∃ R : Nat → Int, (fun k => roundI (penS av ks gs ss (m : Int) k) 64) = R := ⟨_, rfl⟩
      have hRk : ∀ k, roundI (penS av ks gs ss (m : Int) k) 64 = R k := fun k => by rw [← hRe]
      simp only [hRk] at hp0 hp1 hX2 hR
      have c1' := unhide c1
      rw [hRk] at c1'
      clear hRe c1 hps hsm
      obtain ⟨PA, hPA⟩ : ∃ PA, posL (penS av ks gs ss (m : Int)) gs.length = PA := ⟨_, rfl⟩
      obtain ⟨PB, hPB⟩ : ∃ PB, posL (penS av ks gs MO (m : Int)) gs.length = PB := ⟨_, rfl⟩
      rw [hPA] at c1' hp0
      rw [hPB] at hp1
      have hRL := hR gs.length (Nat.le_refl _)
      obtain ⟨X, hX⟩ : ∃ X, R gs.length = X := ⟨_, rfl⟩
      rw [hX] at c1' hX2 hRL
      have tY : IntKind.i64.wrap (X + d) = X + d := IntWalk.i64_in _ (by omega)
      have c1 := hide c1'
      clear c1' hPA hX
      replace hp0 := hide hp0; replace hp1 := hide hp1; replace hX2 := hide hX2; replace hR := hide hR; replace hRk := hide hRk; replace hPB := hide hPB; replace tY := hide tY
      go_wp2_with fail
      rw [unhide hwn]
      refine (unhide c1).mono ?_
      rintro e w3 ⟨qa, rfl, hA, hb⟩
      have hf3 := hide ((unhide hf1).under hb)
      have hg3 := hide ((unhide hg1).under hb)
      have hm3 := hide ((unhide hmo1).under hb)
      have hr3 := hide (row_kept (unhide hr1) hb)
      have hbB := (unhide hB).trans ((unhide hbw2).mono (unhide hB).size)
      have hB3 := hide (hbB.trans (hb.mono hbB.size))
      replace hA := hide hA
      have c2 := kplace_font _ av ks pa gs.length pc gs (some ⟨M, 0, none⟩) gs.length gs.length MO (m : Int) w3 (unhide hf3) (unhide hg3) (unhide hm3) (by omega) (by omega) (by unfold I64; omega)
      rw [unhide hX2, unhide hPB] at c2
      clear y0 y1 y2 y3 y4 y5 y6 hf1 hg1 hmo1 hr1 hbB hbw2 hb c1 hX2 hPB hwn hs1
      obtain ⟨y0, y1, y2, y3, y4, y5, y6⟩ := row7 (unhide hr3)
      replace c2 := hide c2
      go_wp2_with fail
      refine (unhide c2).mono ?_
      rintro e w4 ⟨qb, rfl, hB4, hb⟩
      have hA4 := hide ((unhide hA).under hb)
      have hZ := hide ((unhide hB3).trans (hb.mono (unhide hB3).size))
      replace hB4 := hide hB4
      clear y0 y1 y2 y3 y4 y5 y6 hf3 hg3 hm3 hr3 hA hb c2
      replace tY := unhide tY
      go_wp2_with fail
      clear tY
      go_loopw [21] (fun v wr => ∃ k : Nat, k ≤ gs.length ∧ v = .int .i64 (k : Int) ∧ wr = w4) (fun v _ => gs.length - (intOf v).toNat)
      case atStart => exact ⟨0, by omega, rfl, rfl⟩
      case round =>
        obtain ⟨k, hk, rfl, ew⟩ := hrel
        subst ew
        by_cases hlt : k < gs.length
        · obtain ⟨b1, off1, x, rfl, _, hpx, hxi, hc1⟩ := lst_int (unhide hA4) hlt
          obtain ⟨b2, off2, y, rfl, _, hpy, _, hc2⟩ := lst_int (unhide hB4) hlt
          have e1 := unhide hp0 k x hlt hpx
          have e2 := unhide hp1 k y hlt hpy
          have e3 := unhide hR k hk
          rw [← e1] at e2 e3
          clear e1 hpx hpy
          by_cases hik : i < k
          · have tik : (i : Int) < (k : Int) := by omega
            rw [if_pos hik] at e2
            subst e2
            have tw : IntKind.i64.wrap (x + d) = x + d := IntWalk.i64_in _ (by omega)
            go_wp2_with fail
            go_roundw
            case rel => exact ⟨k + 1, by omega, by go_num, trivial⟩
            case measure => simp [intOf]; omega
          · have tik : ¬ (i : Int) < (k : Int) := by omega
            rw [if_neg hik, Int.add_zero] at e2
            subst e2
            go_wp2_with fail
            go_roundw
            case rel => exact ⟨k + 1, by omega, by go_num, trivial⟩
            case measure => simp [intOf]; omega
        · have hke : k = gs.length := by omega
          subst hke
          have hz := unhide hZ
          go_wp2_with fail
          go_ret
          exact ⟨rfl, hz⟩
theorem kernSpaces_any (cs : Array Value) (y : List (List Int) × (List (Int × Int × Int) × (List Int × List Int))) (a d s : Int) (w : World) (hy : ECase.rep w (fun b => b < w.heap.size) cs.toList y) (ha : 0 ≤ a ∧ a ≤ 255) (hd : -128 ≤ d ∧ d ≤ 127) (hs : 0 ≤ s ∧ s ≤ 255) :
    Calls Try.prog 6 #[.agg cs, .int .u8 a, .int .i8 d, .int .u8 s] w fun e w' => e = .returned (.bool true) ∧ Below w.heap.size w w' := by
  obtain ⟨A0, rfl⟩ := Int.eq_ofNat_of_zero_le ha.1
  obtain ⟨S0, rfl⟩ := Int.eq_ofNat_of_zero_le hs.1
  exact kernSpaces_nat cs y A0 d S0 w hy (by omega) hd (by omega)
end Go.Proofs.Ytbbbldaccpfooaa
