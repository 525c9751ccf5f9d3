/- Tents: Scalar, the reference's. -/
import Derived.Test.YthkppilelpaieaaAx14
import Derived.Test.YthkppilelpaieaaMul
namespace Go.Proofs.Ythkppilelpaieaa
open Go.RowKit
theorem rmul_small (q : Rat) (n d : Int) (w : World) (h1 : 0 ≤ q.num) (h2 : q.num ≤ 268435456) (h3 : q.den ≤ 268435456) (h4 : 0 ≤ n ∧ n ≤ 128) (h5 : 1 ≤ d ∧ d ≤ 128) (h6 : 0 ≤ (q * Ex.rat n d).num) (h7 : (q * Ex.rat n d).num ≤ 268435456) (h8 : (q * Ex.rat n d).den ≤ 268435456) :
    Calls Try.prog 41 #[.agg #[.int .i64 q.num, .int .i64 q.den], .agg #[.int .i64 n, .int .i64 d]] w fun e w' => e = .returned (.tuple #[.agg #[.int .i64 (q * Ex.rat n d).num, .int .i64 (q * Ex.rat n d).den], .bool true]) ∧ Below w.heap.size w w' := by
  have hdp := q.den_pos
  have := rmul_ok q.num q.den n d w ⟨by omega, by omega⟩ ⟨by omega, by omega⟩ ⟨by omega, by omega⟩ ⟨by omega, by omega⟩ (by omega) h5.1
  have e : Ex.mulS q.num q.den n d = some ((q * Ex.rat n d).num, ((q * Ex.rat n d).den : Int)) := by
    unfold Ex.mulS
    rw [if_neg (by omega), rat_self, fit_small h6 h7 h8]
  rw [e] at this
  exact this
set_option maxHeartbeats 8000000 in
set_option maxRecDepth 100000 in
theorem rscalar_any (a : Option Addr) (n c : Nat) (l : List Tent) (ua : Option Addr) (un uc : Nat) (u : List Int) (w : World) (hl : Lst Enc.tent w (· < w.heap.size) a n l) (hu : Lst Enc.int w (· < w.heap.size) ua un u) (hn : n ≤ 4) (_ : un ≤ 1000000000000) :
    Calls Try.prog 22 #[.slice a n c, .slice ua un uc] w fun e w' => e = .returned (.agg #[.int .i64 (scalS l u).1, .int .i64 (scalS l u).2]) ∧ Below w.heap.size w w' := by
  have hll := hl.1
  have hul := hu.1
  obtain ⟨b4, V, hb4, hV, st⟩ := (St.start w).new (Obj.cells #[.int .i64 0, .int .i64 0] 44)
  have hc := rfits_any a n c l (n : Int) V (hl.under st.below) (by omega)
  have hfs : fitsS l (n : Int) = allV l := by unfold fitsS; rw [decide_eq_true (by rw [hll]), Bool.true_and]
  rw [hfs] at hc
  have h4 := st.get 0 rfl
  have hbV := st.below
  have hb4w : w.heap.size ≤ b4 := by omega
  clear st hfs
  replace hl := hide hl; replace hu := hide hu
  cases hv : allV l with
  | false =>
    have hfin : scalS l u = (0, 0) := by unfold scalS; rw [hv]; rfl
    rw [hfin]
    rw [hv] at hc
    replace hc := hide hc; replace hV := hide hV; replace hb4 := hide hb4; replace hbV := hide hbV; replace hv := hide hv; replace hfin := hide hfin; replace hll := hide hll; replace hul := hide hul; replace h4 := hide h4
    clear hl hu
    go_enter Try.func22, Try.ntmps22
    go_wp2_with fail
    rw [unhide hV, unhide hb4]
    refine (unhide hc).mono ?_
    rintro e w1 ⟨rfl, hb⟩
    have hr4 := (hb.block b4 (Array.getElem?_eq_some_iff.1 (unhide h4)).1).trans (unhide h4)
    have hbz := (unhide hbV).trans (hb.mono (unhide hbV).size)
    have f0 : w1.cell? ⟨b4, 0, none⟩ = some (.int .i64 0) := (cell_of_row _ _ 0 _ _ _ hr4).trans rfl
    have f1 : w1.cell? ⟨b4, 1, none⟩ = some (.int .i64 0) := (cell_of_row _ _ 1 _ _ _ hr4).trans rfl
    have g0 : w1.frozen? ⟨b4, 0, none⟩ = false := by simp [World.frozen?, hr4]
    have g1 : w1.frozen? ⟨b4, 1, none⟩ = false := by simp [World.frozen?, hr4]
    have es0 : w1.setCell ⟨b4, 0, none⟩ (.int .i64 0) = w1 := set_same hr4 rfl
    have es1 : w1.setCell ⟨b4, 1, none⟩ (.int .i64 0) = w1 := set_same hr4 rfl
    clear hc hr4 hb hbV
    replace hbz := hide hbz
    go_wp2_with fail
    refine bodyPost_ret (v := .agg #[.int .i64 0, .int .i64 0]) (by simp [results, Try.results22, go_sem, f0, f1]) rfl ⟨rfl, unhide hbz⟩
  | true =>
    have hfin : scalS l u = ((scalP l u n).num, ((scalP l u n).den : Int)) := by unfold scalS; rw [hv, hll]; rfl
    rw [hfin]
    rw [hv] at hc
    replace hc := hide hc; replace hV := hide hV; replace hb4 := hide hb4; replace hbV := hide hbV; replace hv := hide hv; replace hfin := hide hfin; replace hll := hide hll; replace hul := hide hul; replace h4 := hide h4
    go_enter Try.func22, Try.ntmps22
    go_wp2_with fail
    rw [unhide hV, unhide hb4]
    refine (unhide hc).mono ?_
    rintro e w1 ⟨rfl, hb⟩
    obtain ⟨b5, W, hb5, hW, st⟩ := (St.start w1).new (Obj.cells #[.int .i64 1, .int .i64 1] 44)
    have h5 := st.get 0 rfl
    have hb2 := hb.trans (st.below.mono hb.size)
    have h4b := (hb2.block b4 (Array.getElem?_eq_some_iff.1 (unhide h4)).1).trans (unhide h4)
    have hbW := (unhide hbV).trans (hb2.mono (unhide hbV).size)
    have hb45 : b4 < b5 := by have := (Array.getElem?_eq_some_iff.1 (unhide h4)).1; have := hb.size; omega
    clear hc hb hb2 st hbV h4
    replace hb5 := hide hb5; replace hW := hide hW; replace h5 := hide h5; replace h4b := hide h4b; replace hbW := hide hbW
    go_wp2_with fail
    rw [unhide hW, unhide hb5]
    go_loopw [6] (fun v wr => ∃ k : Nat, k ≤ n ∧ v = .int .i64 (k : Int) ∧ wr.heap[b5]? = some (.cells #[.int .i64 (scalP l u k).num, .int .i64 (scalP l u k).den] 44 (0, 0)) ∧ wr.heap[b4]? = some (.cells #[.int .i64 0, .int .i64 0] 44 (0, 0)) ∧ Below w.heap.size w wr) (fun v _ => n - (intOf v).toNat)
    case atStart => exact ⟨0, by omega, rfl, unhide h5, unhide h4b, unhide hbW⟩
    case round =>
      clear h5 h4b hbW
      obtain ⟨k, hk, rfl, h5, h4, hbw⟩ := hrel
      obtain ⟨wo, rfl⟩ : ∃ wo : World, wo = wr := ⟨_, rfl⟩
      have e0 : wo.cell? ⟨b5, 0, none⟩ = some (.int .i64 (scalP l u k).num) := (cell_of_row _ _ 0 _ _ _ h5).trans rfl
      have e1 : wo.cell? ⟨b5, 1, none⟩ = some (.int .i64 (scalP l u k).den) := (cell_of_row _ _ 1 _ _ _ h5).trans rfl
      by_cases hlt : k < n
      · obtain ⟨b1, o1, t, rfl, _, hx, i1, i2, i3, c0, c1, c2⟩ := lst_tent ((unhide hl).below hbw) hlt
        have hsc := scalP_succ (at_ := u) hx
        obtain ⟨m1, m2, m3⟩ := scalP_bd u (unhide hv) k (by have := unhide hll; omega)
        obtain ⟨m4, m5, m6⟩ := scalP_bd u (unhide hv) (k + 1) (by have := unhide hll; omega)
        have p1 := pow_le4 (k := k) (by omega)
        have p2 := pow_le4 (k := k + 1) (by omega)
        have hval : validS t.1 t.2.1 t.2.2 = true := by
          have := unhide hv
          unfold allV at this
          exact List.all_eq_true.1 this t (List.mem_of_getElem? hx)
        obtain ⟨lo, p, hi⟩ := t
        simp only at c0 c1 c2 hval
        obtain ⟨v1, v2, v3, v4, _⟩ := valid_facts hval
        have hpr := posAt_rng u k
        obtain ⟨vv, hvv⟩ : ∃ vv, posAt u k = vv := ⟨_, rfl⟩
        rw [hvv] at hpr hsc
        have hcv := fun w => rvalue_any lo p hi vv w v1 v2 v3 v4 hpr
        have hbd := valS_bd (v := vv) hval
        have htq : tq (lo, p, hi) vv = Ex.rat (valS lo p hi vv).1 (valS lo p hi vv).2 := rfl
        obtain ⟨nn, hnn⟩ : ∃ x, (valS lo p hi vv).1 = x := ⟨_, rfl⟩
        obtain ⟨d, hd⟩ : ∃ x, (valS lo p hi vv).2 = x := ⟨_, rfl⟩
        rw [hnn, hd] at hbd htq
        simp only [hnn, hd] at hcv
        rw [htq] at hsc
        rw [hsc] at m4 m5 m6
        have hcm := fun w => rmul_small (scalP l u k) nn d w m1 (by omega) (by omega) ⟨hbd.1, by omega⟩ ⟨hbd.2.2.1, hbd.2.2.2⟩ m4 (by omega) (by omega)
        obtain ⟨N1, hN1⟩ : ∃ x, (scalP l u k).num = x := ⟨_, rfl⟩
        obtain ⟨D1, hD1⟩ : ∃ x, ((scalP l u k).den : Int) = x := ⟨_, rfl⟩
        obtain ⟨N2, hN2'⟩ : ∃ x, (scalP l u k * Ex.rat nn d).num = x := ⟨_, rfl⟩
        obtain ⟨D2, hD2'⟩ : ∃ x, ((scalP l u k * Ex.rat nn d).den : Int) = x := ⟨_, rfl⟩
        have hN2 : (scalP l u (k + 1)).num = N2 := by rw [hsc, hN2']
        have hD2 : ((scalP l u (k + 1)).den : Int) = D2 := by rw [hsc, hD2']
        rw [hN1] at e0 h5
        rw [hD1] at e1 h5
        simp only [hN1, hD1, hN2', hD2'] at hcm
        clear hN1 hD1 hN2' hD2' hsc htq hbd hnn hd m1 m2 m3 m4 m5 m6 p1 p2 v1 v2 v3 v4 hval i1 i2 i3 hpr
        have huk := (unhide hu).below hbw
        have t1 : (k : Int) < (n : Int) := by omega
        have t2 : ¬ (n : Int) ≤ (k : Int) := by omega
        clear hx
        replace h5 := hide h5; replace h4 := hide h4; replace hbw := hide hbw
        replace hcv := hide hcv; replace hcm := hide hcm; replace hN2 := hide hN2; replace hD2 := hide hD2
        by_cases hun2 : k < un
        · obtain ⟨b2, o2, y, rfl, _, hy, _, c4⟩ := lst_int huk hun2
          have hlim := rlimited_any y wo
          have hvy : limS y = vv := by rw [← hvv]; unfold posAt; rw [hy]
          rw [hvy] at hlim
          have t3 : (k : Int) < (un : Int) := by omega
          have t4 : ¬ (un : Int) ≤ (k : Int) := by omega
          clear hy hvy huk
          replace hlim := hide hlim; replace hvv := hide hvv
          go_wp2_with fail
          refine (unhide hlim).mono ?_
          rintro e wv ⟨rfl, ew⟩
          rw [ew]
          clear hlim ew c4
          go_wp2_with fail
          refine wp_region_frontG 12 (fun LL vs w' => CS wo 11 [0, 1, 2, 3, 4, 5, 6, 7, 8, 9] (fun wz => (wz.setCell ⟨b5, 0, none⟩ (.int .i64 N2)).setCell ⟨b5, 1, none⟩ (.int .i64 D2)) LL vs w') (fun _ _ => True)
            (fun ix v w' => match ix with
              | 0 => v = .agg #[.int .i64 N1, .int .i64 D1]
              | 1 => v = .slice (some ⟨b1, o1, none⟩) n c
              | 2 => v = .int .i64 (k : Int)
              | 3 => v = .pointer (some ⟨b1, o1 + k * 3, none⟩)
              | 4 => v = .agg #[.int .i64 lo, .int .i64 p, .int .i64 hi]
              | 5 => v = .int .i64 vv
              | 6 => v = .agg #[.int .i64 nn, .int .i64 d]
              | 7 => v = .tuple #[.agg #[.int .i64 N2, .int .i64 D2], .bool true]
              | 8 => v = .tuple #[.agg #[.int .i64 N2, .int .i64 D2], .bool true]
              | 9 => v = .agg #[.int .i64 N2, .int .i64 D2]
              | 10 => v = .bool true
              | 11 => v = .bool true
              | _ => True) (by rfl) (by kernel_rfl) ?_ ?_ ?_ ?_
          · exact CS.start _ _ _ _
          · intro wa wb hRN ix v hv
            match ix, hv with
            | 0, h => exact h
            | 1, h => exact h
            | 2, h => exact h
            | 3, h => exact h
            | 4, h => exact h
            | 5, h => exact h
            | 6, h => exact h
            | 7, h => exact h
            | 8, h => exact h
            | 9, h => exact h
            | 10, h => exact h
            | 11, h => exact h
            | _ + 12, _ => trivial
          · intro ix hix
            obtain rfl | rfl | rfl | rfl | rfl | rfl | rfl | rfl | rfl | rfl | rfl | rfl : ix = 0 ∨ ix = 1 ∨ ix = 2 ∨ ix = 3 ∨ ix = 4 ∨ ix = 5 ∨ ix = 6 ∨ ix = 7 ∨ ix = 8 ∨ ix = 9 ∨ ix = 10 ∨ ix = 11 := by omega
            · refine FrontStep.of [] _ rfl (by kernel_rfl) ?_
              intro vs LL wq hLL hC hf
              simp only [putL, List.foldl_nil]
              have hE := (hC.early (j := 0) hLL (by decide)).2
              have f0 := cell_under e0 hE
              have f1 := cell_under e1 hE
              clear hE
              go_wp2_with fail
              first | exact hC.keep 0 _ (by decide) | exact ⟨hC.keep 0 _ (by decide), trivial⟩ | exact ⟨hC.keep 0 _ (by decide), trivial, by omega⟩
            · refine FrontStep.of [] _ rfl (by kernel_rfl) ?_
              intro vs LL wq hLL hC hf
              simp only [putL, List.foldl_nil]
              go_wp2_with fail
              first | exact hC.keep 1 _ (by decide) | exact ⟨hC.keep 1 _ (by decide), trivial⟩ | exact ⟨hC.keep 1 _ (by decide), trivial, by omega⟩
            · refine FrontStep.of [] _ rfl (by kernel_rfl) ?_
              intro vs LL wq hLL hC hf
              simp only [putL, List.foldl_nil]
              go_wp2_with fail
              first | exact hC.keep 2 _ (by decide) | exact ⟨hC.keep 2 _ (by decide), trivial⟩ | exact ⟨hC.keep 2 _ (by decide), trivial, by omega⟩
            · refine FrontStep.of [1, 2] _ rfl (by kernel_rfl) ?_
              intro vs LL wq hLL hC hf
              simp only [putL, List.foldl_nil, List.foldl_cons, List.getElem?_cons_zero, List.getElem?_cons_succ]
              have y1 : vs 1 = _ := hf 1 (by simp)
              try rw [y1]
              have y2 : vs 2 = _ := hf 2 (by simp)
              try rw [y2]
              go_wp2_with fail
              first | exact hC.keep 3 _ (by decide) | exact ⟨hC.keep 3 _ (by decide), trivial⟩ | exact ⟨hC.keep 3 _ (by decide), trivial, by omega⟩
            · refine FrontStep.of [3] _ rfl (by kernel_rfl) ?_
              intro vs LL wq hLL hC hf
              simp only [putL, List.foldl_nil, List.foldl_cons, List.getElem?_cons_zero, List.getElem?_cons_succ]
              have y3 : vs 3 = _ := hf 3 (by simp)
              try rw [y3]
              have hE := (hC.early (j := 4) hLL (by decide)).2
              have f0 := cell_under c0 hE
              have f1 := cell_under c1 hE
              have f2 := cell_under c2 hE
              clear hE
              go_wp2_with fail
              first | exact hC.keep 4 _ (by decide) | exact ⟨hC.keep 4 _ (by decide), trivial⟩ | exact ⟨hC.keep 4 _ (by decide), trivial, by omega⟩
            · refine FrontStep.of [] _ rfl (by kernel_rfl) ?_
              intro vs LL wq hLL hC hf
              simp only [putL, List.foldl_nil]
              go_wp2_with fail
              first | exact hC.keep 5 _ (by decide) | exact ⟨hC.keep 5 _ (by decide), trivial⟩ | exact ⟨hC.keep 5 _ (by decide), trivial, by omega⟩
            · refine FrontStep.of [4, 5] _ rfl (by kernel_rfl) ?_
              intro vs LL wq hLL hC hf
              simp only [putL, List.foldl_nil, List.foldl_cons, List.getElem?_cons_zero, List.getElem?_cons_succ]
              have y4 : vs 4 = _ := hf 4 (by simp)
              try rw [y4]
              have y5 : vs 5 = _ := hf 5 (by simp)
              try rw [y5]
              have hcq := unhide hcv wq
              replace hcq := hide hcq
              go_wp2_with fail
              refine (unhide hcq).mono ?_
              rintro e wz ⟨rfl, hbz⟩
              clear hcq
              go_wp2_with fail
              first | exact ⟨hC.call 6 _ hLL (by decide) (by decide) hbz, trivial⟩ | exact hC.call 6 _ hLL (by decide) (by decide) hbz
            · refine FrontStep.of [0, 6] _ rfl (by kernel_rfl) ?_
              intro vs LL wq hLL hC hf
              simp only [putL, List.foldl_nil, List.foldl_cons, List.getElem?_cons_zero, List.getElem?_cons_succ]
              have y0 : vs 0 = _ := hf 0 (by simp)
              try rw [y0]
              have y6 : vs 6 = _ := hf 6 (by simp)
              try rw [y6]
              have hcq := unhide hcm wq
              replace hcq := hide hcq
              go_wp2_with fail
              refine (unhide hcq).mono ?_
              rintro e wz ⟨rfl, hbz⟩
              clear hcq
              go_wp2_with fail
              first | exact ⟨hC.call 7 _ hLL (by decide) (by decide) hbz, trivial⟩ | exact hC.call 7 _ hLL (by decide) (by decide) hbz
            · refine FrontStep.of [7] _ rfl (by kernel_rfl) ?_
              intro vs LL wq hLL hC hf
              simp only [putL, List.foldl_nil, List.foldl_cons, List.getElem?_cons_zero, List.getElem?_cons_succ]
              have y7 : vs 7 = _ := hf 7 (by simp)
              try rw [y7]
              go_wp2_with fail
              first | exact hC.keep 8 _ (by decide) | exact ⟨hC.keep 8 _ (by decide), trivial⟩ | exact ⟨hC.keep 8 _ (by decide), trivial, by omega⟩
            · refine FrontStep.of [8] _ rfl (by kernel_rfl) ?_
              intro vs LL wq hLL hC hf
              simp only [putL, List.foldl_nil, List.foldl_cons, List.getElem?_cons_zero, List.getElem?_cons_succ]
              have y8 : vs 8 = _ := hf 8 (by simp)
              try rw [y8]
              go_wp2_with fail
              first | exact hC.keep 9 _ (by decide) | exact ⟨hC.keep 9 _ (by decide), trivial⟩ | exact ⟨hC.keep 9 _ (by decide), trivial, by omega⟩
            · refine FrontStep.of [8] _ rfl (by kernel_rfl) ?_
              intro vs LL wq hLL hC hf
              simp only [putL, List.foldl_nil, List.foldl_cons, List.getElem?_cons_zero, List.getElem?_cons_succ]
              have y8 : vs 8 = _ := hf 8 (by simp)
              try rw [y8]
              go_wp2_with fail
              first | exact hC.keep 10 _ (by decide) | exact ⟨hC.keep 10 _ (by decide), trivial⟩ | exact ⟨hC.keep 10 _ (by decide), trivial, by omega⟩
            · refine FrontStep.of [0, 1, 2, 3, 4, 5, 6, 7, 8, 9] _ rfl (by kernel_rfl) ?_
              intro vs LL wq hLL hC hf
              simp only [putL, List.foldl_nil, List.foldl_cons, List.getElem?_cons_zero, List.getElem?_cons_succ]
              have y0 : vs 0 = _ := hf 0 (by simp)
              try rw [y0]
              have y1 : vs 1 = _ := hf 1 (by simp)
              try rw [y1]
              have y2 : vs 2 = _ := hf 2 (by simp)
              try rw [y2]
              have y3 : vs 3 = _ := hf 3 (by simp)
              try rw [y3]
              have y4 : vs 4 = _ := hf 4 (by simp)
              try rw [y4]
              have y5 : vs 5 = _ := hf 5 (by simp)
              try rw [y5]
              have y6 : vs 6 = _ := hf 6 (by simp)
              try rw [y6]
              have y7 : vs 7 = _ := hf 7 (by simp)
              try rw [y7]
              have y8 : vs 8 = _ := hf 8 (by simp)
              try rw [y8]
              have y9 : vs 9 = _ := hf 9 (by simp)
              try rw [y9]
              have hcalm := hC.calm hLL
              have hr5 := (hcalm.block b5 (Array.getElem?_eq_some_iff.1 (unhide h5)).1).trans (unhide h5)
              have f0 : wq.cell? ⟨b5, 0, none⟩ = some (.int .i64 N1) := (cell_of_row _ _ 0 _ _ _ hr5).trans rfl
              have f1 : wq.cell? ⟨b5, 1, none⟩ = some (.int .i64 D1) := (cell_of_row _ _ 1 _ _ _ hr5).trans rfl
              have g0 : wq.frozen? ⟨b5, 0, none⟩ = false := by simp [World.frozen?, hr5]
              have g1 : wq.frozen? ⟨b5, 1, none⟩ = false := by simp [World.frozen?, hr5]
              have f1' : (wq.setCell ⟨b5, 0, none⟩ (.int .i64 N2)).cell? ⟨b5, 1, none⟩ = some (.int .i64 D1) := (cell_of_row _ _ 1 _ _ _ (heap_set (off := 0) hr5 (.int .i64 N2))).trans rfl
              have g1' : (wq.setCell ⟨b5, 0, none⟩ (.int .i64 N2)).frozen? ⟨b5, 1, none⟩ = false := by simp [World.frozen?, heap_set (off := 0) hr5 (.int .i64 N2)]
              clear hr5 hcalm
              have hnx := hC.store (.bool true) hLL (fun j hj => by simp at hj; rcases hj with rfl | rfl | rfl | rfl | rfl | rfl | rfl | rfl | rfl | rfl <;> first | (rw [y0]; exact fun h => by cases h) | (rw [y1]; exact fun h => by cases h) | (rw [y2]; exact fun h => by cases h) | (rw [y3]; exact fun h => by cases h) | (rw [y4]; exact fun h => by cases h) | (rw [y5]; exact fun h => by cases h) | (rw [y6]; exact fun h => by cases h) | (rw [y7]; exact fun h => by cases h) | (rw [y8]; exact fun h => by cases h) | (rw [y9]; exact fun h => by cases h))
              replace hnx := hide hnx
              clear y0 y1 y2 y3 y4 y5 y6 y7 y8 y9
              go_wp2_with fail
              first | exact ⟨.bool true, unhide hnx⟩ | exact ⟨.bool true, rfl, unhide hnx, trivial, rfl⟩ | exact unhide hnx | exact ⟨.bool true, unhide hnx, trivial⟩
          · intro vs LL wq hLL hC hf
            obtain ⟨wz, hC2, hwq⟩ := hC.fin (hLL 11 (by omega))
            rw [putSome_all]
            simp only [putL, List.range, List.range.loop, List.foldl_nil, List.foldl_cons, List.getElem?_cons_zero, List.getElem?_cons_succ, List.drop_succ_cons, List.drop_zero]
            clear hf hLL hC
            subst hwq
            have hr5 := (hC2.block b5 (Array.getElem?_eq_some_iff.1 (unhide h5)).1).trans (unhide h5)
            have hr4 := (hC2.block b4 (Array.getElem?_eq_some_iff.1 (unhide h4)).1).trans (unhide h4)
            have hbz := (unhide hbw).trans (hC2.mono (unhide hbw).size)
            have s5 := heap_set (off := 1) (heap_set (off := 0) hr5 (.int .i64 N2)) (.int .i64 D2)
            have gs1 := grown_set (w := wz) b5 0 (.int .i64 N2)
            have gs2 := grown_set (w := wz.setCell ⟨b5, 0, none⟩ (.int .i64 N2)) b5 1 (.int .i64 D2)
            have s4 := (gs2.block b4 (Nat.lt_of_lt_of_le (Array.getElem?_eq_some_iff.1 hr4).1 gs1.size) (fun e => by injection e; omega)).trans ((gs1.block b4 (Array.getElem?_eq_some_iff.1 hr4).1 (fun e => by injection e; omega)).trans hr4)
            have hbz2 := hbz.trans ((⟨gs1.os, gs1.tape, gs1.output, gs1.size, fun b hb => gs1.block b (Nat.lt_of_lt_of_le hb hbz.size) (fun e => by injection e; omega)⟩ : Below w.heap.size wz _).trans ⟨gs2.os, gs2.tape, gs2.output, gs2.size, fun b hb => gs2.block b (Nat.lt_of_lt_of_le hb (Nat.le_trans hbz.size gs1.size)) (fun e => by injection e; omega)⟩)
            clear hr5 hr4 hbz gs1 gs2 hC2 h5 h4 hbw hcv hcm e0 e1 c0 c1 c2
            obtain ⟨wq, hwq⟩ : ∃ wq, (wz.setCell ⟨b5, 0, none⟩ (.int .i64 N2)).setCell ⟨b5, 1, none⟩ (.int .i64 D2) = wq := ⟨_, rfl⟩
            rw [hwq] at s5 s4 hbz2 ⊢
            clear hwq
            replace s5 := hide s5; replace s4 := hide s4; replace hbz2 := hide hbz2
            go_simp
            go_wp2_with fail
            go_roundw
            case rel => exact ⟨k + 1, by omega, by go_num, by rw [unhide hN2, unhide hD2]; exact unhide s5, unhide s4, unhide hbz2⟩
            case measure => simp [intOf]; omega
        · have hvz : vv = 0 := by rw [← hvv]; unfold posAt; rw [List.getElem?_eq_none (by have := unhide hul; omega)]
          subst hvz
          have t3 : ¬ (k : Int) < (un : Int) := by omega
          clear huk
          replace hvv := hide hvv
          go_wp2_with fail
          refine wp_region_frontG 12 (fun LL vs w' => CS wo 11 [0, 1, 2, 3, 4, 5, 6, 7, 8, 9] (fun wz => (wz.setCell ⟨b5, 0, none⟩ (.int .i64 N2)).setCell ⟨b5, 1, none⟩ (.int .i64 D2)) LL vs w') (fun _ _ => True)
            (fun ix v w' => match ix with
              | 0 => v = .agg #[.int .i64 N1, .int .i64 D1]
              | 1 => v = .slice (some ⟨b1, o1, none⟩) n c
              | 2 => v = .int .i64 (k : Int)
              | 3 => v = .pointer (some ⟨b1, o1 + k * 3, none⟩)
              | 4 => v = .agg #[.int .i64 lo, .int .i64 p, .int .i64 hi]
              | 5 => v = .int .i64 0
              | 6 => v = .agg #[.int .i64 nn, .int .i64 d]
              | 7 => v = .tuple #[.agg #[.int .i64 N2, .int .i64 D2], .bool true]
              | 8 => v = .tuple #[.agg #[.int .i64 N2, .int .i64 D2], .bool true]
              | 9 => v = .agg #[.int .i64 N2, .int .i64 D2]
              | 10 => v = .bool true
              | 11 => v = .bool true
              | _ => True) (by rfl) (by kernel_rfl) ?_ ?_ ?_ ?_
          · exact CS.start _ _ _ _
          · intro wa wb hRN ix v hv
            match ix, hv with
            | 0, h => exact h
            | 1, h => exact h
            | 2, h => exact h
            | 3, h => exact h
            | 4, h => exact h
            | 5, h => exact h
            | 6, h => exact h
            | 7, h => exact h
            | 8, h => exact h
            | 9, h => exact h
            | 10, h => exact h
            | 11, h => exact h
            | _ + 12, _ => trivial
          · intro ix hix
            obtain rfl | rfl | rfl | rfl | rfl | rfl | rfl | rfl | rfl | rfl | rfl | rfl : ix = 0 ∨ ix = 1 ∨ ix = 2 ∨ ix = 3 ∨ ix = 4 ∨ ix = 5 ∨ ix = 6 ∨ ix = 7 ∨ ix = 8 ∨ ix = 9 ∨ ix = 10 ∨ ix = 11 := by omega
            · refine FrontStep.of [] _ rfl (by kernel_rfl) ?_
              intro vs LL wq hLL hC hf
              simp only [putL, List.foldl_nil]
              have hE := (hC.early (j := 0) hLL (by decide)).2
              have f0 := cell_under e0 hE
              have f1 := cell_under e1 hE
              clear hE
              go_wp2_with fail
              first | exact hC.keep 0 _ (by decide) | exact ⟨hC.keep 0 _ (by decide), trivial⟩ | exact ⟨hC.keep 0 _ (by decide), trivial, by omega⟩
            · refine FrontStep.of [] _ rfl (by kernel_rfl) ?_
              intro vs LL wq hLL hC hf
              simp only [putL, List.foldl_nil]
              go_wp2_with fail
              first | exact hC.keep 1 _ (by decide) | exact ⟨hC.keep 1 _ (by decide), trivial⟩ | exact ⟨hC.keep 1 _ (by decide), trivial, by omega⟩
            · refine FrontStep.of [] _ rfl (by kernel_rfl) ?_
              intro vs LL wq hLL hC hf
              simp only [putL, List.foldl_nil]
              go_wp2_with fail
              first | exact hC.keep 2 _ (by decide) | exact ⟨hC.keep 2 _ (by decide), trivial⟩ | exact ⟨hC.keep 2 _ (by decide), trivial, by omega⟩
            · refine FrontStep.of [1, 2] _ rfl (by kernel_rfl) ?_
              intro vs LL wq hLL hC hf
              simp only [putL, List.foldl_nil, List.foldl_cons, List.getElem?_cons_zero, List.getElem?_cons_succ]
              have y1 : vs 1 = _ := hf 1 (by simp)
              try rw [y1]
              have y2 : vs 2 = _ := hf 2 (by simp)
              try rw [y2]
              go_wp2_with fail
              first | exact hC.keep 3 _ (by decide) | exact ⟨hC.keep 3 _ (by decide), trivial⟩ | exact ⟨hC.keep 3 _ (by decide), trivial, by omega⟩
            · refine FrontStep.of [3] _ rfl (by kernel_rfl) ?_
              intro vs LL wq hLL hC hf
              simp only [putL, List.foldl_nil, List.foldl_cons, List.getElem?_cons_zero, List.getElem?_cons_succ]
              have y3 : vs 3 = _ := hf 3 (by simp)
              try rw [y3]
              have hE := (hC.early (j := 4) hLL (by decide)).2
              have f0 := cell_under c0 hE
              have f1 := cell_under c1 hE
              have f2 := cell_under c2 hE
              clear hE
              go_wp2_with fail
              first | exact hC.keep 4 _ (by decide) | exact ⟨hC.keep 4 _ (by decide), trivial⟩ | exact ⟨hC.keep 4 _ (by decide), trivial, by omega⟩
            · refine FrontStep.of [] _ rfl (by kernel_rfl) ?_
              intro vs LL wq hLL hC hf
              simp only [putL, List.foldl_nil]
              go_wp2_with fail
              first | exact hC.keep 5 _ (by decide) | exact ⟨hC.keep 5 _ (by decide), trivial⟩ | exact ⟨hC.keep 5 _ (by decide), trivial, by omega⟩
            · refine FrontStep.of [4, 5] _ rfl (by kernel_rfl) ?_
              intro vs LL wq hLL hC hf
              simp only [putL, List.foldl_nil, List.foldl_cons, List.getElem?_cons_zero, List.getElem?_cons_succ]
              have y4 : vs 4 = _ := hf 4 (by simp)
              try rw [y4]
              have y5 : vs 5 = _ := hf 5 (by simp)
              try rw [y5]
              have hcq := unhide hcv wq
              replace hcq := hide hcq
              go_wp2_with fail
              refine (unhide hcq).mono ?_
              rintro e wz ⟨rfl, hbz⟩
              clear hcq
              go_wp2_with fail
              first | exact ⟨hC.call 6 _ hLL (by decide) (by decide) hbz, trivial⟩ | exact hC.call 6 _ hLL (by decide) (by decide) hbz
            · refine FrontStep.of [0, 6] _ rfl (by kernel_rfl) ?_
              intro vs LL wq hLL hC hf
              simp only [putL, List.foldl_nil, List.foldl_cons, List.getElem?_cons_zero, List.getElem?_cons_succ]
              have y0 : vs 0 = _ := hf 0 (by simp)
              try rw [y0]
              have y6 : vs 6 = _ := hf 6 (by simp)
              try rw [y6]
              have hcq := unhide hcm wq
              replace hcq := hide hcq
              go_wp2_with fail
              refine (unhide hcq).mono ?_
              rintro e wz ⟨rfl, hbz⟩
              clear hcq
              go_wp2_with fail
              first | exact ⟨hC.call 7 _ hLL (by decide) (by decide) hbz, trivial⟩ | exact hC.call 7 _ hLL (by decide) (by decide) hbz
            · refine FrontStep.of [7] _ rfl (by kernel_rfl) ?_
              intro vs LL wq hLL hC hf
              simp only [putL, List.foldl_nil, List.foldl_cons, List.getElem?_cons_zero, List.getElem?_cons_succ]
              have y7 : vs 7 = _ := hf 7 (by simp)
              try rw [y7]
              go_wp2_with fail
              first | exact hC.keep 8 _ (by decide) | exact ⟨hC.keep 8 _ (by decide), trivial⟩ | exact ⟨hC.keep 8 _ (by decide), trivial, by omega⟩
            · refine FrontStep.of [8] _ rfl (by kernel_rfl) ?_
              intro vs LL wq hLL hC hf
              simp only [putL, List.foldl_nil, List.foldl_cons, List.getElem?_cons_zero, List.getElem?_cons_succ]
              have y8 : vs 8 = _ := hf 8 (by simp)
              try rw [y8]
              go_wp2_with fail
              first | exact hC.keep 9 _ (by decide) | exact ⟨hC.keep 9 _ (by decide), trivial⟩ | exact ⟨hC.keep 9 _ (by decide), trivial, by omega⟩
            · refine FrontStep.of [8] _ rfl (by kernel_rfl) ?_
              intro vs LL wq hLL hC hf
              simp only [putL, List.foldl_nil, List.foldl_cons, List.getElem?_cons_zero, List.getElem?_cons_succ]
              have y8 : vs 8 = _ := hf 8 (by simp)
              try rw [y8]
              go_wp2_with fail
              first | exact hC.keep 10 _ (by decide) | exact ⟨hC.keep 10 _ (by decide), trivial⟩ | exact ⟨hC.keep 10 _ (by decide), trivial, by omega⟩
            · refine FrontStep.of [0, 1, 2, 3, 4, 5, 6, 7, 8, 9] _ rfl (by kernel_rfl) ?_
              intro vs LL wq hLL hC hf
              simp only [putL, List.foldl_nil, List.foldl_cons, List.getElem?_cons_zero, List.getElem?_cons_succ]
              have y0 : vs 0 = _ := hf 0 (by simp)
              try rw [y0]
              have y1 : vs 1 = _ := hf 1 (by simp)
              try rw [y1]
              have y2 : vs 2 = _ := hf 2 (by simp)
              try rw [y2]
              have y3 : vs 3 = _ := hf 3 (by simp)
              try rw [y3]
              have y4 : vs 4 = _ := hf 4 (by simp)
              try rw [y4]
              have y5 : vs 5 = _ := hf 5 (by simp)
              try rw [y5]
              have y6 : vs 6 = _ := hf 6 (by simp)
              try rw [y6]
              have y7 : vs 7 = _ := hf 7 (by simp)
              try rw [y7]
              have y8 : vs 8 = _ := hf 8 (by simp)
              try rw [y8]
              have y9 : vs 9 = _ := hf 9 (by simp)
              try rw [y9]
              have hcalm := hC.calm hLL
              have hr5 := (hcalm.block b5 (Array.getElem?_eq_some_iff.1 (unhide h5)).1).trans (unhide h5)
              have f0 : wq.cell? ⟨b5, 0, none⟩ = some (.int .i64 N1) := (cell_of_row _ _ 0 _ _ _ hr5).trans rfl
              have f1 : wq.cell? ⟨b5, 1, none⟩ = some (.int .i64 D1) := (cell_of_row _ _ 1 _ _ _ hr5).trans rfl
              have g0 : wq.frozen? ⟨b5, 0, none⟩ = false := by simp [World.frozen?, hr5]
              have g1 : wq.frozen? ⟨b5, 1, none⟩ = false := by simp [World.frozen?, hr5]
              have f1' : (wq.setCell ⟨b5, 0, none⟩ (.int .i64 N2)).cell? ⟨b5, 1, none⟩ = some (.int .i64 D1) := (cell_of_row _ _ 1 _ _ _ (heap_set (off := 0) hr5 (.int .i64 N2))).trans rfl
              have g1' : (wq.setCell ⟨b5, 0, none⟩ (.int .i64 N2)).frozen? ⟨b5, 1, none⟩ = false := by simp [World.frozen?, heap_set (off := 0) hr5 (.int .i64 N2)]
              clear hr5 hcalm
              have hnx := hC.store (.bool true) hLL (fun j hj => by simp at hj; rcases hj with rfl | rfl | rfl | rfl | rfl | rfl | rfl | rfl | rfl | rfl <;> first | (rw [y0]; exact fun h => by cases h) | (rw [y1]; exact fun h => by cases h) | (rw [y2]; exact fun h => by cases h) | (rw [y3]; exact fun h => by cases h) | (rw [y4]; exact fun h => by cases h) | (rw [y5]; exact fun h => by cases h) | (rw [y6]; exact fun h => by cases h) | (rw [y7]; exact fun h => by cases h) | (rw [y8]; exact fun h => by cases h) | (rw [y9]; exact fun h => by cases h))
              replace hnx := hide hnx
              clear y0 y1 y2 y3 y4 y5 y6 y7 y8 y9
              go_wp2_with fail
              first | exact ⟨.bool true, unhide hnx⟩ | exact ⟨.bool true, rfl, unhide hnx, trivial, rfl⟩ | exact unhide hnx | exact ⟨.bool true, unhide hnx, trivial⟩
          · intro vs LL wq hLL hC hf
            obtain ⟨wz, hC2, hwq⟩ := hC.fin (hLL 11 (by omega))
            rw [putSome_all]
            simp only [putL, List.range, List.range.loop, List.foldl_nil, List.foldl_cons, List.getElem?_cons_zero, List.getElem?_cons_succ, List.drop_succ_cons, List.drop_zero]
            clear hf hLL hC
            subst hwq
            have hr5 := (hC2.block b5 (Array.getElem?_eq_some_iff.1 (unhide h5)).1).trans (unhide h5)
            have hr4 := (hC2.block b4 (Array.getElem?_eq_some_iff.1 (unhide h4)).1).trans (unhide h4)
            have hbz := (unhide hbw).trans (hC2.mono (unhide hbw).size)
            have s5 := heap_set (off := 1) (heap_set (off := 0) hr5 (.int .i64 N2)) (.int .i64 D2)
            have gs1 := grown_set (w := wz) b5 0 (.int .i64 N2)
            have gs2 := grown_set (w := wz.setCell ⟨b5, 0, none⟩ (.int .i64 N2)) b5 1 (.int .i64 D2)
            have s4 := (gs2.block b4 (Nat.lt_of_lt_of_le (Array.getElem?_eq_some_iff.1 hr4).1 gs1.size) (fun e => by injection e; omega)).trans ((gs1.block b4 (Array.getElem?_eq_some_iff.1 hr4).1 (fun e => by injection e; omega)).trans hr4)
            have hbz2 := hbz.trans ((⟨gs1.os, gs1.tape, gs1.output, gs1.size, fun b hb => gs1.block b (Nat.lt_of_lt_of_le hb hbz.size) (fun e => by injection e; omega)⟩ : Below w.heap.size wz _).trans ⟨gs2.os, gs2.tape, gs2.output, gs2.size, fun b hb => gs2.block b (Nat.lt_of_lt_of_le hb (Nat.le_trans hbz.size gs1.size)) (fun e => by injection e; omega)⟩)
            clear hr5 hr4 hbz gs1 gs2 hC2 h5 h4 hbw hcv hcm e0 e1 c0 c1 c2
            obtain ⟨wq, hwq⟩ : ∃ wq, (wz.setCell ⟨b5, 0, none⟩ (.int .i64 N2)).setCell ⟨b5, 1, none⟩ (.int .i64 D2) = wq := ⟨_, rfl⟩
            rw [hwq] at s5 s4 hbz2 ⊢
            clear hwq
            replace s5 := hide s5; replace s4 := hide s4; replace hbz2 := hide hbz2
            go_simp
            go_wp2_with fail
            go_roundw
            case rel => exact ⟨k + 1, by omega, by go_num, by rw [unhide hN2, unhide hD2]; exact unhide s5, unhide s4, unhide hbz2⟩
            case measure => simp [intOf]; omega
      · have hke : k = n := by omega
        subst hke
        have g0 : wo.cell? ⟨b4, 0, none⟩ = some (.int .i64 0) := (cell_of_row _ _ 0 _ _ _ h4).trans rfl
        have g1 : wo.cell? ⟨b4, 1, none⟩ = some (.int .i64 0) := (cell_of_row _ _ 1 _ _ _ h4).trans rfl
        obtain ⟨N1, hN1⟩ : ∃ x, (scalP l u k).num = x := ⟨_, rfl⟩
        obtain ⟨D1, hD1⟩ : ∃ x, ((scalP l u k).den : Int) = x := ⟨_, rfl⟩
        rw [hN1] at e0
        rw [hD1] at e1
        have z0 : wo.frozen? ⟨b4, 0, none⟩ = false := by simp [World.frozen?, h4]
        have s1 := heap_set (off := 0) h4 (.int .i64 N1)
        have s2 := heap_set (off := 1) s1 (.int .i64 D1)
        have g1' : (wo.setCell ⟨b4, 0, none⟩ (.int .i64 N1)).cell? ⟨b4, 1, none⟩ = some (.int .i64 0) := (cell_of_row _ _ 1 _ _ _ s1).trans rfl
        have z1' : (wo.setCell ⟨b4, 0, none⟩ (.int .i64 N1)).frozen? ⟨b4, 1, none⟩ = false := by simp [World.frozen?, s1]
        have y0 : ((wo.setCell ⟨b4, 0, none⟩ (.int .i64 N1)).setCell ⟨b4, 1, none⟩ (.int .i64 D1)).cell? ⟨b4, 0, none⟩ = some (.int .i64 N1) := (cell_of_row _ _ 0 _ _ _ s2).trans rfl
        have y1 : ((wo.setCell ⟨b4, 0, none⟩ (.int .i64 N1)).setCell ⟨b4, 1, none⟩ (.int .i64 D1)).cell? ⟨b4, 1, none⟩ = some (.int .i64 D1) := (cell_of_row _ _ 1 _ _ _ s2).trans rfl
        have gs1 := grown_set (w := wo) b4 0 (.int .i64 N1)
        have gs2 := grown_set (w := wo.setCell ⟨b4, 0, none⟩ (.int .i64 N1)) b4 1 (.int .i64 D1)
        have hbz2 := hbw.trans ((⟨gs1.os, gs1.tape, gs1.output, gs1.size, fun b hb => gs1.block b (Nat.lt_of_lt_of_le hb hbw.size) (fun e => by injection e; omega)⟩ : Below w.heap.size wo _).trans ⟨gs2.os, gs2.tape, gs2.output, gs2.size, fun b hb => gs2.block b (Nat.lt_of_lt_of_le hb (Nat.le_trans hbw.size gs1.size)) (fun e => by injection e; omega)⟩)
        clear s1 s2 gs1 gs2 h4 h5 hbw
        replace hbz2 := hide hbz2; replace hN1 := hide hN1; replace hD1 := hide hD1; replace y0 := hide y0; replace y1 := hide y1
        go_wp2_with fail
        replace y0 := unhide y0; replace y1 := unhide y1
        refine bodyPost_ret (v := .agg #[.int .i64 N1, .int .i64 D1]) (by simp [results, Try.results22, go_sem, y0, y1]) rfl ⟨by rw [unhide hN1, unhide hD1], unhide hbz2⟩
end Go.Proofs.Ythkppilelpaieaa
