/- Axes: Check, walked. -/
import Derived.Test.YthkppilelpaieaaAx6
namespace Go.Proofs.Ythkppilelpaieaa
open Go.RowKit
theorem axErr_40 {l : List Axis} {a : Axis} (h : tagS a.1 = false) : axErr l a = 40 := if_pos h
theorem axErr_6 {l : List Axis} {a : Axis} (h : tagS a.1 = true) (h2 : twice l a.1 = true) : axErr l a = 6 := by unfold axErr; rw [if_neg (by rw [h]; decide), if_pos h2]
theorem axErr_3 {l : List Axis} {a : Axis} (h : tagS a.1 = true) (h2 : twice l a.1 = false) (h3 : near a.2.1 = false ∨ near a.2.2.1 = false ∨ near a.2.2.2 = false) : axErr l a = 3 := by unfold axErr; rw [if_neg (by rw [h]; decide), if_neg (by rw [h2]; decide), if_pos h3]
theorem axErr_8 {l : List Axis} {a : Axis} (h : tagS a.1 = true) (h2 : twice l a.1 = false) (h3 : near a.2.1 = true) (h4 : near a.2.2.1 = true) (h5 : near a.2.2.2 = true) (h6 : a.2.2.1 < a.2.1 ∨ a.2.2.2 < a.2.2.1) : axErr l a = 8 := by unfold axErr; rw [if_neg (by rw [h]; decide), if_neg (by rw [h2]; decide), if_neg (by rw [h3, h4, h5]; decide), if_pos h6]
theorem axErr_0 {l : List Axis} {a : Axis} (h : tagS a.1 = true) (h2 : twice l a.1 = false) (h3 : near a.2.1 = true) (h4 : near a.2.2.1 = true) (h5 : near a.2.2.2 = true) (h6 : ¬ (a.2.2.1 < a.2.1 ∨ a.2.2.2 < a.2.2.1)) : axErr l a = 0 := by unfold axErr; rw [if_neg (by rw [h]; decide), if_neg (by rw [h2]; decide), if_neg (by rw [h3, h4, h5]; decide), if_neg h6]
set_option maxHeartbeats 4000000 in
set_option maxRecDepth 100000 in
theorem check_any (a : Option Addr) (n c : Nat) (l : List Axis) (w : World) (hl : Lst Enc.axis w (· < w.heap.size) a n l) (hnc : n ≤ c) (hn : n ≤ 1000000000000) :
    Calls Try.prog 13 #[.slice a n c] w fun e w' => e = .returned (.int .i64 (axCheck l)) ∧ Below w.heap.size w w' := by
  have hll := hl.1
  by_cases h4 : 3 < l.length
  · have hfin := axCheck_many h4
    have t4 : (3 : Int) < (n : Int) := by omega
    rw [hfin]
    clear hfin hl h4 hll
    go_enter Try.func13, Try.ntmps13
    go_wp2_with fail
    go_ret
    exact ⟨rfl, Below.refl _ _⟩
  · have hmf : ∀ (fn : Fn) (first cap : Array Value) (w : World), (Instr.makeFunc fn first cap).run Try.prog w = .ok (.func fn first cap) w := fun _ _ _ _ => rfl
    have t4 : ¬ (3 : Int) < (n : Int) := by omega
    replace hll := hide hll; replace hl := hide hl; replace h4 := hide h4
    go_enter Try.func13, Try.ntmps13
    go_wp2_with fail
    go_loopw [11] (fun v wr => ∃ k : Nat, k ≤ n ∧ v = .int .i64 (k : Int) ∧ (∀ i, i < k → errAt l i = 0) ∧ Below w.heap.size w wr) (fun v _ => (n - intOf v).toNat)
    case atStart => exact ⟨0, by omega, rfl, fun i hi => by omega, Below.refl _ _⟩
    case round =>
      obtain ⟨k, hk, rfl, h0, hbw⟩ := hrel
      obtain ⟨wo, rfl⟩ : ∃ wo : World, wo = wr := ⟨_, rfl⟩
      replace h0 := hide h0
      by_cases hlt : k < n
      · have hlo := (unhide hl).under hbw
        obtain ⟨b', off, t, rfl, hb', hx, _, i1, i2, i3, c0, c1, c2, c3⟩ := lst_axis hlo hlt
        obtain ⟨s, lo, us, hi⟩ := t
        simp only at c0 c1 c2 c3 i1 i2 i3
        obtain ⟨bx, hbx⟩ : ∃ bx, bx = wo.heap.size := ⟨_, rfl⟩
        obtain ⟨V1, hV1⟩ : ∃ V1, V1 = wo.alloc (Obj.cells #[.string s, .int .i64 lo, .int .i64 us, .int .i64 hi] 29) := ⟨_, rfl⟩
        have hbo : Below wo.heap.size wo V1 := by rw [hV1]; exact (Below.refl _ _).alloc (Nat.le_refl _) _
        have hcx : V1.heap[bx]? = some (.cells #[.string s, .int .i64 lo, .int .i64 us, .int .i64 hi] 29 (0, 0)) := by rw [hV1, hbx]; exact heap_alloc_new wo _
        have d0 : V1.cell? ⟨bx, 0, none⟩ = some (.string s) := (cell_of_row _ _ 0 _ _ _ hcx).trans rfl
        have d1 : V1.cell? ⟨bx, 1, none⟩ = some (.int .i64 lo) := (cell_of_row _ _ 1 _ _ _ hcx).trans rfl
        have d2 : V1.cell? ⟨bx, 2, none⟩ = some (.int .i64 us) := (cell_of_row _ _ 2 _ _ _ hcx).trans rfl
        have d3 : V1.cell? ⟨bx, 3, none⟩ = some (.int .i64 hi) := (cell_of_row _ _ 3 _ _ _ hcx).trans rfl
        have hb1 := hbw.trans (hbo.mono hbw.size)
        have hlt1 := (hlo.take (k := k) (by omega)).under hbo
        have hc := tag_any s V1
        have t1 : (k : Int) < (n : Int) := by omega
        clear hbo hcx hbw hlo i1 i2 i3 hb'
        replace hc := hide hc; replace hb1 := hide hb1; replace hlt1 := hide hlt1; replace hx := hide hx; replace hbx := hide hbx; replace hV1 := hide hV1; replace d1 := hide d1; replace d2 := hide d2; replace d3 := hide d3
        cases hT : tagS s with
        | false =>
          rw [hT] at hc
          replace hT := hide hT
          go_wp2_with fail
          rw [← unhide hV1, ← unhide hbx]
          go_wp2_with fail
          refine (unhide hc).mono ?_
          rintro e w2 ⟨rfl, hb⟩
          have hbz := (unhide hb1).trans (hb.mono (unhide hb1).size)
          replace hbz := hide hbz
          clear hc hb hb1 hlt1 d0 d1 d2 d3
          have hfin := axCheck_bad (c := 40) (unhide h4) (unhide hx) (unhide h0) (axErr_40 (unhide hT)) (by decide)
          replace hfin := hide hfin
          go_wp2_with fail
          go_ret
          exact ⟨ret_int (unhide hfin).symm, unhide hbz⟩
        | true =>
          rw [hT] at hc
          replace hT := hide hT
          go_wp2_with fail
          rw [← unhide hV1, ← unhide hbx]
          go_wp2_with fail
          refine (unhide hc).mono ?_
          rintro e w2 ⟨rfl, hb⟩
          have hbz := (unhide hb1).trans (hb.mono (unhide hb1).size)
          have e0 := cell_under d0 hb
          have e1 := cell_under (unhide d1) hb
          have e2 := cell_under (unhide d2) hb
          have e3 := cell_under (unhide d3) hb
          have hc2 := containsA_any _ k c (l.take k) bx s w2 ((unhide hlt1).under hb) (by omega) e0
          clear hc hb hb1 hlt1 d0 d1 d2 d3
          replace hbz := hide hbz; replace hc2 := hide hc2; replace e1 := hide e1; replace e2 := hide e2; replace e3 := hide e3
          cases hW : twice (l.take k) s with
          | true =>
            rw [hW] at hc2
            replace hW := hide hW
            go_wp2_with fail
            refine (unhide hc2).mono ?_
            rintro e w3 ⟨rfl, hb⟩
            have hbz2 := (unhide hbz).trans (hb.mono (unhide hbz).size)
            clear hbz hc2 hb
            have hbz := hide hbz2
            clear hbz2
            have hfin := axCheck_bad (c := 6) (unhide h4) (unhide hx) (unhide h0) (axErr_6 (unhide hT) (unhide hW)) (by decide)
            replace hfin := hide hfin
            go_wp2_with fail
            go_ret
            exact ⟨ret_int (unhide hfin).symm, unhide hbz⟩
          | false =>
            rw [hW] at hc2
            replace hW := hide hW
            go_wp2_with fail
            refine (unhide hc2).mono ?_
            rintro e w3 ⟨rfl, hb⟩
            have hbz2 := (unhide hbz).trans (hb.mono (unhide hbz).size)
            have f1 := cell_under (unhide e1) hb
            have f2 := cell_under (unhide e2) hb
            have f3 := cell_under (unhide e3) hb
            clear hbz hc2 hb e0 e1 e2 e3
            have hbz := hide hbz2
            clear hbz2
            have hcq := far_any lo w3
            cases n1' : near lo with
            | false =>
              unfold near at n1'
              rw [n1'] at hcq
              have n1'' : near lo = false := n1'
              replace n1' := hide n1'; replace n1'' := hide n1''; replace hcq := hide hcq
              go_wp2_with fail
              refine (unhide hcq).mono ?_
              rintro e wv ⟨rfl, ew⟩
              rw [ew]
              clear ew
              clear hcq
              have hfin := axCheck_bad (c := 3) (unhide h4) (unhide hx) (unhide h0) (axErr_3 (unhide hT) (unhide hW) (.inl (unhide n1''))) (by decide)
              replace hfin := hide hfin
              go_wp2_with fail
              go_ret
              exact ⟨ret_int (unhide hfin).symm, unhide hbz⟩
            | true =>
              unfold near at n1'
              rw [n1'] at hcq
              have n1 : near lo = true := n1'
              replace n1' := hide n1'; replace n1 := hide n1; replace hcq := hide hcq
              go_wp2_with fail
              refine (unhide hcq).mono ?_
              rintro e wv ⟨rfl, ew⟩
              rw [ew]
              clear ew
              clear hcq
              have hcq := far_any us w3
              cases n2' : near us with
              | false =>
                unfold near at n2'
                rw [n2'] at hcq
                have n2'' : near us = false := n2'
                replace n2' := hide n2'; replace n2'' := hide n2''; replace hcq := hide hcq
                go_wp2_with fail
                refine (unhide hcq).mono ?_
                rintro e wv ⟨rfl, ew⟩
                rw [ew]
                clear ew
                clear hcq
                have hfin := axCheck_bad (c := 3) (unhide h4) (unhide hx) (unhide h0) (axErr_3 (unhide hT) (unhide hW) (.inr (.inl (unhide n2'')))) (by decide)
                replace hfin := hide hfin
                go_wp2_with fail
                go_ret
                exact ⟨ret_int (unhide hfin).symm, unhide hbz⟩
              | true =>
                unfold near at n2'
                rw [n2'] at hcq
                have n2 : near us = true := n2'
                replace n2' := hide n2'; replace n2 := hide n2; replace hcq := hide hcq
                go_wp2_with fail
                refine (unhide hcq).mono ?_
                rintro e wv ⟨rfl, ew⟩
                rw [ew]
                clear ew
                clear hcq
                have hcq := far_any hi w3
                cases n3' : near hi with
                | false =>
                  unfold near at n3'
                  rw [n3'] at hcq
                  have n3'' : near hi = false := n3'
                  replace n3' := hide n3'; replace n3'' := hide n3''; replace hcq := hide hcq
                  go_wp2_with fail
                  refine (unhide hcq).mono ?_
                  rintro e wv ⟨rfl, ew⟩
                  rw [ew]
                  clear ew
                  clear hcq
                  have hfin := axCheck_bad (c := 3) (unhide h4) (unhide hx) (unhide h0) (axErr_3 (unhide hT) (unhide hW) (.inr (.inr (unhide n3'')))) (by decide)
                  replace hfin := hide hfin
                  go_wp2_with fail
                  go_ret
                  exact ⟨ret_int (unhide hfin).symm, unhide hbz⟩
                | true =>
                  unfold near at n3'
                  rw [n3'] at hcq
                  have n3 : near hi = true := n3'
                  replace n3' := hide n3'; replace n3 := hide n3; replace hcq := hide hcq
                  go_wp2_with fail
                  refine (unhide hcq).mono ?_
                  rintro e wv ⟨rfl, ew⟩
                  rw [ew]
                  clear ew
                  clear hcq
                  by_cases hq1 : us < lo
                  · have hfin := axCheck_bad (c := 8) (unhide h4) (unhide hx) (unhide h0) (axErr_8 (unhide hT) (unhide hW) (unhide n1) (unhide n2) (unhide n3) (.inl hq1)) (by decide)
                    replace hfin := hide hfin
                    go_wp2_with fail
                    go_ret
                    exact ⟨ret_int (unhide hfin).symm, unhide hbz⟩
                  · by_cases hq2 : hi < us
                    · have hfin := axCheck_bad (c := 8) (unhide h4) (unhide hx) (unhide h0) (axErr_8 (unhide hT) (unhide hW) (unhide n1) (unhide n2) (unhide n3) (.inr hq2)) (by decide)
                      replace hfin := hide hfin
                      go_wp2_with fail
                      go_ret
                      exact ⟨ret_int (unhide hfin).symm, unhide hbz⟩
                    · have hsc := err_succ (unhide hx) (unhide h0) (axErr_0 (unhide hT) (unhide hW) (unhide n1) (unhide n2) (unhide n3) (by show ¬ (us < lo ∨ hi < us); omega))
                      replace hsc := hide hsc
                      go_wp2_with fail
                      go_roundw
                      case rel => exact ⟨k + 1, by omega, by go_num, unhide hsc, unhide hbz⟩
                      case measure => simp [intOf]; omega
      · have hfin := axCheck_ok (unhide h4) (fun i hi => (unhide h0) i (by have := unhide hll; omega))
        clear h0
        replace hfin := hide hfin; replace hbw := hide hbw
        go_wp2_with fail
        go_ret
        exact ⟨ret_int (unhide hfin).symm, unhide hbw⟩
set_option maxHeartbeats 4000000 in
set_option maxRecDepth 100000 in
theorem rcheck_any (a : Option Addr) (n c : Nat) (l : List Axis) (w : World) (hl : Lst Enc.axis w (· < w.heap.size) a n l) (hn : n ≤ 1000000000000) :
    Calls Try.prog 14 #[.slice a n c] w fun e w' => e = .returned (.int .i64 (axCheck l)) ∧ Below w.heap.size w w' := by
  have hll := hl.1
  by_cases h4 : 3 < l.length
  · have hfin := axCheck_many h4
    have t4 : (3 : Int) < (n : Int) := by omega
    rw [hfin]
    clear hfin hl h4 hll
    go_enter Try.func14, Try.ntmps14
    go_wp2_with fail
    go_ret
    exact ⟨rfl, Below.refl _ _⟩
  · have t4 : ¬ (3 : Int) < (n : Int) := by omega
    replace hll := hide hll; replace hl := hide hl; replace h4 := hide h4
    go_enter Try.func14, Try.ntmps14
    go_wp2_with fail
    go_loopw [3] (fun v wr => ∃ k : Nat, k ≤ n ∧ v = .int .i64 (k : Int) ∧ (∀ i, i < k → errAt l i = 0) ∧ Below w.heap.size w wr) (fun v _ => (n - intOf v).toNat)
    case atStart => exact ⟨0, by omega, rfl, fun i hi => by omega, Below.refl _ _⟩
    case round =>
      obtain ⟨k, hk, rfl, h0, hbw⟩ := hrel
      obtain ⟨wo, rfl⟩ : ∃ wo : World, wo = wr := ⟨_, rfl⟩
      replace h0 := hide h0
      by_cases hlt : k < n
      · have hlo := (unhide hl).under hbw
        obtain ⟨b', off, t, rfl, hb', hx, hsm, i1, i2, i3, c0, c1, c2, c3⟩ := lst_axis hlo hlt
        obtain ⟨s, lo, us, hi⟩ := t
        simp only at c0 c1 c2 c3 i1 i2 i3 hsm
        obtain ⟨bx, hbx⟩ : ∃ bx, bx = wo.heap.size := ⟨_, rfl⟩
        obtain ⟨V1, hV1⟩ : ∃ V1, V1 = wo.alloc (Obj.cells #[.string s, .int .i64 lo, .int .i64 us, .int .i64 hi] 29) := ⟨_, rfl⟩
        have hbo : Below wo.heap.size wo V1 := by rw [hV1]; exact (Below.refl _ _).alloc (Nat.le_refl _) _
        have hcx : V1.heap[bx]? = some (.cells #[.string s, .int .i64 lo, .int .i64 us, .int .i64 hi] 29 (0, 0)) := by rw [hV1, hbx]; exact heap_alloc_new wo _
        have d0 : V1.cell? ⟨bx, 0, none⟩ = some (.string s) := (cell_of_row _ _ 0 _ _ _ hcx).trans rfl
        have d1 : V1.cell? ⟨bx, 1, none⟩ = some (.int .i64 lo) := (cell_of_row _ _ 1 _ _ _ hcx).trans rfl
        have d2 : V1.cell? ⟨bx, 2, none⟩ = some (.int .i64 us) := (cell_of_row _ _ 2 _ _ _ hcx).trans rfl
        have d3 : V1.cell? ⟨bx, 3, none⟩ = some (.int .i64 hi) := (cell_of_row _ _ 3 _ _ _ hcx).trans rfl
        have hb1 := hbw.trans (hbo.mono hbw.size)
        have hl1 := hlo.under hbo
        have hc := rtag_any s V1 (by unfold maxLen at hsm; omega)
        have t1 : (k : Int) < (n : Int) := by omega
        clear hbo hcx hbw hlo i1 i2 i3 hb' hsm
        replace hc := hide hc; replace hb1 := hide hb1; replace hl1 := hide hl1; replace hx := hide hx; replace hbx := hide hbx; replace hV1 := hide hV1; replace d1 := hide d1; replace d2 := hide d2; replace d3 := hide d3
        cases hT : tagS s with
        | false =>
          rw [hT] at hc
          replace hT := hide hT
          go_wp2_with fail
          rw [← unhide hV1, ← unhide hbx]
          go_wp2_with fail
          refine (unhide hc).mono ?_
          rintro e wv ⟨rfl, ew⟩
          rw [ew]
          have hbz := hide (unhide hb1)
          clear hc hb1 hl1 d0 d1 d2 d3 ew
          have hfin := axCheck_bad (c := 40) (unhide h4) (unhide hx) (unhide h0) (axErr_40 (unhide hT)) (by decide)
          replace hfin := hide hfin
          go_wp2_with fail
          go_ret
          exact ⟨ret_int (unhide hfin).symm, unhide hbz⟩
        | true =>
          rw [hT] at hc
          replace hT := hide hT
          replace d0 := hide d0
          go_wp2_with fail
          rw [← unhide hV1, ← unhide hbx]
          go_wp2_with fail
          refine (unhide hc).mono ?_
          rintro e wv ⟨rfl, ew⟩
          rw [ew]
          clear hc ew wv c0 c1 c2 c3
          go_wp2_with fail
          go_loopw [5] (fun v wr => ∃ i q : Nat, i ≤ k ∧ v = .int .i64 (i : Int) ∧ twice (l.take i) s = false ∧ wr = V1.drewN q) (fun v _ => k - (intOf v).toNat)
          case atStart => exact ⟨0, 0, by omega, rfl, rfl, rfl⟩
          case round =>
            obtain ⟨i, q, hi', rfl, htk, rfl⟩ := hrel
            replace htk := hide htk
            by_cases hlt2 : i < k
            · obtain ⟨b2, off2, t2, hbe, _, hx2, _, _, _, _, g0, _, _, _⟩ := lst_axis (unhide hl1) (show i < n by omega)
              cases hbe
              obtain ⟨ts, tr⟩ := t2
              simp only at g0
              have u1 : (i : Int) < (k : Int) := by omega
              have u2 : (i : Int) < (n : Int) := by omega
              have u3 : ¬ (n : Int) ≤ (i : Int) := by omega
              have hd := ba_dec ts s
              have e0 := unhide d0
              by_cases hg : s = ts
              · have hW := twice_hit (l := l.take k) (k := i) (by rw [List.getElem?_take_of_lt hlt2]; exact hx2) hg
                rw [decide_eq_true hg.symm] at hd
                replace hg := hide hg
                have hbz := blw_drewN (unhide hb1)
                clear hx2 htk
                replace hW := hide hW; replace hbz := hide hbz
                go_wp2_with fail
                go_quiet (fail)
                go_wp2_with fail
                have hbz2 := hide (unhide hbz (q + nq))
                have hbz3 := hide (blw_drewN (unhide hbz q) nq)
                clear hbz e0 g0
                have hbz := hbz2
                clear hbz2
                have hfin := axCheck_bad (c := 6) (unhide h4) (unhide hx) (unhide h0) (axErr_6 (unhide hT) (unhide hW)) (by decide)
                replace hfin := hide hfin
                go_wp2_with fail
                go_ret
                exact ⟨ret_int (unhide hfin).symm, by first | exact unhide hbz | exact unhide hbz3⟩
              · have hsc := twice_succ hx2 hg (unhide htk)
                rw [decide_eq_false (fun h => hg h.symm)] at hd
                replace hsc := hide hsc; replace hg := hide hg
                clear hx2
                go_wp2_with fail
                go_quiet (fail)
                go_wp2_with fail
                go_roundw
                case rel => exact ⟨i + 1, q + nq, by omega, by go_num, unhide hsc, rfl⟩
                case measure => simp [intOf]; omega
            · have hie : i = k := by omega
              have hW := unhide htk
              rw [hie] at hW
              have hbz := blw_drewN (unhide hb1) q
              have f1 : (V1.drewN q).cell? ⟨bx, 1, none⟩ = some (.int .i64 lo) := unhide d1
              have f2 : (V1.drewN q).cell? ⟨bx, 2, none⟩ = some (.int .i64 us) := unhide d2
              have f3 : (V1.drewN q).cell? ⟨bx, 3, none⟩ = some (.int .i64 hi) := unhide d3
              obtain ⟨w3, hw3⟩ : ∃ w3, V1.drewN q = w3 := ⟨_, rfl⟩
              rw [hw3] at hbz f1 f2 f3 ⊢
              clear htk hw3 hb1 hl1 d0 d1 d2 d3
              replace hie := hide hie; replace hW := hide hW; replace hbz := hide hbz
              have hcq := within_any lo 1000 w3 (by omega)
              cases n1' : near lo with
              | false =>
                unfold near at n1'
                rw [n1'] at hcq
                have n1'' : near lo = false := n1'
                replace n1' := hide n1'; replace n1'' := hide n1''; replace hcq := hide hcq
                go_wp2_with fail
                refine (unhide hcq).mono ?_
                rintro e wv ⟨rfl, ew⟩
                rw [ew]
                clear ew
                clear hcq
                have hfin := axCheck_bad (c := 3) (unhide h4) (unhide hx) (unhide h0) (axErr_3 (unhide hT) (unhide hW) (.inl (unhide n1''))) (by decide)
                replace hfin := hide hfin
                go_wp2_with fail
                go_ret
                exact ⟨ret_int (unhide hfin).symm, unhide hbz⟩
              | true =>
                unfold near at n1'
                rw [n1'] at hcq
                have n1 : near lo = true := n1'
                replace n1' := hide n1'; replace n1 := hide n1; replace hcq := hide hcq
                go_wp2_with fail
                refine (unhide hcq).mono ?_
                rintro e wv ⟨rfl, ew⟩
                rw [ew]
                clear ew
                clear hcq
                have hcq := within_any us 1000 w3 (by omega)
                cases n2' : near us with
                | false =>
                  unfold near at n2'
                  rw [n2'] at hcq
                  have n2'' : near us = false := n2'
                  replace n2' := hide n2'; replace n2'' := hide n2''; replace hcq := hide hcq
                  go_wp2_with fail
                  refine (unhide hcq).mono ?_
                  rintro e wv ⟨rfl, ew⟩
                  rw [ew]
                  clear ew
                  clear hcq
                  have hfin := axCheck_bad (c := 3) (unhide h4) (unhide hx) (unhide h0) (axErr_3 (unhide hT) (unhide hW) (.inr (.inl (unhide n2'')))) (by decide)
                  replace hfin := hide hfin
                  go_wp2_with fail
                  go_ret
                  exact ⟨ret_int (unhide hfin).symm, unhide hbz⟩
                | true =>
                  unfold near at n2'
                  rw [n2'] at hcq
                  have n2 : near us = true := n2'
                  replace n2' := hide n2'; replace n2 := hide n2; replace hcq := hide hcq
                  go_wp2_with fail
                  refine (unhide hcq).mono ?_
                  rintro e wv ⟨rfl, ew⟩
                  rw [ew]
                  clear ew
                  clear hcq
                  have hcq := within_any hi 1000 w3 (by omega)
                  cases n3' : near hi with
                  | false =>
                    unfold near at n3'
                    rw [n3'] at hcq
                    have n3'' : near hi = false := n3'
                    replace n3' := hide n3'; replace n3'' := hide n3''; replace hcq := hide hcq
                    go_wp2_with fail
                    refine (unhide hcq).mono ?_
                    rintro e wv ⟨rfl, ew⟩
                    rw [ew]
                    clear ew
                    clear hcq
                    have hfin := axCheck_bad (c := 3) (unhide h4) (unhide hx) (unhide h0) (axErr_3 (unhide hT) (unhide hW) (.inr (.inr (unhide n3'')))) (by decide)
                    replace hfin := hide hfin
                    go_wp2_with fail
                    go_ret
                    exact ⟨ret_int (unhide hfin).symm, unhide hbz⟩
                  | true =>
                    unfold near at n3'
                    rw [n3'] at hcq
                    have n3 : near hi = true := n3'
                    replace n3' := hide n3'; replace n3 := hide n3; replace hcq := hide hcq
                    go_wp2_with fail
                    refine (unhide hcq).mono ?_
                    rintro e wv ⟨rfl, ew⟩
                    rw [ew]
                    clear ew
                    clear hcq
                    by_cases hq1 : us < lo
                    · have hfin := axCheck_bad (c := 8) (unhide h4) (unhide hx) (unhide h0) (axErr_8 (unhide hT) (unhide hW) (unhide n1) (unhide n2) (unhide n3) (.inl hq1)) (by decide)
                      replace hfin := hide hfin
                      go_wp2_with fail
                      go_ret
                      exact ⟨ret_int (unhide hfin).symm, unhide hbz⟩
                    · by_cases hq2 : hi < us
                      · have hfin := axCheck_bad (c := 8) (unhide h4) (unhide hx) (unhide h0) (axErr_8 (unhide hT) (unhide hW) (unhide n1) (unhide n2) (unhide n3) (.inr hq2)) (by decide)
                        replace hfin := hide hfin
                        go_wp2_with fail
                        go_ret
                        exact ⟨ret_int (unhide hfin).symm, unhide hbz⟩
                      · have hsc := err_succ (unhide hx) (unhide h0) (axErr_0 (unhide hT) (unhide hW) (unhide n1) (unhide n2) (unhide n3) (by show ¬ (us < lo ∨ hi < us); omega))
                        replace hsc := hide hsc
                        go_wp2_with fail
                        go_roundw
                        case rel => exact ⟨k + 1, by omega, by go_num, unhide hsc, unhide hbz⟩
                        case measure => simp [intOf]; omega
      · have hfin := axCheck_ok (unhide h4) (fun i hi => (unhide h0) i (by have := unhide hll; omega))
        clear h0
        replace hfin := hide hfin; replace hbw := hide hbw
        go_wp2_with fail
        go_ret
        exact ⟨ret_int (unhide hfin).symm, unhide hbw⟩
end Go.Proofs.Ythkppilelpaieaa
