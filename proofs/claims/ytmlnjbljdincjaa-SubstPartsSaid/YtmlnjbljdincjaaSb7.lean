/- Lookups: the reference's Lookups and Check. -/
import Derived.Test.YtmlnjbljdincjaaSb6
namespace Go.Proofs.Ytmlnjbljdincjaa
open Go.RowKit
theorem okAll_all (s : Sub) (m : Int) : okAll (allOf s) m = (okAll s.1 m && (okAll s.2.1 m && okAll s.2.2.1 m)) := by
  unfold okAll allOf
  rw [List.all_append, List.all_append]
set_option maxRecDepth 100000 in
set_option maxHeartbeats 8000000 in
theorem rlookups_any (la : Option Addr) (ln lc : Nat) (l : List (List Sub)) (mg : Int) (w : World) (hl : Lst Enc.lk w (· < w.heap.size) la ln l) (hln : ln ≤ 1000) (hsm : ∀ x ∈ l, Small x) :
    Calls Try.prog 28 #[.slice la ln lc, .int .i64 mg] w fun e w' => e = .returned (.int .i64 (checkS l mg)) ∧ Below w.heap.size w w' := by
  have hll := hl.1
  replace hll := hide hll; replace hl := hide hl
  go_enter Try.func28, Try.ntmps28
  go_wp2_with fail
  go_loopw [5, 6] (fun b v wr => ∃ k : Nat, k ≤ ln ∧ v = .int .i64 (k : Int) ∧ b = .bool (decide (4 < (ln : Int)) || many (l.take k)) ∧ wr = w) (fun _ v _ => (ln - intOf v).toNat)
  case atStart => exact ⟨0, by omega, rfl, by simp [many], rfl⟩
  case round =>
    obtain ⟨k, hk, rfl, rfl, ew⟩ := hrel
    subst ew
    by_cases hlt : k < ln
    · obtain ⟨b, off, x, xa, xn, xc, rfl, hSb, hx, _, _, hlx, hcx⟩ := lst_list (unhide hl) hlt
      have hxl := hlx.1
      have hsuc : many (l.take (k + 1)) = (many (l.take k) || decide (24 < (xn : Int))) := by
        unfold many
        rw [List.take_add_one, hx, List.any_append]
        simp [hxl]
      clear hx hxl hlx
      replace hsuc := hide hsuc
      cases hb : (decide (4 < (ln : Int)) || many (l.take k)) with
      | true =>
        replace hb := hide hb
        go_wp2_with fail
        go_roundw
        case rel => exact ⟨k + 1, by omega, by go_num, by rw [unhide hsuc, ← Bool.or_assoc, unhide hb, Bool.true_or], trivial⟩
        case measure => simp [intOf]; omega
      | false =>
        replace hb := hide hb
        go_wp2_with fail
        go_roundw
        case rel => exact ⟨k + 1, by omega, by go_num, by rw [unhide hsuc, ← Bool.or_assoc, unhide hb, Bool.false_or], trivial⟩
        case measure => simp [intOf]; omega
    · have hke : k = ln := by omega
      subst hke
      have htk : l.take k = l := List.take_of_length_le (by rw [unhide hll]; exact Nat.le_refl _)
      rw [htk]
      clear htk
      by_cases h4' : 4 < l.length ∨ many l = true
      · have hfin := checkS_many (m := mg) h4'
        have hb : (decide (4 < (k : Int)) || many l) = true := by
          rcases h4' with h | h
          · rw [decide_eq_true (by rw [unhide hll] at h; omega : 4 < (k : Int))]; rfl
          · rw [h]; simp
        rw [hb]
        replace hfin := hide hfin; replace h4' := hide h4'
        clear hb
        go_wp2_with fail
        go_ret
        rw [unhide hfin]
        exact ⟨rfl, Below.refl _ _⟩
      have h4 : ¬ 4 < l.length := fun h => h4' (.inl h)
      have hmany : many l = false := by
        cases h : many l with
        | false => rfl
        | true => exact absurd (.inr h) h4'
      have hb : (decide (4 < (k : Int)) || many l) = false := by rw [hmany, decide_eq_false (by rw [unhide hll] at h4; omega : ¬ 4 < (k : Int))]; rfl
      rw [hb]
      obtain ⟨ln, rfl⟩ : ∃ ln, ln = k := ⟨_, rfl⟩
      obtain ⟨V, rfl⟩ : ∃ V : World, V = wr := ⟨_, rfl⟩
      clear hb h4' hlt hk
      replace hmany := hide hmany
      go_wp2_with fail
      go_loopw [7] (fun v wr => ∃ k : Nat, k ≤ ln ∧ v = .int .i64 (k : Int) ∧ (∀ m x, m < k → l[m]? = some x → okLk x mg = true) ∧ Below V.heap.size V wr) (fun v _ => (ln - intOf v).toNat)
      case atStart => exact ⟨0, by omega, rfl, fun m s hm => by omega, Below.refl _ _⟩
      case round =>
        obtain ⟨k, hk, rfl, hno, hbw⟩ := hrel
        obtain ⟨wo, rfl⟩ : ∃ wo : World, wo = wr := ⟨_, rfl⟩
        replace hno := hide hno
        by_cases hlt : k < ln
        · obtain ⟨b, off, x, xa, xn, xc, rfl, hSb, hx, _, _, hlx, hcx⟩ := lst_list ((unhide hl).under hbw) hlt
          have hxs := hsm x (List.mem_of_getElem? hx)
          have hxl := hlx.1
          have hxn : xn ≤ 1000 := by rw [← hxl]; exact hxs.1
          replace hlx := hide hlx; replace hbw := hide hbw; replace hx := hide hx; replace hxl := hide hxl; replace hcx := hide hcx
          go_wp2_with fail
          go_loopw [8] (fun v wr => ∃ j : Nat, j ≤ xn ∧ v = .int .i64 (j : Int) ∧ (∀ m s, m < j → x[m]? = some s → okSub s mg = true) ∧ Below wo.heap.size wo wr) (fun v _ => (xn - intOf v).toNat)
          case atStart => exact ⟨0, by omega, rfl, fun m s hm => by omega, Below.refl _ _⟩
          case round =>
            obtain ⟨j, hj, rfl, hno2, hbw2⟩ := hrel
            obtain ⟨wp, rfl⟩ : ∃ wp : World, wp = wr := ⟨_, rfl⟩
            replace hno2 := hide hno2
            have hcx2 := cell_under (unhide hcx) hbw2
            by_cases hjl : j < xn
            · obtain ⟨b, off, s, a1, n1, c1, a2, n2, c2, a3, n3, c3, rfl, hSb, hs, ⟨_, _, hl1⟩, ⟨_, _, hl2⟩, ⟨_, _, hl3⟩, hto, h1, h2, h3, h5⟩ := lst_sub ((unhide hlx).under hbw2) hjl
              have hsmall := hxs.2 s (List.mem_of_getElem? hs)
              have hl1l := hl1.1
              have hl2l := hl2.1
              have hl3l := hl3.1
              rw [hl1.1, hl2.1, hl3.1] at hsmall
              obtain ⟨hn1, hn2, hn3⟩ := hsmall
              obtain ⟨tv, hte⟩ : ∃ tv, s.2.2.2 = tv := ⟨_, rfl⟩
              rw [hte] at h5
              obtain ⟨bs, hbs⟩ : ∃ bs, bs = wp.heap.size := ⟨_, rfl⟩
              obtain ⟨w2, hw2⟩ : ∃ w2, w2 = wp.alloc (Obj.cells #[.slice a1 n1 c1, .slice a2 n2 c2, .slice a3 n3 c3, .int .i64 tv] 43) := ⟨_, rfl⟩
              have hr2 : w2.heap[bs]? = some (.cells #[.slice a1 n1 c1, .slice a2 n2 c2, .slice a3 n3 c3, .int .i64 tv] 43 (0, 0)) := by rw [hw2, hbs]; exact heap_alloc_new wp _
              have hbp : Below wp.heap.size wp w2 := by rw [hw2]; exact (Below.refl _ _).alloc (Nat.le_refl _) _
              have hbW2 := hbw2.trans (hbp.mono hbw2.size)
              have hbV2 := (unhide hbw).trans (hbW2.mono (unhide hbw).size)
              have hz := hbV2
              obtain ⟨d0, d1, d2, d3⟩ : w2.cell? ⟨bs, 0, none⟩ = some (.slice a1 n1 c1) ∧ w2.cell? ⟨bs, 1, none⟩ = some (.slice a2 n2 c2) ∧ w2.cell? ⟨bs, 2, none⟩ = some (.slice a3 n3 c3) ∧ w2.cell? ⟨bs, 3, none⟩ = some (.int .i64 tv) := ⟨(cell_of_row _ _ 0 _ _ _ hr2).trans rfl, (cell_of_row _ _ 1 _ _ _ hr2).trans rfl, (cell_of_row _ _ 2 _ _ _ hr2).trans rfl, (cell_of_row _ _ 3 _ _ _ hr2).trans rfl⟩
              have hz2 := hz
              rw [hw2] at hz2
              have hl12 := hl1.under hbp
              have hl22 := hl2.under hbp
              have hl32 := hl3.under hbp
              clear hl1 hl2 hl3 hbp hr2 hbw2
              replace hbs := hide hbs; replace hw2 := hide hw2; replace hbW2 := hide hbW2; replace hbV2 := hide hbV2; replace hz := hide hz; replace hz2 := hide hz2; replace hs := hide hs; replace hl12 := hide hl12; replace hl22 := hide hl22; replace hl32 := hide hl32; replace hte := hide hte; replace hl1l := hide hl1l; replace hl2l := hide hl2l; replace hl3l := hide hl3l; replace d0 := hide d0; replace d1 := hide d1; replace d2 := hide d2; replace d3 := hide d3
              by_cases hsz : 1 ≤ n2 ∧ n2 ≤ 3 ∧ n1 ≤ 2 ∧ n3 ≤ 2
              · obtain ⟨s1, s2, s3, s4⟩ := hsz
                have u1 : ¬ (n2 : Int) < 1 := by omega
                have u2 : ¬ (3 : Int) < (n2 : Int) := by omega
                have u3 : ¬ (2 : Int) < (n1 : Int) := by omega
                have u4 : ¬ (2 : Int) < (n3 : Int) := by omega
                have k1 := rall_any a2 n2 c2 s.2.1 mg w2 (unhide hl22) (by omega)
                have k2 := rall_any a1 n1 c1 s.1 mg w2 (unhide hl12) (by omega)
                have k3 := rall_any a3 n3 c3 s.2.2.1 mg w2 (unhide hl32) (by omega)
                have k4 := rindex_any tv mg w2
                cases q1 : okAll s.2.1 mg with
                | false =>
                  have hfin := checkS_bad (m := mg) h4 (unhide hmany) (unhide hx) (unhide hs) (okSub_all (by rw [okAll_all]; simp [q1]))
                  replace hfin := hide hfin
                  rw [q1] at k1
                  replace k1 := hide k1
                  clear k2 k3 k4
                  replace q1 := hide q1
                  go_wp2_with fail
                  rw [← unhide hw2, ← unhide hbs]
                  refine (unhide k1).mono ?_
                  rintro e wz ⟨rfl, ew⟩
                  subst ew
                  clear k1
                  have d0 := unhide d0; have d1 := unhide d1; have d2 := unhide d2; have d3 := unhide d3
                  go_wp2_with fail
                  go_ret
                  rw [unhide hfin]
                  exact ⟨rfl, unhide hz⟩
                | true =>
                  rw [q1] at k1
                  replace k1 := hide k1
                  replace k2 := hide k2; replace k3 := hide k3; replace k4 := hide k4
                  go_wp2_with fail
                  rw [← unhide hw2, ← unhide hbs]
                  refine (unhide k1).mono ?_
                  rintro e wz ⟨rfl, ew⟩
                  subst ew
                  clear k1
                  replace k2 := unhide k2; replace k3 := unhide k3; replace k4 := unhide k4
                  cases q2 : okAll s.1 mg with
                  | false =>
                    have hfin := checkS_bad (m := mg) h4 (unhide hmany) (unhide hx) (unhide hs) (okSub_all (by rw [okAll_all]; simp [q1, q2]))
                    replace hfin := hide hfin
                    rw [q2] at k2
                    replace k2 := hide k2
                    clear k3 k4
                    replace q1 := hide q1
                    replace q2 := hide q2
                    have d0 := unhide d0; have d1 := unhide d1; have d2 := unhide d2; have d3 := unhide d3
                    go_wp2_with fail
                    clear d0 d1 d2 d3
                    refine (unhide k2).mono ?_
                    rintro e wz ⟨rfl, ew⟩
                    subst ew
                    clear k2
                    have d0 := unhide d0; have d1 := unhide d1; have d2 := unhide d2; have d3 := unhide d3
                    go_wp2_with fail
                    go_ret
                    rw [unhide hfin]
                    exact ⟨rfl, unhide hz⟩
                  | true =>
                    rw [q2] at k2
                    replace k2 := hide k2
                    have d0 := unhide d0; have d1 := unhide d1; have d2 := unhide d2; have d3 := unhide d3
                    go_wp2_with fail
                    clear d0 d1 d2 d3
                    refine (unhide k2).mono ?_
                    rintro e wz ⟨rfl, ew⟩
                    subst ew
                    clear k2
                    cases q3 : okAll s.2.2.1 mg with
                    | false =>
                      have hfin := checkS_bad (m := mg) h4 (unhide hmany) (unhide hx) (unhide hs) (okSub_all (by rw [okAll_all]; simp [q1, q2, q3]))
                      replace hfin := hide hfin
                      rw [q3] at k3
                      replace k3 := hide k3
                      clear k4
                      replace q1 := hide q1
                      replace q2 := hide q2
                      replace q3 := hide q3
                      have d0 := unhide d0; have d1 := unhide d1; have d2 := unhide d2; have d3 := unhide d3
                      go_wp2_with fail
                      clear d0 d1 d2 d3
                      refine (unhide k3).mono ?_
                      rintro e wz ⟨rfl, ew⟩
                      subst ew
                      clear k3
                      have d0 := unhide d0; have d1 := unhide d1; have d2 := unhide d2; have d3 := unhide d3
                      go_wp2_with fail
                      go_ret
                      rw [unhide hfin]
                      exact ⟨rfl, unhide hz⟩
                    | true =>
                      rw [q3] at k3
                      replace k3 := hide k3
                      have d0 := unhide d0; have d1 := unhide d1; have d2 := unhide d2; have d3 := unhide d3
                      go_wp2_with fail
                      clear d0 d1 d2 d3
                      refine (unhide k3).mono ?_
                      rintro e wz ⟨rfl, ew⟩
                      subst ew
                      clear k3
                      cases q4 : decide (0 ≤ tv ∧ tv < mg) with
                      | false =>
                        have hfin := checkS_bad (m := mg) h4 (unhide hmany) (unhide hx) (unhide hs) (okSub_to (by rw [unhide hte]; exact of_decide_eq_false q4))
                        replace hfin := hide hfin
                        rw [q4] at k4
                        replace k4 := hide k4
                        replace q1 := hide q1
                        replace q2 := hide q2
                        replace q3 := hide q3
                        replace q4 := hide q4
                        have d0 := unhide d0; have d1 := unhide d1; have d2 := unhide d2; have d3 := unhide d3
                        go_wp2_with fail
                        clear d0 d1 d2 d3
                        refine (unhide k4).mono ?_
                        rintro e wz ⟨rfl, ew⟩
                        subst ew
                        clear k4
                        have d0 := unhide d0; have d1 := unhide d1; have d2 := unhide d2; have d3 := unhide d3
                        go_wp2_with fail
                        go_ret
                        rw [unhide hfin]
                        exact ⟨rfl, unhide hz⟩
                      | true =>
                        rw [q4] at k4
                        replace k4 := hide k4
                        have hyes := okSub_yes (s := s) (m := mg) ⟨by rw [unhide hl2l]; exact s1, by rw [unhide hl2l]; exact s2, by rw [unhide hl1l]; exact s3, by rw [unhide hl3l]; exact s4⟩ (by rw [unhide hte]; exact of_decide_eq_true q4) (by rw [okAll_all]; simp [q1, q2, q3])
                        have hno3 : ∀ m s', m < j + 1 → x[m]? = some s' → okSub s' mg = true := fun m s' hm hs' => by
                          rcases Nat.lt_succ_iff_lt_or_eq.1 hm with h1 | rfl
                          · exact unhide hno2 m s' h1 hs'
                          · rw [unhide hs] at hs'
                            cases hs'
                            exact hyes
                        replace hno3 := hide hno3; replace hyes := hide hyes; replace q1 := hide q1; replace q2 := hide q2; replace q3 := hide q3; replace q4 := hide q4
                        have d0 := unhide d0; have d1 := unhide d1; have d2 := unhide d2; have d3 := unhide d3
                        go_wp2_with fail
                        clear d0 d1 d2 d3
                        refine (unhide k4).mono ?_
                        rintro e wz ⟨rfl, ew⟩
                        subst ew
                        clear k4
                        have d0 := unhide d0; have d1 := unhide d1; have d2 := unhide d2; have d3 := unhide d3
                        go_wp2_with fail
                        go_roundw
                        case rel => exact ⟨j + 1, by omega, by go_num, unhide hno3, unhide hbW2⟩
                        case measure => simp [intOf]; omega
              · have hfin := checkS_bad (m := mg) h4 (unhide hmany) (unhide hx) (unhide hs) (okSub_size (by rw [unhide hl1l, unhide hl2l, unhide hl3l]; exact hsz))
                replace hfin := hide hfin
                have u : (n2 : Int) < 1 ∨ (3 : Int) < (n2 : Int) ∨ (2 : Int) < (n1 : Int) ∨ (2 : Int) < (n3 : Int) := by omega
                replace hsz := hide hsz
                by_cases s1 : (n2 : Int) < 1
                · clear u
                  go_wp2_with fail
                  go_ret
                  rw [unhide hfin]
                  exact ⟨rfl, unhide hz2⟩
                by_cases s2 : (3 : Int) < (n2 : Int)
                · clear u
                  go_wp2_with fail
                  go_ret
                  rw [unhide hfin]
                  exact ⟨rfl, unhide hz2⟩
                by_cases s3 : (2 : Int) < (n1 : Int)
                · clear u
                  go_wp2_with fail
                  go_ret
                  rw [unhide hfin]
                  exact ⟨rfl, unhide hz2⟩
                have s4 : (2 : Int) < (n3 : Int) := by omega
                clear u
                go_wp2_with fail
                go_ret
                rw [unhide hfin]
                exact ⟨rfl, unhide hz2⟩
            · have hokx : okLk x mg = true := okLk_of (fun m s hs => unhide hno2 m s (by have := (List.getElem?_eq_some_iff.1 hs).1; rw [unhide hxl] at this; omega) hs)
              have hno3 : ∀ m x', m < k + 1 → l[m]? = some x' → okLk x' mg = true := fun m x' hm hx' => by
                rcases Nat.lt_succ_iff_lt_or_eq.1 hm with h1 | rfl
                · exact unhide hno m x' h1 hx'
                · rw [unhide hx] at hx'
                  cases hx'
                  exact hokx
              have hbV3 := (unhide hbw).trans (hbw2.mono (unhide hbw).size)
              clear hokx hbw2
              replace hno3 := hide hno3; replace hbV3 := hide hbV3
              go_wp2_with fail
              go_roundw
              case rel => exact ⟨k + 1, by omega, by go_num, unhide hno3, unhide hbV3⟩
              case measure => simp [intOf]; omega
        · have hfin : checkS l mg = 0 := checkS_ok h4 (unhide hmany) (fun m x hx => unhide hno m x (by have := (List.getElem?_eq_some_iff.1 hx).1; rw [unhide hll] at this; omega) hx)
          replace hfin := hide hfin; replace hbw := hide hbw
          go_wp2_with fail
          go_ret
          rw [unhide hfin]
          exact ⟨rfl, unhide hbw⟩
theorem rcheck_any (la : Option Addr) (ln lc : Nat) (l : List (List Sub)) (mg : Int) (w : World) (hl : Lst Enc.lk w (· < w.heap.size) la ln l) (hln : ln ≤ 1000) (hsm : ∀ x ∈ l, Small x) :
    Calls Try.prog 13 #[.slice la ln lc, .int .i64 mg] w fun e w' => e = .returned (.int .i64 (checkS l mg)) ∧ Below w.heap.size w w' := by
  have hc := rlookups_any la ln lc l mg w hl hln hsm
  replace hc := hide hc
  clear hl
  go_enter Try.func13, Try.ntmps13
  go_wp2_with fail
  refine (unhide hc).mono ?_
  rintro e w' ⟨rfl, hb⟩
  clear hc
  go_wp2_with fail
  go_ret
  exact ⟨rfl, hb⟩
end Go.Proofs.Ytmlnjbljdincjaa
