/- Lookups: Check. -/
import Derived.Test.YtfbgbbbfpkpfkaaSb5
namespace Go.Proofs.Ytfbgbbbfpkpfkaa
open Go.RowKit
def okSub (s : Sub) (m : Int) : Bool := decide (1 ≤ s.2.1.length ∧ s.2.1.length ≤ 3 ∧ s.1.length ≤ 2 ∧ s.2.2.1.length ≤ 2) && (decide (0 ≤ s.2.2.2 ∧ s.2.2.2 < m) && okAll (allOf s) m)
def okLk (x : List Sub) (m : Int) : Bool := x.all fun s => okSub s m
def checkS (l : List (List Sub)) (m : Int) : Int := if 4 < l.length ∨ many l = true then 2 else if l.all (fun x => okLk x m) = true then 0 else 33
theorem checkS_many {l : List (List Sub)} {m : Int} (h : 4 < l.length ∨ many l = true) : checkS l m = 2 := if_pos h
theorem checkS_bad {l : List (List Sub)} {m : Int} (h1 : ¬ 4 < l.length) (h2 : many l = false) {k : Nat} {x : List Sub} (hx : l[k]? = some x) {j : Nat} {s : Sub} (hs : x[j]? = some s) (h : okSub s m = false) : checkS l m = 33 := by
  unfold checkS
  rw [if_neg (by rw [h2]; simp; omega), if_neg]
  intro ha
  have := List.all_eq_true.1 ha x (List.mem_of_getElem? hx)
  have := List.all_eq_true.1 this s (List.mem_of_getElem? hs)
  rw [h] at this
  cases this
theorem checkS_ok {l : List (List Sub)} {m : Int} (h1 : ¬ 4 < l.length) (h2 : many l = false) (h : ∀ (k : Nat) (x : List Sub), l[k]? = some x → okLk x m = true) : checkS l m = 0 := by
  unfold checkS
  rw [if_neg (by rw [h2]; simp; omega), if_pos]
  rw [List.all_eq_true]
  intro x hx
  obtain ⟨k, hk, he⟩ := List.mem_iff_getElem.1 hx
  exact h k x (by rw [List.getElem?_eq_getElem hk, he])
theorem okLk_of {x : List Sub} {m : Int} (h : ∀ (j : Nat) s, x[j]? = some s → okSub s m = true) : okLk x m = true := by
  unfold okLk
  rw [List.all_eq_true]
  intro s hs
  obtain ⟨k, hk, he⟩ := List.mem_iff_getElem.1 hs
  exact h k s (by rw [List.getElem?_eq_getElem hk, he])
theorem okSub_size {s : Sub} {m : Int} (h : ¬ (1 ≤ s.2.1.length ∧ s.2.1.length ≤ 3 ∧ s.1.length ≤ 2 ∧ s.2.2.1.length ≤ 2)) : okSub s m = false := by
  unfold okSub
  rw [decide_eq_false h]
  rfl
theorem okSub_to {s : Sub} {m : Int} (h : ¬ (0 ≤ s.2.2.2 ∧ s.2.2.2 < m)) : okSub s m = false := by
  unfold okSub
  rw [decide_eq_false h]
  simp
theorem okSub_all {s : Sub} {m : Int} (h : okAll (allOf s) m = false) : okSub s m = false := by
  unfold okSub
  rw [h]
  simp
theorem okSub_yes {s : Sub} {m : Int} (h1 : 1 ≤ s.2.1.length ∧ s.2.1.length ≤ 3 ∧ s.1.length ≤ 2 ∧ s.2.2.1.length ≤ 2) (h2 : 0 ≤ s.2.2.2 ∧ s.2.2.2 < m) (h3 : okAll (allOf s) m = true) : okSub s m = true := by
  unfold okSub
  rw [decide_eq_true h1, decide_eq_true h2, h3]
  rfl
set_option maxRecDepth 100000 in
set_option maxHeartbeats 8000000 in
theorem check_any (la : Option Addr) (ln lc : Nat) (l : List (List Sub)) (mg : Int) (w : World) (hl : Lst Enc.lk w (· < w.heap.size) la ln l) (hln : ln ≤ 1000) (hsm : ∀ x ∈ l, Small x) :
    Calls Try.prog 27 #[.slice la ln lc, .int .i64 mg] w fun e w' => e = .returned (.int .i64 (checkS l mg)) ∧ Below w.heap.size w w' := by
  have hll := hl.1
  by_cases h4 : 4 < l.length
  · have hfin := checkS_many (l := l) (m := mg) (.inl h4)
    have t1 : (4 : Int) < (ln : Int) := by omega
    rw [hfin]
    clear hfin hl
    go_enter Try.func27, Try.ntmps27
    go_wp2_with fail
    go_ret
    exact ⟨rfl, (Below.refl _ _).alloc (Nat.le_refl _) _⟩
  have t1 : ¬ (4 : Int) < (ln : Int) := by omega
  obtain ⟨bg, hbg⟩ : ∃ bg, bg = w.heap.size := ⟨_, rfl⟩
  obtain ⟨V, hV⟩ : ∃ V, V = w.alloc (Obj.cells #[.int .i64 mg] 3) := ⟨_, rfl⟩
  have hr0 : V.heap[bg]? = some (.cells #[.int .i64 mg] 3 (0, 0)) := by rw [hV, hbg]; exact heap_alloc_new w _
  have hb0 : Below w.heap.size w V := by rw [hV]; exact (Below.refl _ _).alloc (Nat.le_refl _) _
  have hlV := hl.under hb0
  have hcg : V.cell? ⟨bg, 0, none⟩ = some (.int .i64 mg) := (cell_of_row _ _ 0 _ _ _ hr0).trans rfl
  have hcm := containsMany_any la ln lc l V hlV (by omega)
  clear hl hr0
  replace hV := hide hV; replace hbg := hide hbg; replace hb0 := hide hb0; replace hlV := hide hlV; replace hll := hide hll; replace hcg := hide hcg
  cases hmany : many l with
  | true =>
    have hfin := checkS_many (l := l) (m := mg) (.inr hmany)
    rw [hmany] at hcm
    replace hcm := hide hcm; replace hfin := hide hfin; replace hmany := hide hmany
    go_enter Try.func27, Try.ntmps27
    go_wp2_with fail
    rw [← unhide hV]
    refine (unhide hcm).mono ?_
    rintro e w1 ⟨rfl, hb⟩
    have hz := (unhide hb0).trans (hb.mono (unhide hb0).size)
    clear hb hcm
    go_wp2_with fail
    go_ret
    rw [unhide hfin]
    exact ⟨rfl, hz⟩
  | false =>
    rw [hmany] at hcm
    replace hcm := hide hcm; replace hmany := hide hmany
    go_enter Try.func27, Try.ntmps27
    go_wp2_with fail
    rw [← unhide hV, ← unhide hbg]
    refine (unhide hcm).mono ?_
    rintro e w1 ⟨rfl, hb⟩
    clear hcm
    have hb := hide hb
    go_wp2_with fail
    go_loopw [20] (fun v wr => ∃ k : Nat, k ≤ ln ∧ v = .int .i64 (k : Int) ∧ (∀ m x, m < k → l[m]? = some x → okLk x mg = true) ∧ Below V.heap.size V wr) (fun v _ => (ln - intOf v).toNat)
    case atStart => exact ⟨0, by omega, rfl, fun m s hm => by omega, unhide hb⟩
    case round =>
      obtain ⟨k, hk, rfl, hno, hbw⟩ := hrel
      obtain ⟨wo, rfl⟩ : ∃ wo : World, wo = wr := ⟨_, rfl⟩
      clear hb
      replace hno := hide hno
      by_cases hlt : k < ln
      · obtain ⟨b, off, x, xa, xn, xc, rfl, hSb, hx, _, _, hlx, hcx⟩ := lst_list ((unhide hlV).under hbw) hlt
        have hxs := hsm x (List.mem_of_getElem? hx)
        have hxl := hlx.1
        have hxn : xn ≤ 1000 := by rw [← hxl]; exact hxs.1
        obtain ⟨bx, hbx⟩ : ∃ bx, bx = wo.heap.size := ⟨_, rfl⟩
        obtain ⟨W, hW⟩ : ∃ W, W = wo.alloc (Obj.cells #[.slice xa xn xc] 37) := ⟨_, rfl⟩
        have hbo : Below wo.heap.size wo W := by rw [hW]; exact (Below.refl _ _).alloc (Nat.le_refl _) _
        have hlxW := hlx.under hbo
        have hbW := hbw.trans (hbo.mono hbw.size)
        clear hlx hbo
        replace hbx := hide hbx; replace hW := hide hW; replace hlxW := hide hlxW; replace hbw := hide hbw; replace hbW := hide hbW; replace hx := hide hx; replace hxl := hide hxl
        go_wp2_with fail
        rw [← unhide hW, ← unhide hbx]
        go_loopw [27] (fun v wr => ∃ j : Nat, j ≤ xn ∧ v = .int .i64 (j : Int) ∧ (∀ m s, m < j → x[m]? = some s → okSub s mg = true) ∧ Below W.heap.size W wr) (fun v _ => (xn - intOf v).toNat)
        case atStart => exact ⟨0, by omega, rfl, fun m s hm => by omega, Below.refl _ _⟩
        case round =>
          obtain ⟨j, hj, rfl, hno2, hbw2⟩ := hrel
          obtain ⟨wp, rfl⟩ : ∃ wp : World, wp = wr := ⟨_, rfl⟩
          replace hno2 := hide hno2
          clear hcx
          by_cases hjl : j < xn
          · obtain ⟨b, off, s, a1, n1, c1, a2, n2, c2, a3, n3, c3, rfl, hSb, hs, ⟨_, _, hl1⟩, ⟨_, _, hl2⟩, ⟨_, _, hl3⟩, hto, h1, h2, h3, h5⟩ := lst_sub ((unhide hlxW).under hbw2) hjl
            have hsmall := hxs.2 s (List.mem_of_getElem? hs)
            have hl1l := hl1.1
            have hl2l := hl2.1
            have hl3l := hl3.1
            rw [hl1.1, hl2.1, hl3.1] at hsmall
            obtain ⟨hn1, hn2, hn3⟩ := hsmall
            obtain ⟨tv, hte⟩ : ∃ tv, s.2.2.2 = tv := ⟨_, rfl⟩
            rw [hte] at h5
            obtain ⟨bs, hbs⟩ : ∃ bs, bs = wp.heap.size := ⟨_, rfl⟩
            obtain ⟨w2, hw2⟩ : ∃ w2, w2 = wp.alloc (Obj.cells #[.slice a1 n1 c1, .slice a2 n2 c2, .slice a3 n3 c3, .int .i64 tv] 56) := ⟨_, rfl⟩
            have hr2 : w2.heap[bs]? = some (.cells #[.slice a1 n1 c1, .slice a2 n2 c2, .slice a3 n3 c3, .int .i64 tv] 56 (0, 0)) := by rw [hw2, hbs]; exact heap_alloc_new wp _
            have hbp : Below wp.heap.size wp w2 := by rw [hw2]; exact (Below.refl _ _).alloc (Nat.le_refl _) _
            have hbW2 := hbw2.trans (hbp.mono hbw2.size)
            have hbV2 := (unhide hbW).trans (hbW2.mono (unhide hbW).size)
            have hz := (unhide hb0).trans (hbV2.mono (unhide hb0).size)
            obtain ⟨d0, d1, d2, d3⟩ : w2.cell? ⟨bs, 0, none⟩ = some (.slice a1 n1 c1) ∧ w2.cell? ⟨bs, 1, none⟩ = some (.slice a2 n2 c2) ∧ w2.cell? ⟨bs, 2, none⟩ = some (.slice a3 n3 c3) ∧ w2.cell? ⟨bs, 3, none⟩ = some (.int .i64 tv) := ⟨(cell_of_row _ _ 0 _ _ _ hr2).trans rfl, (cell_of_row _ _ 1 _ _ _ hr2).trans rfl, (cell_of_row _ _ 2 _ _ _ hr2).trans rfl, (cell_of_row _ _ 3 _ _ _ hr2).trans rfl⟩
            have e0 := d0; have e1 := d1; have e2 := d2; have e3 := d3
            rw [hw2, hbs] at e0 e1 e2 e3
            have hz2 := hz
            rw [hw2] at hz2
            have hl12 := hl1.under hbp
            have hl22 := hl2.under hbp
            have hl32 := hl3.under hbp
            have hcg2 := cell_under (unhide hcg) hbV2
            clear hl1 hl2 hl3 hbp hr2 hbw2
            replace hbs := hide hbs; replace hw2 := hide hw2; replace hbW2 := hide hbW2; replace hbV2 := hide hbV2; replace hz := hide hz; replace hz2 := hide hz2; replace hs := hide hs; replace hl12 := hide hl12; replace hl22 := hide hl22; replace hl32 := hide hl32; replace hte := hide hte; replace hl1l := hide hl1l; replace hl2l := hide hl2l; replace hl3l := hide hl3l; replace hcg2 := hide hcg2; replace d0 := hide d0; replace d1 := hide d1; replace d2 := hide d2; replace d3 := hide d3
            by_cases hsz : 1 ≤ n2 ∧ n2 ≤ 3 ∧ n1 ≤ 2 ∧ n3 ≤ 2
            · obtain ⟨s1, s2, s3, s4⟩ := hsz
              have u1 : ¬ (n2 : Int) < 1 := by omega
              have u2 : ¬ (3 : Int) < (n2 : Int) := by omega
              have u3 : ¬ (2 : Int) < max (n1 : Int) (n3 : Int) := by omega
              have hout := out_any tv bg mg w2 (unhide hcg2)
              by_cases hm : n1 < n3
              all_goals
                cases ht : decide (0 ≤ tv ∧ tv < mg) with
                | false =>
                  have hfin := checkS_bad (m := mg) h4 (unhide hmany) (unhide hx) (unhide hs) (okSub_to (by rw [unhide hte]; exact of_decide_eq_false ht))
                  rw [ht] at hout
                  replace hfin := hide hfin; replace hout := hide hout; replace ht := hide ht
                  go_wp2_with fail
                  rw [← unhide hw2, ← unhide hbs]
                  refine (unhide hout).mono ?_
                  rintro e w3 ⟨rfl, ew⟩
                  subst ew
                  clear hout
                  go_wp2_with fail
                  go_ret
                  rw [unhide hfin]
                  exact ⟨rfl, unhide hz⟩
                | true =>
                  rw [ht] at hout
                  replace hout := hide hout; replace ht := hide ht
                  go_wp2_with fail
                  rw [← unhide hw2, ← unhide hbs]
                  refine (unhide hout).mono ?_
                  rintro e w3 ⟨rfl, ew⟩
                  subst ew
                  clear hout
                  obtain ⟨b3, hb3⟩ : ∃ b3, b3 = w3.heap.size := ⟨_, rfl⟩
                  obtain ⟨w4, hw4⟩ : ∃ w4, w4 = w3.alloc (Obj.cells #[.slice a1 n1 c1, .slice a2 n2 c2, .slice a3 n3 c3] 22) := ⟨_, rfl⟩
                  have hr4 : w4.heap[b3]? = some (.cells #[.slice a1 n1 c1, .slice a2 n2 c2, .slice a3 n3 c3] 22 (0, 0)) := by rw [hw4, hb3]; exact heap_alloc_new w3 _
                  have hbb : Below w3.heap.size w3 w4 := by rw [hw4]; exact (Below.refl _ _).alloc (Nat.le_refl _) _
                  have hcc := concat_any b3 a1 n1 c1 s.1 a2 n2 c2 s.2.1 a3 n3 c3 s.2.2.1 w4 ((cell_of_row _ _ 0 _ _ _ hr4).trans rfl) ((cell_of_row _ _ 1 _ _ _ hr4).trans rfl) ((cell_of_row _ _ 2 _ _ _ hr4).trans rfl) ((unhide hl12).under hbb) ((unhide hl22).under hbb) ((unhide hl32).under hbb) hn1 hn2 hn3
                  have hbW4 := (unhide hbW2).trans (hbb.mono (unhide hbW2).size)
                  have d0 := unhide d0; have d1 := unhide d1; have d2 := unhide d2
                  clear hr4
                  replace hcc := hide hcc; replace hw4 := hide hw4; replace hb3 := hide hb3; replace hbW4 := hide hbW4; replace hbb := hide hbb
                  go_wp2_with fail
                  rw [← unhide hw4, ← unhide hb3]
                  refine (unhide hcc).mono ?_
                  rintro e w5 ⟨v, rfl, hown, hb5⟩
                  obtain ⟨ra, rc, rfl⟩ := own_shape hown
                  have hrow := lst_own hown (fun y hy => by
                    rcases List.mem_append.1 hy with h | h
                    · exact (unhide hl12).i64 y h
                    · rcases List.mem_append.1 h with h | h
                      · exact (unhide hl22).i64 y h
                      · exact (unhide hl32).i64 y h)
                  have hrl := hrow.1
                  have hAl : (s.1 ++ (s.2.1 ++ s.2.2.1)).length ≤ 3000 := by
                    simp only [List.length_append]
                    have e1 := unhide hl1l; have e2 := unhide hl2l; have e3 := unhide hl3l
                    omega
                  have hA : allOf s = s.1 ++ (s.2.1 ++ s.2.2.1) := rfl
                  rw [← hA] at hrl hAl ⊢
                  have hbW5 := (unhide hbW4).trans (hb5.mono (unhide hbW4).size)
                  have h35 := (unhide hbb).trans (hb5.mono (unhide hbb).size)
                  have hcg5 := cell_under (unhide hcg2) h35
                  have hcd := containsOut_any ra (allOf s).length rc (allOf s) bg mg w5 hrl (by omega) hcg5
                  clear d0 d1 d2 hown hrow hrl hA hcc hb5 hbb h35
                  obtain ⟨L, hL⟩ : ∃ L, (allOf s).length = L := ⟨_, rfl⟩
                  rw [hL] at hcd hAl ⊢
                  cases hok : okAll (allOf s) mg with
                  | false =>
                    have hfin := checkS_bad (m := mg) h4 (unhide hmany) (unhide hx) (unhide hs) (okSub_all hok)
                    have hbV5 := (unhide hbW).trans (hbW5.mono (unhide hbW).size)
                    have hz5 := (unhide hb0).trans (hbV5.mono (unhide hb0).size)
                    rw [hok] at hcd
                    replace hfin := hide hfin; replace hcd := hide hcd; replace hok := hide hok; replace hL := hide hL; replace hz5 := hide hz5; replace hbW5 := hide hbW5
                    clear hbV5 hcg5
                    go_wp2_with fail
                    refine (unhide hcd).mono ?_
                    rintro e w6 ⟨rfl, ew⟩
                    subst ew
                    clear hcd
                    go_wp2_with fail
                    go_ret
                    rw [unhide hfin]
                    exact ⟨rfl, unhide hz5⟩
                  | true =>
                    have hyes := okSub_yes (s := s) (m := mg) ⟨by rw [unhide hl2l]; exact s1, by rw [unhide hl2l]; exact s2, by rw [unhide hl1l]; exact s3, by rw [unhide hl3l]; exact s4⟩ (by rw [unhide hte]; exact of_decide_eq_true (unhide ht)) hok
                    have hno3 : ∀ m s', m < j + 1 → x[m]? = some s' → okSub s' mg = true := fun m s' hm hs' => by
                      rcases Nat.lt_succ_iff_lt_or_eq.1 hm with h1 | rfl
                      · exact unhide hno2 m s' h1 hs'
                      · rw [unhide hs] at hs'
                        cases hs'
                        exact hyes
                    rw [hok] at hcd
                    replace hcd := hide hcd; replace hok := hide hok; replace hL := hide hL; replace hbW5 := hide hbW5; replace hno3 := hide hno3; replace hyes := hide hyes
                    clear hcg5
                    go_wp2_with fail
                    refine (unhide hcd).mono ?_
                    rintro e w6 ⟨rfl, ew⟩
                    subst ew
                    clear hcd
                    go_wp2_with fail
                    go_roundw
                    case rel => exact ⟨j + 1, by omega, by go_num, unhide hno3, unhide hbW5⟩
                    case measure => simp [intOf]; omega
            · have hfin := checkS_bad (m := mg) h4 (unhide hmany) (unhide hx) (unhide hs) (okSub_size (by rw [unhide hl1l, unhide hl2l, unhide hl3l]; exact hsz))
              replace hfin := hide hfin
              by_cases s1 : 1 ≤ n2
              · have u1 : ¬ (n2 : Int) < 1 := by omega
                by_cases s2 : n2 ≤ 3
                · have u2 : ¬ (3 : Int) < (n2 : Int) := by omega
                  have u3 : (2 : Int) < max (n1 : Int) (n3 : Int) := by omega
                  replace hsz := hide hsz
                  go_wp2_with fail
                  all_goals
                    go_ret
                    rw [unhide hfin]
                    exact ⟨rfl, unhide hz2⟩
                · have u2 : (3 : Int) < (n2 : Int) := by omega
                  replace hsz := hide hsz
                  go_wp2_with fail
                  go_ret
                  rw [unhide hfin]
                  exact ⟨rfl, unhide hz2⟩
              · have u1 : (n2 : Int) < 1 := by omega
                replace hsz := hide hsz
                go_wp2_with fail
                go_ret
                rw [unhide hfin]
                exact ⟨rfl, unhide hz2⟩
          · have hokx : okLk x mg = true := okLk_of (fun m s hs => unhide hno2 m s (by have := (List.getElem?_eq_some_iff.1 hs).1; rw [unhide hxl] at this; omega) hs)
            have hno3 : ∀ m x', m < k + 1 → l[m]? = some x' → okLk x' mg = true := fun m x' hm hx' => by
              rcases Nat.lt_succ_iff_lt_or_eq.1 hm with h1 | rfl
              · exact unhide hno m x' h1 hx'
              · rw [unhide hx] at hx'
                cases hx'
                exact hokx
            have hbV3 := (unhide hbW).trans (hbw2.mono (unhide hbW).size)
            clear hokx hbw2
            replace hno3 := hide hno3; replace hbV3 := hide hbV3
            go_wp2_with fail
            go_roundw
            case rel => exact ⟨k + 1, by omega, by go_num, unhide hno3, unhide hbV3⟩
            case measure => simp [intOf]; omega
      · have hfin : checkS l mg = 0 := checkS_ok h4 (unhide hmany) (fun m x hx => unhide hno m x (by have := (List.getElem?_eq_some_iff.1 hx).1; rw [unhide hll] at this; omega) hx)
        have hz := (unhide hb0).trans (hbw.mono (unhide hb0).size)
        replace hfin := hide hfin; replace hbw := hide hbw
        go_wp2_with fail
        go_ret
        rw [unhide hfin]
        exact ⟨rfl, hz⟩
end Go.Proofs.Ytfbgbbbfpkpfkaa
