/- Tents: the reference's test, the values, Fits. -/
import Derived.Test.YthkppilelpaieaaAx1
namespace Go.Proofs.Ythkppilelpaieaa
open Go.RowKit
set_option maxHeartbeats 2000000 in
theorem rvalid_any (lo p hi : Int) (w : World) : Calls Try.prog 38 #[.agg #[.int .i64 lo, .int .i64 p, .int .i64 hi]] w fun e w' => e = .returned (.bool (validS lo p hi)) ∧ Below w.heap.size w w' := by
  have hB : Below w.heap.size w (w.alloc (Obj.cells #[.int .i64 lo, .int .i64 p, .int .i64 hi] 52)) := (Below.refl _ _).alloc (Nat.le_refl _) _
  obtain ⟨q, hq⟩ : ∃ q, validS lo p hi = q := ⟨_, rfl⟩
  rw [hq]
  unfold validS at hq
  replace hB := hide hB
  go_enter Try.func38, Try.ntmps38
  by_cases h1 : -64 ≤ lo
  · have g1 : ¬ lo < -64 := by omega
    by_cases h2 : lo ≤ p
    · have g2 : ¬ p < lo := by omega
      by_cases h3 : p ≤ hi
      · have g3 : ¬ hi < p := by omega
        by_cases h4 : hi ≤ 64
        · have g4 : ¬ 64 < hi := by omega
          by_cases h5 : 0 ≤ lo
          · rw [decide_eq_true ⟨h1, h2, h3, h4, .inl h5⟩] at hq
            subst hq
            go_wp2_with fail
            go_ret
            exact ⟨rfl, unhide hB⟩
          · by_cases h6 : hi ≤ 0
            · rw [decide_eq_true ⟨h1, h2, h3, h4, .inr (.inl h6)⟩] at hq
              subst hq
              go_wp2_with fail
              go_ret
              exact ⟨rfl, unhide hB⟩
            · by_cases h7 : p = 0
              · rw [decide_eq_true ⟨h1, h2, h3, h4, .inr (.inr h7)⟩] at hq
                subst hq
                have h8 : (p == 0) = true := beq_iff_eq.2 h7
                clear h7
                go_wp2_with fail
                go_ret
                exact ⟨rfl, unhide hB⟩
              · rw [decide_eq_false (by omega)] at hq
                subst hq
                have h8 : (p == 0) = false := beq_eq_false_iff_ne.2 h7
                go_wp2_with fail
                go_ret
                exact ⟨rfl, unhide hB⟩
        · rw [decide_eq_false (by omega)] at hq
          subst hq
          have g4 : 64 < hi := by omega
          go_wp2_with fail
          go_ret
          exact ⟨rfl, unhide hB⟩
      · rw [decide_eq_false (by omega)] at hq
        subst hq
        have g3 : hi < p := by omega
        go_wp2_with fail
        go_ret
        exact ⟨rfl, unhide hB⟩
    · rw [decide_eq_false (by omega)] at hq
      subst hq
      have g2 : p < lo := by omega
      go_wp2_with fail
      go_ret
      exact ⟨rfl, unhide hB⟩
  · rw [decide_eq_false (by omega)] at hq
    subst hq
    have g1 : lo < -64 := by omega
    go_wp2_with fail
    go_ret
    exact ⟨rfl, unhide hB⟩
theorem lst_tent {w : World} {S : Nat → Prop} {a : Option Addr} {len : Nat} {l : List Tent} (h : Lst Enc.tent w S a len l) {k : Nat} (hk : k < len) :
    ∃ b off t, a = some ⟨b, off, none⟩ ∧ S b ∧ l[k]? = some t ∧ I64 t.1 ∧ I64 t.2.1 ∧ I64 t.2.2 ∧ w.cell? ⟨b, off + k * 3, none⟩ = some (.int .i64 t.1) ∧ w.cell? ⟨b, off + k * 3 + 1, none⟩ = some (.int .i64 t.2.1) ∧ w.cell? ⟨b, off + k * 3 + 2, none⟩ = some (.int .i64 t.2.2) := by
  obtain ⟨h1, h2⟩ := h
  obtain ⟨b, off, rfl, hb, hc⟩ := h2 (by omega)
  have hx : l[k]? = some (l[k]'(by omega)) := List.getElem?_eq_getElem _
  obtain ⟨us, ⟨u1, v1, rfl, ⟨rfl, i1⟩, u2, v2, rfl, ⟨rfl, i2⟩, rfl, i3⟩, hu⟩ := hc k _ hx
  exact ⟨b, off, _, rfl, hb, hx, i1, i2, i3, hu 0 _ rfl, hu 1 _ rfl, hu 2 _ rfl⟩
/-- all tents are valid -/
def allV (l : List Tent) : Bool := l.all fun t => validS t.1 t.2.1 t.2.2
theorem allV_bad {l : List Tent} {k : Nat} {t : Tent} (hx : l[k]? = some t) (h : validS t.1 t.2.1 t.2.2 = false) : allV l = false := by
  unfold allV
  rw [List.all_eq_false]
  exact ⟨t, List.mem_of_getElem? hx, by rw [h]; decide⟩
theorem allV_succ {l : List Tent} {k : Nat} {t : Tent} (hx : l[k]? = some t) (h : validS t.1 t.2.1 t.2.2 = true) (ht : allV (l.take k) = true) : allV (l.take (k + 1)) = true := by
  unfold allV at *
  rw [List.take_add_one, hx, List.all_append, ht]
  simpa using h
theorem fitc_any (lo p hi : Int) (w : World) : Calls Try.prog 36 #[.agg #[.int .i64 lo, .int .i64 p, .int .i64 hi]] w fun e w' => e = .returned (.bool (!validS lo p hi)) ∧ Below w.heap.size w w' := by
  obtain ⟨V, hV⟩ : ∃ V, V = w.alloc (Obj.cells #[.int .i64 lo, .int .i64 p, .int .i64 hi] 52) := ⟨_, rfl⟩
  have hB : Below w.heap.size w V := by rw [hV]; exact (Below.refl _ _).alloc (Nat.le_refl _) _
  have hc := valid_any lo p hi V
  obtain ⟨q, hq⟩ : ∃ q, validS lo p hi = q := ⟨_, rfl⟩
  rw [hq] at hc ⊢
  clear hq
  replace hc := hide hc; replace hB := hide hB; replace hV := hide hV
  go_enter Try.func36, Try.ntmps36
  go_wp2_with fail
  rw [← unhide hV]
  refine (unhide hc).mono ?_
  rintro e w1 ⟨rfl, hb⟩
  have hz := (unhide hB).trans (hb.mono (unhide hB).size)
  clear hc hB hb
  replace hz := hide hz
  cases q
  · go_wp2_with fail
    go_ret
    exact ⟨rfl, unhide hz⟩
  · go_wp2_with fail
    go_ret
    exact ⟨rfl, unhide hz⟩
set_option maxHeartbeats 1000000 in
theorem indexT_any (a : Option Addr) (n c : Nat) (l : List Tent) (w : World) (hl : Lst Enc.tent w (· < w.heap.size) a n l) (hn : n ≤ 1000000000000) :
    Calls Try.prog 50 #[.slice a n c, .func (.func 36) #[] #[]] w fun e w' => (∃ v : Int, e = .returned (.int .i64 v) ∧ decide (0 ≤ v) = !allV l) ∧ Below w.heap.size w w' := by
  have h1 := hl.1
  replace h1 := hide h1
  replace hl := hide hl
  go_enter Try.func50, Try.ntmps50
  go_wp2_with fail
  go_loopw [8] (fun v wr => ∃ k : Nat, k ≤ n ∧ v = .int .i64 (k : Int) ∧ allV (l.take k) = true ∧ Below w.heap.size w wr) (fun v _ => (n - intOf v).toNat)
  case atStart => exact ⟨0, by omega, rfl, rfl, Below.refl _ _⟩
  case round =>
    obtain ⟨k, hk, rfl, htk, hbw⟩ := hrel
    replace htk := hide htk
    by_cases hlt : k < n
    · obtain ⟨b', off, t, rfl, hb', hx, _, _, _, c0, c1, c2⟩ := lst_tent ((unhide hl).under hbw) hlt
      obtain ⟨lo, p, hi⟩ := t
      simp only at c0 c1 c2
      have hci := fitc_any lo p hi wr
      replace hx := hide hx; replace hbw := hide hbw
      cases hg : validS lo p hi with
      | false =>
        have hfin := allV_bad (unhide hx) hg
        rw [hg] at hci
        replace hfin := hide hfin; replace hci := hide hci; replace hg := hide hg
        go_wp2_with fail
        refine (unhide hci).mono ?_
        rintro e w1 ⟨rfl, hb⟩
        have hb1 := (unhide hbw).trans (hb.mono (unhide hbw).size)
        clear hci hb
        go_wp2_with fail
        go_ret
        exact ⟨⟨_, rfl, by rw [unhide hfin]; simp⟩, hb1⟩
      | true =>
        have hsc := allV_succ (unhide hx) hg (unhide htk)
        rw [hg] at hci
        replace hsc := hide hsc; replace hci := hide hci; replace hg := hide hg
        go_wp2_with fail
        refine (unhide hci).mono ?_
        rintro e w1 ⟨rfl, hb⟩
        have hb1 := (unhide hbw).trans (hb.mono (unhide hbw).size)
        clear hci hb
        go_wp2_with fail
        go_roundw
        case rel => exact ⟨k + 1, by omega, by go_num, unhide hsc, hb1⟩
        case measure => simp [intOf]; omega
    · have hfin : allV l = true := by
        have := unhide htk
        rwa [List.take_of_length_le (by rw [unhide h1]; omega)] at this
      replace hfin := hide hfin; replace hbw := hide hbw
      clear htk
      go_wp2_with fail
      go_ret
      exact ⟨⟨_, rfl, by rw [unhide hfin]; decide⟩, unhide hbw⟩
theorem containsT_any (a : Option Addr) (n c : Nat) (l : List Tent) (w : World) (hl : Lst Enc.tent w (· < w.heap.size) a n l) (hn : n ≤ 1000000000000) :
    Calls Try.prog 35 #[.slice a n c, .func (.func 36) #[] #[]] w fun e w' => e = .returned (.bool (!allV l)) ∧ Below w.heap.size w w' := by
  have hc := indexT_any a n c l w hl hn
  obtain ⟨q, hq⟩ : ∃ q, (!allV l) = q := ⟨_, rfl⟩
  rw [hq] at hc ⊢
  clear hq hl
  replace hc := hide hc
  go_enter Try.func35, Try.ntmps35
  go_wp2_with fail
  refine (unhide hc).mono ?_
  rintro e w1 ⟨⟨v, rfl, hv⟩, hb⟩
  clear hc
  replace hv := hide hv
  go_wp2_with fail
  go_ret
  exact ⟨ret_bool (unhide hv), hb⟩
/-- a region fits a number of axes -/
def fitsS (l : List Tent) (n : Int) : Bool := decide ((l.length : Int) = n) && allV l
theorem fits_any (a : Option Addr) (n c : Nat) (l : List Tent) (m : Int) (w : World) (hl : Lst Enc.tent w (· < w.heap.size) a n l) (hn : n ≤ 1000000000000) :
    Calls Try.prog 19 #[.slice a n c, .int .i64 m] w fun e w' => e = .returned (.bool (fitsS l m)) ∧ Below w.heap.size w w' := by
  have hc := containsT_any a n c l w hl hn
  have h1 := hl.1
  unfold fitsS
  rw [h1]
  clear hl h1
  replace hc := hide hc
  by_cases hm : (n : Int) = m
  · subst hm
    rw [decide_eq_true rfl, Bool.true_and]
    cases hq : allV l with
    | false =>
      rw [hq] at hc
      replace hc := hide hc; replace hq := hide hq
      go_enter Try.func19, Try.ntmps19
      go_wp2_with fail
      refine (unhide (unhide hc)).mono ?_
      rintro e w1 ⟨rfl, hb⟩
      clear hc
      go_wp2_with fail
      go_ret
      exact ⟨rfl, hb⟩
    | true =>
      rw [hq] at hc
      replace hc := hide hc; replace hq := hide hq
      go_enter Try.func19, Try.ntmps19
      go_wp2_with fail
      refine (unhide (unhide hc)).mono ?_
      rintro e w1 ⟨rfl, hb⟩
      clear hc
      go_wp2_with fail
      go_ret
      exact ⟨rfl, hb⟩
  · have h2 : ((n : Int) == m) = false := beq_eq_false_iff_ne.2 hm
    rw [decide_eq_false hm, Bool.false_and]
    clear hc hm
    go_enter Try.func19, Try.ntmps19
    go_wp2_with fail
    go_ret
    exact ⟨rfl, Below.refl _ _⟩
set_option maxHeartbeats 1000000 in
theorem rfits_any (a : Option Addr) (n c : Nat) (l : List Tent) (m : Int) (w : World) (hl : Lst Enc.tent w (· < w.heap.size) a n l) (hn : n ≤ 1000000000000) :
    Calls Try.prog 20 #[.slice a n c, .int .i64 m] w fun e w' => e = .returned (.bool (fitsS l m)) ∧ Below w.heap.size w w' := by
  have h1 := hl.1
  replace h1 := hide h1
  replace hl := hide hl
  go_enter Try.func20, Try.ntmps20
  go_wp2_with fail
  go_loopw [5] (fun v wr => ∃ k : Nat, k ≤ n ∧ v = .int .i64 (k : Int) ∧ allV (l.take k) = true ∧ Below w.heap.size w wr) (fun v _ => (n - intOf v).toNat)
  case atStart => exact ⟨0, by omega, rfl, rfl, Below.refl _ _⟩
  case round =>
    obtain ⟨k, hk, rfl, htk, hbw⟩ := hrel
    replace htk := hide htk
    by_cases hlt : k < n
    · obtain ⟨b', off, t, rfl, hb', hx, _, _, _, c0, c1, c2⟩ := lst_tent ((unhide hl).under hbw) hlt
      obtain ⟨lo, p, hi⟩ := t
      simp only at c0 c1 c2
      have hci := rvalid_any lo p hi wr
      replace hx := hide hx; replace hbw := hide hbw
      cases hg : validS lo p hi with
      | false =>
        have hfin : fitsS l m = false := by unfold fitsS; rw [allV_bad (unhide hx) hg, Bool.and_false]
        rw [hg] at hci
        replace hfin := hide hfin; replace hci := hide hci; replace hg := hide hg
        go_wp2_with fail
        refine (unhide hci).mono ?_
        rintro e w1 ⟨rfl, hb⟩
        have hb1 := (unhide hbw).trans (hb.mono (unhide hbw).size)
        clear hci hb
        go_wp2_with fail
        go_ret
        exact ⟨ret_bool (unhide hfin).symm, hb1⟩
      | true =>
        have hsc := allV_succ (unhide hx) hg (unhide htk)
        rw [hg] at hci
        replace hsc := hide hsc; replace hci := hide hci; replace hg := hide hg
        go_wp2_with fail
        refine (unhide hci).mono ?_
        rintro e w1 ⟨rfl, hb⟩
        have hb1 := (unhide hbw).trans (hb.mono (unhide hbw).size)
        clear hci hb
        go_wp2_with fail
        go_roundw
        case rel => exact ⟨k + 1, by omega, by go_num, unhide hsc, hb1⟩
        case measure => simp [intOf]; omega
    · have hfin : allV l = true := by
        have := unhide htk
        rwa [List.take_of_length_le (by rw [unhide h1]; omega)] at this
      have hfs : ((n : Int) == m) = fitsS l m := by
        unfold fitsS
        rw [hfin, Bool.and_true, unhide h1]
        rfl
      replace hfs := hide hfs; replace hfin := hide hfin; replace hbw := hide hbw
      clear htk
      go_wp2_with fail
      go_ret
      exact ⟨ret_bool (unhide hfs), unhide hbw⟩
end Go.Proofs.Ythkppilelpaieaa
