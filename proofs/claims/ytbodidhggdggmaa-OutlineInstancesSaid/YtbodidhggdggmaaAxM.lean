/- Merged: XAx1 XAx2 XAx3 XAx4 XAx5 XAx6 XAx7 XAx8 XAx9 XAx10 XAx11 XAx12 XAx13 XAx14 XAx15 -/
import Derived.Test.YtbodidhggdggmaaLst
import Derived.Test.YtbodidhggdggmaaR01
import Derived.Lib.OthersKept
import Derived.Lib.TrimU
import Derived.Deep.LoopGhost
import Derived.Test.YtbodidhggdggmaaSt
import Derived.Test.YtbodidhggdggmaaFrontG
import Derived.Test.YtbodidhggdggmaaSbM
import Derived.Test.YtbodidhggdggmaaExM
-- @@XAx1
/- Axes and tents: what the small functions compute; the tests and values of tents, of the program and of the reference. -/
namespace Go.Proofs.Ytbodidhggdggmaa
open Go.RowKit
/-- a tent: Low, Peak, High -/
abbrev Tent := Int × (Int × Int)
abbrev Enc.tent : Enc Tent := Enc.pair Enc.int (Enc.pair Enc.int Enc.int)
def limS (n : Int) : Int := if -64 < (if 64 < n then 64 else n) then (if 64 < n then 64 else n) else -64
theorem limS_rng (n : Int) : -64 ≤ limS n ∧ limS n ≤ 64 := by unfold limS; split <;> split <;> omega
def validS (lo p hi : Int) : Bool := decide (-64 ≤ lo ∧ lo ≤ p ∧ p ≤ hi ∧ hi ≤ 64 ∧ (0 ≤ lo ∨ hi ≤ 0 ∨ p = 0))
/-- the value of a valid tent, as a fraction -/
def valS (lo p hi v : Int) : Int × Int := if p = 0 ∨ v = p then (1, 1) else if v ≤ lo ∨ hi ≤ v then (0, 1) else if v < p then (v - lo, p - lo) else (hi - v, hi - p)
theorem limited_any (n : Int) (w : World) : Calls Try.prog 80 #[.int .i64 n] w fun e w' => e = .returned (.int .i64 (limS n)) ∧ w' = w := by
  have hl : limS n = max (-64) (min n 64) := by unfold limS; split <;> split <;> omega
  rw [hl]
  clear hl
  go_enter Try.func80, Try.ntmps80
  go_wp2_with fail
  go_ret
  exact ⟨rfl, rfl⟩
theorem rlimited_any (n : Int) (w : World) : Calls Try.prog 53 #[.int .i64 n] w fun e w' => e = .returned (.int .i64 (limS n)) ∧ w' = w := by
  have hl : limS n = max (-64) (min n 64) := by unfold limS; split <;> split <;> omega
  rw [hl]
  clear hl
  go_enter Try.func53, Try.ntmps53
  go_wp2_with fail
  go_ret
  exact ⟨rfl, rfl⟩
set_option maxHeartbeats 2000000 in
theorem valid_any (lo p hi : Int) (w : World) : Calls Try.prog 64 #[.agg #[.int .i64 lo, .int .i64 p, .int .i64 hi]] w fun e w' => e = .returned (.bool (validS lo p hi)) ∧ Below w.heap.size w w' := by
  have hB : Below w.heap.size w (w.alloc (Obj.cells #[.int .i64 lo, .int .i64 p, .int .i64 hi] 63)) := (Below.refl _ _).alloc (Nat.le_refl _) _
  obtain ⟨q, hq⟩ : ∃ q, validS lo p hi = q := ⟨_, rfl⟩
  rw [hq]
  unfold validS at hq
  replace hB := hide hB
  go_enter Try.func64, Try.ntmps64
  by_cases h1 : -64 ≤ lo
  · by_cases h2 : lo ≤ p
    · by_cases h3 : p ≤ hi
      · by_cases h4 : hi ≤ 64
        · by_cases h5 : 0 ≤ lo
          · rw [decide_eq_true ⟨h1, h2, h3, h4, .inl h5⟩] at hq
            subst hq
            go_wp2_with fail
            go_ret
            exact ⟨rfl, unhide hB⟩
          · by_cases h6 : hi ≤ 0
            · rw [decide_eq_true ⟨h1, h2, h3, h4, .inr (.inl h6)⟩] at hq
              subst hq
              go_wp2_with fail
              go_ret
              exact ⟨rfl, unhide hB⟩
            · by_cases h7 : p = 0
              · rw [decide_eq_true ⟨h1, h2, h3, h4, .inr (.inr h7)⟩] at hq
                subst hq
                have h8 : (p == 0) = true := beq_iff_eq.2 h7
                clear h7
                go_wp2_with fail
                go_ret
                exact ⟨rfl, unhide hB⟩
              · rw [decide_eq_false (by omega)] at hq
                subst hq
                have h8 : (p == 0) = false := beq_eq_false_iff_ne.2 h7
                go_wp2_with fail
                go_ret
                exact ⟨rfl, unhide hB⟩
        · rw [decide_eq_false (by omega)] at hq
          subst hq
          go_wp2_with fail
          go_ret
          exact ⟨rfl, unhide hB⟩
      · rw [decide_eq_false (by omega)] at hq
        subst hq
        go_wp2_with fail
        go_ret
        exact ⟨rfl, unhide hB⟩
    · rw [decide_eq_false (by omega)] at hq
      subst hq
      go_wp2_with fail
      go_ret
      exact ⟨rfl, unhide hB⟩
  · rw [decide_eq_false (by omega)] at hq
    subst hq
    go_wp2_with fail
    go_ret
    exact ⟨rfl, unhide hB⟩
end Go.Proofs.Ytbodidhggdggmaa
-- @@XAx2
/- Tents: the reference's test, the values, Fits. -/
namespace Go.Proofs.Ytbodidhggdggmaa
open Go.RowKit
set_option maxHeartbeats 2000000 in
theorem rvalid_any (lo p hi : Int) (w : World) : Calls Try.prog 66 #[.agg #[.int .i64 lo, .int .i64 p, .int .i64 hi]] w fun e w' => e = .returned (.bool (validS lo p hi)) ∧ Below w.heap.size w w' := by
  have hB : Below w.heap.size w (w.alloc (Obj.cells #[.int .i64 lo, .int .i64 p, .int .i64 hi] 63)) := (Below.refl _ _).alloc (Nat.le_refl _) _
  obtain ⟨q, hq⟩ : ∃ q, validS lo p hi = q := ⟨_, rfl⟩
  rw [hq]
  unfold validS at hq
  replace hB := hide hB
  go_enter Try.func66, Try.ntmps66
  by_cases h1 : -64 ≤ lo
  · have g1 : ¬ lo < -64 := by omega
    by_cases h2 : lo ≤ p
    · have g2 : ¬ p < lo := by omega
      by_cases h3 : p ≤ hi
      · have g3 : ¬ hi < p := by omega
        by_cases h4 : hi ≤ 64
        · have g4 : ¬ 64 < hi := by omega
          by_cases h5 : 0 ≤ lo
          · rw [decide_eq_true ⟨h1, h2, h3, h4, .inl h5⟩] at hq
            subst hq
            go_wp2_with fail
            go_ret
            exact ⟨rfl, unhide hB⟩
          · by_cases h6 : hi ≤ 0
            · rw [decide_eq_true ⟨h1, h2, h3, h4, .inr (.inl h6)⟩] at hq
              subst hq
              go_wp2_with fail
              go_ret
              exact ⟨rfl, unhide hB⟩
            · by_cases h7 : p = 0
              · rw [decide_eq_true ⟨h1, h2, h3, h4, .inr (.inr h7)⟩] at hq
                subst hq
                have h8 : (p == 0) = true := beq_iff_eq.2 h7
                clear h7
                go_wp2_with fail
                go_ret
                exact ⟨rfl, unhide hB⟩
              · rw [decide_eq_false (by omega)] at hq
                subst hq
                have h8 : (p == 0) = false := beq_eq_false_iff_ne.2 h7
                go_wp2_with fail
                go_ret
                exact ⟨rfl, unhide hB⟩
        · rw [decide_eq_false (by omega)] at hq
          subst hq
          have g4 : 64 < hi := by omega
          go_wp2_with fail
          go_ret
          exact ⟨rfl, unhide hB⟩
      · rw [decide_eq_false (by omega)] at hq
        subst hq
        have g3 : hi < p := by omega
        go_wp2_with fail
        go_ret
        exact ⟨rfl, unhide hB⟩
    · rw [decide_eq_false (by omega)] at hq
      subst hq
      have g2 : p < lo := by omega
      go_wp2_with fail
      go_ret
      exact ⟨rfl, unhide hB⟩
  · rw [decide_eq_false (by omega)] at hq
    subst hq
    have g1 : lo < -64 := by omega
    go_wp2_with fail
    go_ret
    exact ⟨rfl, unhide hB⟩
theorem lst_tent {w : World} {S : Nat → Prop} {a : Option Addr} {len : Nat} {l : List Tent} (h : Lst Enc.tent w S a len l) {k : Nat} (hk : k < len) :
    ∃ b off t, a = some ⟨b, off, none⟩ ∧ S b ∧ l[k]? = some t ∧ I64 t.1 ∧ I64 t.2.1 ∧ I64 t.2.2 ∧ w.cell? ⟨b, off + k * 3, none⟩ = some (.int .i64 t.1) ∧ w.cell? ⟨b, off + k * 3 + 1, none⟩ = some (.int .i64 t.2.1) ∧ w.cell? ⟨b, off + k * 3 + 2, none⟩ = some (.int .i64 t.2.2) := by
  obtain ⟨h1, h2⟩ := h
  obtain ⟨b, off, rfl, hb, hc⟩ := h2 (by omega)
  have hx : l[k]? = some (l[k]'(by omega)) := List.getElem?_eq_getElem _
  obtain ⟨us, ⟨u1, v1, rfl, ⟨rfl, i1⟩, u2, v2, rfl, ⟨rfl, i2⟩, rfl, i3⟩, hu⟩ := hc k _ hx
  exact ⟨b, off, _, rfl, hb, hx, i1, i2, i3, hu 0 _ rfl, hu 1 _ rfl, hu 2 _ rfl⟩
/-- all tents are valid -/
def allV (l : List Tent) : Bool := l.all fun t => validS t.1 t.2.1 t.2.2
theorem allV_bad {l : List Tent} {k : Nat} {t : Tent} (hx : l[k]? = some t) (h : validS t.1 t.2.1 t.2.2 = false) : allV l = false := by
  unfold allV
  rw [List.all_eq_false]
  exact ⟨t, List.mem_of_getElem? hx, by rw [h]; decide⟩
theorem allV_succ {l : List Tent} {k : Nat} {t : Tent} (hx : l[k]? = some t) (h : validS t.1 t.2.1 t.2.2 = true) (ht : allV (l.take k) = true) : allV (l.take (k + 1)) = true := by
  unfold allV at *
  rw [List.take_add_one, hx, List.all_append, ht]
  simpa using h
theorem fitc_any (lo p hi : Int) (w : World) : Calls Try.prog 63 #[.agg #[.int .i64 lo, .int .i64 p, .int .i64 hi]] w fun e w' => e = .returned (.bool (!validS lo p hi)) ∧ Below w.heap.size w w' := by
  obtain ⟨V, hV⟩ : ∃ V, V = w.alloc (Obj.cells #[.int .i64 lo, .int .i64 p, .int .i64 hi] 63) := ⟨_, rfl⟩
  have hB : Below w.heap.size w V := by rw [hV]; exact (Below.refl _ _).alloc (Nat.le_refl _) _
  have hc := valid_any lo p hi V
  obtain ⟨q, hq⟩ : ∃ q, validS lo p hi = q := ⟨_, rfl⟩
  rw [hq] at hc ⊢
  clear hq
  replace hc := hide hc; replace hB := hide hB; replace hV := hide hV
  go_enter Try.func63, Try.ntmps63
  go_wp2_with fail
  rw [← unhide hV]
  refine (unhide hc).mono ?_
  rintro e w1 ⟨rfl, hb⟩
  have hz := (unhide hB).trans (hb.mono (unhide hB).size)
  clear hc hB hb
  replace hz := hide hz
  cases q
  · go_wp2_with fail
    go_ret
    exact ⟨rfl, unhide hz⟩
  · go_wp2_with fail
    go_ret
    exact ⟨rfl, unhide hz⟩
set_option maxHeartbeats 1000000 in
theorem indexT_any (a : Option Addr) (n c : Nat) (l : List Tent) (w : World) (hl : Lst Enc.tent w (· < w.heap.size) a n l) (hn : n ≤ 1000000000000) :
    Calls Try.prog 79 #[.slice a n c, .func (.func 63) #[] #[]] w fun e w' => (∃ v : Int, e = .returned (.int .i64 v) ∧ decide (0 ≤ v) = !allV l) ∧ Below w.heap.size w w' := by
  have h1 := hl.1
  replace h1 := hide h1
  replace hl := hide hl
  go_enter Try.func79, Try.ntmps79
  go_wp2_with fail
  go_loopw [8] (fun v wr => ∃ k : Nat, k ≤ n ∧ v = .int .i64 (k : Int) ∧ allV (l.take k) = true ∧ Below w.heap.size w wr) (fun v _ => (n - intOf v).toNat)
  case atStart => exact ⟨0, by omega, rfl, rfl, Below.refl _ _⟩
  case round =>
    obtain ⟨k, hk, rfl, htk, hbw⟩ := hrel
    replace htk := hide htk
    by_cases hlt : k < n
    · obtain ⟨b', off, t, rfl, hb', hx, _, _, _, c0, c1, c2⟩ := lst_tent ((unhide hl).under hbw) hlt
      obtain ⟨lo, p, hi⟩ := t
      simp only at c0 c1 c2
      have hci := fitc_any lo p hi wr
      replace hx := hide hx; replace hbw := hide hbw
      cases hg : validS lo p hi with
      | false =>
        have hfin := allV_bad (unhide hx) hg
        rw [hg] at hci
        replace hfin := hide hfin; replace hci := hide hci; replace hg := hide hg
        go_wp2_with fail
        refine (unhide hci).mono ?_
        rintro e w1 ⟨rfl, hb⟩
        have hb1 := (unhide hbw).trans (hb.mono (unhide hbw).size)
        clear hci hb
        go_wp2_with fail
        go_ret
        exact ⟨⟨_, rfl, by rw [unhide hfin]; simp⟩, hb1⟩
      | true =>
        have hsc := allV_succ (unhide hx) hg (unhide htk)
        rw [hg] at hci
        replace hsc := hide hsc; replace hci := hide hci; replace hg := hide hg
        go_wp2_with fail
        refine (unhide hci).mono ?_
        rintro e w1 ⟨rfl, hb⟩
        have hb1 := (unhide hbw).trans (hb.mono (unhide hbw).size)
        clear hci hb
        go_wp2_with fail
        go_roundw
        case rel => exact ⟨k + 1, by omega, by go_num, unhide hsc, hb1⟩
        case measure => simp [intOf]; omega
    · have hfin : allV l = true := by
        have := unhide htk
        rwa [List.take_of_length_le (by rw [unhide h1]; omega)] at this
      replace hfin := hide hfin; replace hbw := hide hbw
      clear htk
      go_wp2_with fail
      go_ret
      exact ⟨⟨_, rfl, by rw [unhide hfin]; decide⟩, unhide hbw⟩
theorem containsT_any (a : Option Addr) (n c : Nat) (l : List Tent) (w : World) (hl : Lst Enc.tent w (· < w.heap.size) a n l) (hn : n ≤ 1000000000000) :
    Calls Try.prog 62 #[.slice a n c, .func (.func 63) #[] #[]] w fun e w' => e = .returned (.bool (!allV l)) ∧ Below w.heap.size w w' := by
  have hc := indexT_any a n c l w hl hn
  obtain ⟨q, hq⟩ : ∃ q, (!allV l) = q := ⟨_, rfl⟩
  rw [hq] at hc ⊢
  clear hq hl
  replace hc := hide hc
  go_enter Try.func62, Try.ntmps62
  go_wp2_with fail
  refine (unhide hc).mono ?_
  rintro e w1 ⟨⟨v, rfl, hv⟩, hb⟩
  clear hc
  replace hv := hide hv
  go_wp2_with fail
  go_ret
  exact ⟨ret_bool (unhide hv), hb⟩
/-- a region fits a number of axes -/
def fitsS (l : List Tent) (n : Int) : Bool := decide ((l.length : Int) = n) && allV l
theorem fits_any (a : Option Addr) (n c : Nat) (l : List Tent) (m : Int) (w : World) (hl : Lst Enc.tent w (· < w.heap.size) a n l) (hn : n ≤ 1000000000000) :
    Calls Try.prog 44 #[.slice a n c, .int .i64 m] w fun e w' => e = .returned (.bool (fitsS l m)) ∧ Below w.heap.size w w' := by
  have hc := containsT_any a n c l w hl hn
  have h1 := hl.1
  unfold fitsS
  rw [h1]
  clear hl h1
  replace hc := hide hc
  by_cases hm : (n : Int) = m
  · subst hm
    rw [decide_eq_true rfl, Bool.true_and]
    cases hq : allV l with
    | false =>
      rw [hq] at hc
      replace hc := hide hc; replace hq := hide hq
      go_enter Try.func44, Try.ntmps44
      go_wp2_with fail
      refine (unhide (unhide hc)).mono ?_
      rintro e w1 ⟨rfl, hb⟩
      clear hc
      go_wp2_with fail
      go_ret
      exact ⟨rfl, hb⟩
    | true =>
      rw [hq] at hc
      replace hc := hide hc; replace hq := hide hq
      go_enter Try.func44, Try.ntmps44
      go_wp2_with fail
      refine (unhide (unhide hc)).mono ?_
      rintro e w1 ⟨rfl, hb⟩
      clear hc
      go_wp2_with fail
      go_ret
      exact ⟨rfl, hb⟩
  · have h2 : ((n : Int) == m) = false := beq_eq_false_iff_ne.2 hm
    rw [decide_eq_false hm, Bool.false_and]
    clear hc hm
    go_enter Try.func44, Try.ntmps44
    go_wp2_with fail
    go_ret
    exact ⟨rfl, Below.refl _ _⟩
set_option maxHeartbeats 1000000 in
theorem rfits_any (a : Option Addr) (n c : Nat) (l : List Tent) (m : Int) (w : World) (hl : Lst Enc.tent w (· < w.heap.size) a n l) (hn : n ≤ 1000000000000) :
    Calls Try.prog 49 #[.slice a n c, .int .i64 m] w fun e w' => e = .returned (.bool (fitsS l m)) ∧ Below w.heap.size w w' := by
  have h1 := hl.1
  replace h1 := hide h1
  replace hl := hide hl
  go_enter Try.func49, Try.ntmps49
  go_wp2_with fail
  go_loopw [5] (fun v wr => ∃ k : Nat, k ≤ n ∧ v = .int .i64 (k : Int) ∧ allV (l.take k) = true ∧ Below w.heap.size w wr) (fun v _ => (n - intOf v).toNat)
  case atStart => exact ⟨0, by omega, rfl, rfl, Below.refl _ _⟩
  case round =>
    obtain ⟨k, hk, rfl, htk, hbw⟩ := hrel
    replace htk := hide htk
    by_cases hlt : k < n
    · obtain ⟨b', off, t, rfl, hb', hx, _, _, _, c0, c1, c2⟩ := lst_tent ((unhide hl).under hbw) hlt
      obtain ⟨lo, p, hi⟩ := t
      simp only at c0 c1 c2
      have hci := rvalid_any lo p hi wr
      replace hx := hide hx; replace hbw := hide hbw
      cases hg : validS lo p hi with
      | false =>
        have hfin : fitsS l m = false := by unfold fitsS; rw [allV_bad (unhide hx) hg, Bool.and_false]
        rw [hg] at hci
        replace hfin := hide hfin; replace hci := hide hci; replace hg := hide hg
        go_wp2_with fail
        refine (unhide hci).mono ?_
        rintro e w1 ⟨rfl, hb⟩
        have hb1 := (unhide hbw).trans (hb.mono (unhide hbw).size)
        clear hci hb
        go_wp2_with fail
        go_ret
        exact ⟨ret_bool (unhide hfin).symm, hb1⟩
      | true =>
        have hsc := allV_succ (unhide hx) hg (unhide htk)
        rw [hg] at hci
        replace hsc := hide hsc; replace hci := hide hci; replace hg := hide hg
        go_wp2_with fail
        refine (unhide hci).mono ?_
        rintro e w1 ⟨rfl, hb⟩
        have hb1 := (unhide hbw).trans (hb.mono (unhide hbw).size)
        clear hci hb
        go_wp2_with fail
        go_roundw
        case rel => exact ⟨k + 1, by omega, by go_num, unhide hsc, hb1⟩
        case measure => simp [intOf]; omega
    · have hfin : allV l = true := by
        have := unhide htk
        rwa [List.take_of_length_le (by rw [unhide h1]; omega)] at this
      have hfs : ((n : Int) == m) = fitsS l m := by
        unfold fitsS
        rw [hfin, Bool.and_true, unhide h1]
        rfl
      replace hfs := hide hfs; replace hfin := hide hfin; replace hbw := hide hbw
      clear htk
      go_wp2_with fail
      go_ret
      exact ⟨ret_bool (unhide hfs), unhide hbw⟩
end Go.Proofs.Ytbodidhggdggmaa
-- @@XAx3
/- Tents: the value of one. -/
namespace Go.Proofs.Ytbodidhggdggmaa
open Go.RowKit
set_option maxHeartbeats 2000000 in
theorem rvalue_any (lo p hi v : Int) (w : World) (h1 : -64 ≤ lo) (h2 : lo ≤ p) (h3 : p ≤ hi) (h4 : hi ≤ 64) (h5 : -64 ≤ v ∧ v ≤ 64) :
    Calls Try.prog 55 #[.agg #[.int .i64 lo, .int .i64 p, .int .i64 hi], .int .i64 v] w fun e w' => e = .returned (.agg #[.int .i64 (valS lo p hi v).1, .int .i64 (valS lo p hi v).2]) ∧ Below w.heap.size w w' := by
  have s1 : IntKind.i64.wrap (v - lo) = v - lo := IntWalk.i64_in _ (by omega)
  have s2 : IntKind.i64.wrap (p - lo) = p - lo := IntWalk.i64_in _ (by omega)
  have s3 : IntKind.i64.wrap (hi - v) = hi - v := IntWalk.i64_in _ (by omega)
  have s4 : IntKind.i64.wrap (hi - p) = hi - p := IntWalk.i64_in _ (by omega)
  have hB : ∀ o1 o2, Below w.heap.size w ((w.alloc o1).alloc o2) := fun o1 o2 => ((Below.refl _ _).alloc (Nat.le_refl _) _).alloc (by rw [World.size_alloc]; omega) _
  obtain ⟨N, hN⟩ : ∃ N, (valS lo p hi v).1 = N := ⟨_, rfl⟩
  obtain ⟨D, hD⟩ : ∃ D, (valS lo p hi v).2 = D := ⟨_, rfl⟩
  rw [hN, hD]
  unfold valS at hN hD
  go_enter Try.func55, Try.ntmps55
  by_cases c1 : p = 0
  · rw [if_pos (.inl c1)] at hN hD
    subst hN hD
    have t1 : (p == 0) = true := beq_iff_eq.2 c1
    clear c1
    go_wp2_with fail
    refine bodyPost_ret (v := .agg #[.int .i64 1, .int .i64 1]) (by simp [results, Try.results55, go_sem]) rfl ⟨rfl, hB _ _⟩
  · have t1 : (p == 0) = false := beq_eq_false_iff_ne.2 c1
    by_cases c2 : v = p
    · rw [if_pos (.inr c2)] at hN hD
      subst hN hD
      have t2 : (v == p) = true := beq_iff_eq.2 c2
      clear c1 c2
      go_wp2_with fail
      refine bodyPost_ret (v := .agg #[.int .i64 1, .int .i64 1]) (by simp [results, Try.results55, go_sem]) rfl ⟨rfl, hB _ _⟩
    · have t2 : (v == p) = false := beq_eq_false_iff_ne.2 c2
      rw [if_neg (by omega)] at hN hD
      by_cases c3 : v ≤ lo
      · rw [if_pos (.inl c3)] at hN hD
        subst hN hD
        clear c1 c2
        go_wp2_with fail
        refine bodyPost_ret (v := .agg #[.int .i64 0, .int .i64 1]) (by simp [results, Try.results55, go_sem]) rfl ⟨rfl, hB _ _⟩
      · by_cases c4 : hi ≤ v
        · rw [if_pos (.inr c4)] at hN hD
          subst hN hD
          clear c1 c2
          go_wp2_with fail
          refine bodyPost_ret (v := .agg #[.int .i64 0, .int .i64 1]) (by simp [results, Try.results55, go_sem]) rfl ⟨rfl, hB _ _⟩
        · rw [if_neg (by omega)] at hN hD
          by_cases c5 : v < p
          · rw [if_pos c5] at hN hD
            subst hN hD
            clear c1 c2
            go_wp2_with fail
            refine bodyPost_ret (v := .agg #[.int .i64 (v - lo), .int .i64 (p - lo)]) (by simp [results, Try.results55, go_sem]) rfl ⟨rfl, hB _ _⟩
          · rw [if_neg c5] at hN hD
            subst hN hD
            clear c1 c2
            go_wp2_with fail
            refine bodyPost_ret (v := .agg #[.int .i64 (hi - v), .int .i64 (hi - p)]) (by simp [results, Try.results55, go_sem]) rfl ⟨rfl, hB _ _⟩
set_option maxHeartbeats 2000000 in
theorem value_any (lo p hi v : Int) (w : World) (h1 : -64 ≤ lo) (h2 : lo ≤ p) (h3 : p ≤ hi) (h4 : hi ≤ 64) (h5 : -64 ≤ v ∧ v ≤ 64) :
    Calls Try.prog 82 #[.agg #[.int .i64 lo, .int .i64 p, .int .i64 hi], .int .i64 v] w fun e w' => e = .returned (.agg #[.int .i64 (valS lo p hi v).1, .int .i64 (valS lo p hi v).2]) ∧ Below w.heap.size w w' := by
  have s1 : IntKind.i64.wrap (v - lo) = v - lo := IntWalk.i64_in _ (by omega)
  have s2 : IntKind.i64.wrap (p - lo) = p - lo := IntWalk.i64_in _ (by omega)
  have s3 : IntKind.i64.wrap (hi - v) = hi - v := IntWalk.i64_in _ (by omega)
  have s4 : IntKind.i64.wrap (hi - p) = hi - p := IntWalk.i64_in _ (by omega)
  have hB : ∀ o1 o2 o3, Below w.heap.size w (((w.alloc o1).alloc o2).alloc o3) := fun o1 o2 o3 => (((Below.refl _ _).alloc (Nat.le_refl _) _).alloc (by rw [World.size_alloc]; omega) _).alloc (by rw [World.size_alloc, World.size_alloc]; omega) _
  obtain ⟨N, hN⟩ : ∃ N, (valS lo p hi v).1 = N := ⟨_, rfl⟩
  obtain ⟨D, hD⟩ : ∃ D, (valS lo p hi v).2 = D := ⟨_, rfl⟩
  rw [hN, hD]
  unfold valS at hN hD
  go_enter Try.func82, Try.ntmps82
  by_cases c1 : p = 0
  · rw [if_pos (.inl c1)] at hN hD
    subst hN hD
    have t1 : (p == 0) = true := beq_iff_eq.2 c1
    clear c1
    go_wp2_with fail
    refine bodyPost_ret (v := .agg #[.int .i64 1, .int .i64 1]) (by simp [results, Try.results82, go_sem]) rfl ⟨rfl, hB _ _ _⟩
  · have t1 : (p == 0) = false := beq_eq_false_iff_ne.2 c1
    by_cases c2 : v = p
    · rw [if_pos (.inr c2)] at hN hD
      subst hN hD
      have t2 : (v == p) = true := beq_iff_eq.2 c2
      clear c1 c2
      go_wp2_with fail
      refine bodyPost_ret (v := .agg #[.int .i64 1, .int .i64 1]) (by simp [results, Try.results82, go_sem]) rfl ⟨rfl, hB _ _ _⟩
    · have t2 : (v == p) = false := beq_eq_false_iff_ne.2 c2
      rw [if_neg (by omega)] at hN hD
      by_cases c3 : v ≤ lo
      · rw [if_pos (.inl c3)] at hN hD
        subst hN hD
        clear c1 c2
        go_wp2_with fail
        refine bodyPost_ret (v := .agg #[.int .i64 0, .int .i64 1]) (by simp [results, Try.results82, go_sem]) rfl ⟨rfl, hB _ _ _⟩
      · by_cases c4 : hi ≤ v
        · rw [if_pos (.inr c4)] at hN hD
          subst hN hD
          clear c1 c2
          go_wp2_with fail
          refine bodyPost_ret (v := .agg #[.int .i64 0, .int .i64 1]) (by simp [results, Try.results82, go_sem]) rfl ⟨rfl, hB _ _ _⟩
        · rw [if_neg (by omega)] at hN hD
          by_cases c5 : v < p
          · rw [if_pos c5] at hN hD
            subst hN hD
            clear c1 c2
            go_wp2_with fail
            refine bodyPost_ret (v := .agg #[.int .i64 (v - lo), .int .i64 (p - lo)]) (by simp [results, Try.results82, go_sem]) rfl ⟨rfl, hB _ _ _⟩
          · rw [if_neg c5] at hN hD
            subst hN hD
            clear c1 c2
            go_wp2_with fail
            refine bodyPost_ret (v := .agg #[.int .i64 (hi - v), .int .i64 (hi - p)]) (by simp [results, Try.results82, go_sem]) rfl ⟨rfl, hB _ _ _⟩
end Go.Proofs.Ytbodidhggdggmaa
-- @@XAx4
/- Tags; the two closures of a side of an axis. -/
namespace Go.Proofs.Ytbodidhggdggmaa
open Go.RowKit
theorem decode_low {s : ByteArray} {pos : Nat} (h : pos < s.size) (hb : (s[pos]'h).toNat < 128) : Utf8.decode s pos = ((s[pos]'h).toNat, 1) := decode_ascii s pos h hb
theorem decode_high {s : ByteArray} {pos : Nat} (h : pos < s.size) (hb : ¬ (s[pos]'h).toNat < 128) : 128 ≤ (Utf8.decode s pos).1 := by
  have hg : s.get! (pos + 0) = s[pos]'h := by
    rw [Nat.add_zero]
    simp [ByteArray.get!, getElem!_pos, h]
    rfl
  unfold Utf8.decode
  simp only [hg]
  have := UInt8.toNat_lt (s[pos]'h)
  have hre : Utf8.runeError = 65533 := rfl
  rw [if_neg hb]
  repeat' split
  all_goals (try simp only [ge_iff_le, Bool.and_eq_true, decide_eq_true_eq] at *; omega)
/-- a letter of a tag -/
def lowB (s : ByteArray) (k : Nat) : Bool := decide (97 ≤ (s.get! k).toNat ∧ (s.get! k).toNat ≤ 122)
def lowAll (s : ByteArray) : Bool := (List.range s.size).all (lowB s)
def tagS (s : ByteArray) : Bool := decide (1 ≤ s.size ∧ s.size ≤ 4) && lowAll s
theorem get_at {s : ByteArray} {k : Nat} (h : k < s.size) : s.get! k = s[k]'h := by
  simp [ByteArray.get!, getElem!_pos, h]
  rfl
theorem low_bad {s : ByteArray} {k : Nat} (h : k < s.size) (hb : lowB s k = false) : lowAll s = false := by
  unfold lowAll
  rw [List.all_eq_false]
  exact ⟨k, List.mem_range.2 h, by rw [hb]; decide⟩
theorem low_all {s : ByteArray} (h : ∀ k, k < s.size → lowB s k = true) : lowAll s = true := by
  unfold lowAll
  rw [List.all_eq_true]
  exact fun k hk => h k (List.mem_range.1 hk)
end Go.Proofs.Ytbodidhggdggmaa
-- @@XAx5
/- Axes: the reference's tag; a side's closures; whether a tag stands twice. -/
namespace Go.Proofs.Ytbodidhggdggmaa
open Go.RowKit
theorem lowB_at {s : ByteArray} {k : Nat} (h : k < s.size) : lowB s k = decide (97 ≤ (s[k]'h).toNat ∧ (s[k]'h).toNat ≤ 122) := by unfold lowB; rw [get_at h]
theorem roundI_near {a b : Int} (hb : 1 ≤ b) (M : Int) (h : -M ≤ a ∧ a ≤ M) : -M ≤ roundI a b ∧ roundI a b ≤ M + 1 := by
  have h1 := Int.mul_ediv_add_emod a b
  have h2 := Int.emod_nonneg a (b := b) (by omega)
  have h3 := Int.emod_lt_of_pos a (b := b) (by omega)
  have hl : -M ≤ a / b := by
    rw [Int.le_ediv_iff_mul_le (by omega)]
    have h5 : (M + a) * 1 ≤ (M + a) * b := Int.mul_le_mul_of_nonneg_left hb (by omega)
    by_cases hM : 0 ≤ M
    · have h4 : M * 1 ≤ M * b := Int.mul_le_mul_of_nonneg_left hb hM
      rw [Int.neg_mul]
      omega
    · omega
  have hu : a / b ≤ M := by
    refine Int.le_of_lt_add_one (Int.ediv_lt_of_lt_mul (by omega) ?_)
    by_cases hM : 0 ≤ M
    · have h4 : (M + 1) * 1 ≤ (M + 1) * b := Int.mul_le_mul_of_nonneg_left hb (by omega)
      omega
    · omega
  unfold roundI
  split <;> omega
end Go.Proofs.Ytbodidhggdggmaa
-- @@XAx6
/- Axes: Check, the program's and the reference's. -/
namespace Go.Proofs.Ytbodidhggdggmaa
open Go.RowKit
/-- an axis: Tag, Low, Usual, High -/
abbrev Axis := ByteArray × (Int × (Int × Int))
abbrev Enc.axis : Enc Axis := Enc.pair Enc.str (Enc.pair Enc.int (Enc.pair Enc.int Enc.int))
theorem lst_axis {w : World} {S : Nat → Prop} {a : Option Addr} {len : Nat} {l : List Axis} (h : Lst Enc.axis w S a len l) {k : Nat} (hk : k < len) :
    ∃ b off t, a = some ⟨b, off, none⟩ ∧ S b ∧ l[k]? = some t ∧ t.1.size ≤ maxLen ∧ I64 t.2.1 ∧ I64 t.2.2.1 ∧ I64 t.2.2.2 ∧ w.cell? ⟨b, off + k * 4, none⟩ = some (.string t.1) ∧ w.cell? ⟨b, off + k * 4 + 1, none⟩ = some (.int .i64 t.2.1) ∧ w.cell? ⟨b, off + k * 4 + 2, none⟩ = some (.int .i64 t.2.2.1) ∧ w.cell? ⟨b, off + k * 4 + 3, none⟩ = some (.int .i64 t.2.2.2) := by
  obtain ⟨h1, h2⟩ := h
  obtain ⟨b, off, rfl, hb, hc⟩ := h2 (by omega)
  have hx : l[k]? = some (l[k]'(by omega)) := List.getElem?_eq_getElem _
  obtain ⟨us, ⟨u0, v0, rfl, ⟨rfl, i0⟩, u1, v1, rfl, ⟨rfl, i1⟩, u2, v2, rfl, ⟨rfl, i2⟩, rfl, i3⟩, hu⟩ := hc k _ hx
  exact ⟨b, off, _, rfl, hb, hx, i0, i1, i2, i3, hu 0 _ rfl, hu 1 _ rfl, hu 2 _ rfl, hu 3 _ rfl⟩
def twice (l : List Axis) (s : ByteArray) : Bool := l.any fun b => decide (s = b.1)
theorem twice_hit {l : List Axis} {k : Nat} {t : Axis} {s : ByteArray} (hx : l[k]? = some t) (h : s = t.1) : twice l s = true := by
  unfold twice
  rw [List.any_eq_true]
  exact ⟨t, List.mem_of_getElem? hx, decide_eq_true h⟩
theorem twice_succ {l : List Axis} {k : Nat} {t : Axis} {s : ByteArray} (hx : l[k]? = some t) (h : ¬ s = t.1) (ht : twice (l.take k) s = false) : twice (l.take (k + 1)) s = false := by
  unfold twice at *
  rw [List.take_add_one, hx, List.any_append, ht]
  simpa using h
def near (n : Int) : Bool := decide (-1000 ≤ n ∧ n ≤ 1000)
/-- what is wrong with an axis behind others -/
def axErr (l : List Axis) (a : Axis) : Int :=
  if tagS a.1 = false then 40 else if twice l a.1 = true then 6 else if near a.2.1 = false ∨ near a.2.2.1 = false ∨ near a.2.2.2 = false then 3 else if a.2.2.1 < a.2.1 ∨ a.2.2.2 < a.2.2.1 then 8 else 0
def errAt (l : List Axis) (k : Nat) : Int := match l[k]? with
  | some a => axErr (l.take k) a
  | none => 0
def errFrom (l : List Axis) : Nat → Nat → Int
  | 0, _ => 0
  | f + 1, k => if errAt l k = 0 then errFrom l f (k + 1) else errAt l k
def axCheck (l : List Axis) : Int := if 3 < l.length then 2 else errFrom l l.length 0
theorem errFrom_skip (l : List Axis) : ∀ (f k j : Nat), (∀ i, k ≤ i → i < k + j → errAt l i = 0) → errFrom l (f + j) k = errFrom l f (k + j) := by
  intro f k j
  induction j generalizing k with
  | zero => intro _; rfl
  | succ j ih =>
    intro h
    rw [show f + (j + 1) = (f + j) + 1 by omega, errFrom, if_pos (h k (Nat.le_refl _) (by omega)), ih (k + 1) (fun i h1 h2 => h i (by omega) (by omega)), show k + 1 + j = k + (j + 1) by omega]
theorem axCheck_many {l : List Axis} (h : 3 < l.length) : axCheck l = 2 := if_pos h
theorem axCheck_bad {l : List Axis} {k : Nat} {a : Axis} {c : Int} (h : ¬ 3 < l.length) (hx : l[k]? = some a) (h0 : ∀ i, i < k → errAt l i = 0) (hc : axErr (l.take k) a = c) (hc0 : c ≠ 0) : axCheck l = c := by
  have hk := (List.getElem?_eq_some_iff.1 hx).1
  have he : errAt l k = c := by unfold errAt; rw [hx]; exact hc
  unfold axCheck
  rw [if_neg h, show l.length = (l.length - k - 1 + 1) + k by omega, errFrom_skip l _ 0 k (fun i _ h2 => h0 i (by omega)), Nat.zero_add, errFrom, he, if_neg hc0]
theorem axCheck_ok {l : List Axis} (h : ¬ 3 < l.length) (h0 : ∀ i, i < l.length → errAt l i = 0) : axCheck l = 0 := by
  unfold axCheck
  rw [if_neg h, show errFrom l l.length 0 = errFrom l (0 + l.length) 0 by rw [Nat.zero_add], errFrom_skip l 0 0 l.length (fun i _ h2 => h0 i (by omega))]
  rfl
theorem err_succ {l : List Axis} {k : Nat} {a : Axis} (hx : l[k]? = some a) (h0 : ∀ i, i < k → errAt l i = 0) (hc : axErr (l.take k) a = 0) : ∀ i, i < k + 1 → errAt l i = 0 := fun i hi => by
  by_cases h : i < k
  · exact h0 i h
  · obtain rfl : i = k := by omega
    unfold errAt
    rw [hx]
    exact hc
end Go.Proofs.Ytbodidhggdggmaa
-- @@XAx7
/- Axes: Check, walked. -/
namespace Go.Proofs.Ytbodidhggdggmaa
open Go.RowKit
theorem axErr_40 {l : List Axis} {a : Axis} (h : tagS a.1 = false) : axErr l a = 40 := if_pos h
theorem axErr_6 {l : List Axis} {a : Axis} (h : tagS a.1 = true) (h2 : twice l a.1 = true) : axErr l a = 6 := by unfold axErr; rw [if_neg (by rw [h]; decide), if_pos h2]
theorem axErr_3 {l : List Axis} {a : Axis} (h : tagS a.1 = true) (h2 : twice l a.1 = false) (h3 : near a.2.1 = false ∨ near a.2.2.1 = false ∨ near a.2.2.2 = false) : axErr l a = 3 := by unfold axErr; rw [if_neg (by rw [h]; decide), if_neg (by rw [h2]; decide), if_pos h3]
theorem axErr_8 {l : List Axis} {a : Axis} (h : tagS a.1 = true) (h2 : twice l a.1 = false) (h3 : near a.2.1 = true) (h4 : near a.2.2.1 = true) (h5 : near a.2.2.2 = true) (h6 : a.2.2.1 < a.2.1 ∨ a.2.2.2 < a.2.2.1) : axErr l a = 8 := by unfold axErr; rw [if_neg (by rw [h]; decide), if_neg (by rw [h2]; decide), if_neg (by rw [h3, h4, h5]; decide), if_pos h6]
theorem axErr_0 {l : List Axis} {a : Axis} (h : tagS a.1 = true) (h2 : twice l a.1 = false) (h3 : near a.2.1 = true) (h4 : near a.2.2.1 = true) (h5 : near a.2.2.2 = true) (h6 : ¬ (a.2.2.1 < a.2.1 ∨ a.2.2.2 < a.2.2.1)) : axErr l a = 0 := by unfold axErr; rw [if_neg (by rw [h]; decide), if_neg (by rw [h2]; decide), if_neg (by rw [h3, h4, h5]; decide), if_neg h6]
end Go.Proofs.Ytbodidhggdggmaa
-- @@XAx8
/- Axes: positions; the reference's normal and Normal; User, both. -/
namespace Go.Proofs.Ytbodidhggdggmaa
open Go.RowKit
/-- a valid axis -/
def AxV (a : Axis) : Prop := tagS a.1 = true ∧ -1000 ≤ a.2.1 ∧ a.2.1 ≤ a.2.2.1 ∧ a.2.2.1 ≤ a.2.2.2 ∧ a.2.2.2 ≤ 1000
theorem axErr_v {l : List Axis} {a : Axis} (h : axErr l a = 0) : AxV a := by
  unfold axErr at h
  split at h
  · cases h
  · rename_i h1
    split at h
    · cases h
    · split at h
      · cases h
      · rename_i h3
        split at h
        · cases h
        · rename_i h4
          have h1' : tagS a.1 = true := by cases e : tagS a.1 <;> simp_all
          have n1 : near a.2.1 = true := by cases e : near a.2.1 <;> simp_all
          have n3 : near a.2.2.2 = true := by cases e : near a.2.2.2 <;> simp_all
          have g1 := of_decide_eq_true n1
          have g3 := of_decide_eq_true n3
          exact ⟨h1', g1.1, by omega, by omega, g3.2⟩
theorem errFrom_zero {l : List Axis} : ∀ (f k : Nat), errFrom l f k = 0 → ∀ i, k ≤ i → i < k + f → errAt l i = 0 := by
  intro f
  induction f with
  | zero => intro k _ i h1 h2; omega
  | succ f ih =>
    intro k h i h1 h2
    rw [errFrom] at h
    by_cases he : errAt l k = 0
    · rw [if_pos he] at h
      by_cases hi : i = k
      · rw [hi]; exact he
      · exact ih (k + 1) h i (by omega) (by omega)
    · rw [if_neg he] at h
      exact absurd h he
theorem axCheck_v {l : List Axis} (h : axCheck l = 0) : l.length ≤ 3 ∧ ∀ (k : Nat) a, l[k]? = some a → AxV a := by
  unfold axCheck at h
  split at h
  · cases h
  · refine ⟨by omega, fun k a hk => ?_⟩
    have hlt := (List.getElem?_eq_some_iff.1 hk).1
    have := errFrom_zero _ _ h k (by omega) (by omega)
    unfold errAt at this
    rw [hk] at this
    exact axErr_v this
def clampI (lo hi u : Int) : Int := if lo < (if hi < u then hi else u) then (if hi < u then hi else u) else lo
theorem clampI_rng {lo hi u : Int} (h : lo ≤ hi) : lo ≤ clampI lo hi u ∧ clampI lo hi u ≤ hi := by unfold clampI; split <;> split <;> omega
/-- the normalized position on a valid axis -/
def normU (lo us hi u : Int) : Int := if u < us then -(roundI (64 * (us - u)) (us - lo)) else if us < u then roundI (64 * (u - us)) (hi - us) else 0
def normA (a : Axis) (u : Int) : Int := normU a.2.1 a.2.2.1 a.2.2.2 (clampI a.2.1 a.2.2.2 u)
theorem normA_i64 {a : Axis} (h : AxV a) (u : Int) : -200000 ≤ normA a u ∧ normA a u ≤ 200000 := by
  obtain ⟨_, h1, h2, h3, h4⟩ := h
  obtain ⟨c1, c2⟩ := clampI_rng (u := u) (show a.2.1 ≤ a.2.2.2 by omega)
  unfold normA normU
  generalize clampI a.2.1 a.2.2.2 u = q at *
  split
  · have := roundI_near (a := 64 * (a.2.2.1 - q)) (b := a.2.2.1 - a.2.1) (by omega) 128000 (by omega)
    omega
  · split
    · have := roundI_near (a := 64 * (q - a.2.2.1)) (b := a.2.2.2 - a.2.2.1) (by omega) 128000 (by omega)
      omega
    · omega
end Go.Proofs.Ytbodidhggdggmaa
-- @@XAx9
/- Axes: the reference's Normal. -/
namespace Go.Proofs.Ytbodidhggdggmaa
open Go.RowKit
def normL (l : List Axis) (u : List Int) : List Int := List.zipWith normA l u
def normS (l : List Axis) (u : List Int) : List Int × Int := if axCheck l = 0 then (if u.length = l.length then (normL l u, 0) else ([], 1)) else ([], axCheck l)
theorem normL_len {l : List Axis} {u : List Int} (h : u.length = l.length) : (normL l u).length = l.length := by unfold normL; rw [List.length_zipWith, h, Nat.min_self]
theorem normL_snoc {l : List Axis} {u : List Int} {k : Nat} {a : Axis} {y : Int} (h1 : l[k]? = some a) (h2 : u[k]? = some y) : (normL l u).take k ++ [normA a y] = (normL l u).take (k + 1) := by
  refine take_snoc ?_
  unfold normL
  rw [List.getElem?_zipWith, h1, h2]
theorem normL_i64 {l : List Axis} {u : List Int} (h : ∀ (k : Nat) a, l[k]? = some a → AxV a) : AllI (normL l u) := fun y hy => by
  obtain ⟨k, hk, rfl⟩ := List.mem_iff_getElem.1 hy
  have hk' : k < l.length ∧ k < u.length := by unfold normL at hk; rw [List.length_zipWith] at hk; omega
  have he : (normL l u)[k]? = some (normA (l[k]'hk'.1) (u[k]'hk'.2)) := by unfold normL; rw [List.getElem?_zipWith, List.getElem?_eq_getElem hk'.1, List.getElem?_eq_getElem hk'.2]
  have h2 := Option.some.inj ((List.getElem?_eq_getElem hk).symm.trans he)
  rw [h2]
  have := normA_i64 (h k _ (List.getElem?_eq_getElem hk'.1)) (u[k]'hk'.2)
  exact ⟨by omega, by omega⟩
theorem normS_i64 {l : List Axis} {u : List Int} : AllI (normS l u).1 := by
  unfold normS
  split
  · split
    · exact normL_i64 (axCheck_v ‹_›).2
    · intro y hy; cases hy
  · intro y hy; cases hy
theorem normS_err {l : List Axis} {u : List Int} (h : axCheck l ≠ 0) : normS l u = ([], axCheck l) := if_neg h
theorem normS_len {l : List Axis} {u : List Int} (h : axCheck l = 0) (h2 : u.length ≠ l.length) : normS l u = ([], 1) := by unfold normS; rw [if_pos h, if_neg h2]
theorem normS_ok {l : List Axis} {u : List Int} (h : axCheck l = 0) (h2 : u.length = l.length) : normS l u = (normL l u, 0) := by unfold normS; rw [if_pos h, if_pos h2]
end Go.Proofs.Ytbodidhggdggmaa
-- @@XAx10
/- Axes: the program's Normal. -/
namespace Go.Proofs.Ytbodidhggdggmaa
open Go.RowKit
theorem set_low {cs : Array Value} {k : Nat} {N : List Int} {r : Int} (hk : k < cs.size) (h : ∀ j, j < k → cs[j]? = (N[j]?).map (Value.int .i64)) (hr : N[k]? = some r) : ∀ j, j < k + 1 → (cs.setIfInBounds k (.int .i64 r))[j]? = (N[j]?).map (Value.int .i64) := fun j hj => by
  rw [Array.getElem?_setIfInBounds]
  by_cases h1 : k = j
  · subst h1
    rw [if_pos rfl, if_pos hk, hr]
    rfl
  · rw [if_neg h1]
    exact h j (by omega)
theorem set_high {cs : Array Value} {k n : Nat} {r : Value} (h : ∀ j, k ≤ j → j < n → cs[j]? = some (.int .i64 0)) : ∀ j, k + 1 ≤ j → j < n → (cs.setIfInBounds k r)[j]? = some (.int .i64 0) := fun j h1 h2 => by
  rw [Array.getElem?_setIfInBounds, if_neg (by omega)]
  exact h j (by omega) h2
theorem low_zero {cs : Array Value} {k n : Nat} {N : List Int} (hk : k < n) (h : ∀ j, j < k → cs[j]? = (N[j]?).map (Value.int .i64)) (hr : N[k]? = some 0) (hh : ∀ j, k ≤ j → j < n → cs[j]? = some (.int .i64 0)) : ∀ j, j < k + 1 → cs[j]? = (N[j]?).map (Value.int .i64) := fun j hj => by
  by_cases h1 : j = k
  · subst h1
    rw [hr, hh j (Nat.le_refl _) hk]
    rfl
  · exact h j (by omega)
theorem made_at (n j : Nat) (h : j < n) : (madeCells #[Value.int .i64 0] n)[j]? = some (.int .i64 0) := by
  rw [← Array.getElem?_toList, toList_madeCells_one, List.getElem?_replicate, if_pos h]
end Go.Proofs.Ytbodidhggdggmaa
-- @@XAx11
/- Axes: User, both. -/
namespace Go.Proofs.Ytbodidhggdggmaa
open Go.RowKit
theorem lst_flat {α : Type} {E : Enc α} {w : World} {S : Nat → Prop} {b T : Nat} {cs : List Value} {l : List α} (h : w.heap[b]? = some (.cells cs.toArray T (0, 0))) (hf : Flat E w S cs l) (hS : S b) : Lst E w S (some ⟨b, 0, none⟩) l.length l := by
  refine ⟨rfl, fun _ => ⟨b, 0, rfl, hS, fun i x hx => ?_⟩⟩
  obtain ⟨us, hr, hu⟩ := hf.at_ i x hx
  refine ⟨us, hr, fun j u hj => ?_⟩
  rw [cell_of_row _ _ _ _ _ _ h, Nat.zero_add]
  simpa using hu j u hj
def userM (lo us hi m : Int) : Int := if m < 0 then us - roundI (-m * (us - lo)) 64 else us + roundI (m * (hi - us)) 64
def userS (a : Axis) (n : Int) : Int := if axCheck [a] = 0 then userM a.2.1 a.2.2.1 a.2.2.2 (limS n) else 0
theorem mul_bd {x y A B : Int} (h1 : 0 ≤ x) (h2 : x ≤ A) (h3 : 0 ≤ y) (h4 : y ≤ B) : 0 ≤ x * y ∧ x * y ≤ A * B :=
  ⟨Int.mul_nonneg h1 h3, Int.le_trans (Int.mul_le_mul_of_nonneg_right h2 h3) (Int.mul_le_mul_of_nonneg_left h4 (by omega))⟩
end Go.Proofs.Ytbodidhggdggmaa
-- @@XAx12
/- Tents: Scalar, the program's. -/
namespace Go.Proofs.Ytbodidhggdggmaa
open Go.RowKit
/-- the worlds of a region in which one store may have run; the operations bs run ahead of it -/
structure CS (W : World) (s : Nat) (bs : List Nat) (put : World → World) (LL : Nat → Bool) (vs : Nat → Value) (w' : World) : Prop where
  un : ∀ j, LL j = false → vs j = undef
  st : ∃ wz, Below W.heap.size W wz ∧ w' = if LL s = true then put wz else wz
  b1 : LL s = true → ∀ j ∈ bs, LL j = true
section
variable {W w w2 : World} {s : Nat} {bs : List Nat} {put : World → World} {LL : Nat → Bool} {vs : Nat → Value}
theorem CS.start (W : World) (s : Nat) (bs : List Nat) (put : World → World) : CS W s bs put (fun _ => false) (fun _ => undef) { W with drawn := W.drawn + 1 } :=
  ⟨fun _ _ => rfl, ⟨_, (Below.refl _ _).drew, rfl⟩, fun h => Bool.noConfusion h⟩
theorem CS.undo (h : CS W s bs put LL vs w) (i : Nat) (v : Value) : ∀ j, (LL j || j == i) = false → (if j = i then v else vs j) = undef := fun j hj => by
  rw [Bool.or_eq_false_iff] at hj
  rw [if_neg (by simpa using hj.2)]
  exact h.un j hj.1
theorem CS.keep (h : CS W s bs put LL vs w) (i : Nat) (v : Value) (hi : s ≠ i) : CS W s bs put (fun j => LL j || j == i) (fun j => if j = i then v else vs j) w := by
  have hs : (LL s || s == i) = LL s := by rw [beq_eq_false_iff_ne.2 hi, Bool.or_false]
  refine ⟨h.undo i v, ?_, fun e j hj => ?_⟩
  · rw [hs]
    exact h.st
  · rw [hs] at e
    rw [h.b1 e j hj, Bool.true_or]
theorem CS.calm (h : CS W s bs put LL vs w) (hs : LL s = false) : Below W.heap.size W w := by
  obtain ⟨wz, h1, h2⟩ := h.st
  rw [hs] at h2
  simp only [Bool.false_eq_true, if_false] at h2
  rw [h2]
  exact h1
theorem CS.early (h : CS W s bs put LL vs w) {j : Nat} (hj : LL j = false) (hm : j ∈ bs) : LL s = false ∧ Below W.heap.size W w := by
  have hs : LL s = false := by
    cases e : LL s with
    | false => rfl
    | true => have := h.b1 e j hm; rw [hj] at this; cases this
  exact ⟨hs, h.calm hs⟩
theorem CS.call (h : CS W s bs put LL vs w) (i : Nat) (v : Value) (hi : LL i = false) (hm : i ∈ bs) (hne : s ≠ i) (hb : Below w.heap.size w w2) : CS W s bs put (fun j => LL j || j == i) (fun j => if j = i then v else vs j) w2 := by
  obtain ⟨hs, h1⟩ := h.early hi hm
  have hs2 : (LL s || s == i) = false := by rw [hs, beq_eq_false_iff_ne.2 hne]; rfl
  refine ⟨h.undo i v, ⟨w2, h1.trans (hb.mono h1.size), ?_⟩, fun e => ?_⟩
  · rw [hs2]
    rfl
  · rw [hs2] at e; cases e
theorem CS.ran (h : CS W s bs put LL vs w) {j : Nat} (hj : vs j ≠ undef) : LL j = true := by
  cases e : LL j with
  | true => rfl
  | false => exact absurd (h.un j e) hj
theorem CS.store (h : CS W s bs put LL vs w) (v : Value) (hi : LL s = false) (hv : ∀ j ∈ bs, vs j ≠ undef) : CS W s bs put (fun j => LL j || j == s) (fun j => if j = s then v else vs j) (put w) :=
  ⟨h.undo s v, ⟨w, h.calm hi, by simp⟩, fun _ j hj => by rw [h.ran (hv j hj), Bool.true_or]⟩
theorem CS.fin (h : CS W s bs put LL vs w) (hs : LL s = true) : ∃ wz, Below W.heap.size W wz ∧ w = put wz := by
  obtain ⟨wz, h1, h2⟩ := h.st
  rw [if_pos hs] at h2
  exact ⟨wz, h1, h2⟩
end
def posAt (at_ : List Int) (k : Nat) : Int := match at_[k]? with
  | some y => limS y
  | none => 0
theorem posAt_rng (at_ : List Int) (k : Nat) : -64 ≤ posAt at_ k ∧ posAt at_ k ≤ 64 := by
  unfold posAt
  split
  · exact limS_rng _
  · omega
def tq (t : Tent) (v : Int) : Rat := Ex.rat (valS t.1 t.2.1 t.2.2 v).1 (valS t.1 t.2.1 t.2.2 v).2
def scalP (l : List Tent) (at_ : List Int) : Nat → Rat
  | 0 => 1
  | k + 1 => match l[k]? with
    | some t => scalP l at_ k * tq t (posAt at_ k)
    | none => scalP l at_ k
def scalS (l : List Tent) (at_ : List Int) : Int × Int := if allV l then ((scalP l at_ l.length).num, ((scalP l at_ l.length).den : Int)) else (0, 0)
theorem valid_facts {lo p hi : Int} (h : validS lo p hi = true) : -64 ≤ lo ∧ lo ≤ p ∧ p ≤ hi ∧ hi ≤ 64 ∧ (0 ≤ lo ∨ hi ≤ 0 ∨ p = 0) := of_decide_eq_true h
theorem valS_bd {lo p hi v : Int} (h : validS lo p hi = true) : 0 ≤ (valS lo p hi v).1 ∧ (valS lo p hi v).1 ≤ (valS lo p hi v).2 ∧ 1 ≤ (valS lo p hi v).2 ∧ (valS lo p hi v).2 ≤ 128 := by
  obtain ⟨h1, h2, h3, h4, _⟩ := valid_facts h
  unfold valS
  split
  · decide
  · split
    · decide
    · split <;> simp only <;> omega
theorem tq_bd {t : Tent} {v : Int} (h : validS t.1 t.2.1 t.2.2 = true) : 0 ≤ (tq t v).num ∧ (tq t v).num ≤ ((tq t v).den : Int) ∧ (tq t v).den ≤ 128 := by
  obtain ⟨h1, h2, h3, h4⟩ := valS_bd (v := v) h
  obtain ⟨e1, e2⟩ := Ex.rat_num_den (valS t.1 t.2.1 t.2.2 v).1 (valS t.1 t.2.1 t.2.2 v).2 h3
  unfold tq
  generalize (valS t.1 t.2.1 t.2.2 v).1 = N at *
  generalize (valS t.1 t.2.1 t.2.2 v).2 = D at *
  have hg := Nat.gcd_pos_of_pos_right N.natAbs (show 0 < D.natAbs by omega)
  rw [e1, e2]
  generalize Nat.gcd N.natAbs D.natAbs = G at *
  refine ⟨Int.ediv_nonneg h1 (by omega), ?_, Nat.le_trans (Nat.div_le_self _ _) (by omega)⟩
  rw [Int.natCast_ediv, show ((D.natAbs : Nat) : Int) = D by omega]
  exact Int.ediv_le_ediv (by omega) h2
theorem rmul_bd {a b : Rat} {A B : Nat} (h1 : 0 ≤ a.num) (h2 : a.num ≤ A) (h3 : 0 ≤ b.num) (h4 : b.num ≤ B) (h5 : a.den ≤ A) (h6 : b.den ≤ B) : 0 ≤ (a * b).num ∧ (a * b).num ≤ ((A * B : Nat) : Int) ∧ (a * b).den ≤ A * B := by
  obtain ⟨e1, e2⟩ := Ex.rmul_parts a b
  rw [e1, e2]
  have q1 : ∀ (x : Int) (g : Nat), 0 ≤ x → 0 ≤ x / (g : Int) ∧ x / (g : Int) ≤ x := fun x g hx => ⟨Int.ediv_nonneg hx (by omega), Int.ediv_le_self _ hx⟩
  obtain ⟨n1, n2⟩ := q1 a.num (Nat.gcd a.num.natAbs b.den) h1
  obtain ⟨n3, n4⟩ := q1 b.num (Nat.gcd b.num.natAbs a.den) h3
  refine ⟨Int.mul_nonneg n1 n3, ?_, Nat.mul_le_mul (Nat.le_trans (Nat.div_le_self _ _) h5) (Nat.le_trans (Nat.div_le_self _ _) h6)⟩
  rw [Int.natCast_mul]
  exact Int.le_trans (Int.mul_le_mul_of_nonneg_right (Int.le_trans n2 h2) n3) (Int.mul_le_mul_of_nonneg_left (Int.le_trans n4 h4) (by omega))
theorem scalP_bd {l : List Tent} (at_ : List Int) (h : allV l = true) : ∀ k, k ≤ l.length → 0 ≤ (scalP l at_ k).num ∧ (scalP l at_ k).num ≤ ((128 ^ k : Nat) : Int) ∧ (scalP l at_ k).den ≤ 128 ^ k := by
  intro k
  induction k with
  | zero => intro _; exact ⟨by show (0 : Int) ≤ 1; decide, by show (1 : Int) ≤ 1; decide, Nat.le_refl 1⟩
  | succ k ih =>
    intro hk
    obtain ⟨i1, i2, i3⟩ := ih (by omega)
    have hx : l[k]? = some (l[k]'(by omega)) := List.getElem?_eq_getElem _
    have hv : validS (l[k]'(by omega)).1 (l[k]'(by omega)).2.1 (l[k]'(by omega)).2.2 = true := by
      unfold allV at h
      exact List.all_eq_true.1 h _ (List.getElem_mem _)
    obtain ⟨t1, t2, t3⟩ := tq_bd (v := posAt at_ k) hv
    unfold scalP
    rw [hx]
    rw [Nat.pow_succ]
    exact rmul_bd i1 i2 t1 (by omega) i3 t3
theorem scalP_succ {l : List Tent} {at_ : List Int} {k : Nat} {t : Tent} (h : l[k]? = some t) : scalP l at_ (k + 1) = scalP l at_ k * tq t (posAt at_ k) := by
  rw [scalP, h]
theorem pow_le4 {k : Nat} (h : k ≤ 4) : 128 ^ k ≤ 268435456 := Nat.le_trans (Nat.pow_le_pow_right (by decide) h) (by decide)
theorem rat_self (q : Rat) : Ex.rat q.num q.den = q := by
  unfold Ex.rat
  rw [Int.toNat_natCast]
  exact Rat.mkRat_self q
theorem fit_small {q : Rat} (h1 : 0 ≤ q.num) (h2 : q.num ≤ 268435456) (h3 : q.den ≤ 268435456) : Ex.fitR q = some (q.num, (q.den : Int)) := by
  unfold Ex.fitR
  rw [if_pos ⟨by omega, by omega, by omega⟩]
theorem emul_small (q : Rat) (n d : Int) (w : World) (h1 : 0 ≤ q.num) (h2 : q.num ≤ 268435456) (h3 : q.den ≤ 268435456) (h4 : 0 ≤ n ∧ n ≤ 128) (h5 : 1 ≤ d ∧ d ≤ 128) (h6 : 0 ≤ (q * Ex.rat n d).num) (h7 : (q * Ex.rat n d).num ≤ 268435456) (h8 : (q * Ex.rat n d).den ≤ 268435456) :
    Calls Try.prog 81 #[.agg #[.int .i64 q.num, .int .i64 q.den], .agg #[.int .i64 n, .int .i64 d]] w fun e w' => e = .returned (.tuple #[.agg #[.int .i64 (q * Ex.rat n d).num, .int .i64 (q * Ex.rat n d).den], .bool true]) ∧ Below w.heap.size w w' := by
  have hdp := q.den_pos
  have := emul_ok q.num q.den n d w ⟨by omega, by omega⟩ ⟨by omega, by omega⟩ ⟨by omega, by omega⟩ ⟨by omega, by omega⟩ (by omega) h5.1
  have e : Ex.mulS q.num q.den n d = some ((q * Ex.rat n d).num, ((q * Ex.rat n d).den : Int)) := by
    unfold Ex.mulS
    rw [if_neg (by omega), rat_self, fit_small h6 h7 h8]
  rw [e] at this
  exact this
set_option maxHeartbeats 8000000 in
set_option maxRecDepth 100000 in
theorem scalar_any (a : Option Addr) (n c : Nat) (l : List Tent) (ua : Option Addr) (un uc : Nat) (u : List Int) (w : World) (hl : Lst Enc.tent w (· < w.heap.size) a n l) (hu : Lst Enc.int w (· < w.heap.size) ua un u) (hn : n ≤ 4) (_ : un ≤ 1000000000000) :
    Calls Try.prog 65 #[.slice a n c, .slice ua un uc] w fun e w' => e = .returned (.agg #[.int .i64 (scalS l u).1, .int .i64 (scalS l u).2]) ∧ Below w.heap.size w w' := by
  have hll := hl.1
  have hul := hu.1
  obtain ⟨b4, V, hb4, hV, st⟩ := (St.start w).new (Obj.cells #[.int .i64 0, .int .i64 0] 60)
  have hc := fits_any a n c l (n : Int) V (hl.under st.below) (by omega)
  have hfs : fitsS l (n : Int) = allV l := by unfold fitsS; rw [decide_eq_true (by rw [hll]), Bool.true_and]
  rw [hfs] at hc
  have h4 := st.get 0 rfl
  have hbV := st.below
  have hb4w : w.heap.size ≤ b4 := by omega
  clear st hfs
  replace hl := hide hl; replace hu := hide hu
  cases hv : allV l with
  | false =>
    have hfin : scalS l u = (0, 0) := by unfold scalS; rw [hv]; rfl
    rw [hfin]
    rw [hv] at hc
    replace hc := hide hc; replace hV := hide hV; replace hb4 := hide hb4; replace hbV := hide hbV; replace hv := hide hv; replace hfin := hide hfin; replace hll := hide hll; replace hul := hide hul; replace h4 := hide h4
    clear hl hu
    go_enter Try.func65, Try.ntmps65
    go_wp2_with fail
    rw [unhide hV, unhide hb4]
    refine (unhide hc).mono ?_
    rintro e w1 ⟨rfl, hb⟩
    have hr4 := (hb.block b4 (Array.getElem?_eq_some_iff.1 (unhide h4)).1).trans (unhide h4)
    have hbz := (unhide hbV).trans (hb.mono (unhide hbV).size)
    have f0 : w1.cell? ⟨b4, 0, none⟩ = some (.int .i64 0) := (cell_of_row _ _ 0 _ _ _ hr4).trans rfl
    have f1 : w1.cell? ⟨b4, 1, none⟩ = some (.int .i64 0) := (cell_of_row _ _ 1 _ _ _ hr4).trans rfl
    have g0 : w1.frozen? ⟨b4, 0, none⟩ = false := by simp [World.frozen?, hr4]
    have g1 : w1.frozen? ⟨b4, 1, none⟩ = false := by simp [World.frozen?, hr4]
    have es0 : w1.setCell ⟨b4, 0, none⟩ (.int .i64 0) = w1 := set_same hr4 rfl
    have es1 : w1.setCell ⟨b4, 1, none⟩ (.int .i64 0) = w1 := set_same hr4 rfl
    clear hc hr4 hb hbV
    replace hbz := hide hbz
    go_wp2_with fail
    refine bodyPost_ret (v := .agg #[.int .i64 0, .int .i64 0]) (by simp [results, Try.results65, go_sem, f0, f1]) rfl ⟨rfl, unhide hbz⟩
  | true =>
    have hfin : scalS l u = ((scalP l u n).num, ((scalP l u n).den : Int)) := by unfold scalS; rw [hv, hll]; rfl
    rw [hfin]
    rw [hv] at hc
    replace hc := hide hc; replace hV := hide hV; replace hb4 := hide hb4; replace hbV := hide hbV; replace hv := hide hv; replace hfin := hide hfin; replace hll := hide hll; replace hul := hide hul; replace h4 := hide h4
    go_enter Try.func65, Try.ntmps65
    go_wp2_with fail
    rw [unhide hV, unhide hb4]
    refine (unhide hc).mono ?_
    rintro e w1 ⟨rfl, hb⟩
    obtain ⟨b5, W, hb5, hW, st⟩ := (St.start w1).new (Obj.cells #[.int .i64 1, .int .i64 1] 60)
    have h5 := st.get 0 rfl
    have hb2 := hb.trans (st.below.mono hb.size)
    have h4b := (hb2.block b4 (Array.getElem?_eq_some_iff.1 (unhide h4)).1).trans (unhide h4)
    have hbW := (unhide hbV).trans (hb2.mono (unhide hbV).size)
    have hb45 : b4 < b5 := by have := (Array.getElem?_eq_some_iff.1 (unhide h4)).1; have := hb.size; omega
    clear hc hb hb2 st hbV h4
    replace hb5 := hide hb5; replace hW := hide hW; replace h5 := hide h5; replace h4b := hide h4b; replace hbW := hide hbW
    go_wp2_with fail
    rw [unhide hW, unhide hb5]
    go_loopw [18] (fun v wr => ∃ k : Nat, k ≤ n ∧ v = .int .i64 (k : Int) ∧ wr.heap[b5]? = some (.cells #[.int .i64 (scalP l u k).num, .int .i64 (scalP l u k).den] 60 (0, 0)) ∧ wr.heap[b4]? = some (.cells #[.int .i64 0, .int .i64 0] 60 (0, 0)) ∧ Below w.heap.size w wr) (fun v _ => n - (intOf v).toNat)
    case atStart => exact ⟨0, by omega, rfl, unhide h5, unhide h4b, unhide hbW⟩
    case round =>
      clear h5 h4b hbW
      obtain ⟨k, hk, rfl, h5, h4, hbw⟩ := hrel
      obtain ⟨wo, rfl⟩ : ∃ wo : World, wo = wr := ⟨_, rfl⟩
      have e0 : wo.cell? ⟨b5, 0, none⟩ = some (.int .i64 (scalP l u k).num) := (cell_of_row _ _ 0 _ _ _ h5).trans rfl
      have e1 : wo.cell? ⟨b5, 1, none⟩ = some (.int .i64 (scalP l u k).den) := (cell_of_row _ _ 1 _ _ _ h5).trans rfl
      by_cases hlt : k < n
      · obtain ⟨b1, o1, t, rfl, _, hx, i1, i2, i3, c0, c1, c2⟩ := lst_tent ((unhide hl).below hbw) hlt
        have hsc := scalP_succ (at_ := u) hx
        obtain ⟨m1, m2, m3⟩ := scalP_bd u (unhide hv) k (by have := unhide hll; omega)
        obtain ⟨m4, m5, m6⟩ := scalP_bd u (unhide hv) (k + 1) (by have := unhide hll; omega)
        have p1 := pow_le4 (k := k) (by omega)
        have p2 := pow_le4 (k := k + 1) (by omega)
        have hval : validS t.1 t.2.1 t.2.2 = true := by
          have := unhide hv
          unfold allV at this
          exact List.all_eq_true.1 this t (List.mem_of_getElem? hx)
        obtain ⟨lo, p, hi⟩ := t
        simp only at c0 c1 c2 hval
        obtain ⟨v1, v2, v3, v4, _⟩ := valid_facts hval
        have hpr := posAt_rng u k
        obtain ⟨vv, hvv⟩ : ∃ vv, posAt u k = vv := ⟨_, rfl⟩
        rw [hvv] at hpr hsc
        have hcv := fun w => value_any lo p hi vv w v1 v2 v3 v4 hpr
        have hbd := valS_bd (v := vv) hval
        have htq : tq (lo, p, hi) vv = Ex.rat (valS lo p hi vv).1 (valS lo p hi vv).2 := rfl
        obtain ⟨nn, hnn⟩ : ∃ x, (valS lo p hi vv).1 = x := ⟨_, rfl⟩
        obtain ⟨d, hd⟩ : ∃ x, (valS lo p hi vv).2 = x := ⟨_, rfl⟩
        rw [hnn, hd] at hbd htq
        simp only [hnn, hd] at hcv
        rw [htq] at hsc
        rw [hsc] at m4 m5 m6
        have hcm := fun w => emul_small (scalP l u k) nn d w m1 (by omega) (by omega) ⟨hbd.1, by omega⟩ ⟨hbd.2.2.1, hbd.2.2.2⟩ m4 (by omega) (by omega)
        obtain ⟨N1, hN1⟩ : ∃ x, (scalP l u k).num = x := ⟨_, rfl⟩
        obtain ⟨D1, hD1⟩ : ∃ x, ((scalP l u k).den : Int) = x := ⟨_, rfl⟩
        obtain ⟨N2, hN2'⟩ : ∃ x, (scalP l u k * Ex.rat nn d).num = x := ⟨_, rfl⟩
        obtain ⟨D2, hD2'⟩ : ∃ x, ((scalP l u k * Ex.rat nn d).den : Int) = x := ⟨_, rfl⟩
        have hN2 : (scalP l u (k + 1)).num = N2 := by rw [hsc, hN2']
        have hD2 : ((scalP l u (k + 1)).den : Int) = D2 := by rw [hsc, hD2']
        rw [hN1] at e0 h5
        rw [hD1] at e1 h5
        simp only [hN1, hD1, hN2', hD2'] at hcm
        clear hN1 hD1 hN2' hD2' hsc htq hbd hnn hd m1 m2 m3 m4 m5 m6 p1 p2 v1 v2 v3 v4 hval i1 i2 i3 hpr
        obtain ⟨bx, V2, hbx, hV2, st⟩ := (St.start wo).new (Obj.cells #[.int .i64 lo, .int .i64 p, .int .i64 hi] 63)
        have hbo := st.below
        have d0 := st.cell 0 rfl 0 (v := .int .i64 lo) rfl
        have d1 := st.cell 0 rfl 1 (v := .int .i64 p) rfl
        have d2 := st.cell 0 rfl 2 (v := .int .i64 hi) rfl
        have f0 := cell_under e0 hbo
        have f1 := cell_under e1 hbo
        have h5' := (hbo.block b5 (Array.getElem?_eq_some_iff.1 h5).1).trans h5
        have h4' := (hbo.block b4 (Array.getElem?_eq_some_iff.1 h4).1).trans h4
        have hbw' := hbw.trans (hbo.mono hbw.size)
        have huk := (unhide hu).below hbw
        have t1 : (k : Int) < (n : Int) := by omega
        have t2 : ¬ (n : Int) ≤ (k : Int) := by omega
        clear st hx e0 e1 h5 h4 hbw hbo
        have e0 := f0
        have e1 := f1
        have h5 := hide h5'
        have h4 := hide h4'
        have hbw := hide hbw'
        clear f0 f1 h5' h4' hbw'
        replace hcv := hide hcv; replace hcm := hide hcm; replace hN2 := hide hN2; replace hD2 := hide hD2; replace hbx := hide hbx; replace hV2 := hide hV2
        by_cases hun2 : k < un
        · obtain ⟨b2, o2, y, rfl, _, hy, _, c4⟩ := lst_int huk hun2
          have c4s : ∀ o, (wo.alloc o).cell? ⟨b2, o2 + k, none⟩ = some (.int .i64 y) := fun o => cell_under c4 ((Below.refl _ _).alloc (Nat.le_refl _) o)
          have hlim := limited_any y V2
          have hvy : limS y = vv := by rw [← hvv]; unfold posAt; rw [hy]
          rw [hvy] at hlim
          have t3 : (k : Int) < (un : Int) := by omega
          have t4 : ¬ (un : Int) ≤ (k : Int) := by omega
          clear hy hvy huk
          replace hlim := hide hlim; replace hvv := hide hvv; replace d0 := hide d0; replace d1 := hide d1; replace d2 := hide d2
          go_wp2_with fail
          rw [unhide hV2]
          try rw [unhide hbx]
          refine (unhide hlim).mono ?_
          rintro e wv ⟨rfl, ew⟩
          rw [ew]
          replace d0 := unhide d0; replace d1 := unhide d1; replace d2 := unhide d2
          clear hlim ew c0 c1 c2 c4 c4s
          go_wp2_with fail
          refine wp_region_frontG 9 (fun LL vs w' => CS V2 8 [0, 1, 2, 3, 4, 5, 6] (fun wz => (wz.setCell ⟨b5, 0, none⟩ (.int .i64 N2)).setCell ⟨b5, 1, none⟩ (.int .i64 D2)) LL vs w') (fun _ _ => True)
            (fun ix v w' => match ix with
              | 0 => v = .agg #[.int .i64 N1, .int .i64 D1]
              | 1 => v = .agg #[.int .i64 lo, .int .i64 p, .int .i64 hi]
              | 2 => v = .int .i64 vv
              | 3 => v = .agg #[.int .i64 nn, .int .i64 d]
              | 4 => v = .tuple #[.agg #[.int .i64 N2, .int .i64 D2], .bool true]
              | 5 => v = .tuple #[.agg #[.int .i64 N2, .int .i64 D2], .bool true]
              | 6 => v = .agg #[.int .i64 N2, .int .i64 D2]
              | 7 => v = .bool true
              | 8 => v = .bool true
              | _ => True) (by rfl) (by kernel_rfl) ?_ ?_ ?_ ?_
          · exact CS.start _ _ _ _
          · intro wa wb hRN ix v hv
            match ix, hv with
            | 0, h => exact h
            | 1, h => exact h
            | 2, h => exact h
            | 3, h => exact h
            | 4, h => exact h
            | 5, h => exact h
            | 6, h => exact h
            | 7, h => exact h
            | 8, h => exact h
            | _ + 9, _ => trivial
          · intro ix hix
            obtain rfl | rfl | rfl | rfl | rfl | rfl | rfl | rfl | rfl : ix = 0 ∨ ix = 1 ∨ ix = 2 ∨ ix = 3 ∨ ix = 4 ∨ ix = 5 ∨ ix = 6 ∨ ix = 7 ∨ ix = 8 := by omega
            · refine FrontStep.of [] _ rfl (by kernel_rfl) ?_
              intro vs LL wq hLL hC hf
              simp only [putL, List.foldl_nil]
              have hE := (hC.early (j := 0) hLL (by decide)).2
              have f0 := cell_under e0 hE
              have f1 := cell_under e1 hE
              clear hE
              go_wp2_with fail
              first | exact hC.keep 0 _ (by decide) | exact ⟨hC.keep 0 _ (by decide), trivial⟩ | exact ⟨hC.keep 0 _ (by decide), trivial, by omega⟩
            · refine FrontStep.of [] _ rfl (by kernel_rfl) ?_
              intro vs LL wq hLL hC hf
              simp only [putL, List.foldl_nil]
              have hE := (hC.early (j := 1) hLL (by decide)).2
              have f0 := cell_under d0 hE
              have f1 := cell_under d1 hE
              have f2 := cell_under d2 hE
              clear hE
              go_wp2_with fail
              first | exact hC.keep 1 _ (by decide) | exact ⟨hC.keep 1 _ (by decide), trivial⟩ | exact ⟨hC.keep 1 _ (by decide), trivial, by omega⟩
            · refine FrontStep.of [] _ rfl (by kernel_rfl) ?_
              intro vs LL wq hLL hC hf
              simp only [putL, List.foldl_nil]
              go_wp2_with fail
              first | exact hC.keep 2 _ (by decide) | exact ⟨hC.keep 2 _ (by decide), trivial⟩ | exact ⟨hC.keep 2 _ (by decide), trivial, by omega⟩
            · refine FrontStep.of [1, 2] _ rfl (by kernel_rfl) ?_
              intro vs LL wq hLL hC hf
              simp only [putL, List.foldl_nil, List.foldl_cons, List.getElem?_cons_zero, List.getElem?_cons_succ]
              have y1 : vs 1 = _ := hf 1 (by simp)
              try rw [y1]
              have y2 : vs 2 = _ := hf 2 (by simp)
              try rw [y2]
              have hcq := unhide hcv wq
              replace hcq := hide hcq
              go_wp2_with fail
              refine (unhide hcq).mono ?_
              rintro e wz ⟨rfl, hbz⟩
              clear hcq
              go_wp2_with fail
              first | exact ⟨hC.call 3 _ hLL (by decide) (by decide) hbz, trivial⟩ | exact hC.call 3 _ hLL (by decide) (by decide) hbz
            · refine FrontStep.of [0, 3] _ rfl (by kernel_rfl) ?_
              intro vs LL wq hLL hC hf
              simp only [putL, List.foldl_nil, List.foldl_cons, List.getElem?_cons_zero, List.getElem?_cons_succ]
              have y0 : vs 0 = _ := hf 0 (by simp)
              try rw [y0]
              have y3 : vs 3 = _ := hf 3 (by simp)
              try rw [y3]
              have hcq := unhide hcm wq
              replace hcq := hide hcq
              go_wp2_with fail
              refine (unhide hcq).mono ?_
              rintro e wz ⟨rfl, hbz⟩
              clear hcq
              go_wp2_with fail
              first | exact ⟨hC.call 4 _ hLL (by decide) (by decide) hbz, trivial⟩ | exact hC.call 4 _ hLL (by decide) (by decide) hbz
            · refine FrontStep.of [4] _ rfl (by kernel_rfl) ?_
              intro vs LL wq hLL hC hf
              simp only [putL, List.foldl_nil, List.foldl_cons, List.getElem?_cons_zero, List.getElem?_cons_succ]
              have y4 : vs 4 = _ := hf 4 (by simp)
              try rw [y4]
              go_wp2_with fail
              first | exact hC.keep 5 _ (by decide) | exact ⟨hC.keep 5 _ (by decide), trivial⟩ | exact ⟨hC.keep 5 _ (by decide), trivial, by omega⟩
            · refine FrontStep.of [5] _ rfl (by kernel_rfl) ?_
              intro vs LL wq hLL hC hf
              simp only [putL, List.foldl_nil, List.foldl_cons, List.getElem?_cons_zero, List.getElem?_cons_succ]
              have y5 : vs 5 = _ := hf 5 (by simp)
              try rw [y5]
              go_wp2_with fail
              first | exact hC.keep 6 _ (by decide) | exact ⟨hC.keep 6 _ (by decide), trivial⟩ | exact ⟨hC.keep 6 _ (by decide), trivial, by omega⟩
            · refine FrontStep.of [5] _ rfl (by kernel_rfl) ?_
              intro vs LL wq hLL hC hf
              simp only [putL, List.foldl_nil, List.foldl_cons, List.getElem?_cons_zero, List.getElem?_cons_succ]
              have y5 : vs 5 = _ := hf 5 (by simp)
              try rw [y5]
              go_wp2_with fail
              first | exact hC.keep 7 _ (by decide) | exact ⟨hC.keep 7 _ (by decide), trivial⟩ | exact ⟨hC.keep 7 _ (by decide), trivial, by omega⟩
            · refine FrontStep.of [0, 1, 2, 3, 4, 5, 6] _ rfl (by kernel_rfl) ?_
              intro vs LL wq hLL hC hf
              simp only [putL, List.foldl_nil, List.foldl_cons, List.getElem?_cons_zero, List.getElem?_cons_succ]
              have y0 : vs 0 = _ := hf 0 (by simp)
              try rw [y0]
              have y1 : vs 1 = _ := hf 1 (by simp)
              try rw [y1]
              have y2 : vs 2 = _ := hf 2 (by simp)
              try rw [y2]
              have y3 : vs 3 = _ := hf 3 (by simp)
              try rw [y3]
              have y4 : vs 4 = _ := hf 4 (by simp)
              try rw [y4]
              have y5 : vs 5 = _ := hf 5 (by simp)
              try rw [y5]
              have y6 : vs 6 = _ := hf 6 (by simp)
              try rw [y6]
              have hcalm := hC.calm hLL
              have hr5 := (hcalm.block b5 (Array.getElem?_eq_some_iff.1 (unhide h5)).1).trans (unhide h5)
              have f0 : wq.cell? ⟨b5, 0, none⟩ = some (.int .i64 N1) := (cell_of_row _ _ 0 _ _ _ hr5).trans rfl
              have f1 : wq.cell? ⟨b5, 1, none⟩ = some (.int .i64 D1) := (cell_of_row _ _ 1 _ _ _ hr5).trans rfl
              have g0 : wq.frozen? ⟨b5, 0, none⟩ = false := by simp [World.frozen?, hr5]
              have g1 : wq.frozen? ⟨b5, 1, none⟩ = false := by simp [World.frozen?, hr5]
              have f1' : (wq.setCell ⟨b5, 0, none⟩ (.int .i64 N2)).cell? ⟨b5, 1, none⟩ = some (.int .i64 D1) := (cell_of_row _ _ 1 _ _ _ (heap_set (off := 0) hr5 (.int .i64 N2))).trans rfl
              have g1' : (wq.setCell ⟨b5, 0, none⟩ (.int .i64 N2)).frozen? ⟨b5, 1, none⟩ = false := by simp [World.frozen?, heap_set (off := 0) hr5 (.int .i64 N2)]
              clear hr5 hcalm
              have hnx := hC.store (.bool true) hLL (fun j hj => by simp at hj; rcases hj with rfl | rfl | rfl | rfl | rfl | rfl | rfl <;> first | (rw [y0]; exact fun h => by cases h) | (rw [y1]; exact fun h => by cases h) | (rw [y2]; exact fun h => by cases h) | (rw [y3]; exact fun h => by cases h) | (rw [y4]; exact fun h => by cases h) | (rw [y5]; exact fun h => by cases h) | (rw [y6]; exact fun h => by cases h))
              replace hnx := hide hnx
              clear y0 y1 y2 y3 y4 y5 y6
              go_wp2_with fail
              first | exact ⟨.bool true, unhide hnx⟩ | exact ⟨.bool true, rfl, unhide hnx, trivial, rfl⟩ | exact unhide hnx | exact ⟨.bool true, unhide hnx, trivial⟩
          · intro vs LL wq hLL hC hf
            obtain ⟨wz, hC2, hwq⟩ := hC.fin (hLL 8 (by omega))
            rw [putSome_all]
            simp only [putL, List.range, List.range.loop, List.foldl_nil, List.foldl_cons, List.getElem?_cons_zero, List.getElem?_cons_succ, List.drop_succ_cons, List.drop_zero]
            clear hf hLL hC
            subst hwq
            have hr5 := (hC2.block b5 (Array.getElem?_eq_some_iff.1 (unhide h5)).1).trans (unhide h5)
            have hr4 := (hC2.block b4 (Array.getElem?_eq_some_iff.1 (unhide h4)).1).trans (unhide h4)
            have hbz := (unhide hbw).trans (hC2.mono (unhide hbw).size)
            have s5 := heap_set (off := 1) (heap_set (off := 0) hr5 (.int .i64 N2)) (.int .i64 D2)
            have gs1 := grown_set (w := wz) b5 0 (.int .i64 N2)
            have gs2 := grown_set (w := wz.setCell ⟨b5, 0, none⟩ (.int .i64 N2)) b5 1 (.int .i64 D2)
            have s4 := (gs2.block b4 (Nat.lt_of_lt_of_le (Array.getElem?_eq_some_iff.1 hr4).1 gs1.size) (fun e => by injection e; omega)).trans ((gs1.block b4 (Array.getElem?_eq_some_iff.1 hr4).1 (fun e => by injection e; omega)).trans hr4)
            have hbz2 := hbz.trans ((⟨gs1.os, gs1.tape, gs1.output, gs1.size, fun b hb => gs1.block b (Nat.lt_of_lt_of_le hb hbz.size) (fun e => by injection e; omega)⟩ : Below w.heap.size wz _).trans ⟨gs2.os, gs2.tape, gs2.output, gs2.size, fun b hb => gs2.block b (Nat.lt_of_lt_of_le hb (Nat.le_trans hbz.size gs1.size)) (fun e => by injection e; omega)⟩)
            clear hr5 hr4 hbz gs1 gs2 hC2 h5 h4 hbw hcv hcm e0 e1 d0 d1 d2
            obtain ⟨wq, hwq⟩ : ∃ wq, (wz.setCell ⟨b5, 0, none⟩ (.int .i64 N2)).setCell ⟨b5, 1, none⟩ (.int .i64 D2) = wq := ⟨_, rfl⟩
            rw [hwq] at s5 s4 hbz2 ⊢
            clear hwq
            replace s5 := hide s5; replace s4 := hide s4; replace hbz2 := hide hbz2
            go_simp
            go_wp2_with fail
            go_roundw
            case rel => exact ⟨k + 1, by omega, by go_num, by rw [unhide hN2, unhide hD2]; exact unhide s5, unhide s4, unhide hbz2⟩
            case measure => simp [intOf]; omega
        · have hvz : vv = 0 := by rw [← hvv]; unfold posAt; rw [List.getElem?_eq_none (by have := unhide hul; omega)]
          subst hvz
          have t3 : ¬ (k : Int) < (un : Int) := by omega
          clear huk
          replace hvv := hide hvv; replace d0 := hide d0; replace d1 := hide d1; replace d2 := hide d2
          go_wp2_with fail
          rw [unhide hV2]
          try rw [unhide hbx]
          replace d0 := unhide d0; replace d1 := unhide d1; replace d2 := unhide d2
          clear c0 c1 c2
          refine wp_region_frontG 9 (fun LL vs w' => CS V2 8 [0, 1, 2, 3, 4, 5, 6] (fun wz => (wz.setCell ⟨b5, 0, none⟩ (.int .i64 N2)).setCell ⟨b5, 1, none⟩ (.int .i64 D2)) LL vs w') (fun _ _ => True)
            (fun ix v w' => match ix with
              | 0 => v = .agg #[.int .i64 N1, .int .i64 D1]
              | 1 => v = .agg #[.int .i64 lo, .int .i64 p, .int .i64 hi]
              | 2 => v = .int .i64 0
              | 3 => v = .agg #[.int .i64 nn, .int .i64 d]
              | 4 => v = .tuple #[.agg #[.int .i64 N2, .int .i64 D2], .bool true]
              | 5 => v = .tuple #[.agg #[.int .i64 N2, .int .i64 D2], .bool true]
              | 6 => v = .agg #[.int .i64 N2, .int .i64 D2]
              | 7 => v = .bool true
              | 8 => v = .bool true
              | _ => True) (by rfl) (by kernel_rfl) ?_ ?_ ?_ ?_
          · exact CS.start _ _ _ _
          · intro wa wb hRN ix v hv
            match ix, hv with
            | 0, h => exact h
            | 1, h => exact h
            | 2, h => exact h
            | 3, h => exact h
            | 4, h => exact h
            | 5, h => exact h
            | 6, h => exact h
            | 7, h => exact h
            | 8, h => exact h
            | _ + 9, _ => trivial
          · intro ix hix
            obtain rfl | rfl | rfl | rfl | rfl | rfl | rfl | rfl | rfl : ix = 0 ∨ ix = 1 ∨ ix = 2 ∨ ix = 3 ∨ ix = 4 ∨ ix = 5 ∨ ix = 6 ∨ ix = 7 ∨ ix = 8 := by omega
            · refine FrontStep.of [] _ rfl (by kernel_rfl) ?_
              intro vs LL wq hLL hC hf
              simp only [putL, List.foldl_nil]
              have hE := (hC.early (j := 0) hLL (by decide)).2
              have f0 := cell_under e0 hE
              have f1 := cell_under e1 hE
              clear hE
              go_wp2_with fail
              first | exact hC.keep 0 _ (by decide) | exact ⟨hC.keep 0 _ (by decide), trivial⟩ | exact ⟨hC.keep 0 _ (by decide), trivial, by omega⟩
            · refine FrontStep.of [] _ rfl (by kernel_rfl) ?_
              intro vs LL wq hLL hC hf
              simp only [putL, List.foldl_nil]
              have hE := (hC.early (j := 1) hLL (by decide)).2
              have f0 := cell_under d0 hE
              have f1 := cell_under d1 hE
              have f2 := cell_under d2 hE
              clear hE
              go_wp2_with fail
              first | exact hC.keep 1 _ (by decide) | exact ⟨hC.keep 1 _ (by decide), trivial⟩ | exact ⟨hC.keep 1 _ (by decide), trivial, by omega⟩
            · refine FrontStep.of [] _ rfl (by kernel_rfl) ?_
              intro vs LL wq hLL hC hf
              simp only [putL, List.foldl_nil]
              go_wp2_with fail
              first | exact hC.keep 2 _ (by decide) | exact ⟨hC.keep 2 _ (by decide), trivial⟩ | exact ⟨hC.keep 2 _ (by decide), trivial, by omega⟩
            · refine FrontStep.of [1, 2] _ rfl (by kernel_rfl) ?_
              intro vs LL wq hLL hC hf
              simp only [putL, List.foldl_nil, List.foldl_cons, List.getElem?_cons_zero, List.getElem?_cons_succ]
              have y1 : vs 1 = _ := hf 1 (by simp)
              try rw [y1]
              have y2 : vs 2 = _ := hf 2 (by simp)
              try rw [y2]
              have hcq := unhide hcv wq
              replace hcq := hide hcq
              go_wp2_with fail
              refine (unhide hcq).mono ?_
              rintro e wz ⟨rfl, hbz⟩
              clear hcq
              go_wp2_with fail
              first | exact ⟨hC.call 3 _ hLL (by decide) (by decide) hbz, trivial⟩ | exact hC.call 3 _ hLL (by decide) (by decide) hbz
            · refine FrontStep.of [0, 3] _ rfl (by kernel_rfl) ?_
              intro vs LL wq hLL hC hf
              simp only [putL, List.foldl_nil, List.foldl_cons, List.getElem?_cons_zero, List.getElem?_cons_succ]
              have y0 : vs 0 = _ := hf 0 (by simp)
              try rw [y0]
              have y3 : vs 3 = _ := hf 3 (by simp)
              try rw [y3]
              have hcq := unhide hcm wq
              replace hcq := hide hcq
              go_wp2_with fail
              refine (unhide hcq).mono ?_
              rintro e wz ⟨rfl, hbz⟩
              clear hcq
              go_wp2_with fail
              first | exact ⟨hC.call 4 _ hLL (by decide) (by decide) hbz, trivial⟩ | exact hC.call 4 _ hLL (by decide) (by decide) hbz
            · refine FrontStep.of [4] _ rfl (by kernel_rfl) ?_
              intro vs LL wq hLL hC hf
              simp only [putL, List.foldl_nil, List.foldl_cons, List.getElem?_cons_zero, List.getElem?_cons_succ]
              have y4 : vs 4 = _ := hf 4 (by simp)
              try rw [y4]
              go_wp2_with fail
              first | exact hC.keep 5 _ (by decide) | exact ⟨hC.keep 5 _ (by decide), trivial⟩ | exact ⟨hC.keep 5 _ (by decide), trivial, by omega⟩
            · refine FrontStep.of [5] _ rfl (by kernel_rfl) ?_
              intro vs LL wq hLL hC hf
              simp only [putL, List.foldl_nil, List.foldl_cons, List.getElem?_cons_zero, List.getElem?_cons_succ]
              have y5 : vs 5 = _ := hf 5 (by simp)
              try rw [y5]
              go_wp2_with fail
              first | exact hC.keep 6 _ (by decide) | exact ⟨hC.keep 6 _ (by decide), trivial⟩ | exact ⟨hC.keep 6 _ (by decide), trivial, by omega⟩
            · refine FrontStep.of [5] _ rfl (by kernel_rfl) ?_
              intro vs LL wq hLL hC hf
              simp only [putL, List.foldl_nil, List.foldl_cons, List.getElem?_cons_zero, List.getElem?_cons_succ]
              have y5 : vs 5 = _ := hf 5 (by simp)
              try rw [y5]
              go_wp2_with fail
              first | exact hC.keep 7 _ (by decide) | exact ⟨hC.keep 7 _ (by decide), trivial⟩ | exact ⟨hC.keep 7 _ (by decide), trivial, by omega⟩
            · refine FrontStep.of [0, 1, 2, 3, 4, 5, 6] _ rfl (by kernel_rfl) ?_
              intro vs LL wq hLL hC hf
              simp only [putL, List.foldl_nil, List.foldl_cons, List.getElem?_cons_zero, List.getElem?_cons_succ]
              have y0 : vs 0 = _ := hf 0 (by simp)
              try rw [y0]
              have y1 : vs 1 = _ := hf 1 (by simp)
              try rw [y1]
              have y2 : vs 2 = _ := hf 2 (by simp)
              try rw [y2]
              have y3 : vs 3 = _ := hf 3 (by simp)
              try rw [y3]
              have y4 : vs 4 = _ := hf 4 (by simp)
              try rw [y4]
              have y5 : vs 5 = _ := hf 5 (by simp)
              try rw [y5]
              have y6 : vs 6 = _ := hf 6 (by simp)
              try rw [y6]
              have hcalm := hC.calm hLL
              have hr5 := (hcalm.block b5 (Array.getElem?_eq_some_iff.1 (unhide h5)).1).trans (unhide h5)
              have f0 : wq.cell? ⟨b5, 0, none⟩ = some (.int .i64 N1) := (cell_of_row _ _ 0 _ _ _ hr5).trans rfl
              have f1 : wq.cell? ⟨b5, 1, none⟩ = some (.int .i64 D1) := (cell_of_row _ _ 1 _ _ _ hr5).trans rfl
              have g0 : wq.frozen? ⟨b5, 0, none⟩ = false := by simp [World.frozen?, hr5]
              have g1 : wq.frozen? ⟨b5, 1, none⟩ = false := by simp [World.frozen?, hr5]
              have f1' : (wq.setCell ⟨b5, 0, none⟩ (.int .i64 N2)).cell? ⟨b5, 1, none⟩ = some (.int .i64 D1) := (cell_of_row _ _ 1 _ _ _ (heap_set (off := 0) hr5 (.int .i64 N2))).trans rfl
              have g1' : (wq.setCell ⟨b5, 0, none⟩ (.int .i64 N2)).frozen? ⟨b5, 1, none⟩ = false := by simp [World.frozen?, heap_set (off := 0) hr5 (.int .i64 N2)]
              clear hr5 hcalm
              have hnx := hC.store (.bool true) hLL (fun j hj => by simp at hj; rcases hj with rfl | rfl | rfl | rfl | rfl | rfl | rfl <;> first | (rw [y0]; exact fun h => by cases h) | (rw [y1]; exact fun h => by cases h) | (rw [y2]; exact fun h => by cases h) | (rw [y3]; exact fun h => by cases h) | (rw [y4]; exact fun h => by cases h) | (rw [y5]; exact fun h => by cases h) | (rw [y6]; exact fun h => by cases h))
              replace hnx := hide hnx
              clear y0 y1 y2 y3 y4 y5 y6
              go_wp2_with fail
              first | exact ⟨.bool true, unhide hnx⟩ | exact ⟨.bool true, rfl, unhide hnx, trivial, rfl⟩ | exact unhide hnx | exact ⟨.bool true, unhide hnx, trivial⟩
          · intro vs LL wq hLL hC hf
            obtain ⟨wz, hC2, hwq⟩ := hC.fin (hLL 8 (by omega))
            rw [putSome_all]
            simp only [putL, List.range, List.range.loop, List.foldl_nil, List.foldl_cons, List.getElem?_cons_zero, List.getElem?_cons_succ, List.drop_succ_cons, List.drop_zero]
            clear hf hLL hC
            subst hwq
            have hr5 := (hC2.block b5 (Array.getElem?_eq_some_iff.1 (unhide h5)).1).trans (unhide h5)
            have hr4 := (hC2.block b4 (Array.getElem?_eq_some_iff.1 (unhide h4)).1).trans (unhide h4)
            have hbz := (unhide hbw).trans (hC2.mono (unhide hbw).size)
            have s5 := heap_set (off := 1) (heap_set (off := 0) hr5 (.int .i64 N2)) (.int .i64 D2)
            have gs1 := grown_set (w := wz) b5 0 (.int .i64 N2)
            have gs2 := grown_set (w := wz.setCell ⟨b5, 0, none⟩ (.int .i64 N2)) b5 1 (.int .i64 D2)
            have s4 := (gs2.block b4 (Nat.lt_of_lt_of_le (Array.getElem?_eq_some_iff.1 hr4).1 gs1.size) (fun e => by injection e; omega)).trans ((gs1.block b4 (Array.getElem?_eq_some_iff.1 hr4).1 (fun e => by injection e; omega)).trans hr4)
            have hbz2 := hbz.trans ((⟨gs1.os, gs1.tape, gs1.output, gs1.size, fun b hb => gs1.block b (Nat.lt_of_lt_of_le hb hbz.size) (fun e => by injection e; omega)⟩ : Below w.heap.size wz _).trans ⟨gs2.os, gs2.tape, gs2.output, gs2.size, fun b hb => gs2.block b (Nat.lt_of_lt_of_le hb (Nat.le_trans hbz.size gs1.size)) (fun e => by injection e; omega)⟩)
            clear hr5 hr4 hbz gs1 gs2 hC2 h5 h4 hbw hcv hcm e0 e1 d0 d1 d2
            obtain ⟨wq, hwq⟩ : ∃ wq, (wz.setCell ⟨b5, 0, none⟩ (.int .i64 N2)).setCell ⟨b5, 1, none⟩ (.int .i64 D2) = wq := ⟨_, rfl⟩
            rw [hwq] at s5 s4 hbz2 ⊢
            clear hwq
            replace s5 := hide s5; replace s4 := hide s4; replace hbz2 := hide hbz2
            go_simp
            go_wp2_with fail
            go_roundw
            case rel => exact ⟨k + 1, by omega, by go_num, by rw [unhide hN2, unhide hD2]; exact unhide s5, unhide s4, unhide hbz2⟩
            case measure => simp [intOf]; omega
      · have hke : k = n := by omega
        subst hke
        have g0 : wo.cell? ⟨b4, 0, none⟩ = some (.int .i64 0) := (cell_of_row _ _ 0 _ _ _ h4).trans rfl
        have g1 : wo.cell? ⟨b4, 1, none⟩ = some (.int .i64 0) := (cell_of_row _ _ 1 _ _ _ h4).trans rfl
        obtain ⟨N1, hN1⟩ : ∃ x, (scalP l u k).num = x := ⟨_, rfl⟩
        obtain ⟨D1, hD1⟩ : ∃ x, ((scalP l u k).den : Int) = x := ⟨_, rfl⟩
        rw [hN1] at e0
        rw [hD1] at e1
        have z0 : wo.frozen? ⟨b4, 0, none⟩ = false := by simp [World.frozen?, h4]
        have s1 := heap_set (off := 0) h4 (.int .i64 N1)
        have s2 := heap_set (off := 1) s1 (.int .i64 D1)
        have g1' : (wo.setCell ⟨b4, 0, none⟩ (.int .i64 N1)).cell? ⟨b4, 1, none⟩ = some (.int .i64 0) := (cell_of_row _ _ 1 _ _ _ s1).trans rfl
        have z1' : (wo.setCell ⟨b4, 0, none⟩ (.int .i64 N1)).frozen? ⟨b4, 1, none⟩ = false := by simp [World.frozen?, s1]
        have y0 : ((wo.setCell ⟨b4, 0, none⟩ (.int .i64 N1)).setCell ⟨b4, 1, none⟩ (.int .i64 D1)).cell? ⟨b4, 0, none⟩ = some (.int .i64 N1) := (cell_of_row _ _ 0 _ _ _ s2).trans rfl
        have y1 : ((wo.setCell ⟨b4, 0, none⟩ (.int .i64 N1)).setCell ⟨b4, 1, none⟩ (.int .i64 D1)).cell? ⟨b4, 1, none⟩ = some (.int .i64 D1) := (cell_of_row _ _ 1 _ _ _ s2).trans rfl
        have gs1 := grown_set (w := wo) b4 0 (.int .i64 N1)
        have gs2 := grown_set (w := wo.setCell ⟨b4, 0, none⟩ (.int .i64 N1)) b4 1 (.int .i64 D1)
        have hbz2 := hbw.trans ((⟨gs1.os, gs1.tape, gs1.output, gs1.size, fun b hb => gs1.block b (Nat.lt_of_lt_of_le hb hbw.size) (fun e => by injection e; omega)⟩ : Below w.heap.size wo _).trans ⟨gs2.os, gs2.tape, gs2.output, gs2.size, fun b hb => gs2.block b (Nat.lt_of_lt_of_le hb (Nat.le_trans hbw.size gs1.size)) (fun e => by injection e; omega)⟩)
        clear s1 s2 gs1 gs2 h4 h5 hbw
        replace hbz2 := hide hbz2; replace hN1 := hide hN1; replace hD1 := hide hD1; replace y0 := hide y0; replace y1 := hide y1
        go_wp2_with fail
        replace y0 := unhide y0; replace y1 := unhide y1
        refine bodyPost_ret (v := .agg #[.int .i64 N1, .int .i64 D1]) (by simp [results, Try.results65, go_sem, y0, y1]) rfl ⟨by rw [unhide hN1, unhide hD1], unhide hbz2⟩
end Go.Proofs.Ytbodidhggdggmaa
-- @@XAx13
/- Tents: the regions that numbers make. -/
namespace Go.Proofs.Ytbodidhggdggmaa
open Go.RowKit
theorem info_tent : (Try.prog.info? 63).map (fun i => (i.zero, i.size, i.bytes)) = some (some (.agg #[.int .i64 0, .int .i64 0, .int .i64 0]), 3, 24) := by kernel_rfl
abbrev tcell (t : Tent) : List Value := [.int .i64 t.1, .int .i64 t.2.1, .int .i64 t.2.2]
theorem tent_rep {W : World} {S : Nat → Prop} {t : Tent} (h1 : I64 t.1) (h2 : I64 t.2.1) (h3 : I64 t.2.2) : Enc.tent.rep W S (tcell t) t := ⟨[.int .i64 t.1], _, rfl, ⟨rfl, h1⟩, [.int .i64 t.2.1], _, rfl, ⟨rfl, h2⟩, rfl, h3⟩
end Go.Proofs.Ytbodidhggdggmaa
-- @@XAx14
/- Axes and tents: the law's sanity. -/
namespace Go.Proofs.Ytbodidhggdggmaa
open Go.RowKit
abbrev axW : Axis := (⟨#[119, 103, 104, 116]⟩, 100, 400, 900)
def nUs : List Int := [100, 250, 400, 500, 900, 2000]
def nNs : List Int := [(-64), (-32), 0, 13, 64, 64]
theorem axW_norm (k : Nat) (h : k < 6) : normS [axW] [nUs.getD k 0] = ([nNs.getD k 0], 0) := by
  obtain rfl | rfl | rfl | rfl | rfl | rfl : k = 0 ∨ k = 1 ∨ k = 2 ∨ k = 3 ∨ k = 4 ∨ k = 5 := by omega
  all_goals kernel_rfl
theorem scal_lit {w : World} {bt bu nt nu : Nat} {l : List Tent} {u : List Int} {r : Int × Int} (hl : Lst Enc.tent w (· < w.heap.size) (some ⟨bt, 0, none⟩) nt l) (hu : Lst Enc.int w (· < w.heap.size) (some ⟨bu, 0, none⟩) nu u) (hn : nt ≤ 4) (hun : nu ≤ 1000) (hr : scalS l u = r) :
    Calls Try.prog 65 #[.slice (some ⟨bt, 0, none⟩) nt nt, .slice (some ⟨bu, 0, none⟩) nu nu] w fun e w' => e = .returned (.agg #[.int .i64 r.1, .int .i64 r.2]) ∧ Below w.heap.size w w' := by
  subst hr
  exact scalar_any _ nt nt l _ nu nu u w hl hu hn (by omega)
theorem tent_lst {w : World} {b : Nat} {l : List Tent} {cs : List Value} (h : w.heap[b]? = some (.cells cs.toArray 63 (0, 0))) (hc : cs = (l.map tcell).flatten) (hi : (l.all fun t => decide ((-1000 ≤ t.1 ∧ t.1 ≤ 1000) ∧ (-1000 ≤ t.2.1 ∧ t.2.1 ≤ 1000) ∧ -1000 ≤ t.2.2 ∧ t.2.2 ≤ 1000)) = true) : Lst Enc.tent w (· < w.heap.size) (some ⟨b, 0, none⟩) l.length l := by
  refine lst_flat h ?_ (Array.getElem?_eq_some_iff.1 h).1
  subst hc
  clear h
  induction l with
  | nil => rfl
  | cons t l ih =>
    rw [List.all_cons, Bool.and_eq_true] at hi
    have ht := of_decide_eq_true hi.1
    exact ⟨tcell t, _, rfl, tent_rep ⟨by omega, by omega⟩ ⟨by omega, by omega⟩ ⟨by omega, by omega⟩, ih hi.2⟩
theorem i64_lit (l : List Int) (h : (l.all fun x => decide (-1000 ≤ x ∧ x ≤ 1000)) = true) : ∀ x ∈ l, I64 x := fun x hx => by
  have := of_decide_eq_true (List.all_eq_true.1 h x hx)
  exact ⟨by omega, by omega⟩
theorem fits_lit {w : World} {bt nt : Nat} {l : List Tent} {r : Bool} (hl : Lst Enc.tent w (· < w.heap.size) (some ⟨bt, 0, none⟩) nt l) (hn : nt ≤ 4) (hr : fitsS l 1 = r) :
    Calls Try.prog 44 #[.slice (some ⟨bt, 0, none⟩) nt nt, .int .i64 1] w fun e w' => e = .returned (.bool r) ∧ Below w.heap.size w w' := by
  subst hr
  exact fits_any _ nt nt l 1 w hl (by omega)
theorem st_keep {V W : World} {b : Nat} {o x : Obj} (h : V.heap[b]? = some x) (hV : V.alloc o = W) : W.heap[b]? = some x := by
  rw [← hV]
  exact (((Below.refl V.heap.size V).alloc (Nat.le_refl _) o).block b (Array.getElem?_eq_some_iff.1 h).1).trans h
end Go.Proofs.Ytbodidhggdggmaa
-- @@XAx15
/- Tents: Scalar, the reference's. -/
namespace Go.Proofs.Ytbodidhggdggmaa
open Go.RowKit
theorem rmul_small (q : Rat) (n d : Int) (w : World) (h1 : 0 ≤ q.num) (h2 : q.num ≤ 268435456) (h3 : q.den ≤ 268435456) (h4 : 0 ≤ n ∧ n ≤ 128) (h5 : 1 ≤ d ∧ d ≤ 128) (h6 : 0 ≤ (q * Ex.rat n d).num) (h7 : (q * Ex.rat n d).num ≤ 268435456) (h8 : (q * Ex.rat n d).den ≤ 268435456) :
    Calls Try.prog 54 #[.agg #[.int .i64 q.num, .int .i64 q.den], .agg #[.int .i64 n, .int .i64 d]] w fun e w' => e = .returned (.tuple #[.agg #[.int .i64 (q * Ex.rat n d).num, .int .i64 (q * Ex.rat n d).den], .bool true]) ∧ Below w.heap.size w w' := by
  have hdp := q.den_pos
  have := rmul_ok q.num q.den n d w ⟨by omega, by omega⟩ ⟨by omega, by omega⟩ ⟨by omega, by omega⟩ ⟨by omega, by omega⟩ (by omega) h5.1
  have e : Ex.mulS q.num q.den n d = some ((q * Ex.rat n d).num, ((q * Ex.rat n d).den : Int)) := by
    unfold Ex.mulS
    rw [if_neg (by omega), rat_self, fit_small h6 h7 h8]
  rw [e] at this
  exact this
set_option maxHeartbeats 8000000 in
set_option maxRecDepth 100000 in
theorem rscalar_any (a : Option Addr) (n c : Nat) (l : List Tent) (ua : Option Addr) (un uc : Nat) (u : List Int) (w : World) (hl : Lst Enc.tent w (· < w.heap.size) a n l) (hu : Lst Enc.int w (· < w.heap.size) ua un u) (hn : n ≤ 4) (_ : un ≤ 1000000000000) :
    Calls Try.prog 27 #[.slice a n c, .slice ua un uc] w fun e w' => e = .returned (.agg #[.int .i64 (scalS l u).1, .int .i64 (scalS l u).2]) ∧ Below w.heap.size w w' := by
  have hll := hl.1
  have hul := hu.1
  obtain ⟨b4, V, hb4, hV, st⟩ := (St.start w).new (Obj.cells #[.int .i64 0, .int .i64 0] 60)
  have hc := rfits_any a n c l (n : Int) V (hl.under st.below) (by omega)
  have hfs : fitsS l (n : Int) = allV l := by unfold fitsS; rw [decide_eq_true (by rw [hll]), Bool.true_and]
  rw [hfs] at hc
  have h4 := st.get 0 rfl
  have hbV := st.below
  have hb4w : w.heap.size ≤ b4 := by omega
  clear st hfs
  replace hl := hide hl; replace hu := hide hu
  cases hv : allV l with
  | false =>
    have hfin : scalS l u = (0, 0) := by unfold scalS; rw [hv]; rfl
    rw [hfin]
    rw [hv] at hc
    replace hc := hide hc; replace hV := hide hV; replace hb4 := hide hb4; replace hbV := hide hbV; replace hv := hide hv; replace hfin := hide hfin; replace hll := hide hll; replace hul := hide hul; replace h4 := hide h4
    clear hl hu
    go_enter Try.func27, Try.ntmps27
    go_wp2_with fail
    rw [unhide hV, unhide hb4]
    refine (unhide hc).mono ?_
    rintro e w1 ⟨rfl, hb⟩
    have hr4 := (hb.block b4 (Array.getElem?_eq_some_iff.1 (unhide h4)).1).trans (unhide h4)
    have hbz := (unhide hbV).trans (hb.mono (unhide hbV).size)
    have f0 : w1.cell? ⟨b4, 0, none⟩ = some (.int .i64 0) := (cell_of_row _ _ 0 _ _ _ hr4).trans rfl
    have f1 : w1.cell? ⟨b4, 1, none⟩ = some (.int .i64 0) := (cell_of_row _ _ 1 _ _ _ hr4).trans rfl
    have g0 : w1.frozen? ⟨b4, 0, none⟩ = false := by simp [World.frozen?, hr4]
    have g1 : w1.frozen? ⟨b4, 1, none⟩ = false := by simp [World.frozen?, hr4]
    have es0 : w1.setCell ⟨b4, 0, none⟩ (.int .i64 0) = w1 := set_same hr4 rfl
    have es1 : w1.setCell ⟨b4, 1, none⟩ (.int .i64 0) = w1 := set_same hr4 rfl
    clear hc hr4 hb hbV
    replace hbz := hide hbz
    go_wp2_with fail
    refine bodyPost_ret (v := .agg #[.int .i64 0, .int .i64 0]) (by simp [results, Try.results27, go_sem, f0, f1]) rfl ⟨rfl, unhide hbz⟩
  | true =>
    have hfin : scalS l u = ((scalP l u n).num, ((scalP l u n).den : Int)) := by unfold scalS; rw [hv, hll]; rfl
    rw [hfin]
    rw [hv] at hc
    replace hc := hide hc; replace hV := hide hV; replace hb4 := hide hb4; replace hbV := hide hbV; replace hv := hide hv; replace hfin := hide hfin; replace hll := hide hll; replace hul := hide hul; replace h4 := hide h4
    go_enter Try.func27, Try.ntmps27
    go_wp2_with fail
    rw [unhide hV, unhide hb4]
    refine (unhide hc).mono ?_
    rintro e w1 ⟨rfl, hb⟩
    obtain ⟨b5, W, hb5, hW, st⟩ := (St.start w1).new (Obj.cells #[.int .i64 1, .int .i64 1] 60)
    have h5 := st.get 0 rfl
    have hb2 := hb.trans (st.below.mono hb.size)
    have h4b := (hb2.block b4 (Array.getElem?_eq_some_iff.1 (unhide h4)).1).trans (unhide h4)
    have hbW := (unhide hbV).trans (hb2.mono (unhide hbV).size)
    have hb45 : b4 < b5 := by have := (Array.getElem?_eq_some_iff.1 (unhide h4)).1; have := hb.size; omega
    clear hc hb hb2 st hbV h4
    replace hb5 := hide hb5; replace hW := hide hW; replace h5 := hide h5; replace h4b := hide h4b; replace hbW := hide hbW
    go_wp2_with fail
    rw [unhide hW, unhide hb5]
    go_loopw [6] (fun v wr => ∃ k : Nat, k ≤ n ∧ v = .int .i64 (k : Int) ∧ wr.heap[b5]? = some (.cells #[.int .i64 (scalP l u k).num, .int .i64 (scalP l u k).den] 60 (0, 0)) ∧ wr.heap[b4]? = some (.cells #[.int .i64 0, .int .i64 0] 60 (0, 0)) ∧ Below w.heap.size w wr) (fun v _ => n - (intOf v).toNat)
    case atStart => exact ⟨0, by omega, rfl, unhide h5, unhide h4b, unhide hbW⟩
    case round =>
      clear h5 h4b hbW
      obtain ⟨k, hk, rfl, h5, h4, hbw⟩ := hrel
      obtain ⟨wo, rfl⟩ : ∃ wo : World, wo = wr := ⟨_, rfl⟩
      have e0 : wo.cell? ⟨b5, 0, none⟩ = some (.int .i64 (scalP l u k).num) := (cell_of_row _ _ 0 _ _ _ h5).trans rfl
      have e1 : wo.cell? ⟨b5, 1, none⟩ = some (.int .i64 (scalP l u k).den) := (cell_of_row _ _ 1 _ _ _ h5).trans rfl
      by_cases hlt : k < n
      · obtain ⟨b1, o1, t, rfl, _, hx, i1, i2, i3, c0, c1, c2⟩ := lst_tent ((unhide hl).below hbw) hlt
        have hsc := scalP_succ (at_ := u) hx
        obtain ⟨m1, m2, m3⟩ := scalP_bd u (unhide hv) k (by have := unhide hll; omega)
        obtain ⟨m4, m5, m6⟩ := scalP_bd u (unhide hv) (k + 1) (by have := unhide hll; omega)
        have p1 := pow_le4 (k := k) (by omega)
        have p2 := pow_le4 (k := k + 1) (by omega)
        have hval : validS t.1 t.2.1 t.2.2 = true := by
          have := unhide hv
          unfold allV at this
          exact List.all_eq_true.1 this t (List.mem_of_getElem? hx)
        obtain ⟨lo, p, hi⟩ := t
        simp only at c0 c1 c2 hval
        obtain ⟨v1, v2, v3, v4, _⟩ := valid_facts hval
        have hpr := posAt_rng u k
        obtain ⟨vv, hvv⟩ : ∃ vv, posAt u k = vv := ⟨_, rfl⟩
        rw [hvv] at hpr hsc
        have hcv := fun w => rvalue_any lo p hi vv w v1 v2 v3 v4 hpr
        have hbd := valS_bd (v := vv) hval
        have htq : tq (lo, p, hi) vv = Ex.rat (valS lo p hi vv).1 (valS lo p hi vv).2 := rfl
        obtain ⟨nn, hnn⟩ : ∃ x, (valS lo p hi vv).1 = x := ⟨_, rfl⟩
        obtain ⟨d, hd⟩ : ∃ x, (valS lo p hi vv).2 = x := ⟨_, rfl⟩
        rw [hnn, hd] at hbd htq
        simp only [hnn, hd] at hcv
        rw [htq] at hsc
        rw [hsc] at m4 m5 m6
        have hcm := fun w => rmul_small (scalP l u k) nn d w m1 (by omega) (by omega) ⟨hbd.1, by omega⟩ ⟨hbd.2.2.1, hbd.2.2.2⟩ m4 (by omega) (by omega)
        obtain ⟨N1, hN1⟩ : ∃ x, (scalP l u k).num = x := ⟨_, rfl⟩
        obtain ⟨D1, hD1⟩ : ∃ x, ((scalP l u k).den : Int) = x := ⟨_, rfl⟩
        obtain ⟨N2, hN2'⟩ : ∃ x, (scalP l u k * Ex.rat nn d).num = x := ⟨_, rfl⟩
        obtain ⟨D2, hD2'⟩ : ∃ x, ((scalP l u k * Ex.rat nn d).den : Int) = x := ⟨_, rfl⟩
        have hN2 : (scalP l u (k + 1)).num = N2 := by rw [hsc, hN2']
        have hD2 : ((scalP l u (k + 1)).den : Int) = D2 := by rw [hsc, hD2']
        rw [hN1] at e0 h5
        rw [hD1] at e1 h5
        simp only [hN1, hD1, hN2', hD2'] at hcm
        clear hN1 hD1 hN2' hD2' hsc htq hbd hnn hd m1 m2 m3 m4 m5 m6 p1 p2 v1 v2 v3 v4 hval i1 i2 i3 hpr
        have huk := (unhide hu).below hbw
        have t1 : (k : Int) < (n : Int) := by omega
        have t2 : ¬ (n : Int) ≤ (k : Int) := by omega
        clear hx
        replace h5 := hide h5; replace h4 := hide h4; replace hbw := hide hbw
        replace hcv := hide hcv; replace hcm := hide hcm; replace hN2 := hide hN2; replace hD2 := hide hD2
        by_cases hun2 : k < un
        · obtain ⟨b2, o2, y, rfl, _, hy, _, c4⟩ := lst_int huk hun2
          have hlim := rlimited_any y wo
          have hvy : limS y = vv := by rw [← hvv]; unfold posAt; rw [hy]
          rw [hvy] at hlim
          have t3 : (k : Int) < (un : Int) := by omega
          have t4 : ¬ (un : Int) ≤ (k : Int) := by omega
          clear hy hvy huk
          replace hlim := hide hlim; replace hvv := hide hvv
          go_wp2_with fail
          refine (unhide hlim).mono ?_
          rintro e wv ⟨rfl, ew⟩
          rw [ew]
          clear hlim ew c4
          go_wp2_with fail
          refine wp_region_frontG 12 (fun LL vs w' => CS wo 11 [0, 1, 2, 3, 4, 5, 6, 7, 8, 9] (fun wz => (wz.setCell ⟨b5, 0, none⟩ (.int .i64 N2)).setCell ⟨b5, 1, none⟩ (.int .i64 D2)) LL vs w') (fun _ _ => True)
            (fun ix v w' => match ix with
              | 0 => v = .agg #[.int .i64 N1, .int .i64 D1]
              | 1 => v = .slice (some ⟨b1, o1, none⟩) n c
              | 2 => v = .int .i64 (k : Int)
              | 3 => v = .pointer (some ⟨b1, o1 + k * 3, none⟩)
              | 4 => v = .agg #[.int .i64 lo, .int .i64 p, .int .i64 hi]
              | 5 => v = .int .i64 vv
              | 6 => v = .agg #[.int .i64 nn, .int .i64 d]
              | 7 => v = .tuple #[.agg #[.int .i64 N2, .int .i64 D2], .bool true]
              | 8 => v = .tuple #[.agg #[.int .i64 N2, .int .i64 D2], .bool true]
              | 9 => v = .agg #[.int .i64 N2, .int .i64 D2]
              | 10 => v = .bool true
              | 11 => v = .bool true
              | _ => True) (by rfl) (by kernel_rfl) ?_ ?_ ?_ ?_
          · exact CS.start _ _ _ _
          · intro wa wb hRN ix v hv
            match ix, hv with
            | 0, h => exact h
            | 1, h => exact h
            | 2, h => exact h
            | 3, h => exact h
            | 4, h => exact h
            | 5, h => exact h
            | 6, h => exact h
            | 7, h => exact h
            | 8, h => exact h
            | 9, h => exact h
            | 10, h => exact h
            | 11, h => exact h
            | _ + 12, _ => trivial
          · intro ix hix
            obtain rfl | rfl | rfl | rfl | rfl | rfl | rfl | rfl | rfl | rfl | rfl | rfl : ix = 0 ∨ ix = 1 ∨ ix = 2 ∨ ix = 3 ∨ ix = 4 ∨ ix = 5 ∨ ix = 6 ∨ ix = 7 ∨ ix = 8 ∨ ix = 9 ∨ ix = 10 ∨ ix = 11 := by omega
            · refine FrontStep.of [] _ rfl (by kernel_rfl) ?_
              intro vs LL wq hLL hC hf
              simp only [putL, List.foldl_nil]
              have hE := (hC.early (j := 0) hLL (by decide)).2
              have f0 := cell_under e0 hE
              have f1 := cell_under e1 hE
              clear hE
              go_wp2_with fail
              first | exact hC.keep 0 _ (by decide) | exact ⟨hC.keep 0 _ (by decide), trivial⟩ | exact ⟨hC.keep 0 _ (by decide), trivial, by omega⟩
            · refine FrontStep.of [] _ rfl (by kernel_rfl) ?_
              intro vs LL wq hLL hC hf
              simp only [putL, List.foldl_nil]
              go_wp2_with fail
              first | exact hC.keep 1 _ (by decide) | exact ⟨hC.keep 1 _ (by decide), trivial⟩ | exact ⟨hC.keep 1 _ (by decide), trivial, by omega⟩
            · refine FrontStep.of [] _ rfl (by kernel_rfl) ?_
              intro vs LL wq hLL hC hf
              simp only [putL, List.foldl_nil]
              go_wp2_with fail
              first | exact hC.keep 2 _ (by decide) | exact ⟨hC.keep 2 _ (by decide), trivial⟩ | exact ⟨hC.keep 2 _ (by decide), trivial, by omega⟩
            · refine FrontStep.of [1, 2] _ rfl (by kernel_rfl) ?_
              intro vs LL wq hLL hC hf
              simp only [putL, List.foldl_nil, List.foldl_cons, List.getElem?_cons_zero, List.getElem?_cons_succ]
              have y1 : vs 1 = _ := hf 1 (by simp)
              try rw [y1]
              have y2 : vs 2 = _ := hf 2 (by simp)
              try rw [y2]
              go_wp2_with fail
              first | exact hC.keep 3 _ (by decide) | exact ⟨hC.keep 3 _ (by decide), trivial⟩ | exact ⟨hC.keep 3 _ (by decide), trivial, by omega⟩
            · refine FrontStep.of [3] _ rfl (by kernel_rfl) ?_
              intro vs LL wq hLL hC hf
              simp only [putL, List.foldl_nil, List.foldl_cons, List.getElem?_cons_zero, List.getElem?_cons_succ]
              have y3 : vs 3 = _ := hf 3 (by simp)
              try rw [y3]
              have hE := (hC.early (j := 4) hLL (by decide)).2
              have f0 := cell_under c0 hE
              have f1 := cell_under c1 hE
              have f2 := cell_under c2 hE
              clear hE
              go_wp2_with fail
              first | exact hC.keep 4 _ (by decide) | exact ⟨hC.keep 4 _ (by decide), trivial⟩ | exact ⟨hC.keep 4 _ (by decide), trivial, by omega⟩
            · refine FrontStep.of [] _ rfl (by kernel_rfl) ?_
              intro vs LL wq hLL hC hf
              simp only [putL, List.foldl_nil]
              go_wp2_with fail
              first | exact hC.keep 5 _ (by decide) | exact ⟨hC.keep 5 _ (by decide), trivial⟩ | exact ⟨hC.keep 5 _ (by decide), trivial, by omega⟩
            · refine FrontStep.of [4, 5] _ rfl (by kernel_rfl) ?_
              intro vs LL wq hLL hC hf
              simp only [putL, List.foldl_nil, List.foldl_cons, List.getElem?_cons_zero, List.getElem?_cons_succ]
              have y4 : vs 4 = _ := hf 4 (by simp)
              try rw [y4]
              have y5 : vs 5 = _ := hf 5 (by simp)
              try rw [y5]
              have hcq := unhide hcv wq
              replace hcq := hide hcq
              go_wp2_with fail
              refine (unhide hcq).mono ?_
              rintro e wz ⟨rfl, hbz⟩
              clear hcq
              go_wp2_with fail
              first | exact ⟨hC.call 6 _ hLL (by decide) (by decide) hbz, trivial⟩ | exact hC.call 6 _ hLL (by decide) (by decide) hbz
            · refine FrontStep.of [0, 6] _ rfl (by kernel_rfl) ?_
              intro vs LL wq hLL hC hf
              simp only [putL, List.foldl_nil, List.foldl_cons, List.getElem?_cons_zero, List.getElem?_cons_succ]
              have y0 : vs 0 = _ := hf 0 (by simp)
              try rw [y0]
              have y6 : vs 6 = _ := hf 6 (by simp)
              try rw [y6]
              have hcq := unhide hcm wq
              replace hcq := hide hcq
              go_wp2_with fail
              refine (unhide hcq).mono ?_
              rintro e wz ⟨rfl, hbz⟩
              clear hcq
              go_wp2_with fail
              first | exact ⟨hC.call 7 _ hLL (by decide) (by decide) hbz, trivial⟩ | exact hC.call 7 _ hLL (by decide) (by decide) hbz
            · refine FrontStep.of [7] _ rfl (by kernel_rfl) ?_
              intro vs LL wq hLL hC hf
              simp only [putL, List.foldl_nil, List.foldl_cons, List.getElem?_cons_zero, List.getElem?_cons_succ]
              have y7 : vs 7 = _ := hf 7 (by simp)
              try rw [y7]
              go_wp2_with fail
              first | exact hC.keep 8 _ (by decide) | exact ⟨hC.keep 8 _ (by decide), trivial⟩ | exact ⟨hC.keep 8 _ (by decide), trivial, by omega⟩
            · refine FrontStep.of [8] _ rfl (by kernel_rfl) ?_
              intro vs LL wq hLL hC hf
              simp only [putL, List.foldl_nil, List.foldl_cons, List.getElem?_cons_zero, List.getElem?_cons_succ]
              have y8 : vs 8 = _ := hf 8 (by simp)
              try rw [y8]
              go_wp2_with fail
              first | exact hC.keep 9 _ (by decide) | exact ⟨hC.keep 9 _ (by decide), trivial⟩ | exact ⟨hC.keep 9 _ (by decide), trivial, by omega⟩
            · refine FrontStep.of [8] _ rfl (by kernel_rfl) ?_
              intro vs LL wq hLL hC hf
              simp only [putL, List.foldl_nil, List.foldl_cons, List.getElem?_cons_zero, List.getElem?_cons_succ]
              have y8 : vs 8 = _ := hf 8 (by simp)
              try rw [y8]
              go_wp2_with fail
              first | exact hC.keep 10 _ (by decide) | exact ⟨hC.keep 10 _ (by decide), trivial⟩ | exact ⟨hC.keep 10 _ (by decide), trivial, by omega⟩
            · refine FrontStep.of [0, 1, 2, 3, 4, 5, 6, 7, 8, 9] _ rfl (by kernel_rfl) ?_
              intro vs LL wq hLL hC hf
              simp only [putL, List.foldl_nil, List.foldl_cons, List.getElem?_cons_zero, List.getElem?_cons_succ]
              have y0 : vs 0 = _ := hf 0 (by simp)
              try rw [y0]
              have y1 : vs 1 = _ := hf 1 (by simp)
              try rw [y1]
              have y2 : vs 2 = _ := hf 2 (by simp)
              try rw [y2]
              have y3 : vs 3 = _ := hf 3 (by simp)
              try rw [y3]
              have y4 : vs 4 = _ := hf 4 (by simp)
              try rw [y4]
              have y5 : vs 5 = _ := hf 5 (by simp)
              try rw [y5]
              have y6 : vs 6 = _ := hf 6 (by simp)
              try rw [y6]
              have y7 : vs 7 = _ := hf 7 (by simp)
              try rw [y7]
              have y8 : vs 8 = _ := hf 8 (by simp)
              try rw [y8]
              have y9 : vs 9 = _ := hf 9 (by simp)
              try rw [y9]
              have hcalm := hC.calm hLL
              have hr5 := (hcalm.block b5 (Array.getElem?_eq_some_iff.1 (unhide h5)).1).trans (unhide h5)
              have f0 : wq.cell? ⟨b5, 0, none⟩ = some (.int .i64 N1) := (cell_of_row _ _ 0 _ _ _ hr5).trans rfl
              have f1 : wq.cell? ⟨b5, 1, none⟩ = some (.int .i64 D1) := (cell_of_row _ _ 1 _ _ _ hr5).trans rfl
              have g0 : wq.frozen? ⟨b5, 0, none⟩ = false := by simp [World.frozen?, hr5]
              have g1 : wq.frozen? ⟨b5, 1, none⟩ = false := by simp [World.frozen?, hr5]
              have f1' : (wq.setCell ⟨b5, 0, none⟩ (.int .i64 N2)).cell? ⟨b5, 1, none⟩ = some (.int .i64 D1) := (cell_of_row _ _ 1 _ _ _ (heap_set (off := 0) hr5 (.int .i64 N2))).trans rfl
              have g1' : (wq.setCell ⟨b5, 0, none⟩ (.int .i64 N2)).frozen? ⟨b5, 1, none⟩ = false := by simp [World.frozen?, heap_set (off := 0) hr5 (.int .i64 N2)]
              clear hr5 hcalm
              have hnx := hC.store (.bool true) hLL (fun j hj => by simp at hj; rcases hj with rfl | rfl | rfl | rfl | rfl | rfl | rfl | rfl | rfl | rfl <;> first | (rw [y0]; exact fun h => by cases h) | (rw [y1]; exact fun h => by cases h) | (rw [y2]; exact fun h => by cases h) | (rw [y3]; exact fun h => by cases h) | (rw [y4]; exact fun h => by cases h) | (rw [y5]; exact fun h => by cases h) | (rw [y6]; exact fun h => by cases h) | (rw [y7]; exact fun h => by cases h) | (rw [y8]; exact fun h => by cases h) | (rw [y9]; exact fun h => by cases h))
              replace hnx := hide hnx
              clear y0 y1 y2 y3 y4 y5 y6 y7 y8 y9
              go_wp2_with fail
              first | exact ⟨.bool true, unhide hnx⟩ | exact ⟨.bool true, rfl, unhide hnx, trivial, rfl⟩ | exact unhide hnx | exact ⟨.bool true, unhide hnx, trivial⟩
          · intro vs LL wq hLL hC hf
            obtain ⟨wz, hC2, hwq⟩ := hC.fin (hLL 11 (by omega))
            rw [putSome_all]
            simp only [putL, List.range, List.range.loop, List.foldl_nil, List.foldl_cons, List.getElem?_cons_zero, List.getElem?_cons_succ, List.drop_succ_cons, List.drop_zero]
            clear hf hLL hC
            subst hwq
            have hr5 := (hC2.block b5 (Array.getElem?_eq_some_iff.1 (unhide h5)).1).trans (unhide h5)
            have hr4 := (hC2.block b4 (Array.getElem?_eq_some_iff.1 (unhide h4)).1).trans (unhide h4)
            have hbz := (unhide hbw).trans (hC2.mono (unhide hbw).size)
            have s5 := heap_set (off := 1) (heap_set (off := 0) hr5 (.int .i64 N2)) (.int .i64 D2)
            have gs1 := grown_set (w := wz) b5 0 (.int .i64 N2)
            have gs2 := grown_set (w := wz.setCell ⟨b5, 0, none⟩ (.int .i64 N2)) b5 1 (.int .i64 D2)
            have s4 := (gs2.block b4 (Nat.lt_of_lt_of_le (Array.getElem?_eq_some_iff.1 hr4).1 gs1.size) (fun e => by injection e; omega)).trans ((gs1.block b4 (Array.getElem?_eq_some_iff.1 hr4).1 (fun e => by injection e; omega)).trans hr4)
            have hbz2 := hbz.trans ((⟨gs1.os, gs1.tape, gs1.output, gs1.size, fun b hb => gs1.block b (Nat.lt_of_lt_of_le hb hbz.size) (fun e => by injection e; omega)⟩ : Below w.heap.size wz _).trans ⟨gs2.os, gs2.tape, gs2.output, gs2.size, fun b hb => gs2.block b (Nat.lt_of_lt_of_le hb (Nat.le_trans hbz.size gs1.size)) (fun e => by injection e; omega)⟩)
            clear hr5 hr4 hbz gs1 gs2 hC2 h5 h4 hbw hcv hcm e0 e1 c0 c1 c2
            obtain ⟨wq, hwq⟩ : ∃ wq, (wz.setCell ⟨b5, 0, none⟩ (.int .i64 N2)).setCell ⟨b5, 1, none⟩ (.int .i64 D2) = wq := ⟨_, rfl⟩
            rw [hwq] at s5 s4 hbz2 ⊢
            clear hwq
            replace s5 := hide s5; replace s4 := hide s4; replace hbz2 := hide hbz2
            go_simp
            go_wp2_with fail
            go_roundw
            case rel => exact ⟨k + 1, by omega, by go_num, by rw [unhide hN2, unhide hD2]; exact unhide s5, unhide s4, unhide hbz2⟩
            case measure => simp [intOf]; omega
        · have hvz : vv = 0 := by rw [← hvv]; unfold posAt; rw [List.getElem?_eq_none (by have := unhide hul; omega)]
          subst hvz
          have t3 : ¬ (k : Int) < (un : Int) := by omega
          clear huk
          replace hvv := hide hvv
          go_wp2_with fail
          refine wp_region_frontG 12 (fun LL vs w' => CS wo 11 [0, 1, 2, 3, 4, 5, 6, 7, 8, 9] (fun wz => (wz.setCell ⟨b5, 0, none⟩ (.int .i64 N2)).setCell ⟨b5, 1, none⟩ (.int .i64 D2)) LL vs w') (fun _ _ => True)
            (fun ix v w' => match ix with
              | 0 => v = .agg #[.int .i64 N1, .int .i64 D1]
              | 1 => v = .slice (some ⟨b1, o1, none⟩) n c
              | 2 => v = .int .i64 (k : Int)
              | 3 => v = .pointer (some ⟨b1, o1 + k * 3, none⟩)
              | 4 => v = .agg #[.int .i64 lo, .int .i64 p, .int .i64 hi]
              | 5 => v = .int .i64 0
              | 6 => v = .agg #[.int .i64 nn, .int .i64 d]
              | 7 => v = .tuple #[.agg #[.int .i64 N2, .int .i64 D2], .bool true]
              | 8 => v = .tuple #[.agg #[.int .i64 N2, .int .i64 D2], .bool true]
              | 9 => v = .agg #[.int .i64 N2, .int .i64 D2]
              | 10 => v = .bool true
              | 11 => v = .bool true
              | _ => True) (by rfl) (by kernel_rfl) ?_ ?_ ?_ ?_
          · exact CS.start _ _ _ _
          · intro wa wb hRN ix v hv
            match ix, hv with
            | 0, h => exact h
            | 1, h => exact h
            | 2, h => exact h
            | 3, h => exact h
            | 4, h => exact h
            | 5, h => exact h
            | 6, h => exact h
            | 7, h => exact h
            | 8, h => exact h
            | 9, h => exact h
            | 10, h => exact h
            | 11, h => exact h
            | _ + 12, _ => trivial
          · intro ix hix
            obtain rfl | rfl | rfl | rfl | rfl | rfl | rfl | rfl | rfl | rfl | rfl | rfl : ix = 0 ∨ ix = 1 ∨ ix = 2 ∨ ix = 3 ∨ ix = 4 ∨ ix = 5 ∨ ix = 6 ∨ ix = 7 ∨ ix = 8 ∨ ix = 9 ∨ ix = 10 ∨ ix = 11 := by omega
            · refine FrontStep.of [] _ rfl (by kernel_rfl) ?_
              intro vs LL wq hLL hC hf
              simp only [putL, List.foldl_nil]
              have hE := (hC.early (j := 0) hLL (by decide)).2
              have f0 := cell_under e0 hE
              have f1 := cell_under e1 hE
              clear hE
              go_wp2_with fail
              first | exact hC.keep 0 _ (by decide) | exact ⟨hC.keep 0 _ (by decide), trivial⟩ | exact ⟨hC.keep 0 _ (by decide), trivial, by omega⟩
            · refine FrontStep.of [] _ rfl (by kernel_rfl) ?_
              intro vs LL wq hLL hC hf
              simp only [putL, List.foldl_nil]
              go_wp2_with fail
              first | exact hC.keep 1 _ (by decide) | exact ⟨hC.keep 1 _ (by decide), trivial⟩ | exact ⟨hC.keep 1 _ (by decide), trivial, by omega⟩
            · refine FrontStep.of [] _ rfl (by kernel_rfl) ?_
              intro vs LL wq hLL hC hf
              simp only [putL, List.foldl_nil]
              go_wp2_with fail
              first | exact hC.keep 2 _ (by decide) | exact ⟨hC.keep 2 _ (by decide), trivial⟩ | exact ⟨hC.keep 2 _ (by decide), trivial, by omega⟩
            · refine FrontStep.of [1, 2] _ rfl (by kernel_rfl) ?_
              intro vs LL wq hLL hC hf
              simp only [putL, List.foldl_nil, List.foldl_cons, List.getElem?_cons_zero, List.getElem?_cons_succ]
              have y1 : vs 1 = _ := hf 1 (by simp)
              try rw [y1]
              have y2 : vs 2 = _ := hf 2 (by simp)
              try rw [y2]
              go_wp2_with fail
              first | exact hC.keep 3 _ (by decide) | exact ⟨hC.keep 3 _ (by decide), trivial⟩ | exact ⟨hC.keep 3 _ (by decide), trivial, by omega⟩
            · refine FrontStep.of [3] _ rfl (by kernel_rfl) ?_
              intro vs LL wq hLL hC hf
              simp only [putL, List.foldl_nil, List.foldl_cons, List.getElem?_cons_zero, List.getElem?_cons_succ]
              have y3 : vs 3 = _ := hf 3 (by simp)
              try rw [y3]
              have hE := (hC.early (j := 4) hLL (by decide)).2
              have f0 := cell_under c0 hE
              have f1 := cell_under c1 hE
              have f2 := cell_under c2 hE
              clear hE
              go_wp2_with fail
              first | exact hC.keep 4 _ (by decide) | exact ⟨hC.keep 4 _ (by decide), trivial⟩ | exact ⟨hC.keep 4 _ (by decide), trivial, by omega⟩
            · refine FrontStep.of [] _ rfl (by kernel_rfl) ?_
              intro vs LL wq hLL hC hf
              simp only [putL, List.foldl_nil]
              go_wp2_with fail
              first | exact hC.keep 5 _ (by decide) | exact ⟨hC.keep 5 _ (by decide), trivial⟩ | exact ⟨hC.keep 5 _ (by decide), trivial, by omega⟩
            · refine FrontStep.of [4, 5] _ rfl (by kernel_rfl) ?_
              intro vs LL wq hLL hC hf
              simp only [putL, List.foldl_nil, List.foldl_cons, List.getElem?_cons_zero, List.getElem?_cons_succ]
              have y4 : vs 4 = _ := hf 4 (by simp)
              try rw [y4]
              have y5 : vs 5 = _ := hf 5 (by simp)
              try rw [y5]
              have hcq := unhide hcv wq
              replace hcq := hide hcq
              go_wp2_with fail
              refine (unhide hcq).mono ?_
              rintro e wz ⟨rfl, hbz⟩
              clear hcq
              go_wp2_with fail
              first | exact ⟨hC.call 6 _ hLL (by decide) (by decide) hbz, trivial⟩ | exact hC.call 6 _ hLL (by decide) (by decide) hbz
            · refine FrontStep.of [0, 6] _ rfl (by kernel_rfl) ?_
              intro vs LL wq hLL hC hf
              simp only [putL, List.foldl_nil, List.foldl_cons, List.getElem?_cons_zero, List.getElem?_cons_succ]
              have y0 : vs 0 = _ := hf 0 (by simp)
              try rw [y0]
              have y6 : vs 6 = _ := hf 6 (by simp)
              try rw [y6]
              have hcq := unhide hcm wq
              replace hcq := hide hcq
              go_wp2_with fail
              refine (unhide hcq).mono ?_
              rintro e wz ⟨rfl, hbz⟩
              clear hcq
              go_wp2_with fail
              first | exact ⟨hC.call 7 _ hLL (by decide) (by decide) hbz, trivial⟩ | exact hC.call 7 _ hLL (by decide) (by decide) hbz
            · refine FrontStep.of [7] _ rfl (by kernel_rfl) ?_
              intro vs LL wq hLL hC hf
              simp only [putL, List.foldl_nil, List.foldl_cons, List.getElem?_cons_zero, List.getElem?_cons_succ]
              have y7 : vs 7 = _ := hf 7 (by simp)
              try rw [y7]
              go_wp2_with fail
              first | exact hC.keep 8 _ (by decide) | exact ⟨hC.keep 8 _ (by decide), trivial⟩ | exact ⟨hC.keep 8 _ (by decide), trivial, by omega⟩
            · refine FrontStep.of [8] _ rfl (by kernel_rfl) ?_
              intro vs LL wq hLL hC hf
              simp only [putL, List.foldl_nil, List.foldl_cons, List.getElem?_cons_zero, List.getElem?_cons_succ]
              have y8 : vs 8 = _ := hf 8 (by simp)
              try rw [y8]
              go_wp2_with fail
              first | exact hC.keep 9 _ (by decide) | exact ⟨hC.keep 9 _ (by decide), trivial⟩ | exact ⟨hC.keep 9 _ (by decide), trivial, by omega⟩
            · refine FrontStep.of [8] _ rfl (by kernel_rfl) ?_
              intro vs LL wq hLL hC hf
              simp only [putL, List.foldl_nil, List.foldl_cons, List.getElem?_cons_zero, List.getElem?_cons_succ]
              have y8 : vs 8 = _ := hf 8 (by simp)
              try rw [y8]
              go_wp2_with fail
              first | exact hC.keep 10 _ (by decide) | exact ⟨hC.keep 10 _ (by decide), trivial⟩ | exact ⟨hC.keep 10 _ (by decide), trivial, by omega⟩
            · refine FrontStep.of [0, 1, 2, 3, 4, 5, 6, 7, 8, 9] _ rfl (by kernel_rfl) ?_
              intro vs LL wq hLL hC hf
              simp only [putL, List.foldl_nil, List.foldl_cons, List.getElem?_cons_zero, List.getElem?_cons_succ]
              have y0 : vs 0 = _ := hf 0 (by simp)
              try rw [y0]
              have y1 : vs 1 = _ := hf 1 (by simp)
              try rw [y1]
              have y2 : vs 2 = _ := hf 2 (by simp)
              try rw [y2]
              have y3 : vs 3 = _ := hf 3 (by simp)
              try rw [y3]
              have y4 : vs 4 = _ := hf 4 (by simp)
              try rw [y4]
              have y5 : vs 5 = _ := hf 5 (by simp)
              try rw [y5]
              have y6 : vs 6 = _ := hf 6 (by simp)
              try rw [y6]
              have y7 : vs 7 = _ := hf 7 (by simp)
              try rw [y7]
              have y8 : vs 8 = _ := hf 8 (by simp)
              try rw [y8]
              have y9 : vs 9 = _ := hf 9 (by simp)
              try rw [y9]
              have hcalm := hC.calm hLL
              have hr5 := (hcalm.block b5 (Array.getElem?_eq_some_iff.1 (unhide h5)).1).trans (unhide h5)
              have f0 : wq.cell? ⟨b5, 0, none⟩ = some (.int .i64 N1) := (cell_of_row _ _ 0 _ _ _ hr5).trans rfl
              have f1 : wq.cell? ⟨b5, 1, none⟩ = some (.int .i64 D1) := (cell_of_row _ _ 1 _ _ _ hr5).trans rfl
              have g0 : wq.frozen? ⟨b5, 0, none⟩ = false := by simp [World.frozen?, hr5]
              have g1 : wq.frozen? ⟨b5, 1, none⟩ = false := by simp [World.frozen?, hr5]
              have f1' : (wq.setCell ⟨b5, 0, none⟩ (.int .i64 N2)).cell? ⟨b5, 1, none⟩ = some (.int .i64 D1) := (cell_of_row _ _ 1 _ _ _ (heap_set (off := 0) hr5 (.int .i64 N2))).trans rfl
              have g1' : (wq.setCell ⟨b5, 0, none⟩ (.int .i64 N2)).frozen? ⟨b5, 1, none⟩ = false := by simp [World.frozen?, heap_set (off := 0) hr5 (.int .i64 N2)]
              clear hr5 hcalm
              have hnx := hC.store (.bool true) hLL (fun j hj => by simp at hj; rcases hj with rfl | rfl | rfl | rfl | rfl | rfl | rfl | rfl | rfl | rfl <;> first | (rw [y0]; exact fun h => by cases h) | (rw [y1]; exact fun h => by cases h) | (rw [y2]; exact fun h => by cases h) | (rw [y3]; exact fun h => by cases h) | (rw [y4]; exact fun h => by cases h) | (rw [y5]; exact fun h => by cases h) | (rw [y6]; exact fun h => by cases h) | (rw [y7]; exact fun h => by cases h) | (rw [y8]; exact fun h => by cases h) | (rw [y9]; exact fun h => by cases h))
              replace hnx := hide hnx
              clear y0 y1 y2 y3 y4 y5 y6 y7 y8 y9
              go_wp2_with fail
              first | exact ⟨.bool true, unhide hnx⟩ | exact ⟨.bool true, rfl, unhide hnx, trivial, rfl⟩ | exact unhide hnx | exact ⟨.bool true, unhide hnx, trivial⟩
          · intro vs LL wq hLL hC hf
            obtain ⟨wz, hC2, hwq⟩ := hC.fin (hLL 11 (by omega))
            rw [putSome_all]
            simp only [putL, List.range, List.range.loop, List.foldl_nil, List.foldl_cons, List.getElem?_cons_zero, List.getElem?_cons_succ, List.drop_succ_cons, List.drop_zero]
            clear hf hLL hC
            subst hwq
            have hr5 := (hC2.block b5 (Array.getElem?_eq_some_iff.1 (unhide h5)).1).trans (unhide h5)
            have hr4 := (hC2.block b4 (Array.getElem?_eq_some_iff.1 (unhide h4)).1).trans (unhide h4)
            have hbz := (unhide hbw).trans (hC2.mono (unhide hbw).size)
            have s5 := heap_set (off := 1) (heap_set (off := 0) hr5 (.int .i64 N2)) (.int .i64 D2)
            have gs1 := grown_set (w := wz) b5 0 (.int .i64 N2)
            have gs2 := grown_set (w := wz.setCell ⟨b5, 0, none⟩ (.int .i64 N2)) b5 1 (.int .i64 D2)
            have s4 := (gs2.block b4 (Nat.lt_of_lt_of_le (Array.getElem?_eq_some_iff.1 hr4).1 gs1.size) (fun e => by injection e; omega)).trans ((gs1.block b4 (Array.getElem?_eq_some_iff.1 hr4).1 (fun e => by injection e; omega)).trans hr4)
            have hbz2 := hbz.trans ((⟨gs1.os, gs1.tape, gs1.output, gs1.size, fun b hb => gs1.block b (Nat.lt_of_lt_of_le hb hbz.size) (fun e => by injection e; omega)⟩ : Below w.heap.size wz _).trans ⟨gs2.os, gs2.tape, gs2.output, gs2.size, fun b hb => gs2.block b (Nat.lt_of_lt_of_le hb (Nat.le_trans hbz.size gs1.size)) (fun e => by injection e; omega)⟩)
            clear hr5 hr4 hbz gs1 gs2 hC2 h5 h4 hbw hcv hcm e0 e1 c0 c1 c2
            obtain ⟨wq, hwq⟩ : ∃ wq, (wz.setCell ⟨b5, 0, none⟩ (.int .i64 N2)).setCell ⟨b5, 1, none⟩ (.int .i64 D2) = wq := ⟨_, rfl⟩
            rw [hwq] at s5 s4 hbz2 ⊢
            clear hwq
            replace s5 := hide s5; replace s4 := hide s4; replace hbz2 := hide hbz2
            go_simp
            go_wp2_with fail
            go_roundw
            case rel => exact ⟨k + 1, by omega, by go_num, by rw [unhide hN2, unhide hD2]; exact unhide s5, unhide s4, unhide hbz2⟩
            case measure => simp [intOf]; omega
      · have hke : k = n := by omega
        subst hke
        have g0 : wo.cell? ⟨b4, 0, none⟩ = some (.int .i64 0) := (cell_of_row _ _ 0 _ _ _ h4).trans rfl
        have g1 : wo.cell? ⟨b4, 1, none⟩ = some (.int .i64 0) := (cell_of_row _ _ 1 _ _ _ h4).trans rfl
        obtain ⟨N1, hN1⟩ : ∃ x, (scalP l u k).num = x := ⟨_, rfl⟩
        obtain ⟨D1, hD1⟩ : ∃ x, ((scalP l u k).den : Int) = x := ⟨_, rfl⟩
        rw [hN1] at e0
        rw [hD1] at e1
        have z0 : wo.frozen? ⟨b4, 0, none⟩ = false := by simp [World.frozen?, h4]
        have s1 := heap_set (off := 0) h4 (.int .i64 N1)
        have s2 := heap_set (off := 1) s1 (.int .i64 D1)
        have g1' : (wo.setCell ⟨b4, 0, none⟩ (.int .i64 N1)).cell? ⟨b4, 1, none⟩ = some (.int .i64 0) := (cell_of_row _ _ 1 _ _ _ s1).trans rfl
        have z1' : (wo.setCell ⟨b4, 0, none⟩ (.int .i64 N1)).frozen? ⟨b4, 1, none⟩ = false := by simp [World.frozen?, s1]
        have y0 : ((wo.setCell ⟨b4, 0, none⟩ (.int .i64 N1)).setCell ⟨b4, 1, none⟩ (.int .i64 D1)).cell? ⟨b4, 0, none⟩ = some (.int .i64 N1) := (cell_of_row _ _ 0 _ _ _ s2).trans rfl
        have y1 : ((wo.setCell ⟨b4, 0, none⟩ (.int .i64 N1)).setCell ⟨b4, 1, none⟩ (.int .i64 D1)).cell? ⟨b4, 1, none⟩ = some (.int .i64 D1) := (cell_of_row _ _ 1 _ _ _ s2).trans rfl
        have gs1 := grown_set (w := wo) b4 0 (.int .i64 N1)
        have gs2 := grown_set (w := wo.setCell ⟨b4, 0, none⟩ (.int .i64 N1)) b4 1 (.int .i64 D1)
        have hbz2 := hbw.trans ((⟨gs1.os, gs1.tape, gs1.output, gs1.size, fun b hb => gs1.block b (Nat.lt_of_lt_of_le hb hbw.size) (fun e => by injection e; omega)⟩ : Below w.heap.size wo _).trans ⟨gs2.os, gs2.tape, gs2.output, gs2.size, fun b hb => gs2.block b (Nat.lt_of_lt_of_le hb (Nat.le_trans hbw.size gs1.size)) (fun e => by injection e; omega)⟩)
        clear s1 s2 gs1 gs2 h4 h5 hbw
        replace hbz2 := hide hbz2; replace hN1 := hide hN1; replace hD1 := hide hD1; replace y0 := hide y0; replace y1 := hide y1
        go_wp2_with fail
        replace y0 := unhide y0; replace y1 := unhide y1
        refine bodyPost_ret (v := .agg #[.int .i64 N1, .int .i64 D1]) (by simp [results, Try.results27, go_sem, y0, y1]) rfl ⟨by rw [unhide hN1, unhide hD1], unhide hbz2⟩
end Go.Proofs.Ytbodidhggdggmaa
