/- Axes and tents: what the small functions compute; the tests and values of tents, of the program and of the reference. -/
import Derived.Test.YthkppilelpaieaaLst
import Derived.Test.YthkppilelpaieaaR01
namespace Go.Proofs.Ythkppilelpaieaa
open Go.RowKit
/-- a tent: Low, Peak, High -/
abbrev Tent := Int × (Int × Int)
abbrev Enc.tent : Enc Tent := Enc.pair Enc.int (Enc.pair Enc.int Enc.int)
def limS (n : Int) : Int := if -64 < (if 64 < n then 64 else n) then (if 64 < n then 64 else n) else -64
theorem limS_rng (n : Int) : -64 ≤ limS n ∧ limS n ≤ 64 := by unfold limS; split <;> split <;> omega
def validS (lo p hi : Int) : Bool := decide (-64 ≤ lo ∧ lo ≤ p ∧ p ≤ hi ∧ hi ≤ 64 ∧ (0 ≤ lo ∨ hi ≤ 0 ∨ p = 0))
/-- the value of a valid tent, as a fraction -/
def valS (lo p hi v : Int) : Int × Int := if p = 0 ∨ v = p then (1, 1) else if v ≤ lo ∨ hi ≤ v then (0, 1) else if v < p then (v - lo, p - lo) else (hi - v, hi - p)
theorem limited_any (n : Int) (w : World) : Calls Try.prog 32 #[.int .i64 n] w fun e w' => e = .returned (.int .i64 (limS n)) ∧ w' = w := by
  obtain ⟨m, hm⟩ : ∃ m, (if 64 < n then 64 else n) = m := ⟨_, rfl⟩
  obtain ⟨q, hq⟩ : ∃ q, (if -64 < m then m else -64) = q := ⟨_, rfl⟩
  have hl : limS n = q := by unfold limS; rw [hm, hq]
  rw [hl]
  clear hl
  go_enter Try.func32, Try.ntmps32
  go_wp2_with fail
  go_ret
  exact ⟨rfl, rfl⟩
theorem rlimited_any (n : Int) (w : World) : Calls Try.prog 33 #[.int .i64 n] w fun e w' => e = .returned (.int .i64 (limS n)) ∧ w' = w := by
  obtain ⟨m, hm⟩ : ∃ m, (if 64 < n then 64 else n) = m := ⟨_, rfl⟩
  obtain ⟨q, hq⟩ : ∃ q, (if -64 < m then m else -64) = q := ⟨_, rfl⟩
  have hl : limS n = q := by unfold limS; rw [hm, hq]
  rw [hl]
  clear hl
  go_enter Try.func33, Try.ntmps33
  go_wp2_with fail
  go_ret
  exact ⟨rfl, rfl⟩
theorem within_any (n m : Int) (w : World) (hm : 0 ≤ m ∧ m ≤ 100000) : Calls Try.prog 31 #[.int .i64 n, .int .i64 m] w fun e w' => e = .returned (.bool (decide (-m ≤ n ∧ n ≤ m))) ∧ w' = w := by
  have t0 : IntKind.i64.wrap (-m) = -m := IntWalk.i64_in _ (by omega)
  have t1 : wrap64 (-m) = -m := IntWalk.wrap64_in _ (by omega)
  by_cases h1 : -m ≤ n
  · by_cases h2 : n ≤ m
    · rw [decide_eq_true ⟨h1, h2⟩]
      go_enter Try.func31, Try.ntmps31
      go_wp2_with fail
      go_ret
      exact ⟨rfl, rfl⟩
    · rw [decide_eq_false (fun h => h2 h.2 : ¬ (-m ≤ n ∧ n ≤ m))]
      go_enter Try.func31, Try.ntmps31
      go_wp2_with fail
      go_ret
      exact ⟨rfl, rfl⟩
  · rw [decide_eq_false (fun h => h1 h.1 : ¬ (-m ≤ n ∧ n ≤ m))]
    go_enter Try.func31, Try.ntmps31
    go_wp2_with fail
    go_ret
    exact ⟨rfl, rfl⟩
theorem far_any (n : Int) (w : World) : Calls Try.prog 26 #[.int .i64 n] w fun e w' => e = .returned (.bool (!decide (-1000 ≤ n ∧ n ≤ 1000))) ∧ w' = w := by
  by_cases h1 : -1000 ≤ n
  · have t1 : ¬ n < -1000 := by omega
    by_cases h2 : n ≤ 1000
    · rw [decide_eq_true ⟨h1, h2⟩]
      have t2 : ¬ 1000 < n := by omega
      go_enter Try.func26, Try.ntmps26
      go_wp2_with fail
      go_ret
      exact ⟨rfl, rfl⟩
    · rw [decide_eq_false (fun h => h2 h.2 : ¬ (-1000 ≤ n ∧ n ≤ 1000))]
      have t2 : 1000 < n := by omega
      go_enter Try.func26, Try.ntmps26
      go_wp2_with fail
      go_ret
      exact ⟨rfl, rfl⟩
  · rw [decide_eq_false (fun h => h1 h.1 : ¬ (-1000 ≤ n ∧ n ≤ 1000))]
    have t1 : n < -1000 := by omega
    go_enter Try.func26, Try.ntmps26
    go_wp2_with fail
    go_ret
    exact ⟨rfl, rfl⟩
theorem tagc_any (r : Nat) (w : World) : Calls Try.prog 47 #[.int .i32 (r : Int)] w fun e w' => e = .returned (.bool (!decide (97 ≤ r ∧ r ≤ 122))) ∧ w' = w := by
  by_cases h1 : 97 ≤ r
  · have t1 : ¬ (r : Int) < 97 := by omega
    by_cases h2 : r ≤ 122
    · rw [decide_eq_true ⟨h1, h2⟩]
      have t2 : ¬ 122 < (r : Int) := by omega
      go_enter Try.func47, Try.ntmps47
      go_wp2_with fail
      go_ret
      exact ⟨rfl, rfl⟩
    · rw [decide_eq_false (fun h => h2 h.2 : ¬ (97 ≤ r ∧ r ≤ 122))]
      have t2 : 122 < (r : Int) := by omega
      go_enter Try.func47, Try.ntmps47
      go_wp2_with fail
      go_ret
      exact ⟨rfl, rfl⟩
  · rw [decide_eq_false (fun h => h1 h.1 : ¬ (97 ≤ r ∧ r ≤ 122))]
    have t1 : (r : Int) < 97 := by omega
    go_enter Try.func47, Try.ntmps47
    go_wp2_with fail
    go_ret
    exact ⟨rfl, rfl⟩
theorem round_any (a b : Int) (w : World) (ha : I64 a) (hb : 1 ≤ b) (hb2 : b ≤ 9223372036854775807) :
    Calls Try.prog 34 #[.int .i64 a, .int .i64 b] w fun e w' => e = .returned (.int .i64 (roundI a b)) ∧ Below w.heap.size w w' := by
  have hc := rround_pos a b w ha hb hb2
  replace hc := hide hc
  obtain ⟨q, hq⟩ : ∃ q, roundI a b = q := ⟨_, rfl⟩
  rw [hq] at hc ⊢
  clear hq
  go_enter Try.func34, Try.ntmps34
  go_wp2_with fail
  refine (unhide hc).mono ?_
  rintro e w1 ⟨rfl, hb1⟩
  clear hc
  replace hb1 := hide hb1
  go_wp2_with fail
  go_ret
  exact ⟨rfl, unhide hb1⟩
set_option maxHeartbeats 2000000 in
theorem valid_any (lo p hi : Int) (w : World) : Calls Try.prog 37 #[.agg #[.int .i64 lo, .int .i64 p, .int .i64 hi]] w fun e w' => e = .returned (.bool (validS lo p hi)) ∧ Below w.heap.size w w' := by
  have hB : Below w.heap.size w (w.alloc (Obj.cells #[.int .i64 lo, .int .i64 p, .int .i64 hi] 52)) := (Below.refl _ _).alloc (Nat.le_refl _) _
  obtain ⟨q, hq⟩ : ∃ q, validS lo p hi = q := ⟨_, rfl⟩
  rw [hq]
  unfold validS at hq
  replace hB := hide hB
  go_enter Try.func37, Try.ntmps37
  by_cases h1 : -64 ≤ lo
  · by_cases h2 : lo ≤ p
    · by_cases h3 : p ≤ hi
      · by_cases h4 : hi ≤ 64
        · by_cases h5 : 0 ≤ lo
          · rw [decide_eq_true ⟨h1, h2, h3, h4, .inl h5⟩] at hq
            subst hq
            go_wp2_with fail
            go_ret
            exact ⟨rfl, unhide hB⟩
          · by_cases h6 : hi ≤ 0
            · rw [decide_eq_true ⟨h1, h2, h3, h4, .inr (.inl h6)⟩] at hq
              subst hq
              go_wp2_with fail
              go_ret
              exact ⟨rfl, unhide hB⟩
            · by_cases h7 : p = 0
              · rw [decide_eq_true ⟨h1, h2, h3, h4, .inr (.inr h7)⟩] at hq
                subst hq
                have h8 : (p == 0) = true := beq_iff_eq.2 h7
                clear h7
                go_wp2_with fail
                go_ret
                exact ⟨rfl, unhide hB⟩
              · rw [decide_eq_false (by omega)] at hq
                subst hq
                have h8 : (p == 0) = false := beq_eq_false_iff_ne.2 h7
                go_wp2_with fail
                go_ret
                exact ⟨rfl, unhide hB⟩
        · rw [decide_eq_false (by omega)] at hq
          subst hq
          go_wp2_with fail
          go_ret
          exact ⟨rfl, unhide hB⟩
      · rw [decide_eq_false (by omega)] at hq
        subst hq
        go_wp2_with fail
        go_ret
        exact ⟨rfl, unhide hB⟩
    · rw [decide_eq_false (by omega)] at hq
      subst hq
      go_wp2_with fail
      go_ret
      exact ⟨rfl, unhide hB⟩
  · rw [decide_eq_false (by omega)] at hq
    subst hq
    go_wp2_with fail
    go_ret
    exact ⟨rfl, unhide hB⟩
end Go.Proofs.Ythkppilelpaieaa
