/- Tents: the value of one. -/
import Derived.Test.YthkppilelpaieaaAx2
namespace Go.Proofs.Ythkppilelpaieaa
open Go.RowKit
set_option maxHeartbeats 2000000 in
theorem rvalue_any (lo p hi v : Int) (w : World) (h1 : -64 ≤ lo) (h2 : lo ≤ p) (h3 : p ≤ hi) (h4 : hi ≤ 64) (h5 : -64 ≤ v ∧ v ≤ 64) :
    Calls Try.prog 42 #[.agg #[.int .i64 lo, .int .i64 p, .int .i64 hi], .int .i64 v] w fun e w' => e = .returned (.agg #[.int .i64 (valS lo p hi v).1, .int .i64 (valS lo p hi v).2]) ∧ Below w.heap.size w w' := by
  have s1 : IntKind.i64.wrap (v - lo) = v - lo := IntWalk.i64_in _ (by omega)
  have s2 : IntKind.i64.wrap (p - lo) = p - lo := IntWalk.i64_in _ (by omega)
  have s3 : IntKind.i64.wrap (hi - v) = hi - v := IntWalk.i64_in _ (by omega)
  have s4 : IntKind.i64.wrap (hi - p) = hi - p := IntWalk.i64_in _ (by omega)
  have hB : ∀ o1 o2, Below w.heap.size w ((w.alloc o1).alloc o2) := fun o1 o2 => ((Below.refl _ _).alloc (Nat.le_refl _) _).alloc (by rw [World.size_alloc]; omega) _
  obtain ⟨N, hN⟩ : ∃ N, (valS lo p hi v).1 = N := ⟨_, rfl⟩
  obtain ⟨D, hD⟩ : ∃ D, (valS lo p hi v).2 = D := ⟨_, rfl⟩
  rw [hN, hD]
  unfold valS at hN hD
  go_enter Try.func42, Try.ntmps42
  by_cases c1 : p = 0
  · rw [if_pos (.inl c1)] at hN hD
    subst hN hD
    have t1 : (p == 0) = true := beq_iff_eq.2 c1
    clear c1
    go_wp2_with fail
    refine bodyPost_ret (v := .agg #[.int .i64 1, .int .i64 1]) (by simp [results, Try.results42, go_sem]) rfl ⟨rfl, hB _ _⟩
  · have t1 : (p == 0) = false := beq_eq_false_iff_ne.2 c1
    by_cases c2 : v = p
    · rw [if_pos (.inr c2)] at hN hD
      subst hN hD
      have t2 : (v == p) = true := beq_iff_eq.2 c2
      clear c1 c2
      go_wp2_with fail
      refine bodyPost_ret (v := .agg #[.int .i64 1, .int .i64 1]) (by simp [results, Try.results42, go_sem]) rfl ⟨rfl, hB _ _⟩
    · have t2 : (v == p) = false := beq_eq_false_iff_ne.2 c2
      rw [if_neg (by omega)] at hN hD
      by_cases c3 : v ≤ lo
      · rw [if_pos (.inl c3)] at hN hD
        subst hN hD
        clear c1 c2
        go_wp2_with fail
        refine bodyPost_ret (v := .agg #[.int .i64 0, .int .i64 1]) (by simp [results, Try.results42, go_sem]) rfl ⟨rfl, hB _ _⟩
      · by_cases c4 : hi ≤ v
        · rw [if_pos (.inr c4)] at hN hD
          subst hN hD
          clear c1 c2
          go_wp2_with fail
          refine bodyPost_ret (v := .agg #[.int .i64 0, .int .i64 1]) (by simp [results, Try.results42, go_sem]) rfl ⟨rfl, hB _ _⟩
        · rw [if_neg (by omega)] at hN hD
          by_cases c5 : v < p
          · rw [if_pos c5] at hN hD
            subst hN hD
            clear c1 c2
            go_wp2_with fail
            refine bodyPost_ret (v := .agg #[.int .i64 (v - lo), .int .i64 (p - lo)]) (by simp [results, Try.results42, go_sem]) rfl ⟨rfl, hB _ _⟩
          · rw [if_neg c5] at hN hD
            subst hN hD
            clear c1 c2
            go_wp2_with fail
            refine bodyPost_ret (v := .agg #[.int .i64 (hi - v), .int .i64 (hi - p)]) (by simp [results, Try.results42, go_sem]) rfl ⟨rfl, hB _ _⟩
set_option maxHeartbeats 2000000 in
theorem value_any (lo p hi v : Int) (w : World) (h1 : -64 ≤ lo) (h2 : lo ≤ p) (h3 : p ≤ hi) (h4 : hi ≤ 64) (h5 : -64 ≤ v ∧ v ≤ 64) :
    Calls Try.prog 40 #[.agg #[.int .i64 lo, .int .i64 p, .int .i64 hi], .int .i64 v] w fun e w' => e = .returned (.agg #[.int .i64 (valS lo p hi v).1, .int .i64 (valS lo p hi v).2]) ∧ Below w.heap.size w w' := by
  have s1 : IntKind.i64.wrap (v - lo) = v - lo := IntWalk.i64_in _ (by omega)
  have s2 : IntKind.i64.wrap (p - lo) = p - lo := IntWalk.i64_in _ (by omega)
  have s3 : IntKind.i64.wrap (hi - v) = hi - v := IntWalk.i64_in _ (by omega)
  have s4 : IntKind.i64.wrap (hi - p) = hi - p := IntWalk.i64_in _ (by omega)
  have hB : ∀ o1 o2 o3, Below w.heap.size w (((w.alloc o1).alloc o2).alloc o3) := fun o1 o2 o3 => (((Below.refl _ _).alloc (Nat.le_refl _) _).alloc (by rw [World.size_alloc]; omega) _).alloc (by rw [World.size_alloc, World.size_alloc]; omega) _
  obtain ⟨N, hN⟩ : ∃ N, (valS lo p hi v).1 = N := ⟨_, rfl⟩
  obtain ⟨D, hD⟩ : ∃ D, (valS lo p hi v).2 = D := ⟨_, rfl⟩
  rw [hN, hD]
  unfold valS at hN hD
  go_enter Try.func40, Try.ntmps40
  by_cases c1 : p = 0
  · rw [if_pos (.inl c1)] at hN hD
    subst hN hD
    have t1 : (p == 0) = true := beq_iff_eq.2 c1
    clear c1
    go_wp2_with fail
    refine bodyPost_ret (v := .agg #[.int .i64 1, .int .i64 1]) (by simp [results, Try.results40, go_sem]) rfl ⟨rfl, hB _ _ _⟩
  · have t1 : (p == 0) = false := beq_eq_false_iff_ne.2 c1
    by_cases c2 : v = p
    · rw [if_pos (.inr c2)] at hN hD
      subst hN hD
      have t2 : (v == p) = true := beq_iff_eq.2 c2
      clear c1 c2
      go_wp2_with fail
      refine bodyPost_ret (v := .agg #[.int .i64 1, .int .i64 1]) (by simp [results, Try.results40, go_sem]) rfl ⟨rfl, hB _ _ _⟩
    · have t2 : (v == p) = false := beq_eq_false_iff_ne.2 c2
      rw [if_neg (by omega)] at hN hD
      by_cases c3 : v ≤ lo
      · rw [if_pos (.inl c3)] at hN hD
        subst hN hD
        clear c1 c2
        go_wp2_with fail
        refine bodyPost_ret (v := .agg #[.int .i64 0, .int .i64 1]) (by simp [results, Try.results40, go_sem]) rfl ⟨rfl, hB _ _ _⟩
      · by_cases c4 : hi ≤ v
        · rw [if_pos (.inr c4)] at hN hD
          subst hN hD
          clear c1 c2
          go_wp2_with fail
          refine bodyPost_ret (v := .agg #[.int .i64 0, .int .i64 1]) (by simp [results, Try.results40, go_sem]) rfl ⟨rfl, hB _ _ _⟩
        · rw [if_neg (by omega)] at hN hD
          by_cases c5 : v < p
          · rw [if_pos c5] at hN hD
            subst hN hD
            clear c1 c2
            go_wp2_with fail
            refine bodyPost_ret (v := .agg #[.int .i64 (v - lo), .int .i64 (p - lo)]) (by simp [results, Try.results40, go_sem]) rfl ⟨rfl, hB _ _ _⟩
          · rw [if_neg c5] at hN hD
            subst hN hD
            clear c1 c2
            go_wp2_with fail
            refine bodyPost_ret (v := .agg #[.int .i64 (hi - v), .int .i64 (hi - p)]) (by simp [results, Try.results40, go_sem]) rfl ⟨rfl, hB _ _ _⟩
end Go.Proofs.Ythkppilelpaieaa
