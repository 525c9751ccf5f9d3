/- Numbers of two words, further: compare, plus, minus, over, gcd; the reference's. -/
import Derived.Test.YtfegkaflemcanaaWide
import Derived.Deep.QuietTactic
import Derived.BigQuiet
namespace Go.Proofs.Ytfegkaflemcanaa
open Go.RowKit

theorem cmp_hi_ne {m n : Nat} (h : hiW m < hiW n ∨ hiW n < hiW m) : cmpI (hiW m) (hiW n) = cmpI m n := by
  unfold cmpI hiW at *
  rcases h with h | h
  · rw [if_pos h, if_pos (by omega)]
  · rw [if_neg (by omega), if_pos h, if_neg (by omega), if_pos (by omega)]
theorem cmp_hi_eq {m n : Nat} (h : hiW m = hiW n) : cmpI (loW m) (loW n) = cmpI m n := by
  unfold cmpI hiW loW at *
  by_cases h1 : m < n
  · rw [if_pos (by omega), if_pos (by omega)]
  · by_cases h2 : n < m
    · rw [if_neg (by omega), if_pos (by omega), if_neg (by omega), if_pos (by omega)]
    · rw [if_neg (by omega), if_neg (by omega), if_neg (by omega), if_neg (by omega)]
theorem cmp_ne {x y : Int} (h : x < y ∨ y < x) : (cmpI x y == 0) = false ∧ (cmpI x y != 0) = true := by
  unfold cmpI
  rcases h with h | h
  · rw [if_pos h]; exact ⟨rfl, rfl⟩
  · rw [if_neg (by omega), if_pos h]; exact ⟨rfl, rfl⟩
theorem cmp_eq (x : Int) : (cmpI x x == 0) = true ∧ (cmpI x x != 0) = false := by
  unfold cmpI
  rw [if_neg (by omega), if_neg (by omega)]; exact ⟨rfl, rfl⟩

set_option maxHeartbeats 1000000 in
theorem compare_any (m n : Nat) (a b c d : Int) (w : World) (ha : a = hiW m) (hb : b = loW m) (hc : c = hiW n) (hd : d = loW n) :
    Calls Try.prog 43 #[.agg #[.int .u64 a, .int .u64 b], .agg #[.int .u64 c, .int .u64 d]] w fun e w' => e = .returned (.int .i64 (cmpI m n)) ∧ Below w.heap.size w w' := by
  subst ha; subst hb; subst hc; subst hd
  by_cases h : hiW m = hiW n
  · have he := hide (cmp_hi_eq h)
    obtain ⟨t1, t2⟩ := cmp_eq (hiW n)
    obtain ⟨x, hx⟩ : ∃ x, x = cmpI (hiW n) (hiW n) := ⟨_, rfl⟩
    have hcm := fun w => cmp_u64 (hiW m) (hiW n) w
    rw [h, ← hx] at hcm
    rw [← hx] at t1 t2
    rw [h]
    clear h hx
    go_enter Try.func43, Try.ntmps43
    go_wp2_with fail
    refine (hcm _).mono ?_
    rintro e w' ⟨rfl, rfl⟩
    clear hcm
    go_wp2_with fail
    refine (cmp_u64 _ _ _).mono ?_
    rintro e w' ⟨rfl, rfl⟩
    go_wp2_with fail
    go_ret
    exact ⟨ret1 (int_eq (unhide he)), ((Below.refl _ _).alloc (Nat.le_refl _) _).alloc (by simp) _⟩
  · have h' : hiW m < hiW n ∨ hiW n < hiW m := by omega
    have he := hide (cmp_hi_ne h')
    obtain ⟨t1, t2⟩ := cmp_ne h'
    obtain ⟨x, hx⟩ : ∃ x, x = cmpI (hiW m) (hiW n) := ⟨_, rfl⟩
    have hcm := fun w => cmp_u64 (hiW m) (hiW n) w
    rw [← hx] at hcm he t1 t2
    clear h h' hx
    go_enter Try.func43, Try.ntmps43
    go_wp2_with fail
    refine (hcm _).mono ?_
    rintro e w' ⟨rfl, rfl⟩
    clear hcm
    go_wp2_with fail
    go_ret
    exact ⟨ret1 (int_eq (unhide he)), ((Below.refl _ _).alloc (Nat.le_refl _) _).alloc (by simp) _⟩

theorem add64_run0 (x y : Nat) (w : World) :
    (callFunc 53 #[.int .u64 x, .int .u64 y, .int .u64 0]).run Try.prog w =
      .ok (.value (.tuple #[.int .u64 (((x + y) % 18446744073709551616 : Nat) : Int), .int .u64 (((x + y) / 18446744073709551616 : Nat) : Int)])) w := by
  have := add64_run x y 0 (by omega) w
  exact this
theorem sub64_run0 (x y : Nat) (w : World) :
    (callFunc 56 #[.int .u64 x, .int .u64 y, .int .u64 0]).run Try.prog w =
      .ok (.value (.tuple #[.int .u64 (((x + 18446744073709551616 - y) % 18446744073709551616 : Nat) : Int), .int .u64 ((if x < y then 1 else 0 : Nat) : Int)])) w := by
  have := sub64_run x y 0 (by omega) w
  exact this

set_option maxHeartbeats 1000000 in
theorem plus_any (m n : Nat) (a b c d : Int) (w : World) (ha : a = hiW m) (hb : b = loW m) (hc : c = hiW n) (hd : d = loW n) (hlt : m + n < 340282366920938463463374607431768211456) :
    Calls Try.prog 38 #[.agg #[.int .u64 a, .int .u64 b], .agg #[.int .u64 c, .int .u64 d]] w fun e w' => e = .returned (.agg #[.int .u64 (hiW (m + n)), .int .u64 (loW (m + n))]) ∧ Below w.heap.size w w' := by
  subst ha; subst hb; subst hc; subst hd
  have a1 := fun w => add64_run0 (m % 18446744073709551616) (n % 18446744073709551616) w
  obtain ⟨q, hq⟩ : ∃ q, q = (m % 18446744073709551616 + n % 18446744073709551616) / 18446744073709551616 := ⟨_, rfl⟩
  have hq1 : q ≤ 1 := by omega
  have a2 := fun w => add64_run (m / 18446744073709551616) (n / 18446744073709551616) q hq1 w
  have e1 : ((m % 18446744073709551616 + n % 18446744073709551616) % 18446744073709551616 : Nat) = (m + n) % 18446744073709551616 := by omega
  have e2 : (m / 18446744073709551616 + n / 18446744073709551616 + q) % 18446744073709551616 = (m + n) / 18446744073709551616 := by omega
  rw [← hq, e1, ← loW_def, ← loW_def, ← loW_def] at a1
  rw [e2, ← hiW_def, ← hiW_def, ← hiW_def] at a2
  clear e1 e2 hq hq1 hlt
  go_enter Try.func38, Try.ntmps38
  go_wp2_with (first | (simp only [a1]) | (simp only [a2]))
  refine bodyPost_ret (v := .agg #[.int .u64 (hiW (m + n)), .int .u64 (loW (m + n))]) (by simp [results, Try.results38, go_sem]) rfl ⟨rfl, ?_⟩
  first | exact (((Below.refl _ _).alloc (Nat.le_refl _) _).alloc (by simp) _).alloc (by simp; omega) _ | exact ((((Below.refl _ _).alloc (Nat.le_refl _) _).alloc (by simp) _).alloc (by simp; omega) _).setCell (by simp; omega) _

set_option maxHeartbeats 1000000 in
theorem minus_any (m n : Nat) (a b c d : Int) (w : World) (ha : a = hiW m) (hb : b = loW m) (hc : c = hiW n) (hd : d = loW n) (hlt : n ≤ m) (hm : m < 340282366920938463463374607431768211456) :
    Calls Try.prog 45 #[.agg #[.int .u64 a, .int .u64 b], .agg #[.int .u64 c, .int .u64 d]] w fun e w' => e = .returned (.agg #[.int .u64 (hiW (m - n)), .int .u64 (loW (m - n))]) ∧ Below w.heap.size w w' := by
  subst ha; subst hb; subst hc; subst hd
  have a1 := fun w => sub64_run0 (m % 18446744073709551616) (n % 18446744073709551616) w
  obtain ⟨q, hq⟩ : ∃ q, q = if m % 18446744073709551616 < n % 18446744073709551616 then 1 else 0 := ⟨_, rfl⟩
  have hq1 : q ≤ 1 := by rw [hq]; split <;> omega
  have a2 := fun w => sub64_run (m / 18446744073709551616) (n / 18446744073709551616) q hq1 w
  have e1 : ((m % 18446744073709551616 + 18446744073709551616 - n % 18446744073709551616) % 18446744073709551616 : Nat) = (m - n) % 18446744073709551616 := by omega
  have e2 : (m / 18446744073709551616 + 18446744073709551616 - n / 18446744073709551616 - q) % 18446744073709551616 = (m - n) / 18446744073709551616 := by
    rw [hq]; split <;> omega
  rw [← hq, e1, ← loW_def, ← loW_def, ← loW_def] at a1
  rw [e2, ← hiW_def, ← hiW_def, ← hiW_def] at a2
  clear e1 e2 hq hq1 hlt hm
  go_enter Try.func45, Try.ntmps45
  go_wp2_with (first | (simp only [a1]) | (simp only [a2]))
  all_goals refine bodyPost_ret (v := .agg #[.int .u64 (hiW (m - n)), .int .u64 (loW (m - n))]) (by simp [results, Try.results45, go_sem]) rfl ⟨rfl, ?_⟩
  all_goals first | exact (((Below.refl _ _).alloc (Nat.le_refl _) _).alloc (by simp) _).alloc (by simp; omega) _ | exact ((((Below.refl _ _).alloc (Nat.le_refl _) _).alloc (by simp) _).alloc (by simp; omega) _).setCell (by simp; omega) _

theorem low_of (s t : Nat) (h : t < 18446744073709551616) : (s * 18446744073709551616 + t) % 18446744073709551616 = t := by omega
theorem high_of (s t : Nat) (h : t < 18446744073709551616) : (s * 18446744073709551616 + t) / 18446744073709551616 = s := by omega
set_option maxHeartbeats 1000000 in
theorem over_any (n m : Nat) (a b c : Int) (w : World) (ha : a = hiW n) (hb : b = loW n) (hc : c = m) (hm : 1 ≤ m) (hm2 : m < 18446744073709551616) (hn : n < 340282366920938463463374607431768211456) :
    Calls Try.prog 37 #[.agg #[.int .u64 a, .int .u64 b], .int .u64 c] w fun e w' => e = .returned (.tuple #[.agg #[.int .u64 (hiW (n / m)), .int .u64 (loW (n / m))], .int .u64 ((n % m : Nat) : Int)]) ∧ Below w.heap.size w w' := by
  subst ha; subst hb; subst hc
  have hd := fun w => div64_drew (n / 18446744073709551616 % m) (n % 18446744073709551616) m w (Nat.mod_lt _ (by omega)) hm2 (by omega)
  obtain ⟨f1, f2⟩ := Dv.two_digits (n / 18446744073709551616) (n % 18446744073709551616) m 18446744073709551616 (by omega)
  rw [Nat.div_add_mod'] at f1 f2
  rw [← f2, ← loW_def] at hd
  have hlt : (n / 18446744073709551616 % m * 18446744073709551616 + n % 18446744073709551616) / m < 18446744073709551616 :=
    Dv.qt_lt m (n / 18446744073709551616 % m) (n % 18446744073709551616) 18446744073709551616 (by omega) (Nat.mod_lt _ (by omega))
  have e1 : (((n / 18446744073709551616 % m * 18446744073709551616 + n % 18446744073709551616) / m : Nat) : Int) = loW (n / m) := by
    rw [loW_def, f1]
    exact congrArg _ (low_of _ _ hlt).symm
  have e2 : hiW (n / m) = ((n / 18446744073709551616 / m : Nat) : Int) := by
    rw [hiW_def, f1]
    exact congrArg _ (high_of _ _ hlt)
  rw [e1] at hd
  have r1 : (hiW n).tmod (m : Int) = ((n / 18446744073709551616 % m : Nat) : Int) := by
    rw [hiW_def, Int.tmod_eq_emod_of_nonneg (by omega), ← Int.natCast_emod]
  have r2 : (hiW n).tdiv (m : Int) = hiW (n / m) := by
    rw [e2, hiW_def, Int.tdiv_eq_ediv_of_nonneg (by omega), ← Int.natCast_ediv]
  have r3 : IntKind.u64.wrap (hiW (n / m)) = hiW (n / m) := by
    rw [e2, Dv.wrapN]
    have : n / 18446744073709551616 / m ≤ n / 18446744073709551616 := Nat.div_le_self _ _
    omega
  obtain ⟨x, hx⟩ : ∃ x, x = n / 18446744073709551616 % m := ⟨_, rfl⟩
  obtain ⟨z, hz⟩ : ∃ z, z = n % m := ⟨_, rfl⟩
  rw [← hx] at hd r1
  rw [← hz] at hd ⊢
  have z1 : ¬ ((m : Nat) : Int) = 0 := by omega
  have z2 : ¬ (m : Nat) = 0 := by omega
  clear e1 e2 f1 f2 hlt hx hz hn hm2 hm
  go_enter Try.func37, Try.ntmps37
  go_wp2
  go_quiet ((go_at_call 52; exact Calls.quiet_of (hd _)))
  go_wp2
  refine bodyPost_ret (v := .tuple #[.agg #[.int .u64 (hiW (n / m)), .int .u64 (loW (n / m))], .int .u64 z]) (by simp [results, Try.results37, go_sem]) rfl ⟨rfl, ?_⟩
  exact (((((Below.refl _ _).alloc (Nat.le_refl _) _).alloc (by simp) _).trans ((below_drewN _ _).mono (by simp; omega))).setCell (by simp) _).setCell (by simp) _
end Go.Proofs.Ytfegkaflemcanaa
