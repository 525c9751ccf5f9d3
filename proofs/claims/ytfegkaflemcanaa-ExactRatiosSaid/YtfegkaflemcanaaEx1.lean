/- Floor and MulDiv, the program's and the reference's. -/
import Derived.Test.YtfegkaflemcanaaWide3
import Derived.Test.YtfegkaflemcanaaRef2
namespace Go.Proofs.Ytfegkaflemcanaa
open Go.RowKit

def sgnB (a b : Int) : Bool := decide (a < 0 ∧ 0 < b ∨ 0 < a ∧ b < 0)
theorem sgn_prod (a b : Int) : ∃ s : Int, wrap64 s = s ∧ cmpI a 0 * cmpI b 0 = s ∧ decide (s < 0) = sgnB a b := by
  refine ⟨cmpI a 0 * cmpI b 0, ?_, rfl, ?_⟩
  · refine IntWalk.wrap64_in _ ?_
    unfold cmpI
    by_cases h1 : a < 0 <;> by_cases h2 : 0 < a <;> by_cases h3 : b < 0 <;> by_cases h4 : 0 < b <;> simp [h1, h2, h3, h4]
  · unfold cmpI sgnB
    by_cases h1 : a < 0 <;> by_cases h2 : 0 < a <;> by_cases h3 : b < 0 <;> by_cases h4 : 0 < b <;> simp [h1, h2, h3, h4] <;> omega
theorem sgn_t {a b : Int} : sgnB a b = true → a < 0 ∧ 0 ≤ b ∨ 0 ≤ a ∧ b < 0 := by unfold sgnB; simp; omega
theorem sgn_f {a b : Int} : sgnB a b = false → a < 0 ∧ b < 0 ∨ 0 ≤ a ∧ 0 ≤ b ∨ a = 0 ∨ b = 0 := by unfold sgnB; simp; omega
theorem hi_small {n : Nat} (h : n < 18446744073709551616) : (0 : Int) = hiW n := by unfold hiW; omega
theorem lo_small {n : Nat} (h : n < 18446744073709551616) : (n : Int) = loW n := by unfold loW; omega

theorem efloor_none (a : Int) (w : World) :
    Calls Try.prog 10 #[.int .i64 a, .int .i64 0] w fun e w' => e = .returned (.tuple #[.int .i64 0, .bool false]) ∧ Below w.heap.size w w' := by
  go_enter Try.func10, Try.ntmps10
  go_wp2
  go_ret2
  exact ⟨rfl, Below.refl _ _⟩
theorem rfloor_none (a : Int) (w : World) :
    Calls Try.prog 11 #[.int .i64 a, .int .i64 0] w fun e w' => e = .returned (.tuple #[.int .i64 0, .bool false]) ∧ Below w.heap.size w w' := by
  go_enter Try.func11, Try.ntmps11
  go_wp2
  go_ret2
  exact ⟨rfl, Below.refl _ _⟩

set_option maxHeartbeats 2000000 in
theorem efloor_any (a b : Int) (w : World) (ha : I64 a) (hb : I64 b) :
    Calls Try.prog 10 #[.int .i64 a, .int .i64 b] w fun e w' => e = .returned (.tuple #[.int .i64 (valI (Ex.floS a b)), .bool (okI (Ex.floS a b))]) ∧ Below w.heap.size w w' := by
  by_cases hb0 : b = 0
  · subst hb0
    exact efloor_none a w
  have e1 : (b == 0) = false := by simpa using hb0
  obtain ⟨s, s1, s2, s3⟩ := sgn_prod a b
  obtain ⟨neg, hneg⟩ : ∃ neg, neg = sgnB a b := ⟨_, rfl⟩
  have hfit := Ex.flo_up a b hb0 neg (fun h => sgn_t (hneg ▸ h)) (fun h => by rcases sgn_f (hneg ▸ h) with h | h | h | h; exact Or.inl h; exact Or.inr (Or.inl h); exact Or.inr (Or.inr h); exact absurd h hb0)
  rw [← hneg] at s3
  rw [← hfit]
  have hA : a.natAbs ≤ 9223372036854775808 := by unfold I64 at ha; omega
  have hB1 : 1 ≤ b.natAbs := by omega
  have hQl : a.natAbs / b.natAbs ≤ a.natAbs := Nat.div_le_self _ _
  have d1 : IntKind.u64.wrap ((a.natAbs : Int) / (b.natAbs : Int)) = ((a.natAbs / b.natAbs : Nat) : Int) := by rw [← Int.natCast_ediv, Dv.wrapN _ (by omega)]
  have d2 : (a.natAbs : Int) % (b.natAbs : Int) = ((a.natAbs % b.natAbs : Nat) : Int) := (Int.natCast_emod _ _).symm
  have z1 : ¬ (b.natAbs : Int) = 0 := by omega
  have z2 : ¬ b.natAbs = 0 := by omega
  obtain ⟨Q, hQ⟩ : ∃ Q, Q = a.natAbs / b.natAbs := ⟨_, rfl⟩
  obtain ⟨R, hR⟩ : ∃ R, R = a.natAbs % b.natAbs := ⟨_, rfl⟩
  rw [← hQ] at d1 hQl
  rw [← hR] at d2
  have d3 : IntKind.u64.wrap ((Q : Int) + 1) = ((Q + 1 : Nat) : Int) := by rw [← Num.wrapN (Q + 1) (by omega)]; simp
  obtain ⟨U, hU⟩ : ∃ U, U = Ex.up neg a.natAbs b.natAbs := ⟨_, rfl⟩
  rw [← hU]
  have hnum : ∀ t, t = U → t < 18446744073709551616 → ∀ w' : World, Calls Try.prog 33 #[.agg #[.int .u64 0, .int .u64 t], .bool neg] w' fun e w'' => e = .returned (.tuple #[.int .i64 (valI (Ex.fitI (Ex.sg neg U))), .bool (okI (Ex.fitI (Ex.sg neg U)))]) ∧ Below w'.heap.size w' w'' := by
    intro t ht hlt w'
    rw [← ht]
    exact number_any neg _ _ t w' (hi_small hlt) (lo_small hlt)
  obtain ⟨V, hV⟩ : ∃ V, V = valI (Ex.fitI (Ex.sg neg U)) := ⟨_, rfl⟩
  obtain ⟨O, hO⟩ : ∃ O, O = okI (Ex.fitI (Ex.sg neg U)) := ⟨_, rfl⟩
  rw [← hV, ← hO] at hnum ⊢
  have hu0 : neg = false → Q = U := fun h => by rw [hU, h, Ex.up_false, hQ]
  have hu1 : R = 0 → Q = U := fun h => by
    rw [hU]
    cases neg
    · rw [Ex.up_false, hQ]
    · rw [Ex.up_true0 _ _ (by rw [← hR]; exact h), hQ]
  have hu2 : neg = true → R ≠ 0 → Q + 1 = U := fun h h' => by rw [hU, h, Ex.up_true1 _ _ (by rw [← hR]; exact h'), hQ]
  replace hnum := hide hnum
  have hQb : Q ≤ 9223372036854775808 := by omega
  clear hneg hfit hQ hR hV hO hU hA hQl
  cases neg
  · have k := hu0 rfl
    have hnum' := (unhide hnum) Q k (by omega)
    clear hu0 hu1 hu2 k hnum
    go_enter Try.func10, Try.ntmps10
    go_wp2_with (go_at_call 31; refine (sign_any _ _).mono ?_; rintro e w' ⟨rfl, rfl⟩)
    go_quiet ((go_at_call 32; exact Calls.quiet_of_same (esize_any _ _ (by assumption))))
    go_wp2_with fail
    refine (hnum' _).mono ?_
    rintro e w1 ⟨rfl, hb1⟩
    go_wp2_with fail
    go_ret2
    exact ⟨rfl, (below_drewN _ _).trans hb1⟩
  · by_cases hR0 : R = 0
    · have k := hu1 hR0
      have hnum' := (unhide hnum) Q k (by omega)
      subst hR0
      clear hu0 hu1 hu2 k hnum
      go_enter Try.func10, Try.ntmps10
      go_wp2_with (go_at_call 31; refine (sign_any _ _).mono ?_; rintro e w' ⟨rfl, rfl⟩)
      go_quiet ((go_at_call 32; exact Calls.quiet_of_same (esize_any _ _ (by assumption))))
      go_wp2_with fail
      refine (hnum' _).mono ?_
      rintro e w1 ⟨rfl, hb1⟩
      go_wp2_with fail
      go_ret2
      exact ⟨rfl, (below_drewN _ _).trans hb1⟩
    · have k := hu2 rfl hR0
      have hnum' := (unhide hnum) (Q + 1) k (by omega)
      have t1 : decide (0 < R) = true := by simp; omega
      have t2 : 0 < R := by omega
      have t3 : ((R : Int) != 0) = true := by simp; omega
      clear hu0 hu1 hu2 k hnum hR0
      go_enter Try.func10, Try.ntmps10
      go_wp2_with (go_at_call 31; refine (sign_any _ _).mono ?_; rintro e w' ⟨rfl, rfl⟩)
      go_quiet ((go_at_call 32; exact Calls.quiet_of_same (esize_any _ _ (by assumption))))
      go_wp2_with fail
      refine (hnum' _).mono ?_
      rintro e w1 ⟨rfl, hb1⟩
      go_wp2_with fail
      go_ret2
      exact ⟨rfl, (below_drewN _ _).trans hb1⟩
end Go.Proofs.Ytfegkaflemcanaa
