/- Floor of the reference; MulDiv, the program's and the reference's. -/
import Derived.Test.YtfegkaflemcanaaEx1
namespace Go.Proofs.Ytfegkaflemcanaa
open Go.RowKit

theorem xy_f {x y : Bool} (h : (x != y) = false) : (x = false ∧ y = false) ∨ (x = true ∧ y = true) := by cases x <;> cases y <;> simp_all
theorem xy_t {x y : Bool} (h : (x != y) = true) : (x = false ∧ y = true) ∨ (x = true ∧ y = false) := by cases x <;> cases y <;> simp_all
theorem ne_t {a b : Int} (h : (decide (a < 0) != decide (b < 0)) = true) : a < 0 ∧ 0 ≤ b ∨ 0 ≤ a ∧ b < 0 := by
  by_cases h1 : a < 0 <;> by_cases h2 : b < 0 <;> simp [h1, h2] at h <;> omega
theorem ne_f {a b : Int} (h : (decide (a < 0) != decide (b < 0)) = false) : a < 0 ∧ b < 0 ∨ 0 ≤ a ∧ 0 ≤ b := by
  by_cases h1 : a < 0 <;> by_cases h2 : b < 0 <;> simp [h1, h2] at h <;> omega

set_option maxHeartbeats 400000 in
theorem rfloor_any (a b : Int) (w : World) (ha : I64 a) (hb : I64 b) :
    Calls Try.prog 11 #[.int .i64 a, .int .i64 b] w fun e w' => e = .returned (.tuple #[.int .i64 (valI (Ex.floS a b)), .bool (okI (Ex.floS a b))]) ∧ Below w.heap.size w w' := by
  by_cases hb0 : b = 0
  · subst hb0
    exact rfloor_none a w
  have e1 : (b == 0) = false := by simpa using hb0
  obtain ⟨x, hx⟩ : ∃ x, decide (a < 0) = x := ⟨_, rfl⟩
  obtain ⟨y, hy⟩ : ∃ y, decide (b < 0) = y := ⟨_, rfl⟩
  obtain ⟨neg, hneg⟩ : ∃ neg, (decide (a < 0) != decide (b < 0)) = neg := ⟨_, rfl⟩
  have hfit := Ex.flo_up a b hb0 neg (fun h => ne_t (hneg.trans h)) (fun h => by rcases ne_f (hneg.trans h) with h | h; exact Or.inl h; exact Or.inr (Or.inl h))
  have s3 := hneg
  rw [hx, hy] at s3
  replace s3 := hide s3
  rw [← hfit]
  have hA : a.natAbs ≤ 9223372036854775808 := by unfold I64 at ha; omega
  have hB1 : 1 ≤ b.natAbs := by omega
  have hQl : a.natAbs / b.natAbs ≤ a.natAbs := Nat.div_le_self _ _
  have d1 : IntKind.u64.wrap ((a.natAbs : Int) / (b.natAbs : Int)) = ((a.natAbs / b.natAbs : Nat) : Int) := by rw [← Int.natCast_ediv, Dv.wrapN _ (by omega)]
  have d2 : (a.natAbs : Int) % (b.natAbs : Int) = ((a.natAbs % b.natAbs : Nat) : Int) := (Int.natCast_emod _ _).symm
  have z1 : ¬ (b.natAbs : Int) = 0 := by omega
  have z2 : ¬ b.natAbs = 0 := by omega
  obtain ⟨Q, hQ⟩ : ∃ Q, Q = a.natAbs / b.natAbs := ⟨_, rfl⟩
  obtain ⟨R, hR⟩ : ∃ R, R = a.natAbs % b.natAbs := ⟨_, rfl⟩
  rw [← hQ] at d1 hQl
  rw [← hR] at d2
  have d3 : IntKind.u64.wrap ((Q : Int) + 1) = ((Q + 1 : Nat) : Int) := by rw [← Num.wrapN (Q + 1) (by omega)]; simp
  obtain ⟨U, hU⟩ : ∃ U, U = Ex.up neg a.natAbs b.natAbs := ⟨_, rfl⟩
  rw [← hU]
  have hnum : ∀ t, t = U → t < 18446744073709551616 → ∀ w' : World, Calls Try.prog 35 #[.bool neg, .agg #[.int .u64 0, .int .u64 t]] w' fun e w'' => e = .returned (.tuple #[.int .i64 (valI (Ex.fitI (Ex.sg neg U))), .bool (okI (Ex.fitI (Ex.sg neg U)))]) ∧ Below w'.heap.size w' w'' := by
    intro t ht hlt w'
    rw [← ht]
    exact rwhole_any neg _ _ t w' (hi_small hlt) (lo_small hlt)
  obtain ⟨V, hV⟩ : ∃ V, V = valI (Ex.fitI (Ex.sg neg U)) := ⟨_, rfl⟩
  obtain ⟨O, hO⟩ : ∃ O, O = okI (Ex.fitI (Ex.sg neg U)) := ⟨_, rfl⟩
  rw [← hV, ← hO] at hnum ⊢
  have hu0 : neg = false → Q = U := fun h => by rw [hU, h, Ex.up_false, hQ]
  have hu1 : R = 0 → Q = U := fun h => by
    rw [hU]
    cases neg
    · rw [Ex.up_false, hQ]
    · rw [Ex.up_true0 _ _ (by rw [← hR]; exact h), hQ]
  have hu2 : neg = true → R ≠ 0 → Q + 1 = U := fun h h' => by rw [hU, h, Ex.up_true1 _ _ (by rw [← hR]; exact h'), hQ]
  replace hnum := hide hnum
  have hQb : Q ≤ 9223372036854775808 := by omega
  clear hneg hfit hQ hR hV hO hU hA hQl
  cases neg
  · have k := hu0 rfl
    have hnum' := (unhide hnum) Q k (by omega)
    clear hu0 hu1 hu2 k hnum
    have hxy := xy_f (unhide s3)
    clear s3
    rcases hxy with ⟨rfl, rfl⟩ | ⟨rfl, rfl⟩
    all_goals
      go_enter Try.func11, Try.ntmps11
      go_wp2_with (go_at_call 34; refine (size_any _ _ (by assumption)).mono ?_; rintro e w' ⟨rfl, rfl⟩)
      refine (hnum' _).mono ?_
      rintro e w1 ⟨rfl, hb1⟩
      go_wp2_with fail
      go_ret2
      exact ⟨rfl, hb1⟩
  · by_cases hR0 : R = 0
    · have k := hu1 hR0
      have hnum' := (unhide hnum) Q k (by omega)
      subst hR0
      clear hu0 hu1 hu2 k hnum
      have hxy := xy_t (unhide s3)
      clear s3
      rcases hxy with ⟨rfl, rfl⟩ | ⟨rfl, rfl⟩
      all_goals
        go_enter Try.func11, Try.ntmps11
        go_wp2_with (go_at_call 34; refine (size_any _ _ (by assumption)).mono ?_; rintro e w' ⟨rfl, rfl⟩)
        refine (hnum' _).mono ?_
        rintro e w1 ⟨rfl, hb1⟩
        go_wp2_with fail
        go_ret2
        exact ⟨rfl, hb1⟩
    · have k := hu2 rfl hR0
      have hnum' := (unhide hnum) (Q + 1) k (by omega)
      have t1 : decide (0 < R) = true := by simp; omega
      have t2 : 0 < R := by omega
      have t3 : ((R : Int) != 0) = true := by simp; omega
      clear hu0 hu1 hu2 k hnum hR0
      have hxy := xy_t (unhide s3)
      clear s3
      rcases hxy with ⟨rfl, rfl⟩ | ⟨rfl, rfl⟩
      all_goals
        go_enter Try.func11, Try.ntmps11
        go_wp2_with (go_at_call 34; refine (size_any _ _ (by assumption)).mono ?_; rintro e w' ⟨rfl, rfl⟩)
        refine (hnum' _).mono ?_
        rintro e w1 ⟨rfl, hb1⟩
        go_wp2_with fail
        go_ret2
        exact ⟨rfl, hb1⟩

theorem emd_none (a b c : Int) (w : World) (hc : c < 1) :
    Calls Try.prog 14 #[.int .i64 a, .int .i64 b, .int .i64 c] w fun e w' => e = .returned (.tuple #[.int .i64 0, .bool false]) ∧ Below w.heap.size w w' := by
  have t1 : decide (c < 1) = true := by simpa using hc
  go_enter Try.func14, Try.ntmps14
  go_wp2
  go_ret2
  exact ⟨rfl, Below.refl _ _⟩
theorem rmd_none (a b c : Int) (w : World) (hc : c < 1) :
    Calls Try.prog 15 #[.int .i64 a, .int .i64 b, .int .i64 c] w fun e w' => e = .returned (.tuple #[.int .i64 0, .bool false]) ∧ Below w.heap.size w w' := by
  have t1 : decide (c < 1) = true := by simpa using hc
  go_enter Try.func15, Try.ntmps15
  go_wp2
  go_ret2
  exact ⟨rfl, Below.refl _ _⟩

end Go.Proofs.Ytfegkaflemcanaa
