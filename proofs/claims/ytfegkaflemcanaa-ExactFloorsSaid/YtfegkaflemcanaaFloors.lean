/- The law ExactFloors: the quotients of Floor, Round and MulDiv lie within their bounds. It holds for every input. -/
import Derived.Test.YtfegkaflemcanaaEx12
import Derived.Test.YtfegkaflemcanaaWrap
namespace Go.Proofs.Ytfegkaflemcanaa
open Go.ChangeShapes Go.WideShapes Go.ChangeAt Go.RowKit

theorem fdiv_pos (a b : Int) (hb : 1 ≤ b) : Int.fdiv a b = a / b := Int.fdiv_eq_ediv_of_nonneg _ (by omega)
theorem fdiv_neg (a b : Int) (hb : 1 ≤ b) : Int.fdiv a (-b) = (-a) / b := by
  have := Int.neg_fdiv_neg (-a) b
  rw [Int.neg_neg] at this
  rw [this, fdiv_pos _ _ hb]
theorem fit_in {n : Int} (h : -9223372036854775808 ≤ n ∧ n ≤ 9223372036854775807) : valI (Ex.fitI n) = n ∧ okI (Ex.fitI n) = true := by
  unfold Ex.fitI; rw [if_pos h]; exact ⟨rfl, rfl⟩
theorem flo_pos {a b : Int} (hb : 1 ≤ b) (ha : I64 a) : valI (Ex.floS a b) = a / b ∧ okI (Ex.floS a b) = true := by
  unfold Ex.floS
  rw [if_neg (by omega), fdiv_pos a b hb]
  exact fit_in (floor_i64 hb ha.1 ha.2)
theorem flo_neg {a b : Int} (hb : 1 ≤ b) (ha : I64 (-a)) : valI (Ex.floS a (-b)) = (-a) / b ∧ okI (Ex.floS a (-b)) = true := by
  unfold Ex.floS
  rw [if_neg (by omega), fdiv_neg a b hb]
  exact fit_in (floor_i64 hb ha.1 ha.2)
theorem md_in {a b c : Int} (hc : 1 ≤ c) (h : I64 (a * b / c)) : valI (Ex.mdS a b c) = a * b / c ∧ okI (Ex.mdS a b c) = true := by
  unfold Ex.mdS
  rw [if_neg (by omega)]
  exact fit_in h
theorem quo_small (x b : Int) (hb : 1 ≤ b) (h : -268435456 ≤ x ∧ x ≤ 268435456) : -268435456 ≤ x / b ∧ x / b ≤ 268435456 := by
  have := floor_bounds x b hb
  omega
theorem mul_small (x y : Int) (hx : -268435457 ≤ x ∧ x ≤ 268435457) (hy : 0 ≤ y ∧ y ≤ 268435456) : -72057594306363392 ≤ x * y ∧ x * y ≤ 72057594306363392 := by
  have h1 : x * y ≤ 268435457 * y := Int.mul_le_mul_of_nonneg_right hx.2 hy.1
  have h2 : -268435457 * y ≤ x * y := Int.mul_le_mul_of_nonneg_right hx.1 hy.1
  omega
theorem floor_ineq (a b : Int) (hb : 1 ≤ b) : a / b * b ≤ a ∧ a < (a / b + 1) * b := by
  have := floor_bounds a b hb
  rw [Int.mul_comm, Int.add_mul, Int.one_mul, Int.mul_comm (a / b) b]
  exact ⟨this.1, by omega⟩
theorem round_ineq (a b : Int) (hb : 1 ≤ b) : 2 * b * roundI a b ≤ 2 * a + b ∧ 2 * a + b < 2 * b * (roundI a b + 1) := by
  have hd := Int.mul_ediv_add_emod a b
  have hr0 := Int.emod_nonneg a (b := b) (by omega)
  have hr1 := Int.emod_lt_of_pos a (b := b) (by omega)
  unfold roundI
  split
  · rw [Int.mul_assoc, Int.mul_assoc, Int.mul_add b _ 1, Int.mul_add b _ 1, Int.mul_add b _ 1]
    omega
  · rw [Int.mul_assoc, Int.mul_assoc, Int.mul_add b _ 1]
    omega
theorem round_small (a b : Int) (hb : 1 ≤ b) (h : -268435455 ≤ a ∧ a ≤ 268435455) : -268435456 ≤ roundI a b ∧ roundI a b ≤ 268435456 := by
  have := floor_bounds a b hb
  unfold roundI; split <;> omega
theorem round_one (n : Int) : roundI n 1 = n := by unfold roundI; simp
theorem w64 {x : Int} (h : -72057594306363392 ≤ x ∧ x ≤ 72057594306363392) : wrap64 x = x := IntWalk.wrap64_in _ (by omega)

set_option maxRecDepth 100000 in
set_option maxHeartbeats 1000000 in
theorem floors_any (l0 l1 l2 n : Int) (w : World) (_ : I64 l0) (_ : I64 l1) (_ : I64 l2) (hn : I64 n) :
    Calls Try.prog 4 #[.agg #[.int .i64 l0, .int .i64 l1, .int .i64 l2], .int .i64 n] w fun e w' => e = .returned (.bool true) ∧ Below w.heap.size w w' := by
  obtain ⟨A, hA⟩ : ∃ A, A = l0.tmod 268435456 := ⟨_, rfl⟩
  have bA : -268435456 < A ∧ A < 268435456 := by rw [hA]; exact tmod_bounds l0 268435456 (by omega)
  have tA : l0.tmod 268435456 = A := hA.symm
  have m1 := fun w => mod_any l1 268435455 w (by omega) (by omega)
  have m2 := fun w => mod_any l2 268435455 w (by omega) (by omega)
  have b1 : 0 ≤ l1 % 268435455 ∧ l1 % 268435455 < 268435455 := by omega
  have b2 : 0 ≤ l2 % 268435455 ∧ l2 % 268435455 < 268435455 := by omega
  generalize l1 % 268435455 = B0 at *
  generalize l2 % 268435455 = C0 at *
  clear hA
  obtain ⟨B, hB⟩ : ∃ B, B0 + 1 = B := ⟨_, rfl⟩
  obtain ⟨C, hC⟩ : ∃ C, C0 + 1 = C := ⟨_, rfl⟩
  have bB : 1 ≤ B ∧ B ≤ 268435455 := by omega
  have bC : 1 ≤ C ∧ C ≤ 268435455 := by omega
  have iA : I64 A := ⟨by omega, by omega⟩
  have iB : I64 B := ⟨by omega, by omega⟩
  have iB' : I64 (-B) := ⟨by omega, by omega⟩
  have iC : I64 C := ⟨by omega, by omega⟩
  have iA' : I64 (-A) := ⟨by omega, by omega⟩
  have sAB := mul_small A B (by omega) (by omega)
  have sAC := mul_small A C (by omega) (by omega)
  have sCC := mul_small C C (by omega) (by omega)
  have iAB : I64 (A * B) := ⟨by omega, by omega⟩
  have iAC : I64 (A * C) := ⟨by omega, by omega⟩
  have iCC : I64 (C * C) := ⟨by omega, by omega⟩
  have oCC : 1 ≤ C * C := by have := Int.mul_pos (show 0 < C by omega) (show 0 < C by omega); omega
  have eAB := w64 sAB
  have eAC := w64 sAC
  have eCC := w64 sCC
  obtain ⟨p1, p2⟩ := flo_pos bB.1 iA
  obtain ⟨q1, q2⟩ := flo_neg bB.1 iA'
  obtain ⟨t1, t2⟩ := flo_pos bC.1 iAB
  have hmd : I64 (A * B / C) := by have := floor_i64 bC.1 iAB.1 iAB.2; exact this
  obtain ⟨s1, s2⟩ := md_in bC.1 hmd
  have hu : A * C * B / (C * C) = A * B / C := by
    rw [Int.mul_right_comm, Int.mul_ediv_mul_of_pos_left _ _ (by omega)]
  obtain ⟨u1, u2⟩ := md_in (a := A * C) (b := B) (c := C * C) oCC (by rw [hu]; exact hmd)
  rw [hu] at u1
  have hv : n * B / B = n := Int.mul_ediv_cancel _ (by omega)
  obtain ⟨v1, v2⟩ := md_in (a := n) (b := B) (c := B) bB.1 (by rw [hv]; exact hn)
  rw [hv] at v1
  obtain ⟨x1, x2⟩ := flo_pos (b := 1) (by omega) hn
  rw [Int.ediv_one] at x1
  have y1 := round_one n
  have pb := quo_small A B bB.1 (by omega)
  have qb := quo_small (-A) B bB.1 (by omega)
  have rb := round_small A B bB.1 (by omega)
  have pi := floor_ineq A B bB.1
  have qi := floor_ineq (-A) B bB.1
  have ri := round_ineq A B bB.1
  have r1 := fun w => eround_pos A B w iA bB.1 (by omega)
  generalize A / B = p at *
  generalize (-A) / B = q at *
  generalize roundI A B = r at *
  generalize A * B / C = s at *
  generalize hAB : A * B = AB at *
  generalize hAC : A * C = AC at *
  generalize hCC : C * C = CC at *
  have d1 := mul_small p B (by omega) (by omega)
  have d2 := mul_small (p + 1) B (by omega) (by omega)
  have d3 := mul_small (-q) B (by omega) (by omega)
  have d4 := mul_small (-(q + 1)) B (by omega) (by omega)
  have d5 := mul_small r B (by omega) (by omega)
  have d6 := mul_small (r + 1) B (by omega) (by omega)
  have e3 : -q * B = -(q * B) := Int.neg_mul _ _
  have e4 : -(q + 1) * B = -((q + 1) * B) := Int.neg_mul _ _
  have e5 : 2 * B * r = 2 * (r * B) := by rw [Int.mul_assoc, Int.mul_comm B r]
  have e6 : 2 * B * (r + 1) = 2 * ((r + 1) * B) := by rw [Int.mul_assoc, Int.mul_comm B (r + 1)]
  have f1 := w64 d1
  have f2 := w64 d2
  have f3 := w64 d3
  have f4 := w64 d4
  have f5 : wrap64 (2 * B * r) = 2 * B * r := IntWalk.wrap64_in _ (by omega)
  have f6 : wrap64 (2 * B * (r + 1)) = 2 * B * (r + 1) := IntWalk.wrap64_in _ (by omega)
  have g1 : p * B ≤ A := pi.1
  have g2 : A < (p + 1) * B := pi.2
  have g3 : A ≤ -q * B := by omega
  have g4 : -(q + 1) * B < A := by omega
  have g5 := ri.1
  have g6 := ri.2
  clear e3 e4 e5 e6 d1 d2 d3 d4 d5 d6 pi qi ri hu hv hmd
  generalize hX1 : p * B = X1 at *
  generalize hX2 : (p + 1) * B = X2 at *
  generalize hX3 : -q * B = X3 at *
  generalize hX4 : -(q + 1) * B = X4 at *
  generalize hX5 : 2 * B * r = X5 at *
  generalize hX6 : 2 * B * (r + 1) = X6 at *
  replace m1 := hide m1; replace m2 := hide m2; replace r1 := hide r1
  have hbel : Below w.heap.size w (w.alloc (Obj.cells #[.int .i64 l0, .int .i64 l1, .int .i64 l2] 22)) := (Below.refl _ _).alloc (Nat.le_refl _) _
  go_enter Try.func4, Try.ntmps4
  go_wp2_with fail
  refine (sanity_any _).mono ?_
  rintro e w1 ⟨rfl, hb1⟩
  have kl := kept hb1 (by simp) (new1 w (Obj.cells #[.int .i64 l0, .int .i64 l1, .int .i64 l2] 22))
  replace hbel := hbel.trans (hb1.mono hbel.size)
  have c0 : w1.cell? ⟨w.heap.size, 0, none⟩ = some (.int .i64 l0) := by simp [World.cell?, kl]
  have c1 : w1.cell? ⟨w.heap.size, 1, none⟩ = some (.int .i64 l1) := by simp [World.cell?, kl]
  have c2 : w1.cell? ⟨w.heap.size, 2, none⟩ = some (.int .i64 l2) := by simp [World.cell?, kl]
  clear hb1 kl
  go_wp2_with fail
  refine (unhide m1 _).mono ?_
  rintro e w' ⟨rfl, rfl⟩
  go_wp2_with fail
  refine (unhide m2 _).mono ?_
  rintro e w' ⟨rfl, rfl⟩
  go_wp2_with fail
  refine (efloor_any _ _ _ iA iB).mono ?_
  rintro e w2 ⟨rfl, hb2⟩
  replace hbel := hbel.trans (hb2.mono hbel.size)
  go_wp2_with fail
  refine (efloor_any _ _ _ iA iB').mono ?_
  rintro e w3 ⟨rfl, hb3⟩
  replace hbel := hbel.trans (hb3.mono hbel.size)
  go_wp2_with fail
  refine (unhide r1 _).mono ?_
  rintro e w' ⟨rfl, rfl⟩
  go_wp2_with fail
  refine (emd_any _ _ _ _ iA iB iC).mono ?_
  rintro e w4 ⟨rfl, hb4⟩
  replace hbel := hbel.trans (hb4.mono hbel.size)
  go_wp2_with fail
  refine (efloor_any _ _ _ iAB iC).mono ?_
  rintro e w5 ⟨rfl, hb5⟩
  replace hbel := hbel.trans (hb5.mono hbel.size)
  go_wp2_with fail
  refine (emd_any _ _ _ _ iAC iB iCC).mono ?_
  rintro e w6 ⟨rfl, hb6⟩
  replace hbel := hbel.trans (hb6.mono hbel.size)
  have k1 : decide (p < -268435456) = false := by simp; omega
  have k2 : decide (268435456 < p) = false := by simp; omega
  have k3 : decide (q < -268435456) = false := by simp; omega
  have k4 : decide (268435456 < q) = false := by simp; omega
  have k5 : decide (r < -268435456) = false := by simp; omega
  have k6 : decide (268435456 < r) = false := by simp; omega
  have k7 : decide (A < X1) = false := by simp; omega
  have k8 : decide (X2 ≤ A) = false := by simp; omega
  have k9 : decide (X3 < A) = false := by simp; omega
  have k10 : decide (A ≤ X4) = false := by simp; omega
  have k11 : decide (2 * A + B < X5) = false := by simp; omega
  have k12 : decide (X6 ≤ 2 * A + B) = false := by simp; omega
  clear sAB sAC sCC oCC bC iA iA' iB' iC iAB iAC iCC tA b1 b2 hB hC m1 m2 r1 c0 c1 c2 p1 p2 q1 q2 t1 t2 s1 s2 eAB eAC eCC hAB hAC hCC g1 g2 g3 g4 g5 g6
  go_wp2_with fail
  refine (emd_any _ _ _ _ hn iB iB).mono ?_
  rintro e w7 ⟨rfl, hb7⟩
  replace hbel := hbel.trans (hb7.mono hbel.size)
  go_wp2_with fail
  refine (efloor_any _ _ _ hn ⟨by omega, by omega⟩).mono ?_
  rintro e w8 ⟨rfl, hb8⟩
  replace hbel := hbel.trans (hb8.mono hbel.size)
  go_wp2_with fail
  refine (eround_pos _ _ _ hn (by omega) (by omega)).mono ?_
  rintro e w' ⟨rfl, rfl⟩
  go_wp2_with (go_at_call 17; refine (is_any _ _ _ _).mono ?_; rintro e w' ⟨rfl, rfl⟩)
  go_ret
  exact ⟨by simp, hbel⟩


set_option maxRecDepth 100000 in
theorem floors_lifted (os : Os) (started : os.Started) (H : Type) (enc : TypeId × Value → H) :
    ReturnsInHanded {} Try.checked os 4 .any (Rows.exactFloorsSpec.pre6 enc Try.prog Try.f4 Rows.exactFloorsRow.domain false) (Rows.exactFloorsSpec.post enc Try.prog Try.f4 false true false false) := by
  refine returnsInHanded_of_change (C := Try.checked) prog_own started (by kernel_rfl) Try.func4
    (ChangeSpec.witness6 (enc := enc) (C := Try.checked) false ⟨#[], #[.agg #[.int .i64 0, .int .i64 0, .int .i64 0], .int .i64 0], []⟩ 8 (by kernel_rfl) (by kernel_rfl) (by kernel_rfl) (by kernel_rfl)) ?_
  intro W base args ds gs before hval0 hW hcnd _
  have hval : ∀ (j : Nat) t v, Try.f4.params[j]? = some t → args[j]? = some v → Value.okWide Try.prog W .any base t v := hval0
  have hW' := hW
  obtain ⟨p, q, hA0, hV, rfl, hfz, hnd⟩ := hW
  have hA : DataW.TrodAll enc Try.prog W 0 (fun _ => true) true [22, 3] args.toList ds p := hA0
  obtain ⟨v0, v1, d0, d1, p0, p1, rfl, rfl, rfl, h0, h1⟩ := trodAll_two hA
  obtain ⟨rfl, rfl⟩ := trodVars_none hV
  obtain ⟨a, b, c, rfl, wa, wb, wc, rfl, rfl⟩ := open_int3 Try.underlying22 Try.underlying3 cells22 cells3 (hval 0 22 v0 rfl rfl) h0
  obtain ⟨n, rfl, rfl, rfl, wn⟩ := open_int Try.underlying3 (hval 1 3 v1 rfl rfl) h1
  refine (floors_any a b c n W (i64_of wa) (i64_of wb) (i64_of wc) (i64_of wn)).mono fun e W' ⟨he, hb⟩ => ?_
  subst he
  simp only [List.append_nil] at hW'
  refine ⟨_, rfl, law_post hW' rfl rfl Try.underlying4 rfl ?_ hb⟩
  exact trodAll_mk2 (Below.trod prog_laid (by kernel_rfl) (of_decide_eq_true (by kernel_rfl)) h0 hb (fun x hx => by cases hx)) (Below.trod prog_laid (by kernel_rfl) (of_decide_eq_true (by kernel_rfl)) h1 hb (fun x hx => by cases hx))

theorem floors_holds : Rows.ExactFloorsSaid :=
  OpenClaim.holds_of_wide (p := Try.pinned) (s := Rows.exactFloorsSpec) (c := Rows.exactFloorsRow) 4 Try.f4 rfl rfl rfl rfl rfl rfl rfl ⟨rfl, rfl, rfl, rfl, rfl⟩ rfl rfl rfl rfl rfl (by kernel_rfl) Try.func4 (by kernel_rfl)
    (of_decide_eq_true (by kernel_rfl)) (by unfold Func.isWrapper; first | (rw [if_pos (by decide +kernel)]; kernel_rfl) | (rw [if_neg (by decide +kernel)]; exact ⟨rfl, rfl⟩))
    (fun os started H enc _ => floors_lifted os started H enc)
end Go.Proofs.Ytfegkaflemcanaa
