/- Cmp, the program's. -/
import Derived.Test.YtfegkaflemcanaaEx1
import Derived.Test.YtfegkaflemcanaaTail
import Derived.Test.YtfegkaflemcanaaExC
namespace Go.Proofs.Ytfegkaflemcanaa
open Go.RowKit

theorem cmp_ord (x y : Int) : cmpI x y = Ex.ordI x y := rfl
theorem ext2 {w : World} {o1 o2 : Obj} {n : Nat} (x : Ext (((w.alloc o1).alloc o2).drewN n)) : (∀ i v, ((w.alloc o1).alloc o2).cell? ⟨w.heap.size, i, none⟩ = some v → x.get.cell? ⟨w.heap.size, i, none⟩ = some v) ∧
    (∀ i v, ((w.alloc o1).alloc o2).cell? ⟨w.heap.size + 1, i, none⟩ = some v → x.get.cell? ⟨w.heap.size + 1, i, none⟩ = some v) :=
  ⟨fun i v h => x.cell (by simpa using h), fun i v h => x.cell (by simpa using h)⟩

theorem ecmp_bad (xn xd yn yd : Int) (w : World) (h : xd < 1 ∨ yd < 1) :
    Calls Try.prog 18 #[.agg #[.int .i64 xn, .int .i64 xd], .agg #[.int .i64 yn, .int .i64 yd]] w fun e w' => e = .returned (.int .i64 0) ∧ Below w.heap.size w w' := by
  by_cases h1 : xd < 1
  · have t1 : decide (xd < 1) = true := by simpa using h1
    go_enter Try.func18, Try.ntmps18
    go_wp2
    go_ret
    exact ⟨rfl, ((Below.refl _ _).alloc (Nat.le_refl _) _).alloc (by simp) _⟩
  · have t1 : decide (xd < 1) = false := by simpa using h1
    have t2 : decide (yd < 1) = true := by simp; omega
    go_enter Try.func18, Try.ntmps18
    go_wp2
    go_ret
    exact ⟨rfl, ((Below.refl _ _).alloc (Nat.le_refl _) _).alloc (by simp) _⟩

set_option maxHeartbeats 1000000 in
theorem ecmp_any (xn xd yn yd : Int) (w : World) (h1 : I64 xn) (h2 : I64 xd) (h3 : I64 yn) (h4 : I64 yd) :
    Calls Try.prog 18 #[.agg #[.int .i64 xn, .int .i64 xd], .agg #[.int .i64 yn, .int .i64 yd]] w fun e w' => e = .returned (.int .i64 (Ex.cmpS xn xd yn yd)) ∧ Below w.heap.size w w' := by
  by_cases hbad : xd < 1 ∨ yd < 1
  · have : Ex.cmpS xn xd yn yd = 0 := by unfold Ex.cmpS; rw [if_pos hbad]
    rw [this]
    exact ecmp_bad xn xd yn yd w hbad
  have hv : Ex.cmpS xn xd yn yd = Ex.ordI (xn * yd) (yn * xd) := by unfold Ex.cmpS; rw [if_neg hbad]
  rw [hv]
  have t1 : decide (xd < 1) = false := by simp; omega
  have t2 : decide (yd < 1) = false := by simp; omega
  have hd := Ex.cmp_diff xn xd yn yd (by omega) (by omega)
  have hs := Ex.cmp_same xn xd yn yd (by omega) (by omega)
  have b1 : xn.natAbs < 18446744073709551616 := by unfold I64 at h1; omega
  have b2 : xd.natAbs < 18446744073709551616 := by unfold I64 at h2; omega
  have b3 : yn.natAbs < 18446744073709551616 := by unfold I64 at h3; omega
  have b4 : yd.natAbs < 18446744073709551616 := by unfold I64 at h4; omega
  obtain ⟨r, hr⟩ : ∃ r, r = Ex.ordI (xn * yd) (yn * xd) := ⟨_, rfl⟩
  rw [← hr] at hd hs ⊢
  have sx := fun w => sign_any xn w
  have sy := fun w => sign_any yn w
  rw [cmp_ord] at sx sy
  have bs := Ex.ord_bd xn 0
  obtain ⟨s, hsd⟩ : ∃ s, s = Ex.ordI xn 0 := ⟨_, rfl⟩
  obtain ⟨t, htd⟩ : ∃ t, t = Ex.ordI yn 0 := ⟨_, rfl⟩
  rw [← hsd] at sx hd hs bs
  rw [← htd] at sy hd hs
  clear hsd htd hr hv hbad
  by_cases hst : s = t
  · subst hst
    have hs := hide (hs rfl)
    have e1 : (s != s) = false := by simp
    clear hd
    have sz : ∀ z, xn = z ∨ yn = z → ∀ w, Calls Try.prog 31 #[.int .i64 z] w fun e w' => e = .returned (.int .i64 s) ∧ w' = w := by
      rintro z (rfl | rfl)
      · exact sx
      · exact sy
    clear sx sy
    obtain ⟨P, hP⟩ : ∃ P, P = xn.natAbs * yd.natAbs := ⟨_, rfl⟩
    obtain ⟨R, hR⟩ : ∃ R, R = yn.natAbs * xd.natAbs := ⟨_, rfl⟩
    have tm : ∀ (a b : Nat) (w : World), a < 18446744073709551616 → b < 18446744073709551616 → Calls Try.prog 36 #[.int .u64 a, .int .u64 b] w fun e w' => e = .returned (.agg #[.int .u64 (hiW (a * b)), .int .u64 (loW (a * b))]) ∧ Below w.heap.size w w' :=
      fun a b w ha hb => times_any a b _ _ w rfl rfl ha hb
    have cp : ∀ w : World, Calls Try.prog 43 #[.agg #[.int .u64 (hiW P), .int .u64 (loW P)], .agg #[.int .u64 (hiW R), .int .u64 (loW R)]] w fun e w' => e = .returned (.int .i64 (cmpI P R)) ∧ Below w.heap.size w w' :=
      fun w => compare_any P R _ _ _ _ w rfl rfl rfl rfl
    rw [← hP, ← hR, ← cmp_ord] at hs
    rw [hP, hR] at cp
    have bc := Ex.ord_bd (P : Int) (R : Int)
    rw [← cmp_ord] at bc
    rw [hP, hR] at bc hs
    obtain ⟨c, hc⟩ : ∃ c, c = cmpI ((xn.natAbs * yd.natAbs : Nat) : Int) ((yn.natAbs * xd.natAbs : Nat) : Int) := ⟨_, rfl⟩
    rw [← hc] at cp bc hs
    have ew : IntKind.i64.wrap (s * c) = s * c := by
      refine IntWalk.i64_in _ ?_
      have h1 : s = -1 ∨ s = 0 ∨ s = 1 := by omega
      rcases h1 with h1 | h1 | h1 <;> rw [h1] <;> omega
    rw [unhide hs] at ew
    have es := unhide hs
    clear hP hR hc bc bs hs
    go_enter Try.func18, Try.ntmps18
    go_wp2
    go_quiet ((go_at_call 31; exact Calls.quiet_of_same (sz _ (by first | exact Or.inl rfl | exact Or.inr rfl) _)))
    go_wp2
    have hx : ∀ x : Ext (((w.alloc (Obj.cells #[.int .i64 xn, .int .i64 xd] 33)).alloc (Obj.cells #[.int .i64 yn, .int .i64 yd] 33)).drewN nq), x.get.cell? ⟨w.heap.size, 0, none⟩ = some (.int .i64 xn) ∧ x.get.cell? ⟨w.heap.size, 1, none⟩ = some (.int .i64 xd) ∧ x.get.cell? ⟨w.heap.size + 1, 0, none⟩ = some (.int .i64 yn) ∧ x.get.cell? ⟨w.heap.size + 1, 1, none⟩ = some (.int .i64 yd) :=
      fun x => ⟨x.cell (by go_simp), x.cell (by go_simp), x.cell (by go_simp), x.cell (by go_simp)⟩
    have hx1 := fun x => (hx x).1
    have hx2 := fun x => (hx x).2.1
    have hx3 := fun x => (hx x).2.2.1
    have hx4 := fun x => (hx x).2.2.2
    clear hx
    refine wp_region_ext (by rfl) (by kernel_rfl) ?_
    repeat (quiet_step ((first | (go_at_call 32; exact Ext.calls ((esize_any _ _ (by assumption)).mono fun _ _ ⟨a, b⟩ => ⟨a, b ▸ Below.refl _ _⟩)) | (go_at_call 36; exact Ext.calls (tm _ _ _ (by assumption) (by assumption))) | (go_at_call 43; exact Ext.calls (cp _)))))
    refine wpQuiet_nil ?_
    rintro w' ⟨x, rfl⟩
    have hbel := x.le
    go_wp2
    go_ret
    exact ⟨rfl, ((((Below.refl _ _).alloc (Nat.le_refl _) _).alloc (by simp) _).trans ((below_drewN _ _).mono (by simp; omega))).trans (hbel.mono (by simp; omega))⟩
  · have hd := hide (hd hst)
    clear hs
    have e1 : (s != t) = true := by simpa using hst
    have sz : ∀ w, Calls Try.prog 31 #[.int .i64 xn] w fun e w' => e = .returned (.int .i64 s) ∧ w' = w := sx
    have cc := fun w => cmp_int s t w
    rw [cmp_ord, unhide hd] at cc
    clear hst hd
    go_enter Try.func18, Try.ntmps18
    go_wp2
    go_quiet ((go_at_call 31; first | with_reducible exact Calls.quiet_of_same (sx _) | with_reducible exact Calls.quiet_of_same (sy _)))
    go_wp2_with fail
    refine (cc _).mono ?_
    rintro e w1 ⟨rfl, rfl⟩
    go_wp2
    go_ret
    exact ⟨rfl, (((Below.refl _ _).alloc (Nat.le_refl _) _).alloc (by simp) _).trans ((below_drewN _ _).mono (by simp; omega))⟩
end Go.Proofs.Ytfegkaflemcanaa
