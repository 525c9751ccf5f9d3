/- The examples of the chapter. -/
import Derived.Test.YtfegkaflemcanaaEx11
import Derived.Test.YtfegkaflemcanaaEx3
namespace Go.Proofs.Ytfegkaflemcanaa
open Go.RowKit

theorem is_any (n want : Int) (ok : Bool) (w : World) :
    Calls Try.prog 17 #[.int .i64 n, .bool ok, .int .i64 want] w fun e w' => e = .returned (.bool (ok && (n == want))) ∧ w' = w := by
  cases ok
  · go_enter Try.func17, Try.ntmps17
    go_wp2
    go_ret
    exact ⟨rfl, rfl⟩
  · go_enter Try.func17, Try.ntmps17
    go_wp2
    go_ret
    exact ⟨by simp, rfl⟩
theorem of_any (n d : Int) (w : World) :
    Calls Try.prog 19 #[.int .i64 n, .int .i64 d] w fun e w' => e = .returned (.agg #[.int .i64 n, .int .i64 d]) ∧ Below w.heap.size w w' := by
  go_enter Try.func19, Try.ntmps19
  go_wp2
  refine bodyPost_ret (v := .agg #[.int .i64 n, .int .i64 d]) (by simp [results, Try.results19, go_sem]) rfl ⟨rfl, ?_⟩
  first | exact ((Below.refl _ _).alloc (Nat.le_refl _) _) | exact (((Below.refl _ _).alloc (Nat.le_refl _) _).setCell (by simp) _).setCell (by simp) _
theorem lratio_yes (n d : Int) (w : World) :
    Calls Try.prog 29 #[.agg #[.int .i64 n, .int .i64 d], .bool true, .int .i64 n, .int .i64 d] w fun e w' => e = .returned (.bool true) ∧ Below w.heap.size w w' := by
  go_enter Try.func29, Try.ntmps29
  go_wp2
  go_ret
  exact ⟨by simp, (Below.refl _ _).alloc (Nat.le_refl _) _⟩
theorem none_yes (w : World) :
    Calls Try.prog 30 #[.agg #[.int .i64 0, .int .i64 0], .bool false] w fun e w' => e = .returned (.bool true) ∧ Below w.heap.size w w' := by
  go_enter Try.func30, Try.ntmps30
  go_wp2
  go_ret
  exact ⟨by simp, (Below.refl _ _).alloc (Nat.le_refl _) _⟩

set_option maxRecDepth 100000 in
set_option maxHeartbeats 8000000 in
theorem sanity_any (w : World) :
    Calls Try.prog 9 #[] w fun e w' => e = .returned (.bool true) ∧ Below w.heap.size w w' := by
  have q1 : valI (Ex.floS (-7) 2) = -4 := by kernel_rfl
  have q2 : okI (Ex.floS (-7) 2) = true := by kernel_rfl
  have q3 : valI (Ex.floS 7 (-2)) = -4 := by kernel_rfl
  have q4 : okI (Ex.floS 7 (-2)) = true := by kernel_rfl
  have q5 : valI (Ex.floS (-9223372036854775808) (-1)) = 0 := by kernel_rfl
  have q6 : okI (Ex.floS (-9223372036854775808) (-1)) = false := by kernel_rfl
  have q7 : roundI 5 2 = 3 := by kernel_rfl
  have q8 : roundI (-5) 2 = -2 := by kernel_rfl
  have q9 : roundI (-7) 3 = -2 := by kernel_rfl
  have q10 : roundI 9223372036854775807 2 = 4611686018427387904 := by kernel_rfl
  have q11 : valI (Ex.mdS 4611686018427387904 6 8) = 3458764513820540928 := by kernel_rfl
  have q12 : okI (Ex.mdS 4611686018427387904 6 8) = true := by kernel_rfl
  have q13 : valI (Ex.mdS (-7) 1 2) = -4 := by kernel_rfl
  have q14 : okI (Ex.mdS (-7) 1 2) = true := by kernel_rfl
  have q15 : valI (Ex.mdS 4611686018427387904 2 1) = 0 := by kernel_rfl
  have q16 : okI (Ex.mdS 4611686018427387904 2 1) = false := by kernel_rfl
  have q17 : valI (Ex.mdS (-4611686018427387904) 2 1) = -9223372036854775808 := by kernel_rfl
  have q18 : okI (Ex.mdS (-4611686018427387904) 2 1) = true := by kernel_rfl
  have q19 : Ex.cmpS 1 3 2 6 = 0 := by kernel_rfl
  have q20 : Ex.cmpS (-1) 2 1 3 = -1 := by kernel_rfl
  have q21 : Ex.cmpS 1 0 1 1 = 0 := by kernel_rfl
  have q22 : Ex.cmpS 9223372036854775807 9223372036854775806 9223372036854775806 9223372036854775805 = -1 := by kernel_rfl
  have q23 : Ex.numR (Ex.lowS (-6) 4) = -3 := by kernel_rfl
  have q24 : Ex.denR (Ex.lowS (-6) 4) = 2 := by kernel_rfl
  have q25 : Ex.okR (Ex.lowS (-6) 4) = true := by kernel_rfl
  have q26 : Ex.numR (Ex.lowS 0 7) = 0 := by kernel_rfl
  have q27 : Ex.denR (Ex.lowS 0 7) = 1 := by kernel_rfl
  have q28 : Ex.okR (Ex.lowS 0 7) = true := by kernel_rfl
  have q29 : Ex.numR (Ex.lowS 1 (-2)) = 0 := by kernel_rfl
  have q30 : Ex.denR (Ex.lowS 1 (-2)) = 0 := by kernel_rfl
  have q31 : Ex.okR (Ex.lowS 1 (-2)) = false := by kernel_rfl
  have q32 : Ex.numR (Ex.sumS 1 6 1 10) = 4 := by kernel_rfl
  have q33 : Ex.denR (Ex.sumS 1 6 1 10) = 15 := by kernel_rfl
  have q34 : Ex.okR (Ex.sumS 1 6 1 10) = true := by kernel_rfl
  have q35 : Ex.numR (Ex.sumS 1 4611686018427387904 1 3) = 0 := by kernel_rfl
  have q36 : Ex.denR (Ex.sumS 1 4611686018427387904 1 3) = 0 := by kernel_rfl
  have q37 : Ex.okR (Ex.sumS 1 4611686018427387904 1 3) = false := by kernel_rfl
  have q38 : Ex.numR (Ex.mulS 2 3 3 4) = 1 := by kernel_rfl
  have q39 : Ex.denR (Ex.mulS 2 3 3 4) = 2 := by kernel_rfl
  have q40 : Ex.okR (Ex.mulS 2 3 3 4) = true := by kernel_rfl
  have q41 : Ex.numR (Ex.mulS 4611686018427387904 1 4 1) = 0 := by kernel_rfl
  have q42 : Ex.denR (Ex.mulS 4611686018427387904 1 4 1) = 0 := by kernel_rfl
  have q43 : Ex.okR (Ex.mulS 4611686018427387904 1 4 1) = false := by kernel_rfl
  have hb : Below w.heap.size w w := Below.refl _ _
  go_enter Try.func9, Try.ntmps9
  go_wp2_with (first
      | (go_at_call 10; refine (efloor_any _ _ _ ⟨by omega, by omega⟩ ⟨by omega, by omega⟩).mono ?_; rintro e w' ⟨rfl, hb1⟩; replace hb := hb.trans (hb1.mono hb.size); clear hb1)
      | (go_at_call 12; refine (eround_pos _ _ _ ⟨by omega, by omega⟩ (by omega) (by omega)).mono ?_; rintro e w' ⟨rfl, rfl⟩)
      | (go_at_call 17; refine (is_any _ _ _ _).mono ?_; rintro e w' ⟨rfl, rfl⟩)
      | (go_at_call 14; refine (emd_any _ _ _ _ ⟨by omega, by omega⟩ ⟨by omega, by omega⟩ ⟨by omega, by omega⟩).mono ?_; rintro e w' ⟨rfl, hb1⟩; replace hb := hb.trans (hb1.mono hb.size); clear hb1)
      | (go_at_call 19; refine (of_any _ _ _).mono ?_; rintro e w' ⟨rfl, hb1⟩; replace hb := hb.trans (hb1.mono hb.size); clear hb1)
      | (go_at_call 18; refine (ecmp_any _ _ _ _ _ ⟨by omega, by omega⟩ ⟨by omega, by omega⟩ ⟨by omega, by omega⟩ ⟨by omega, by omega⟩).mono ?_; rintro e w' ⟨rfl, hb1⟩; replace hb := hb.trans (hb1.mono hb.size); clear hb1))
  refine (elow_all _ _ _ ⟨by omega, by omega⟩ ⟨by omega, by omega⟩).mono ?_
  rintro e u1 ⟨rfl, h1⟩
  replace hb := hb.trans (h1.mono hb.size)
  clear h1
  go_wp2_with fail
  have lx : w.heap.size ≤ u1.heap.size := hb.size
  have kx := new1 u1 (Obj.cells #[.int .i64 (-3), .int .i64 2] 33)
  replace hb := hb.alloc hb.size (Obj.cells #[.int .i64 (-3), .int .i64 2] 33)
  obtain ⟨vx, hv⟩ : ∃ v, v = u1.alloc (Obj.cells #[.int .i64 (-3), .int .i64 2] 33) := ⟨_, rfl⟩
  rw [← hv] at kx hb ⊢
  clear hv
  obtain ⟨pbx, hv⟩ : ∃ v, v = u1.heap.size := ⟨_, rfl⟩
  rw [← hv] at kx lx ⊢
  clear hv
  refine (of_any _ _ _).mono ?_
  rintro e u2 ⟨rfl, h2⟩
  replace kx := kept h2 (Array.getElem?_eq_some_iff.1 kx).1 kx
  replace hb := hb.trans (h2.mono hb.size)
  clear h2
  go_wp2_with fail
  refine (elow_all _ _ _ ⟨by omega, by omega⟩ ⟨by omega, by omega⟩).mono ?_
  rintro e u3 ⟨rfl, h3⟩
  replace kx := kept h3 (Array.getElem?_eq_some_iff.1 kx).1 kx
  replace hb := hb.trans (h3.mono hb.size)
  clear h3
  go_wp2_with fail
  have nyx : pbx ≠ u3.heap.size := by have := (Array.getElem?_eq_some_iff.1 kx).1; omega
  replace kx := old1 (o' := (Obj.cells #[.int .i64 0, .int .i64 1] 33)) kx
  have ly : w.heap.size ≤ u3.heap.size := hb.size
  have ky := new1 u3 (Obj.cells #[.int .i64 0, .int .i64 1] 33)
  replace hb := hb.alloc hb.size (Obj.cells #[.int .i64 0, .int .i64 1] 33)
  obtain ⟨vy, hv⟩ : ∃ v, v = u3.alloc (Obj.cells #[.int .i64 0, .int .i64 1] 33) := ⟨_, rfl⟩
  rw [← hv] at kx ky hb ⊢
  clear hv
  obtain ⟨pby, hv⟩ : ∃ v, v = u3.heap.size := ⟨_, rfl⟩
  rw [← hv] at ky ly nyx ⊢
  clear hv
  refine (of_any _ _ _).mono ?_
  rintro e u4 ⟨rfl, h4⟩
  replace kx := kept h4 (Array.getElem?_eq_some_iff.1 kx).1 kx
  replace ky := kept h4 (Array.getElem?_eq_some_iff.1 ky).1 ky
  replace hb := hb.trans (h4.mono hb.size)
  clear h4
  go_wp2_with fail
  refine (elow_all _ _ _ ⟨by omega, by omega⟩ ⟨by omega, by omega⟩).mono ?_
  rintro e u5 ⟨rfl, h5⟩
  replace kx := kept h5 (Array.getElem?_eq_some_iff.1 kx).1 kx
  replace ky := kept h5 (Array.getElem?_eq_some_iff.1 ky).1 ky
  replace hb := hb.trans (h5.mono hb.size)
  clear h5
  go_upto_region 21 with fail
  have nzx : pbx ≠ u5.heap.size := by have := (Array.getElem?_eq_some_iff.1 kx).1; omega
  have nzy : pby ≠ u5.heap.size := by have := (Array.getElem?_eq_some_iff.1 ky).1; omega
  replace kx := old1 (o' := (Obj.cells #[.int .i64 0, .int .i64 0] 33)) kx
  replace ky := old1 (o' := (Obj.cells #[.int .i64 0, .int .i64 0] 33)) ky
  have lz : w.heap.size ≤ u5.heap.size := hb.size
  have kz := new1 u5 (Obj.cells #[.int .i64 0, .int .i64 0] 33)
  replace hb := hb.alloc hb.size (Obj.cells #[.int .i64 0, .int .i64 0] 33)
  obtain ⟨vz, hv⟩ : ∃ v, v = u5.alloc (Obj.cells #[.int .i64 0, .int .i64 0] 33) := ⟨_, rfl⟩
  rw [← hv] at kx ky kz hb ⊢
  clear hv
  obtain ⟨pbz, hv⟩ : ∃ v, v = u5.heap.size := ⟨_, rfl⟩
  rw [← hv] at kz lz nzx nzy ⊢
  clear hv
  obtain ⟨c0, c1, f0, f1⟩ := cells2 kx
  go_wp2_with fail
  refine (lratio_yes _ _ _).mono ?_
  rintro e u6 ⟨rfl, h6⟩
  replace kx := kept h6 (Array.getElem?_eq_some_iff.1 kx).1 kx
  replace ky := kept h6 (Array.getElem?_eq_some_iff.1 ky).1 ky
  replace kz := kept h6 (Array.getElem?_eq_some_iff.1 kz).1 kz
  replace hb := hb.trans (h6.mono hb.size)
  clear h6 c0 c1 f0 f1
  obtain ⟨c0, c1, f0, f1⟩ := cells2 ky
  go_wp2_with fail
  refine (lratio_yes _ _ _).mono ?_
  rintro e u7 ⟨rfl, h7⟩
  replace kx := kept h7 (Array.getElem?_eq_some_iff.1 kx).1 kx
  replace ky := kept h7 (Array.getElem?_eq_some_iff.1 ky).1 ky
  replace kz := kept h7 (Array.getElem?_eq_some_iff.1 kz).1 kz
  replace hb := hb.trans (h7.mono hb.size)
  clear h7 c0 c1 f0 f1
  obtain ⟨c0, c1, f0, f1⟩ := cells2 kz
  go_wp2_with fail
  refine (none_yes _).mono ?_
  rintro e u8 ⟨rfl, h8⟩
  replace kx := kept h8 (Array.getElem?_eq_some_iff.1 kx).1 kx
  replace ky := kept h8 (Array.getElem?_eq_some_iff.1 ky).1 ky
  replace kz := kept h8 (Array.getElem?_eq_some_iff.1 kz).1 kz
  replace hb := hb.trans (h8.mono hb.size)
  clear h8 c0 c1 f0 f1
  go_wp2_with fail
  refine (of_any _ _ _).mono ?_
  rintro e u9 ⟨rfl, h9⟩
  replace kx := kept h9 (Array.getElem?_eq_some_iff.1 kx).1 kx
  replace ky := kept h9 (Array.getElem?_eq_some_iff.1 ky).1 ky
  replace kz := kept h9 (Array.getElem?_eq_some_iff.1 kz).1 kz
  replace hb := hb.trans (h9.mono hb.size)
  clear h9
  go_wp2_with fail
  refine (of_any _ _ _).mono ?_
  rintro e u10 ⟨rfl, h10⟩
  replace kx := kept h10 (Array.getElem?_eq_some_iff.1 kx).1 kx
  replace ky := kept h10 (Array.getElem?_eq_some_iff.1 ky).1 ky
  replace kz := kept h10 (Array.getElem?_eq_some_iff.1 kz).1 kz
  replace hb := hb.trans (h10.mono hb.size)
  clear h10
  go_wp2_with fail
  refine (esum_ok _ _ _ _ _ ⟨by omega, by omega⟩ ⟨by omega, by omega⟩ ⟨by omega, by omega⟩ ⟨by omega, by omega⟩ (by omega) (by omega)).mono ?_
  rintro e u11 ⟨rfl, h11⟩
  replace kx := kept h11 (Array.getElem?_eq_some_iff.1 kx).1 kx
  replace ky := kept h11 (Array.getElem?_eq_some_iff.1 ky).1 ky
  replace kz := kept h11 (Array.getElem?_eq_some_iff.1 kz).1 kz
  replace hb := hb.trans (h11.mono hb.size)
  clear h11
  obtain ⟨c0, c1, f0, f1⟩ := cells2 kx
  go_upto_region 24 with fail
  clear c0 c1 f0 f1
  replace ky := set2o (.int .i64 4) (.int .i64 15) (Ne.symm nyx) ky
  replace kz := set2o (.int .i64 4) (.int .i64 15) (Ne.symm nzx) kz
  replace kx := set2 kx (.int .i64 4) (.int .i64 15)
  replace hb := (hb.setCell (p := ⟨pbx, 0, none⟩) lx (.int .i64 4)).setCell (p := ⟨pbx, 1, none⟩) lx (.int .i64 15)
  obtain ⟨sx, hv⟩ : ∃ v, v = (u11.setCell ⟨pbx, 0, none⟩ (.int .i64 4)).setCell ⟨pbx, 1, none⟩ (.int .i64 15) := ⟨_, rfl⟩
  rw [← hv] at kx ky kz hb ⊢
  clear hv
  go_wp2_with fail
  refine (of_any _ _ _).mono ?_
  rintro e u12 ⟨rfl, h12⟩
  replace kx := kept h12 (Array.getElem?_eq_some_iff.1 kx).1 kx
  replace ky := kept h12 (Array.getElem?_eq_some_iff.1 ky).1 ky
  replace kz := kept h12 (Array.getElem?_eq_some_iff.1 kz).1 kz
  replace hb := hb.trans (h12.mono hb.size)
  clear h12
  go_wp2_with fail
  refine (of_any _ _ _).mono ?_
  rintro e u13 ⟨rfl, h13⟩
  replace kx := kept h13 (Array.getElem?_eq_some_iff.1 kx).1 kx
  replace ky := kept h13 (Array.getElem?_eq_some_iff.1 ky).1 ky
  replace kz := kept h13 (Array.getElem?_eq_some_iff.1 kz).1 kz
  replace hb := hb.trans (h13.mono hb.size)
  clear h13
  go_wp2_with fail
  refine (esum_ok _ _ _ _ _ ⟨by omega, by omega⟩ ⟨by omega, by omega⟩ ⟨by omega, by omega⟩ ⟨by omega, by omega⟩ (by omega) (by omega)).mono ?_
  rintro e u14 ⟨rfl, h14⟩
  replace kx := kept h14 (Array.getElem?_eq_some_iff.1 kx).1 kx
  replace ky := kept h14 (Array.getElem?_eq_some_iff.1 ky).1 ky
  replace kz := kept h14 (Array.getElem?_eq_some_iff.1 kz).1 kz
  replace hb := hb.trans (h14.mono hb.size)
  clear h14
  obtain ⟨c0, c1, f0, f1⟩ := cells2 ky
  go_upto_region 25 with fail
  clear c0 c1 f0 f1
  replace kx := set2o (.int .i64 0) (.int .i64 0) nyx kx
  replace kz := set2o (.int .i64 0) (.int .i64 0) (Ne.symm nzy) kz
  replace ky := set2 ky (.int .i64 0) (.int .i64 0)
  replace hb := (hb.setCell (p := ⟨pby, 0, none⟩) ly (.int .i64 0)).setCell (p := ⟨pby, 1, none⟩) ly (.int .i64 0)
  obtain ⟨sy, hv⟩ : ∃ v, v = (u14.setCell ⟨pby, 0, none⟩ (.int .i64 0)).setCell ⟨pby, 1, none⟩ (.int .i64 0) := ⟨_, rfl⟩
  rw [← hv] at kx ky kz hb ⊢
  clear hv
  go_wp2_with fail
  refine (of_any _ _ _).mono ?_
  rintro e u15 ⟨rfl, h15⟩
  replace kx := kept h15 (Array.getElem?_eq_some_iff.1 kx).1 kx
  replace ky := kept h15 (Array.getElem?_eq_some_iff.1 ky).1 ky
  replace kz := kept h15 (Array.getElem?_eq_some_iff.1 kz).1 kz
  replace hb := hb.trans (h15.mono hb.size)
  clear h15
  go_wp2_with fail
  refine (of_any _ _ _).mono ?_
  rintro e u16 ⟨rfl, h16⟩
  replace kx := kept h16 (Array.getElem?_eq_some_iff.1 kx).1 kx
  replace ky := kept h16 (Array.getElem?_eq_some_iff.1 ky).1 ky
  replace kz := kept h16 (Array.getElem?_eq_some_iff.1 kz).1 kz
  replace hb := hb.trans (h16.mono hb.size)
  clear h16
  go_wp2_with fail
  refine (emul_ok _ _ _ _ _ ⟨by omega, by omega⟩ ⟨by omega, by omega⟩ ⟨by omega, by omega⟩ ⟨by omega, by omega⟩ (by omega) (by omega)).mono ?_
  rintro e u17 ⟨rfl, h17⟩
  replace kx := kept h17 (Array.getElem?_eq_some_iff.1 kx).1 kx
  replace ky := kept h17 (Array.getElem?_eq_some_iff.1 ky).1 ky
  replace kz := kept h17 (Array.getElem?_eq_some_iff.1 kz).1 kz
  replace hb := hb.trans (h17.mono hb.size)
  clear h17
  obtain ⟨c0, c1, f0, f1⟩ := cells2 kz
  go_upto_region 26 with fail
  clear c0 c1 f0 f1
  replace kx := set2o (.int .i64 1) (.int .i64 2) nzx kx
  replace ky := set2o (.int .i64 1) (.int .i64 2) nzy ky
  replace kz := set2 kz (.int .i64 1) (.int .i64 2)
  replace hb := (hb.setCell (p := ⟨pbz, 0, none⟩) lz (.int .i64 1)).setCell (p := ⟨pbz, 1, none⟩) lz (.int .i64 2)
  obtain ⟨sz, hv⟩ : ∃ v, v = (u17.setCell ⟨pbz, 0, none⟩ (.int .i64 1)).setCell ⟨pbz, 1, none⟩ (.int .i64 2) := ⟨_, rfl⟩
  rw [← hv] at kx ky kz hb ⊢
  clear hv
  go_wp2_with fail
  refine (of_any _ _ _).mono ?_
  rintro e u18 ⟨rfl, h18⟩
  replace kx := kept h18 (Array.getElem?_eq_some_iff.1 kx).1 kx
  replace ky := kept h18 (Array.getElem?_eq_some_iff.1 ky).1 ky
  replace kz := kept h18 (Array.getElem?_eq_some_iff.1 kz).1 kz
  replace hb := hb.trans (h18.mono hb.size)
  clear h18
  go_wp2_with fail
  refine (of_any _ _ _).mono ?_
  rintro e u19 ⟨rfl, h19⟩
  replace kx := kept h19 (Array.getElem?_eq_some_iff.1 kx).1 kx
  replace ky := kept h19 (Array.getElem?_eq_some_iff.1 ky).1 ky
  replace kz := kept h19 (Array.getElem?_eq_some_iff.1 kz).1 kz
  replace hb := hb.trans (h19.mono hb.size)
  clear h19
  go_wp2_with fail
  refine (emul_ok _ _ _ _ _ ⟨by omega, by omega⟩ ⟨by omega, by omega⟩ ⟨by omega, by omega⟩ ⟨by omega, by omega⟩ (by omega) (by omega)).mono ?_
  rintro e u20 ⟨rfl, h20⟩
  replace kx := kept h20 (Array.getElem?_eq_some_iff.1 kx).1 kx
  replace ky := kept h20 (Array.getElem?_eq_some_iff.1 ky).1 ky
  replace kz := kept h20 (Array.getElem?_eq_some_iff.1 kz).1 kz
  replace hb := hb.trans (h20.mono hb.size)
  clear h20
  go_upto_region 27 with fail
  have ntx : pbx ≠ u20.heap.size := by have := (Array.getElem?_eq_some_iff.1 kx).1; omega
  have nty : pby ≠ u20.heap.size := by have := (Array.getElem?_eq_some_iff.1 ky).1; omega
  have ntz : pbz ≠ u20.heap.size := by have := (Array.getElem?_eq_some_iff.1 kz).1; omega
  replace kx := old1 (o' := (Obj.cells #[.int .i64 0, .int .i64 0] 33)) kx
  replace ky := old1 (o' := (Obj.cells #[.int .i64 0, .int .i64 0] 33)) ky
  replace kz := old1 (o' := (Obj.cells #[.int .i64 0, .int .i64 0] 33)) kz
  have lt : w.heap.size ≤ u20.heap.size := hb.size
  have kt := new1 u20 (Obj.cells #[.int .i64 0, .int .i64 0] 33)
  replace hb := hb.alloc hb.size (Obj.cells #[.int .i64 0, .int .i64 0] 33)
  obtain ⟨vt, hv⟩ : ∃ v, v = u20.alloc (Obj.cells #[.int .i64 0, .int .i64 0] 33) := ⟨_, rfl⟩
  rw [← hv] at kx ky kz kt hb ⊢
  clear hv
  obtain ⟨pbt, hv⟩ : ∃ v, v = u20.heap.size := ⟨_, rfl⟩
  rw [← hv] at kt lt ntx nty ntz ⊢
  clear hv
  obtain ⟨c0, c1, f0, f1⟩ := cells2 kx
  go_wp2_with fail
  refine (lratio_yes _ _ _).mono ?_
  rintro e u21 ⟨rfl, h21⟩
  replace kx := kept h21 (Array.getElem?_eq_some_iff.1 kx).1 kx
  replace ky := kept h21 (Array.getElem?_eq_some_iff.1 ky).1 ky
  replace kz := kept h21 (Array.getElem?_eq_some_iff.1 kz).1 kz
  replace kt := kept h21 (Array.getElem?_eq_some_iff.1 kt).1 kt
  replace hb := hb.trans (h21.mono hb.size)
  clear h21 c0 c1 f0 f1
  obtain ⟨c0, c1, f0, f1⟩ := cells2 ky
  go_wp2_with fail
  refine (none_yes _).mono ?_
  rintro e u22 ⟨rfl, h22⟩
  replace kx := kept h22 (Array.getElem?_eq_some_iff.1 kx).1 kx
  replace ky := kept h22 (Array.getElem?_eq_some_iff.1 ky).1 ky
  replace kz := kept h22 (Array.getElem?_eq_some_iff.1 kz).1 kz
  replace kt := kept h22 (Array.getElem?_eq_some_iff.1 kt).1 kt
  replace hb := hb.trans (h22.mono hb.size)
  clear h22 c0 c1 f0 f1
  obtain ⟨c0, c1, f0, f1⟩ := cells2 kz
  go_wp2_with fail
  refine (lratio_yes _ _ _).mono ?_
  rintro e u23 ⟨rfl, h23⟩
  replace kx := kept h23 (Array.getElem?_eq_some_iff.1 kx).1 kx
  replace ky := kept h23 (Array.getElem?_eq_some_iff.1 ky).1 ky
  replace kz := kept h23 (Array.getElem?_eq_some_iff.1 kz).1 kz
  replace kt := kept h23 (Array.getElem?_eq_some_iff.1 kt).1 kt
  replace hb := hb.trans (h23.mono hb.size)
  clear h23 c0 c1 f0 f1
  obtain ⟨c0, c1, f0, f1⟩ := cells2 kt
  go_wp2_with fail
  refine (none_yes _).mono ?_
  rintro e u24 ⟨rfl, h24⟩
  replace kx := kept h24 (Array.getElem?_eq_some_iff.1 kx).1 kx
  replace ky := kept h24 (Array.getElem?_eq_some_iff.1 ky).1 ky
  replace kz := kept h24 (Array.getElem?_eq_some_iff.1 kz).1 kz
  replace kt := kept h24 (Array.getElem?_eq_some_iff.1 kt).1 kt
  replace hb := hb.trans (h24.mono hb.size)
  clear h24 c0 c1 f0 f1
  go_wp2
  go_ret
  exact ⟨rfl, hb⟩
end Go.Proofs.Ytfegkaflemcanaa
