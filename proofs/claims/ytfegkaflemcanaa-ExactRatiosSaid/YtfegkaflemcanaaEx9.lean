/- The product of two ratios, the program's: valid ratios. -/
import Derived.Test.YtfegkaflemcanaaEx8
namespace Go.Proofs.Ytfegkaflemcanaa
open Go.RowKit

theorem esz_nat (n : Nat) (w : World) (h : n < 9223372036854775808) :
    Calls Try.prog 32 #[.int .i64 n] w fun e w' => e = .returned (.int .u64 n) ∧ w' = w := by
  have := esize_any (n : Int) w ⟨by omega, by omega⟩
  simpa using this
theorem rsz_nat (n : Nat) (w : World) (h : n < 9223372036854775808) :
    Calls Try.prog 34 #[.int .i64 n] w fun e w' => e = .returned (.int .u64 n) ∧ w' = w := by
  have := size_any (n : Int) w ⟨by omega, by omega⟩
  simpa using this

set_option maxHeartbeats 400000 in
theorem emul_ok (xn xd yn yd : Int) (w : World) (h1 : I64 xn) (h2 : I64 xd) (h3 : I64 yn) (h4 : I64 yd) (hx1 : 1 ≤ xd) (hy1 : 1 ≤ yd) :
    Calls Try.prog 22 #[.agg #[.int .i64 xn, .int .i64 xd], .agg #[.int .i64 yn, .int .i64 yd]] w fun e w' => e = .returned (.tuple #[.agg #[.int .i64 (Ex.numR (Ex.mulS xn xd yn yd)), .int .i64 (Ex.denR (Ex.mulS xn xd yn yd))], .bool (Ex.okR (Ex.mulS xn xd yn yd))]) ∧ Below w.heap.size w w' := by
  have hms : Ex.mulS xn xd yn yd = Ex.fitR (Ex.rat xn xd * Ex.rat yn yd) := by unfold Ex.mulS; rw [if_neg (by omega)]
  rw [hms]
  have l1 := fun w => elow_any xn xd w h1 h2 hx1
  have l2 := fun w => elow_any yn yd w h3 h4 hy1
  have FA := low_facts xn xd h1 h2 hx1
  have FB := low_facts yn yd h3 h4 hy1
  have ia := FA.inum
  have ib := FB.inum
  have da : (Ex.rat xn xd).den < 9223372036854775808 := by have := FA.iden; unfold I64 at h2; omega
  have db : (Ex.rat yn yd).den < 9223372036854775808 := by have := FB.iden; unfold I64 at h4; omega
  clear hms FA FB
  generalize hA : Ex.rat xn xd = A at *
  generalize hB : Ex.rat yn yd = B at *
  obtain ⟨s, s1, s2, s3⟩ := sgn_prod A.num B.num
  have s4 : IntKind.i64.wrap s = s := IntWalk.i64_in _ (by unfold wrap64 at s1; omega)
  obtain ⟨neg, hneg⟩ : ∃ neg, neg = sgnB A.num B.num := ⟨_, rfl⟩
  obtain ⟨m1, m2⟩ := Ex.mul_form A B neg (fun h => sgn_t (hneg ▸ h)) (fun h => sgn_f (hneg ▸ h))
  rw [← hneg] at s3
  have hr := Ex.ratS_fit neg _ _ (A * B) m1 m2
  rw [← hr]
  have pd := A.den_pos
  have pe := B.den_pos
  obtain ⟨an, han⟩ : ∃ a, a = A.num := ⟨_, rfl⟩
  obtain ⟨bn, hbn⟩ : ∃ a, a = B.num := ⟨_, rfl⟩
  obtain ⟨ad, had⟩ : ∃ a, a = A.den := ⟨_, rfl⟩
  obtain ⟨bd, hbd⟩ : ∃ a, a = B.den := ⟨_, rfl⟩
  rw [← han, ← had] at l1
  rw [← hbn, ← hbd] at l2
  rw [← han, ← hbn] at s2
  rw [← han, ← hbn, ← had, ← hbd]
  rw [← han] at ia
  rw [← hbn] at ib
  rw [← had] at da pd
  rw [← hbd] at db pe
  clear hr m1 m2 hneg han hbn had hbd hA hB s1
  have na : an.natAbs < 18446744073709551616 := by unfold I64 at ia; omega
  have nb : bn.natAbs < 18446744073709551616 := by unfold I64 at ib; omega
  have gp : 0 < Nat.gcd an.natAbs bd := Nat.gcd_pos_of_pos_right _ pe
  have hp : 0 < Nat.gcd bn.natAbs ad := Nat.gcd_pos_of_pos_right _ pd
  have gc1 := fun w => gcd_u64 an.natAbs bd w
  have gc2 := fun w => gcd_u64 bn.natAbs ad w
  generalize Nat.gcd an.natAbs bd = g at *
  generalize Nat.gcd bn.natAbs ad = h at *
  have q1 := quo_u64 an.natAbs g na
  have q2 := quo_u64 bn.natAbs h nb
  have q3 := quo_u64 ad h (by omega)
  have q4 := quo_u64 bd g (by omega)
  have b1 : an.natAbs / g < 18446744073709551616 := Nat.lt_of_le_of_lt (Nat.div_le_self _ _) na
  have b2 : bn.natAbs / h < 18446744073709551616 := Nat.lt_of_le_of_lt (Nat.div_le_self _ _) nb
  have b3 : ad / h < 18446744073709551616 := Nat.lt_of_le_of_lt (Nat.div_le_self _ _) (by omega)
  have b4 : bd / g < 18446744073709551616 := Nat.lt_of_le_of_lt (Nat.div_le_self _ _) (by omega)
  obtain ⟨q1, q1'⟩ := q1
  obtain ⟨q2, q2'⟩ := q2
  obtain ⟨q3, q3'⟩ := q3
  obtain ⟨q4, q4'⟩ := q4
  generalize an.natAbs / g = p1 at *
  generalize bn.natAbs / h = p2 at *
  generalize ad / h = p3 at *
  generalize bd / g = p4 at *
  have hra := fun w => ratio_any neg (p1 * p2) (p3 * p4) _ _ _ _ w rfl rfl rfl rfl
  have ht1 := fun w => times_any p1 p2 _ _ w rfl rfl b1 b2
  have ht2 := fun w => times_any p3 p4 _ _ w rfl rfl b3 b4
  generalize p1 * p2 = N at *
  generalize p3 * p4 = D at *
  generalize Ex.numR (Ex.ratS neg N D) = X at *
  generalize Ex.denR (Ex.ratS neg N D) = Y at *
  generalize Ex.okR (Ex.ratS neg N D) = O at *
  have z1 : ¬ (g : Int) = 0 := by omega
  have z2 : ¬ g = 0 := by omega
  have z3 : ¬ (h : Int) = 0 := by omega
  have z4 : ¬ h = 0 := by omega
  have hbw : ∀ o1 o2 o3, Below w.heap.size w (((w.alloc o1).alloc o2).alloc o3) := fun o1 o2 o3 => (((Below.refl _ _).alloc (Nat.le_refl _) _).alloc (by simp) _).alloc (by simp; omega) _
  replace l1 := hide l1; replace l2 := hide l2; replace gc1 := hide gc1; replace gc2 := hide gc2; replace hra := hide hra; replace ht1 := hide ht1; replace ht2 := hide ht2
  clear gp hp pd pe b1 b2 b3 b4
  go_enter Try.func22, Try.ntmps22
  go_wp2_with fail
  refine (unhide l1 _).mono ?_
  rintro e w1 ⟨rfl, hb1⟩
  clear l1
  obtain ⟨k1, k2, k3⟩ := blk3 w (Obj.cells #[.int .i64 xn, .int .i64 xd] 33) (Obj.cells #[.int .i64 yn, .int .i64 yd] 33) (Obj.cells #[.int .i64 0, .int .i64 0] 33)
  replace k1 := kept hb1 (by simp; omega) k1
  replace k2 := kept hb1 (by simp) k2
  replace k3 := kept hb1 (by simp) k3
  replace hb1 := (hbw _ _ _).trans (hb1.mono (by simp; omega))
  obtain ⟨c0, c1, f0, f1⟩ := cells2 k1
  obtain ⟨d0, d1, g0, g1⟩ := cells2 k2
  go_wp2_with fail
  refine (unhide l2 _).mono ?_
  rintro e w2 ⟨rfl, hb2⟩
  clear l2 c0 c1 f0 f1 d0 d1 g0 g1
  have hz1 := (Array.getElem?_eq_some_iff.1 k3).1
  have m1 := kept hb2 (by rw [set2z]; omega) (set2 k1 (.int .i64 an) (.int .i64 ad))
  have m2 := kept hb2 (by rw [set2z]; omega) (set2o _ _ (by omega) k2)
  have m3 := kept hb2 (by rw [set2z]; omega) (set2o _ _ (by omega) k3)
  replace hb2 := ((hb1.setCell (Nat.le_refl _) _).setCell (Nat.le_refl _) _).trans (hb2.mono (by rw [set2z]; omega))
  clear k1 k2 k3 hb1
  obtain ⟨c0, c1, f0, f1⟩ := cells2 m2
  go_upto_region 5 with fail
  have n1 := set2o (w := w2) (b := w.heap.size + 1) (.int .i64 bn) (.int .i64 bd) (by omega) m1
  have n2 := set2 m2 (.int .i64 bn) (.int .i64 bd)
  have n3 := set2o (w := w2) (b := w.heap.size + 1) (.int .i64 bn) (.int .i64 bd) (by omega) m3
  have hb3 := (hb2.setCell (p := ⟨w.heap.size + 1, 0, none⟩) (by simp) (.int .i64 bn)).setCell (p := ⟨w.heap.size + 1, 1, none⟩) (by simp) (.int .i64 bd)
  clear c0 c1 f0 f1 m1 m2 m3 hb2 hz1
  go_cut [8, 9] (fun v8 v9 wr => v8 = .int .u64 (g : Int) ∧ v9 = .int .u64 (h : Int) ∧ wr.heap[w.heap.size]? = some (.cells #[.int .i64 an, .int .i64 ad] 33 (0, 0)) ∧ wr.heap[w.heap.size + 1]? = some (.cells #[.int .i64 bn, .int .i64 bd] 33 (0, 0)) ∧
     wr.heap[w.heap.size + 1 + 1]? = some (.cells #[.int .i64 0, .int .i64 0] 33 (0, 0)) ∧ Below w.heap.size w wr)
  case first =>
    obtain ⟨wx, hwx⟩ : ∃ wx, wx = (w2.setCell ⟨w.heap.size + 1, 0, none⟩ (.int .i64 bn)).setCell ⟨w.heap.size + 1, 1, none⟩ (.int .i64 bd) := ⟨_, rfl⟩
    rw [← hwx] at n1 n2 n3 hb3 ⊢
    clear hwx
    obtain ⟨c0, c1, _, _⟩ := cells2 n1
    obtain ⟨d0, d1, _, _⟩ := cells2 n2
    go_quiet ((first | (go_at_call 32; first | with_reducible exact Calls.quiet_of_same (esz_nat _ _ (by assumption)) | with_reducible exact Calls.quiet_of_same (esize_any _ _ (by assumption))) | (go_at_call 46; first | with_reducible exact Calls.quiet_of (unhide gc1 _) | with_reducible exact Calls.quiet_of (unhide gc2 _))))
    go_wp2
    go_meet
    exact ⟨rfl, rfl, n1, n2, n3, hb3.trans ((below_drewN _ _).mono hb3.size)⟩
  case rest =>
    obtain ⟨rfl, rfl, n1, n2, n3, hb3⟩ := hcut
    obtain ⟨c0, c1, _, _⟩ := cells2 n1
    obtain ⟨d0, d1, _, _⟩ := cells2 n2
    have hx1 : ∀ x : Ext wc, x.get.cell? ⟨w.heap.size, 0, none⟩ = some (.int .i64 an) := fun x => x.cell c0
    have hx2 : ∀ x : Ext wc, x.get.cell? ⟨w.heap.size, 1, none⟩ = some (.int .i64 ad) := fun x => x.cell c1
    have hx3 : ∀ x : Ext wc, x.get.cell? ⟨w.heap.size + 1, 0, none⟩ = some (.int .i64 bn) := fun x => x.cell d0
    have hx4 : ∀ x : Ext wc, x.get.cell? ⟨w.heap.size + 1, 1, none⟩ = some (.int .i64 bd) := fun x => x.cell d1
    have sg1 : ∀ z w, Calls Try.prog 31 #[.int .i64 z] w fun e w' => e = .returned (.int .i64 (cmpI z 0)) ∧ Below w.heap.size w w' := fun z w => (sign_any z w).mono fun _ _ ⟨a, b⟩ => ⟨a, b ▸ Below.refl _ _⟩
    have sz1 : ∀ z w, I64 z → Calls Try.prog 32 #[.int .i64 z] w fun e w' => e = .returned (.int .u64 z.natAbs) ∧ Below w.heap.size w w' := fun z w h => (esize_any z w h).mono fun _ _ ⟨a, b⟩ => ⟨a, b ▸ Below.refl _ _⟩
    have sz2 : ∀ (n : Nat) w, n < 9223372036854775808 → Calls Try.prog 32 #[.int .i64 n] w fun e w' => e = .returned (.int .u64 n) ∧ Below w.heap.size w w' := fun z w h => (esz_nat z w h).mono fun _ _ ⟨a, b⟩ => ⟨a, b ▸ Below.refl _ _⟩
    clear c0 c1 d0 d1 n1 n2
    replace sg1 := hide sg1; replace sz1 := hide sz1; replace sz2 := hide sz2
    go_wp2
    refine wp_region_ext_tail 33 (by rfl) (by kernel_rfl) ?_
    simp only [List.take_succ_cons, List.take_zero, List.drop_succ_cons, List.drop_zero]
    repeat (quiet_step ((first
      | (go_at_call 32; first | with_reducible exact Ext.calls (unhide sz2 _ _ (by assumption)) | with_reducible exact Ext.calls (unhide sz1 _ _ (by assumption)))
      | (go_at_call 31; with_reducible exact Ext.calls (unhide sg1 _ _))
      | (go_at_call 36; first | with_reducible exact Ext.calls (unhide ht1 _) | with_reducible exact Ext.calls (unhide ht2 _))
      | (go_at_call 47; with_reducible exact Ext.calls (unhide hra _)))))
    refine wpQuiet_nil ?_
    rintro w' ⟨x, rfl⟩
    have hbel := x.le
    have n4 := kept hbel (Array.getElem?_eq_some_iff.1 n3).1 n3
    obtain ⟨c0, c1, f0, f1⟩ := cells2 n4
    clear hx1 hx2 hx3 hx4 n3 n4
    go_wp2
    refine bodyPost_ret (v := .tuple #[.agg #[.int .i64 X, .int .i64 Y], .bool O]) (by simp [results, Try.results22, go_sem, c0, c1]) rfl ⟨rfl, ?_⟩
    exact ((hb3.trans (hbel.mono hb3.size)).setCell (by simp; omega) _).setCell (by simp; omega) _
end Go.Proofs.Ytfegkaflemcanaa
