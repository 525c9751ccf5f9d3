/- The sum of two ratios, the program's. -/
import Derived.Test.YtfegkaflemcanaaEx10
import Derived.Test.YtfegkaflemcanaaTail2
namespace Go.Proofs.Ytfegkaflemcanaa
open Go.RowKit

set_option maxRecDepth 100000 in
set_option maxHeartbeats 2000000 in
theorem esum_bad (xn xd yn yd : Int) (w : World) (h1 : I64 xn) (h2 : I64 xd) (h3 : I64 yn) (h4 : I64 yd) (hbad : xd < 1 ∨ yd < 1) :
    Calls Try.prog 20 #[.agg #[.int .i64 xn, .int .i64 xd], .agg #[.int .i64 yn, .int .i64 yd]] w fun e w' => e = .returned (.tuple #[.agg #[.int .i64 0, .int .i64 0], .bool false]) ∧ Below w.heap.size w w' := by
  have l1 := fun w => elow_all xn xd w h1 h2
  have l2 := fun w => elow_all yn yd w h3 h4
  have hk : Ex.okR (Ex.lowS xn xd) = false ∨ (Ex.okR (Ex.lowS xn xd) = true ∧ Ex.okR (Ex.lowS yn yd) = false) := by
    by_cases h : xd < 1
    · exact Or.inl (low_no h)
    · exact Or.inr ⟨(low_ok (by omega)).2.2, low_no (by omega)⟩
  obtain ⟨a0, _⟩ : ∃ a, a = Ex.numR (Ex.lowS xn xd) := ⟨_, rfl⟩
  generalize Ex.numR (Ex.lowS xn xd) = x0 at *
  generalize Ex.denR (Ex.lowS xn xd) = x1 at *
  generalize Ex.okR (Ex.lowS xn xd) = p at *
  generalize Ex.numR (Ex.lowS yn yd) = y0 at *
  generalize Ex.denR (Ex.lowS yn yd) = y1 at *
  generalize Ex.okR (Ex.lowS yn yd) = q at *
  have hbw : ∀ o1 o2 o3, Below w.heap.size w (((w.alloc o1).alloc o2).alloc o3) := fun o1 o2 o3 => (((Below.refl _ _).alloc (Nat.le_refl _) _).alloc (by simp) _).alloc (by simp; omega) _
  clear hbad
  replace l1 := hide l1; replace l2 := hide l2
  rcases hk with rfl | ⟨rfl, rfl⟩
  all_goals
    go_enter Try.func20, Try.ntmps20
    go_wp2_with fail
    refine (unhide l1 _).mono ?_
    rintro e w1 ⟨rfl, hb1⟩
    clear l1
    obtain ⟨k1, k2, k3⟩ := blk3 w (Obj.cells #[.int .i64 xn, .int .i64 xd] 33) (Obj.cells #[.int .i64 yn, .int .i64 yd] 33) (Obj.cells #[.int .i64 0, .int .i64 0] 33)
    replace k1 := kept hb1 (by simp; omega) k1
    replace k2 := kept hb1 (by simp) k2
    replace k3 := kept hb1 (by simp) k3
    replace hb1 := (hbw _ _ _).trans (hb1.mono (by simp; omega))
    obtain ⟨c0, c1, f0, f1⟩ := cells2 k1
    obtain ⟨d0, d1, g0, g1⟩ := cells2 k2
    go_wp2_with fail
    refine (unhide l2 _).mono ?_
    rintro e w2 ⟨rfl, hb2⟩
    clear l2 c0 c1 f0 f1 d0 d1 g0 g1
    have hz1 := (Array.getElem?_eq_some_iff.1 k3).1
    have m2 := kept hb2 (by rw [set2z]; omega) (set2o _ _ (by omega) k2)
    have m3 := kept hb2 (by rw [set2z]; omega) (set2o _ _ (by omega) k3)
    replace hb2 := ((hb1.setCell (Nat.le_refl _) _).setCell (Nat.le_refl _) _).trans (hb2.mono (by rw [set2z]; omega))
    clear k1 k2 k3 hb1
    obtain ⟨c0, c1, f0, f1⟩ := cells2 m2
    obtain ⟨d0, d1, g0, g1⟩ := cells2 m3
    go_wp2_with fail
    refine bodyPost_ret (v := .tuple #[.agg #[.int .i64 0, .int .i64 0], .bool false]) (by simp [results, Try.results20, go_sem, d0, d1]) rfl ⟨rfl, ?_⟩
    exact (((hb2.setCell (by simp) _).setCell (by simp) _).setCell (by simp; omega) _).setCell (by simp; omega) _

theorem bool_not {x y : Bool} (h : x ≠ y) : x = !y := by cases x <;> cases y <;> simp_all
theorem bool_ne {p q : Bool} (h : p = q) : (p != q) = false := by rw [h]; simp

set_option maxRecDepth 100000 in
set_option maxHeartbeats 2000000 in
theorem esum_ok (xn xd yn yd : Int) (w : World) (h1 : I64 xn) (h2 : I64 xd) (h3 : I64 yn) (h4 : I64 yd) (hx1 : 1 ≤ xd) (hy1 : 1 ≤ yd) :
    Calls Try.prog 20 #[.agg #[.int .i64 xn, .int .i64 xd], .agg #[.int .i64 yn, .int .i64 yd]] w fun e w' => e = .returned (.tuple #[.agg #[.int .i64 (Ex.numR (Ex.sumS xn xd yn yd)), .int .i64 (Ex.denR (Ex.sumS xn xd yn yd))], .bool (Ex.okR (Ex.sumS xn xd yn yd))]) ∧ Below w.heap.size w w' := by
  have hms : Ex.sumS xn xd yn yd = Ex.fitR (Ex.rat xn xd + Ex.rat yn yd) := by unfold Ex.sumS; rw [if_neg (by omega)]
  rw [hms]
  have l1 := fun w => elow_any xn xd w h1 h2 hx1
  have l2 := fun w => elow_any yn yd w h3 h4 hy1
  have FA := low_facts xn xd h1 h2 hx1
  have FB := low_facts yn yd h3 h4 hy1
  have ia := FA.inum
  have ib := FB.inum
  have da : (Ex.rat xn xd).den < 9223372036854775808 := by have := FA.iden; unfold I64 at h2; omega
  have db : (Ex.rat yn yd).den < 9223372036854775808 := by have := FB.iden; unfold I64 at h4; omega
  clear hms FA FB
  generalize hA : Ex.rat xn xd = A at *
  generalize hB : Ex.rat yn yd = B at *
  have hform := fun neg t ht => Ex.add_form A B neg t ht
  have hres : ∀ neg n d, Ex.sg neg n = (A + B).num → d = (A + B).den → Ex.ratS neg n d = Ex.fitR (A + B) := fun neg n d => Ex.ratS_fit neg n d (A + B)
  have hsame := Ex.add_same A.num B.num (B.den / Nat.gcd A.den B.den) (A.den / Nat.gcd A.den B.den)
  have hlt := Ex.add_lt A.num B.num (B.den / Nat.gcd A.den B.den) (A.den / Nat.gcd A.den B.den)
  have hge := Ex.add_ge A.num B.num (B.den / Nat.gcd A.den B.den) (A.den / Nat.gcd A.den B.den)
  have pd := A.den_pos
  have pe := B.den_pos
  obtain ⟨an, han⟩ : ∃ a, a = A.num := ⟨_, rfl⟩
  obtain ⟨bn, hbn⟩ : ∃ a, a = B.num := ⟨_, rfl⟩
  obtain ⟨ad, had⟩ : ∃ a, a = A.den := ⟨_, rfl⟩
  obtain ⟨bd, hbd⟩ : ∃ a, a = B.den := ⟨_, rfl⟩
  rw [← han, ← had] at l1
  rw [← hbn, ← hbd] at l2
  rw [← han] at ia
  rw [← hbn] at ib
  rw [← had] at da pd
  rw [← hbd] at db pe
  simp only [← han, ← hbn, ← had, ← hbd] at hform hsame hlt hge
  generalize A + B = AB at *
  clear han hbn had hbd hA hB
  have na : an.natAbs ≤ 9223372036854775808 := by unfold I64 at ia; omega
  have nb : bn.natAbs ≤ 9223372036854775808 := by unfold I64 at ib; omega
  have gp : 0 < Nat.gcd ad bd := Nat.gcd_pos_of_pos_right _ pe
  have gl : Nat.gcd ad bd ≤ bd := Nat.gcd_le_right _ pe
  have gc1 := fun w => gcd_nat ad bd w
  generalize Nat.gcd ad bd = g at *
  have b3 : ad / g ≤ ad := Nat.div_le_self _ _
  have b4 : bd / g ≤ bd := Nat.div_le_self _ _
  obtain ⟨q3, q3'⟩ := quo_u64 ad g (by omega)
  obtain ⟨q4, q4'⟩ := quo_u64 bd g (by omega)
  generalize ad / g = p3 at *
  generalize bd / g = p4 at *
  have bP : an.natAbs * p4 ≤ 9223372036854775808 * 9223372036854775808 := Nat.mul_le_mul na (by omega)
  have bQ : bn.natAbs * p3 ≤ 9223372036854775808 * 9223372036854775808 := Nat.mul_le_mul nb (by omega)
  have ht1 := fun w => times_any an.natAbs p4 _ _ w rfl rfl (by omega) (by omega)
  have ht2 := fun w => times_any bn.natAbs p3 _ _ w rfl rfl (by omega) (by omega)
  generalize an.natAbs * p4 = P at *
  generalize bn.natAbs * p3 = Q at *
  have z1 : ¬ (g : Int) = 0 := by omega
  have z2 : ¬ g = 0 := by omega
  have ug : IntKind.u64.wrap (g : Int) = (g : Int) := Dv.wrapN _ (by omega)
  have ua : IntKind.u64.wrap (ad : Int) = (ad : Int) := Dv.wrapN _ (by omega)
  have ub : IntKind.u64.wrap (bd : Int) = (bd : Int) := Dv.wrapN _ (by omega)
  have hbw : ∀ o1 o2 o3, Below w.heap.size w (((w.alloc o1).alloc o2).alloc o3) := fun o1 o2 o3 => (((Below.refl _ _).alloc (Nat.le_refl _) _).alloc (by simp) _).alloc (by simp; omega) _
  replace l1 := hide l1; replace l2 := hide l2; replace gc1 := hide gc1; replace ht1 := hide ht1; replace ht2 := hide ht2
  replace hform := hide hform; replace hres := hide hres; replace hsame := hide hsame; replace hlt := hide hlt; replace hge := hide hge
  replace bP := hide bP; replace bQ := hide bQ
  clear pd pe b4
  go_enter Try.func20, Try.ntmps20
  go_wp2_with fail
  refine (unhide l1 _).mono ?_
  rintro e w1 ⟨rfl, hb1⟩
  clear l1
  obtain ⟨k1, k2, k3⟩ := blk3 w (Obj.cells #[.int .i64 xn, .int .i64 xd] 33) (Obj.cells #[.int .i64 yn, .int .i64 yd] 33) (Obj.cells #[.int .i64 0, .int .i64 0] 33)
  replace k1 := kept hb1 (by simp; omega) k1
  replace k2 := kept hb1 (by simp) k2
  replace k3 := kept hb1 (by simp) k3
  replace hb1 := (hbw _ _ _).trans (hb1.mono (by simp; omega))
  obtain ⟨c0, c1, f0, f1⟩ := cells2 k1
  obtain ⟨d0, d1, g0, g1⟩ := cells2 k2
  go_wp2_with fail
  refine (unhide l2 _).mono ?_
  rintro e w2 ⟨rfl, hb2⟩
  clear l2 c0 c1 f0 f1 d0 d1 g0 g1
  have hz1 := (Array.getElem?_eq_some_iff.1 k3).1
  have m1 := kept hb2 (by rw [set2z]; omega) (set2 k1 (.int .i64 an) (.int .i64 ad))
  have m2 := kept hb2 (by rw [set2z]; omega) (set2o _ _ (by omega) k2)
  have m3 := kept hb2 (by rw [set2z]; omega) (set2o _ _ (by omega) k3)
  replace hb2 := ((hb1.setCell (Nat.le_refl _) _).setCell (Nat.le_refl _) _).trans (hb2.mono (by rw [set2z]; omega))
  clear k1 k2 k3 hb1
  obtain ⟨c0, c1, f0, f1⟩ := cells2 m2
  go_upto_region 5 with fail
  have n1 := set2o (w := w2) (b := w.heap.size + 1) (.int .i64 bn) (.int .i64 bd) (by omega) m1
  have n2 := set2 m2 (.int .i64 bn) (.int .i64 bd)
  have n3 := set2o (w := w2) (b := w.heap.size + 1) (.int .i64 bn) (.int .i64 bd) (by omega) m3
  have hb3 := (hb2.setCell (p := ⟨w.heap.size + 1, 0, none⟩) (by simp) (.int .i64 bn)).setCell (p := ⟨w.heap.size + 1, 1, none⟩) (by simp) (.int .i64 bd)
  clear c0 c1 f0 f1 m1 m2 m3 hb2 hz1
  obtain ⟨wx, hwx⟩ : ∃ wx, wx = (w2.setCell ⟨w.heap.size + 1, 0, none⟩ (.int .i64 bn)).setCell ⟨w.heap.size + 1, 1, none⟩ (.int .i64 bd) := ⟨_, rfl⟩
  rw [← hwx] at n1 n2 n3 hb3 ⊢
  clear hwx
  obtain ⟨c0, c1, f0, f1⟩ := cells2 n1
  obtain ⟨d0, d1, f2, f3⟩ := cells2 n2
  go_wp2_with fail
  refine (unhide gc1 _).mono ?_
  rintro e w3 ⟨rfl, nq, rfl⟩
  clear gc1
  go_upto_region 6 with fail
  have sz1 : ∀ z w, I64 z → Calls Try.prog 32 #[.int .i64 z] w fun e w' => e = .returned (.int .u64 z.natAbs) ∧ Below w.heap.size w w' := fun z w h => (esize_any z w h).mono fun _ _ ⟨a, b⟩ => ⟨a, b ▸ Below.refl _ _⟩
  replace sz1 := hide sz1
  go_cut [9, 10] (fun v9 v10 wr => ∃ bp bq : Nat, v9 = .pointer (some ⟨bp, 0, none⟩) ∧ v10 = .pointer (some ⟨bq, 0, none⟩) ∧ w.heap.size + 1 + 1 < bp ∧ w.heap.size + 1 + 1 < bq ∧ bp ≠ bq ∧
     wr.heap[bp]? = some (.cells #[.int .u64 (hiW P), .int .u64 (loW P)] 55 (0, 0)) ∧ wr.heap[bq]? = some (.cells #[.int .u64 (hiW Q), .int .u64 (loW Q)] 55 (0, 0)) ∧
     wr.heap[w.heap.size]? = some (.cells #[.int .i64 an, .int .i64 ad] 33 (0, 0)) ∧ wr.heap[w.heap.size + 1]? = some (.cells #[.int .i64 bn, .int .i64 bd] 33 (0, 0)) ∧
     wr.heap[w.heap.size + 1 + 1]? = some (.cells #[.int .i64 0, .int .i64 0] 33 (0, 0)) ∧ Below w.heap.size w wr)
  case first =>
    have hy1 : ∀ x : Ext (wx.drewN nq), x.get.cell? ⟨w.heap.size, 0, none⟩ = some (.int .i64 an) := fun x => x.cell (by simpa using c0)
    have hy2 : ∀ x : Ext (wx.drewN nq), x.get.cell? ⟨w.heap.size, 1, none⟩ = some (.int .i64 ad) := fun x => x.cell (by simpa using c1)
    have hy3 : ∀ x : Ext (wx.drewN nq), x.get.cell? ⟨w.heap.size + 1, 0, none⟩ = some (.int .i64 bn) := fun x => x.cell (by simpa using d0)
    have hy4 : ∀ x : Ext (wx.drewN nq), x.get.cell? ⟨w.heap.size + 1, 1, none⟩ = some (.int .i64 bd) := fun x => x.cell (by simpa using d1)
    clear c0 c1 f0 f1 d0 d1 f2 f3
    have sz2 : ∀ z w, I64 z → Calls Try.prog 32 #[.int .i64 z] w fun e w' => e = .returned (.int .u64 z.natAbs) ∧ Below w.heap.size w w' := unhide sz1
    replace sz2 := hide sz2
    refine wp_region_allocs 18 20 (Obj.cells #[.int .u64 0, .int .u64 0] 55) (by omega) (by rfl) (by kernel_rfl) ?_ ?_
    · intro i h1 h2 o ho b w'
      obtain rfl | rfl : i = 18 ∨ i = 19 := by omega
      · obtain rfl := Option.some.inj ho; go_simp
      · obtain rfl := Option.some.inj ho; go_simp
    simp only [List.take_succ_cons, List.take_zero, List.drop_succ_cons, List.drop_zero]
    repeat (refine wpQR_step (fun K hK => ?_); go_simp; first | (refine hK _ ?_; clear hK K) | (apply Exists.intro; refine ⟨fun _ => ?_, hK _ ?_⟩; ((first
      | (go_at_call 32; with_reducible exact unhide sz2 _ _ (by assumption))
      | (go_at_call 36; first | with_reducible exact unhide ht1 _ | with_reducible exact unhide ht2 _))); clear hK K))
    refine wpQR_nil ?_
    intro bs w' hbel hbs hinj
    obtain ⟨hp1, hp2⟩ := hbs 18 (by omega) (by omega)
    obtain ⟨hq1, hq2⟩ := hbs 19 (by omega) (by omega)
    have hne : bs 18 ≠ bs 19 := fun h => absurd (hinj 18 19 (by omega) (by omega) (by omega) (by omega) h) (by omega)
    simp only [putL, List.range', List.foldl_cons, List.foldl_nil, List.getElem?_cons_zero, List.getElem?_cons_succ]
    generalize bs 18 = bp at *
    generalize bs 19 = bq at *
    have hwz : w.heap.size + 1 + 1 < wx.heap.size := (Array.getElem?_eq_some_iff.1 n3).1
    have hp1' : wx.heap.size ≤ bp := by simpa using hp1
    have hq1' : wx.heap.size ≤ bq := by simpa using hq1
    have hbel' : Below wx.heap.size wx w' := (below_drewN _ _).trans (by simpa using hbel)
    obtain ⟨c0, c1, f0, f1⟩ := cells2 hp2
    obtain ⟨d0, d1, f2, f3⟩ := cells2 hq2
    have n1' := kept hbel' (by omega) n1
    have n2' := kept hbel' (by omega) n2
    have n3' := kept hbel' (by omega) n3
    clear hy1 hy2 hy3 hy4 hbs hinj hbel hp1 hq1 n1 n2 n3
    go_wp2
    go_meet
    exact ⟨bp, bq, rfl, rfl, by omega, by omega, hne, set2o _ _ hne (set2 hp2 _ _), set2 (set2o _ _ (Ne.symm hne) hq2) _ _,
      set2o _ _ (by omega) (set2o _ _ (by omega) n1'), set2o _ _ (by omega) (set2o _ _ (by omega) n2'), set2o _ _ (by omega) (set2o _ _ (by omega) n3'),
      ((((hb3.trans (hbel'.mono hb3.size)).setCell (by simp; omega) _).setCell (by simp; omega) _).setCell (by simp; omega) _).setCell (by simp; omega) _⟩
  case rest =>
    obtain ⟨bp, bq, rfl, rfl, hlp, hlq, hne, kp, kq, n1, n2, n3, hb3⟩ := hcut
    obtain ⟨c0, c1, _, _⟩ := cells2 kp
    obtain ⟨d0, d1, _, _⟩ := cells2 kq
    obtain ⟨e0, e1, _, _⟩ := cells2 n1
    have bP' := unhide bP
    have bQ' := unhide bQ
    have hpl := fun w => plus_any P Q _ _ _ _ w rfl rfl rfl rfl (by omega)
    clear bP' bQ' sz1 ht1 ht2
    obtain ⟨x, hx⟩ : ∃ x, decide (an < 0) = x := ⟨_, rfl⟩
    obtain ⟨y, hy⟩ : ∃ y, decide (bn < 0) = y := ⟨_, rfl⟩
    go_wp2_with fail
    refine (hpl _).mono ?_
    rintro e w4 ⟨rfl, hb4⟩
    clear hpl c0 c1 d0 d1 e0 e1
    have hzz := (Array.getElem?_eq_some_iff.1 n3).1
    replace kp := kept hb4 (Array.getElem?_eq_some_iff.1 kp).1 kp
    replace kq := kept hb4 (Array.getElem?_eq_some_iff.1 kq).1 kq
    replace n1 := kept hb4 (Array.getElem?_eq_some_iff.1 n1).1 n1
    replace n2 := kept hb4 (Array.getElem?_eq_some_iff.1 n2).1 n2
    replace n3 := kept hb4 (Array.getElem?_eq_some_iff.1 n3).1 n3
    have lp := (Array.getElem?_eq_some_iff.1 kp).1
    have lq := (Array.getElem?_eq_some_iff.1 kq).1
    have l3 := (Array.getElem?_eq_some_iff.1 n3).1
    replace kp := old1 (o' := (Obj.cells #[.int .u64 (hiW (P + Q)), .int .u64 (loW (P + Q))] 55)) kp
    replace kq := old1 (o' := (Obj.cells #[.int .u64 (hiW (P + Q)), .int .u64 (loW (P + Q))] 55)) kq
    replace n1 := old1 (o' := (Obj.cells #[.int .u64 (hiW (P + Q)), .int .u64 (loW (P + Q))] 55)) n1
    replace n2 := old1 (o' := (Obj.cells #[.int .u64 (hiW (P + Q)), .int .u64 (loW (P + Q))] 55)) n2
    replace n3 := old1 (o' := (Obj.cells #[.int .u64 (hiW (P + Q)), .int .u64 (loW (P + Q))] 55)) n3
    have kt := new1 w4 (Obj.cells #[.int .u64 (hiW (P + Q)), .int .u64 (loW (P + Q))] 55)
    replace hb3 := (hb3.trans (hb4.mono hb3.size)).alloc (by have := hb3.size; have := hb4.size; omega) (Obj.cells #[.int .u64 (hiW (P + Q)), .int .u64 (loW (P + Q))] 55)
    have hz4 := hb4.size
    clear hb4
    obtain ⟨c0, c1, f0, f1⟩ := cells2 n2
    go_upto_if 67 with fail
    clear c0 c1 f0 f1 hzz hz4
    obtain ⟨wy, hwy⟩ : ∃ wy, wy = w4.alloc (Obj.cells #[.int .u64 (hiW (P + Q)), .int .u64 (loW (P + Q))] 55) := ⟨_, rfl⟩
    rw [← hwy] at kp kq n1 n2 n3 kt hb3 ⊢
    obtain ⟨bt, hbt⟩ : ∃ bt, bt = w4.heap.size := ⟨_, rfl⟩
    rw [← hbt] at kt lp lq l3 ⊢
    clear hwy hbt
    go_cut [11] (fun v11 wr => ∃ (neg : Bool) (t : Nat), v11 = .bool neg ∧ an * (p4 : Int) + bn * (p3 : Int) = Ex.sg neg t ∧ t < 340282366920938463463374607431768211456 ∧
       wr.heap[bt]? = some (.cells #[.int .u64 (hiW t), .int .u64 (loW t)] 55 (0, 0)) ∧
       wr.heap[w.heap.size]? = some (.cells #[.int .i64 an, .int .i64 ad] 33 (0, 0)) ∧ wr.heap[w.heap.size + 1]? = some (.cells #[.int .i64 bn, .int .i64 bd] 33 (0, 0)) ∧
       wr.heap[w.heap.size + 1 + 1]? = some (.cells #[.int .i64 0, .int .i64 0] 33 (0, 0)) ∧ Below w.heap.size w wr)
    case first =>
      have bP' := unhide bP
      have bQ' := unhide bQ
      have hPQ : P + Q < 340282366920938463463374607431768211456 := by omega
      have hP1 : P < 340282366920938463463374607431768211456 := by omega
      have hQ1 : Q < 340282366920938463463374607431768211456 := by omega
      clear bP' bQ'
      replace hPQ := hide hPQ; replace hP1 := hide hP1; replace hQ1 := hide hQ1
      by_cases hxy : x = y
      · have hsm := hide ((unhide hsame) (by rw [hx, hy, hxy]))
        rw [hx] at hsm
        subst hxy
        cases x
        all_goals
          go_wp2
          go_meet
          exact ⟨_, _, rfl, unhide hsm, unhide hPQ, kt, n1, n2, n3, hb3⟩
      · have hny : x = !y := bool_not hxy
        have hcp := fun w => compare_any P Q _ _ _ _ w rfl rfl rfl rfl
        obtain ⟨c, hc⟩ : ∃ c, c = cmpI P Q := ⟨_, rfl⟩
        rw [← hc] at hcp
        replace hcp := hide hcp
        obtain ⟨c0, c1, f0, f1⟩ := cells2 kp
        obtain ⟨d0, d1, f2, f3⟩ := cells2 kq
        by_cases hPl : P < Q
        · have t1 : decide (c < 0) = true := by rw [hc]; unfold cmpI; rw [if_pos (by omega)]; rfl
          have hll := (unhide hlt) (by rw [hx, hy, hny]) hPl
          rw [hy] at hll
          have hmi := fun w => minus_any Q P _ _ _ _ w rfl rfl rfl rfl (by omega) (unhide hQ1)
          have hfin : Q - P < 340282366920938463463374607431768211456 := by have := unhide hQ1; omega
          replace hll := hide hll; replace hmi := hide hmi; replace hfin := hide hfin
          clear hxy hc hPl
          subst hny
          cases y
          all_goals
            go_wp2_with fail
            refine (unhide hcp _).mono ?_
            rintro e w5 ⟨rfl, hb5⟩
            clear c0 c1 f0 f1 d0 d1 f2 f3
            replace kp := kept hb5 (Array.getElem?_eq_some_iff.1 kp).1 kp
            replace kq := kept hb5 (Array.getElem?_eq_some_iff.1 kq).1 kq
            replace n1 := kept hb5 (Array.getElem?_eq_some_iff.1 n1).1 n1
            replace n2 := kept hb5 (Array.getElem?_eq_some_iff.1 n2).1 n2
            replace n3 := kept hb5 (Array.getElem?_eq_some_iff.1 n3).1 n3
            replace kt := kept hb5 (Array.getElem?_eq_some_iff.1 kt).1 kt
            replace hb3 := hb3.trans (hb5.mono hb3.size)
            obtain ⟨c0, c1, f0, f1⟩ := cells2 kp
            obtain ⟨d0, d1, f2, f3⟩ := cells2 kq
            go_wp2_with fail
            refine (unhide hmi _).mono ?_
            rintro e w6 ⟨rfl, hb6⟩
            clear hmi c0 c1 f0 f1 d0 d1 f2 f3
            replace n1 := kept hb6 (by rw [set2z, set2z]; exact (Array.getElem?_eq_some_iff.1 n1).1) (set2o _ _ (by omega) (set2o _ _ (by omega) n1))
            replace n2 := kept hb6 (by rw [set2z, set2z]; exact (Array.getElem?_eq_some_iff.1 n2).1) (set2o _ _ (by omega) (set2o _ _ (by omega) n2))
            replace n3 := kept hb6 (by rw [set2z, set2z]; exact (Array.getElem?_eq_some_iff.1 n3).1) (set2o _ _ (by omega) (set2o _ _ (by omega) n3))
            replace kt := kept hb6 (by rw [set2z, set2z]; exact (Array.getElem?_eq_some_iff.1 kt).1) (set2o _ _ (by omega) (set2o _ _ (by omega) kt))
            replace hb3 := ((((hb3.setCell (by simp; omega) _).setCell (by simp; omega) _).setCell (by simp; omega) _).setCell (by simp; omega) _).trans (hb6.mono (by rw [set2z, set2z]; exact hb3.size))
            clear kp kq
            obtain ⟨c0, c1, f0, f1⟩ := cells2 kt
            go_wp2
            go_meet
            exact ⟨_, _, rfl, unhide hll, unhide hfin, set2 kt _ _, set2o _ _ (by omega) n1, set2o _ _ (by omega) n2, set2o _ _ (by omega) n3, (hb3.setCell (by simp; omega) _).setCell (by simp; omega) _⟩
        · have t1 : decide (c < 0) = false := by
            rw [hc]; unfold cmpI; rw [if_neg (by omega)]
            by_cases h : Q < P
            · rw [if_pos (by omega)]; rfl
            · rw [if_neg (by omega)]; rfl
          have hll := (unhide hge) (by rw [hx, hy, hny]) (by omega)
          rw [hx, hny] at hll
          have hmi := fun w => minus_any P Q _ _ _ _ w rfl rfl rfl rfl (by omega) (unhide hP1)
          have hfin : P - Q < 340282366920938463463374607431768211456 := by have := unhide hP1; omega
          replace hll := hide hll; replace hmi := hide hmi; replace hfin := hide hfin
          clear hxy hc hPl
          subst hny
          cases y
          all_goals
            go_wp2_with fail
            refine (unhide hcp _).mono ?_
            rintro e w5 ⟨rfl, hb5⟩
            clear c0 c1 f0 f1 d0 d1 f2 f3
            replace kp := kept hb5 (Array.getElem?_eq_some_iff.1 kp).1 kp
            replace kq := kept hb5 (Array.getElem?_eq_some_iff.1 kq).1 kq
            replace n1 := kept hb5 (Array.getElem?_eq_some_iff.1 n1).1 n1
            replace n2 := kept hb5 (Array.getElem?_eq_some_iff.1 n2).1 n2
            replace n3 := kept hb5 (Array.getElem?_eq_some_iff.1 n3).1 n3
            replace kt := kept hb5 (Array.getElem?_eq_some_iff.1 kt).1 kt
            replace hb3 := hb3.trans (hb5.mono hb3.size)
            obtain ⟨c0, c1, f0, f1⟩ := cells2 kp
            obtain ⟨d0, d1, f2, f3⟩ := cells2 kq
            go_wp2_with fail
            refine (unhide hmi _).mono ?_
            rintro e w6 ⟨rfl, hb6⟩
            clear hmi c0 c1 f0 f1 d0 d1 f2 f3
            replace n1 := kept hb6 (Array.getElem?_eq_some_iff.1 n1).1 n1
            replace n2 := kept hb6 (Array.getElem?_eq_some_iff.1 n2).1 n2
            replace n3 := kept hb6 (Array.getElem?_eq_some_iff.1 n3).1 n3
            replace kt := kept hb6 (Array.getElem?_eq_some_iff.1 kt).1 kt
            replace hb3 := hb3.trans (hb6.mono hb3.size)
            clear kp kq
            obtain ⟨c0, c1, f0, f1⟩ := cells2 kt
            go_wp2
            go_meet
            exact ⟨_, _, rfl, unhide hll, unhide hfin, set2 kt _ _, set2o _ _ (by omega) n1, set2o _ _ (by omega) n2, set2o _ _ (by omega) n3, (hb3.setCell (by simp; omega) _).setCell (by simp; omega) _⟩
    case rest =>
      obtain ⟨neg, t, rfl, ht, htl, kt, n1, n2, n3, hb3⟩ := hcut
      obtain ⟨r1, r2, r3⟩ := (unhide hform) neg t ht
      have ov1 := fun w => over_any t g _ _ _ w rfl rfl rfl (by omega) (by omega) htl
      have gcc := fun w => gcd_u64 (t % g) g w
      have hgl : Nat.gcd (t % g) g ≤ g := Nat.gcd_le_right _ (by omega)
      obtain ⟨h, hh⟩ : ∃ h, h = Nat.gcd (t % g) g := ⟨_, rfl⟩
      rw [← hh] at r1 r2 r3 gcc hgl
      have ov2 := fun w => over_any t h _ _ _ w rfl rfl rfl r3 (by omega) htl
      have b5 : bd / h ≤ bd := Nat.div_le_self _ _
      obtain ⟨q5, q5'⟩ := quo_u64 bd h (by omega)
      generalize t / h = N at *
      generalize t % h = N' at *
      generalize bd / h = p5 at *
      generalize t % g = M at *
      generalize t / g = M' at *
      have ht1 := fun w => times_any p3 p5 _ _ w rfl rfl (by omega) (by omega)
      have hra := fun w => ratio_any neg N (p3 * p5) _ _ _ _ w rfl rfl rfl rfl
      have hfin := (unhide hres) neg N (p3 * p5) r1 r2
      rw [hfin] at hra
      generalize p3 * p5 = D at *
      have z3 : ¬ (h : Int) = 0 := by omega
      have z4 : ¬ h = 0 := by omega
      replace ov1 := hide ov1; replace ov2 := hide ov2; replace gcc := hide gcc; replace ht1 := hide ht1; replace hra := hide hra
      clear hfin r1 r2 r3 hgl hh b5 ht hform hres hsame hlt hge bP bQ htl
      obtain ⟨c0, c1, f0, f1⟩ := cells2 kt
      go_wp2_with fail
      refine (unhide ov1 _).mono ?_
      rintro e w7 ⟨rfl, hb7⟩
      clear ov1 c0 c1 f0 f1
      replace n1 := kept hb7 (Array.getElem?_eq_some_iff.1 n1).1 n1
      replace n2 := kept hb7 (Array.getElem?_eq_some_iff.1 n2).1 n2
      replace n3 := kept hb7 (Array.getElem?_eq_some_iff.1 n3).1 n3
      replace kt := kept hb7 (Array.getElem?_eq_some_iff.1 kt).1 kt
      replace hb3 := hb3.trans (hb7.mono hb3.size)
      clear hb7
      go_wp2_with fail
      refine (unhide gcc _).mono ?_
      rintro e w8 ⟨rfl, n8, rfl⟩
      clear gcc
      replace n1 := old1 (o' := (Obj.cells #[.int .u64 (hiW M'), .int .u64 (loW M')] 55)) n1
      replace n2 := old1 (o' := (Obj.cells #[.int .u64 (hiW M'), .int .u64 (loW M')] 55)) n2
      replace n3 := old1 (o' := (Obj.cells #[.int .u64 (hiW M'), .int .u64 (loW M')] 55)) n3
      replace kt := old1 (o' := (Obj.cells #[.int .u64 (hiW M'), .int .u64 (loW M')] 55)) kt
      replace hb3 := hb3.alloc hb3.size (Obj.cells #[.int .u64 (hiW M'), .int .u64 (loW M')] 55)
      obtain ⟨wz, hwz⟩ : ∃ wz, wz = w7.alloc (Obj.cells #[.int .u64 (hiW M'), .int .u64 (loW M')] 55) := ⟨_, rfl⟩
      rw [← hwz] at n1 n2 n3 kt hb3 ⊢
      clear hwz
      obtain ⟨c0, c1, f0, f1⟩ := cells2 kt
      go_wp2_with fail
      refine (unhide ov2 _).mono ?_
      rintro e w9 ⟨rfl, hb9⟩
      clear ov2 c0 c1 f0 f1
      have hb9' : Below wz.heap.size wz w9 := (below_drewN _ _).trans (by simpa using hb9)
      replace n1 := kept hb9' (Array.getElem?_eq_some_iff.1 n1).1 n1
      replace n2 := kept hb9' (Array.getElem?_eq_some_iff.1 n2).1 n2
      replace n3 := kept hb9' (Array.getElem?_eq_some_iff.1 n3).1 n3
      replace kt := kept hb9' (Array.getElem?_eq_some_iff.1 kt).1 kt
      replace hb3 := hb3.trans (hb9'.mono hb3.size)
      clear hb9 hb9'
      obtain ⟨c0, c1, f0, f1⟩ := cells2 kt
      go_upto_region 16 with fail
      replace n1 := set2o (.int .u64 (hiW N)) (.int .u64 (loW N)) (show w.heap.size ≠ bt by omega) n1
      replace n2 := set2o (.int .u64 (hiW N)) (.int .u64 (loW N)) (show w.heap.size + 1 ≠ bt by omega) n2
      replace n3 := set2o (.int .u64 (hiW N)) (.int .u64 (loW N)) (show w.heap.size + 1 + 1 ≠ bt by omega) n3
      replace kt := set2 kt (.int .u64 (hiW N)) (.int .u64 (loW N))
      replace hb3 := (hb3.setCell (p := ⟨bt, 0, none⟩) (show w.heap.size ≤ bt by omega) (.int .u64 (hiW N))).setCell (p := ⟨bt, 1, none⟩) (show w.heap.size ≤ bt by omega) (.int .u64 (loW N))
      clear c0 c1 f0 f1
      obtain ⟨wu, hwu⟩ : ∃ wu, wu = (w9.setCell ⟨bt, 0, none⟩ (.int .u64 (hiW N))).setCell ⟨bt, 1, none⟩ (.int .u64 (loW N)) := ⟨_, rfl⟩
      rw [← hwu] at n1 n2 n3 kt hb3 ⊢
      clear hwu
      obtain ⟨c0, c1, _, _⟩ := cells2 kt
      obtain ⟨_, d1, _, _⟩ := cells2 n1
      obtain ⟨_, e1, _, _⟩ := cells2 n2
      have hy1 : ∀ x : Ext wu, x.get.cell? ⟨bt, 0, none⟩ = some (.int .u64 (hiW N)) := fun x => x.cell c0
      have hy2 : ∀ x : Ext wu, x.get.cell? ⟨bt, 1, none⟩ = some (.int .u64 (loW N)) := fun x => x.cell c1
      have hy3 : ∀ x : Ext wu, x.get.cell? ⟨w.heap.size, 1, none⟩ = some (.int .i64 ad) := fun x => x.cell d1
      have hy4 : ∀ x : Ext wu, x.get.cell? ⟨w.heap.size + 1, 1, none⟩ = some (.int .i64 bd) := fun x => x.cell e1
      clear c0 c1 d1 e1 n1 n2 kt
      go_wp2
      refine wp_region_ext_tail 16 (by rfl) (by kernel_rfl) ?_
      simp only [List.take_succ_cons, List.take_zero, List.drop_succ_cons, List.drop_zero]
      repeat (quiet_step ((first
        | (go_at_call 36; with_reducible exact Ext.calls (unhide ht1 _))
        | (go_at_call 47; with_reducible exact Ext.calls (unhide hra _)))))
      refine wpQuiet_nil ?_
      rintro w' ⟨x, rfl⟩
      have hbel := x.le
      have n4 := kept hbel (Array.getElem?_eq_some_iff.1 n3).1 n3
      obtain ⟨c0, c1, f0, f1⟩ := cells2 n4
      clear hy1 hy2 hy3 hy4 n3 n4
      go_wp2
      refine bodyPost_ret (v := .tuple #[.agg #[.int .i64 (Ex.numR (Ex.fitR AB)), .int .i64 (Ex.denR (Ex.fitR AB))], .bool (Ex.okR (Ex.fitR AB))]) (by simp [results, Try.results20, go_sem, c0, c1]) rfl ⟨rfl, ?_⟩
      exact ((hb3.trans (hbel.mono hb3.size)).setCell (by simp; omega) _).setCell (by simp; omega) _
end Go.Proofs.Ytfegkaflemcanaa
