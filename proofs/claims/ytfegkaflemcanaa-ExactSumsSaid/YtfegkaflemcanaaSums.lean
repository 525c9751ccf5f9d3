/- The law ExactSums: small ratios are added and multiplied as rational numbers are. It holds for every input. -/
import Derived.Test.YtfegkaflemcanaaSum1
import Derived.Test.YtfegkaflemcanaaWrap
namespace Go.Proofs.Ytfegkaflemcanaa
open Go.ChangeShapes Go.WideShapes Go.ChangeAt Go.RowKit

/-- the array while its ratios are replaced -/
def K7 (n0 d0 n1 d1 n2 d2 a0 e0 a1 e1 a2 e2 j : Int) : Array Value :=
  #[.int .i64 (if 1 ≤ j then a0 else n0), .int .i64 (if 1 ≤ j then e0 else d0), .int .i64 (if 2 ≤ j then a1 else n1), .int .i64 (if 2 ≤ j then e1 else d1), .int .i64 (if 3 ≤ j then a2 else n2), .int .i64 (if 3 ≤ j then e2 else d2)]
theorem sml18 {a e : Int} (ha : -262144 < a ∧ a < 262144) (he : 1 ≤ e ∧ e ≤ 262144) : Ex.Sml (Ex.rat a e) 262143 262144 := Ex.Sml.rat (by omega) he.1 (by omega)
theorem sub_sum (p q r : Rat) : (p + r) - (q + r) = p - q := by
  rw [Rat.sub_eq_add_neg, Rat.sub_eq_add_neg, Rat.neg_add, Rat.add_assoc, ← Rat.add_assoc r, Rat.add_comm r (-q), Rat.add_assoc, Rat.add_neg_cancel, Rat.add_zero]
theorem add_back (p q : Rat) : (p + q) + (-q) = p := by rw [Rat.add_assoc, Rat.add_neg_cancel, Rat.add_zero]

set_option maxRecDepth 100000 in
set_option maxHeartbeats 8000000 in
theorem sums_any (n0 d0 n1 d1 n2 d2 : Int) (w : World) (_ : I64 n0) (_ : I64 d0) (_ : I64 n1) (_ : I64 d1) (_ : I64 n2) (_ : I64 d2) :
    Calls Try.prog 7 #[.agg #[.int .i64 n0, .int .i64 d0, .int .i64 n1, .int .i64 d1, .int .i64 n2, .int .i64 d2]] w fun e w' => e = .returned (.bool true) ∧ Below w.heap.size w w' := by
  obtain ⟨a0, ha0⟩ : ∃ a, n0.tmod 262144 = a := ⟨_, rfl⟩
  have ba0 : -262144 < a0 ∧ a0 < 262144 := by rw [← ha0]; exact tmod_bounds n0 262144 (by omega)
  have m0 := fun w => mod_any d0 262144 w (by omega) (by omega)
  have r0 : 0 ≤ d0 % 262144 ∧ d0 % 262144 < 262144 := by omega
  generalize d0 % 262144 = D0 at *
  obtain ⟨e0, he0⟩ : ∃ e, D0 + 1 = e := ⟨_, rfl⟩
  have b0 : 1 ≤ e0 ∧ e0 ≤ 262144 := by omega
  have i0 : I64 a0 := ⟨by omega, by omega⟩
  have j0 : I64 e0 := ⟨by omega, by omega⟩
  have s0 := sml18 ba0 b0
  have f0 : Ex.For a0 e0 (Ex.rat a0 e0) := Ex.For.rat b0.1
  replace m0 := hide m0; replace he0 := hide he0
  obtain ⟨a1, ha1⟩ : ∃ a, n1.tmod 262144 = a := ⟨_, rfl⟩
  have ba1 : -262144 < a1 ∧ a1 < 262144 := by rw [← ha1]; exact tmod_bounds n1 262144 (by omega)
  have m1 := fun w => mod_any d1 262144 w (by omega) (by omega)
  have r1 : 0 ≤ d1 % 262144 ∧ d1 % 262144 < 262144 := by omega
  generalize d1 % 262144 = D1 at *
  obtain ⟨e1, he1⟩ : ∃ e, D1 + 1 = e := ⟨_, rfl⟩
  have b1 : 1 ≤ e1 ∧ e1 ≤ 262144 := by omega
  have i1 : I64 a1 := ⟨by omega, by omega⟩
  have j1 : I64 e1 := ⟨by omega, by omega⟩
  have s1 := sml18 ba1 b1
  have f1 : Ex.For a1 e1 (Ex.rat a1 e1) := Ex.For.rat b1.1
  replace m1 := hide m1; replace he1 := hide he1
  obtain ⟨a2, ha2⟩ : ∃ a, n2.tmod 262144 = a := ⟨_, rfl⟩
  have ba2 : -262144 < a2 ∧ a2 < 262144 := by rw [← ha2]; exact tmod_bounds n2 262144 (by omega)
  have m2 := fun w => mod_any d2 262144 w (by omega) (by omega)
  have r2 : 0 ≤ d2 % 262144 ∧ d2 % 262144 < 262144 := by omega
  generalize d2 % 262144 = D2 at *
  obtain ⟨e2, he2⟩ : ∃ e, D2 + 1 = e := ⟨_, rfl⟩
  have b2 : 1 ≤ e2 ∧ e2 ≤ 262144 := by omega
  have i2 : I64 a2 := ⟨by omega, by omega⟩
  have j2 : I64 e2 := ⟨by omega, by omega⟩
  have s2 := sml18 ba2 b2
  have f2 : Ex.For a2 e2 (Ex.rat a2 e2) := Ex.For.rat b2.1
  replace m2 := hide m2; replace he2 := hide he2
  have iN : I64 (-a1) := ⟨by omega, by omega⟩
  have fN : Ex.For (-a1) e1 (-(Ex.rat a1 e1)) := Ex.For.neg b1.1
  generalize Ex.rat a0 e0 = p at *
  generalize Ex.rat a1 e1 = q at *
  generalize Ex.rat a2 e2 = r at *
  have t_pq : Ex.In63 (p + q) := (s0.add s1).in63 (by omega) (by omega)
  have t_pr : Ex.In63 (p + r) := (s0.add s2).in63 (by omega) (by omega)
  have t_qr : Ex.In63 (q + r) := (s1.add s2).in63 (by omega) (by omega)
  have t_pqr : Ex.In63 (p + q + r) := ((s0.add s1).add s2).in63 (by omega) (by omega)
  have u_pq : Ex.In63 (p * q) := (s0.mul s1).in63 (by omega) (by omega)
  have u_pr : Ex.In63 (p * r) := (s0.mul s2).in63 (by omega) (by omega)
  have u_qr : Ex.In63 (q * r) := (s1.mul s2).in63 (by omega) (by omega)
  have u_pqr : Ex.In63 (p * q * r) := ((s0.mul s1).mul s2).in63 (by omega) (by omega)
  have v_pqr : Ex.In63 (p * (q + r)) := (s0.mul (s1.add s2)).in63 (by omega) (by omega)
  have t_p : Ex.In63 p := s0.in63 (by omega) (by omega)
  clear s0 s1 s2
  have cs0 := fun (bo : Nat) (u : World) (hb : u.heap[bo]? = some (.cells #[.bool true] 4 (0, 0))) => lsum_any a0 e0 a1 e1 _ _ bo u hb i0 j0 i1 j1 f0 f1 t_pq
  have cs1 := fun (bo : Nat) (u : World) (hb : u.heap[bo]? = some (.cells #[.bool true] 4 (0, 0))) => lsum_any a1 e1 a0 e0 _ _ bo u hb i1 j1 i0 j0 f1 f0 (by rw [Rat.add_comm q p]; exact t_pq)
  rw [Rat.add_comm q p] at cs1
  have cs2 := fun (bo : Nat) (u : World) (hb : u.heap[bo]? = some (.cells #[.bool true] 4 (0, 0))) => lsum_any (p + q).num ((p + q).den : Int) a2 e2 _ _ bo u hb (i64_num t_pq).1 (i64_num t_pq).2 i2 j2 (Ex.For.low (p + q)) f2 t_pqr
  have cs3 := fun (bo : Nat) (u : World) (hb : u.heap[bo]? = some (.cells #[.bool true] 4 (0, 0))) => lsum_any a1 e1 a2 e2 _ _ bo u hb i1 j1 i2 j2 f1 f2 t_qr
  have cs4 := fun (bo : Nat) (u : World) (hb : u.heap[bo]? = some (.cells #[.bool true] 4 (0, 0))) => lsum_any a0 e0 (q + r).num ((q + r).den : Int) _ _ bo u hb i0 j0 (i64_num t_qr).1 (i64_num t_qr).2 f0 (Ex.For.low (q + r)) (by rw [← Rat.add_assoc p q r]; exact t_pqr)
  rw [← Rat.add_assoc p q r] at cs4
  have cs5 := fun (bo : Nat) (u : World) (hb : u.heap[bo]? = some (.cells #[.bool true] 4 (0, 0))) => lsum_any (p * q).num ((p * q).den : Int) (p * r).num ((p * r).den : Int) _ _ bo u hb (i64_num u_pq).1 (i64_num u_pq).2 (i64_num u_pr).1 (i64_num u_pr).2 (Ex.For.low (p * q)) (Ex.For.low (p * r)) (by rw [← Rat.mul_add p q r]; exact v_pqr)
  rw [← Rat.mul_add p q r] at cs5
  have cs6 := fun (bo : Nat) (u : World) (hb : u.heap[bo]? = some (.cells #[.bool true] 4 (0, 0))) => lsum_any a0 e0 a2 e2 _ _ bo u hb i0 j0 i2 j2 f0 f2 t_pr
  have cs7 := fun (bo : Nat) (u : World) (hb : u.heap[bo]? = some (.cells #[.bool true] 4 (0, 0))) => lsum_any (p + q).num ((p + q).den : Int) (-a1) e1 _ _ bo u hb (i64_num t_pq).1 (i64_num t_pq).2 iN j1 (Ex.For.low (p + q)) fN (by rw [add_back p q]; exact t_p)
  rw [add_back p q] at cs7
  have cm0 := fun (bo : Nat) (u : World) (hb : u.heap[bo]? = some (.cells #[.bool true] 4 (0, 0))) => lmul_any a0 e0 a1 e1 _ _ bo u hb i0 j0 i1 j1 f0 f1 u_pq
  have cm1 := fun (bo : Nat) (u : World) (hb : u.heap[bo]? = some (.cells #[.bool true] 4 (0, 0))) => lmul_any a1 e1 a0 e0 _ _ bo u hb i1 j1 i0 j0 f1 f0 (by rw [Rat.mul_comm q p]; exact u_pq)
  rw [Rat.mul_comm q p] at cm1
  have cm2 := fun (bo : Nat) (u : World) (hb : u.heap[bo]? = some (.cells #[.bool true] 4 (0, 0))) => lmul_any (p * q).num ((p * q).den : Int) a2 e2 _ _ bo u hb (i64_num u_pq).1 (i64_num u_pq).2 i2 j2 (Ex.For.low (p * q)) f2 u_pqr
  have cm3 := fun (bo : Nat) (u : World) (hb : u.heap[bo]? = some (.cells #[.bool true] 4 (0, 0))) => lmul_any a1 e1 a2 e2 _ _ bo u hb i1 j1 i2 j2 f1 f2 u_qr
  have cm4 := fun (bo : Nat) (u : World) (hb : u.heap[bo]? = some (.cells #[.bool true] 4 (0, 0))) => lmul_any a0 e0 (q * r).num ((q * r).den : Int) _ _ bo u hb i0 j0 (i64_num u_qr).1 (i64_num u_qr).2 f0 (Ex.For.low (q * r)) (by rw [← Rat.mul_assoc p q r]; exact u_pqr)
  rw [← Rat.mul_assoc p q r] at cm4
  have cm5 := fun (bo : Nat) (u : World) (hb : u.heap[bo]? = some (.cells #[.bool true] 4 (0, 0))) => lmul_any a0 e0 (q + r).num ((q + r).den : Int) _ _ bo u hb i0 j0 (i64_num t_qr).1 (i64_num t_qr).2 f0 (Ex.For.low (q + r)) v_pqr
  have cm6 := fun (bo : Nat) (u : World) (hb : u.heap[bo]? = some (.cells #[.bool true] 4 (0, 0))) => lmul_any a0 e0 a2 e2 _ _ bo u hb i0 j0 i2 j2 f0 f2 u_pr
  have k1 := fun w => ecmp_any (p + r).num ((p + r).den : Int) (q + r).num ((q + r).den : Int) w (i64_num t_pr).1 (i64_num t_pr).2 (i64_num t_qr).1 (i64_num t_qr).2
  rw [Ex.cmp_for (Ex.For.low (p + r)) (Ex.For.low (q + r)), sub_sum] at k1
  have k2 := fun w => ecmp_any a0 e0 a1 e1 w i0 j0 i1 j1
  rw [Ex.cmp_for f0 f1] at k2
  have k3 := fun w => ecmp_any p.num (p.den : Int) a0 e0 w (i64_num t_p).1 (i64_num t_p).2 i0 j0
  rw [Ex.cmp_for (Ex.For.low p) f0, Rat.sub_self, show Ex.sgnI (0 : Rat).num = 0 from rfl] at k3
  have kl := fun w => elow_all a0 e0 w i0 j0
  have el : Ex.lowS a0 e0 = some (p.num, (p.den : Int)) := by unfold Ex.lowS; rw [if_neg (by omega), f0.2]
  rw [el] at kl
  have e1' : Ex.numR (some (p.num, (p.den : Int))) = p.num := rfl
  have e2' : Ex.denR (some (p.num, (p.den : Int))) = (p.den : Int) := rfl
  have e3' : Ex.okR (some (p.num, (p.den : Int))) = true := rfl
  rw [e1', e2', e3'] at kl
  clear e1' e2' e3' el f0 f1 f2 fN
  clear t_pq t_pr t_qr t_pqr u_pq u_pr u_qr u_pqr v_pqr t_p
  generalize (p + q + r).num = gn0 at *
  generalize ((p + q + r).den : Int) = gd0 at *
  generalize (p * q * r).num = gn1 at *
  generalize ((p * q * r).den : Int) = gd1 at *
  generalize (p * (q + r)).num = gn2 at *
  generalize ((p * (q + r)).den : Int) = gd2 at *
  generalize (p + q).num = gn3 at *
  generalize ((p + q).den : Int) = gd3 at *
  generalize (p + r).num = gn4 at *
  generalize ((p + r).den : Int) = gd4 at *
  generalize (q + r).num = gn5 at *
  generalize ((q + r).den : Int) = gd5 at *
  generalize (p * q).num = gn6 at *
  generalize ((p * q).den : Int) = gd6 at *
  generalize (p * r).num = gn7 at *
  generalize ((p * r).den : Int) = gd7 at *
  generalize (q * r).num = gn8 at *
  generalize ((q * r).den : Int) = gd8 at *
  generalize p.num = gn9 at *
  generalize (p.den : Int) = gd9 at *
  replace cs0 := hide cs0
  replace cs1 := hide cs1
  replace cs2 := hide cs2
  replace cs3 := hide cs3
  replace cs4 := hide cs4
  replace cs5 := hide cs5
  replace cs6 := hide cs6
  replace cs7 := hide cs7
  replace cm0 := hide cm0
  replace cm1 := hide cm1
  replace cm2 := hide cm2
  replace cm3 := hide cm3
  replace cm4 := hide cm4
  replace cm5 := hide cm5
  replace cm6 := hide cm6
  replace k1 := hide k1; replace k2 := hide k2; replace k3 := hide k3; replace kl := hide kl
  generalize Ex.sgnI (p - q).num = ord at *
  have st := St.new1 w (Obj.cells #[.int .i64 n0, .int .i64 d0, .int .i64 n1, .int .i64 d1, .int .i64 n2, .int .i64 d2] 34)
  obtain ⟨bl, v0, el, ev, st⟩ := st
  obtain ⟨W0, hW0⟩ : ∃ W0, w.heap.size = W0 := ⟨_, rfl⟩
  rw [hW0] at st
  replace el := hide el; replace ev := hide ev; replace hW0 := hide hW0
  go_enter Try.func7, Try.ntmps7
  go_wp2_with fail
  rw [unhide ev, unhide el]
  clear ev el
  refine (sanity_any _).mono ?_
  rintro e w1 ⟨rfl, hb1⟩
  replace st := st.call hb1
  clear hb1
  go_wp2_with fail
  go_loopw [12] (fun v wr => ∃ j : Int, 0 ≤ j ∧ j ≤ 3 ∧ v = .int .i64 j ∧ St W0 w [(bl, .cells (K7 n0 d0 n1 d1 n2 d2 a0 e0 a1 e1 a2 e2 j) 34 (0, 0))] wr) (fun v _ => (3 - intOf v).toNat)
  case atStart => exact ⟨0, by omega, by omega, rfl, st⟩
  case round =>
    obtain ⟨j, hj0, hj3, rfl, sr⟩ := hrel
    clear st
    obtain rfl | rfl | rfl | rfl : j = 0 ∨ j = 1 ∨ j = 2 ∨ j = 3 := by omega
    · have x0 := sr.xcell 0 rfl 0 (v := .int .i64 n0) rfl
      have x1 := sr.xcell 0 rfl 1 (v := .int .i64 d0) rfl
      have ew : IntKind.i64.wrap (D0 + 1) = e0 := (IntWalk.i64_in _ (by omega)).trans he0.out
      go_upto_region 5 with fail
      refine wp_region_ext_tail 14 (by rfl) (by kernel_rfl) ?_
      simp only [List.take_succ_cons, List.take_zero, List.drop_succ_cons, List.drop_zero]
      repeat (quiet_step ((first | (go_at_call 16; exact Ext.calls ((unhide m0 _).mono fun _ _ ⟨a, b⟩ => ⟨a, b ▸ Below.refl _ _⟩)) | (go_at_call 19; exact Ext.calls (of_any _ _ _)))))
      refine wpQuiet_nil ?_
      rintro w' ⟨x, rfl⟩
      clear x0 x1 ew
      replace sr := sr.ext x
      have g0 := sr.cell 0 rfl 0 rfl
      have g1 := sr.cell 0 rfl 1 rfl
      have g2 := sr.free 0 rfl 0
      have g3 := sr.free 0 rfl 1
      go_wp2_with fail
      go_roundw
      case rel => exact ⟨1, by omega, by omega, rfl, by have h := (sr.set 0 rfl 0 (.int .i64 a0)).set 0 rfl 1 (.int .i64 e0); exact h⟩
      case measure => simp [intOf]
    · have x0 := sr.xcell 0 rfl 2 (v := .int .i64 n1) rfl
      have x1 := sr.xcell 0 rfl 3 (v := .int .i64 d1) rfl
      have ew : IntKind.i64.wrap (D1 + 1) = e1 := (IntWalk.i64_in _ (by omega)).trans he1.out
      go_upto_region 5 with fail
      refine wp_region_ext_tail 14 (by rfl) (by kernel_rfl) ?_
      simp only [List.take_succ_cons, List.take_zero, List.drop_succ_cons, List.drop_zero]
      repeat (quiet_step ((first | (go_at_call 16; exact Ext.calls ((unhide m1 _).mono fun _ _ ⟨a, b⟩ => ⟨a, b ▸ Below.refl _ _⟩)) | (go_at_call 19; exact Ext.calls (of_any _ _ _)))))
      refine wpQuiet_nil ?_
      rintro w' ⟨x, rfl⟩
      clear x0 x1 ew
      replace sr := sr.ext x
      have g0 := sr.cell 0 rfl 2 rfl
      have g1 := sr.cell 0 rfl 3 rfl
      have g2 := sr.free 0 rfl 2
      have g3 := sr.free 0 rfl 3
      go_wp2_with fail
      go_roundw
      case rel => exact ⟨2, by omega, by omega, rfl, by have h := (sr.set 0 rfl 2 (.int .i64 a1)).set 0 rfl 3 (.int .i64 e1); exact h⟩
      case measure => simp [intOf]
    · have x0 := sr.xcell 0 rfl 4 (v := .int .i64 n2) rfl
      have x1 := sr.xcell 0 rfl 5 (v := .int .i64 d2) rfl
      have ew : IntKind.i64.wrap (D2 + 1) = e2 := (IntWalk.i64_in _ (by omega)).trans he2.out
      go_upto_region 5 with fail
      refine wp_region_ext_tail 14 (by rfl) (by kernel_rfl) ?_
      simp only [List.take_succ_cons, List.take_zero, List.drop_succ_cons, List.drop_zero]
      repeat (quiet_step ((first | (go_at_call 16; exact Ext.calls ((unhide m2 _).mono fun _ _ ⟨a, b⟩ => ⟨a, b ▸ Below.refl _ _⟩)) | (go_at_call 19; exact Ext.calls (of_any _ _ _)))))
      refine wpQuiet_nil ?_
      rintro w' ⟨x, rfl⟩
      clear x0 x1 ew
      replace sr := sr.ext x
      have g0 := sr.cell 0 rfl 4 rfl
      have g1 := sr.cell 0 rfl 5 rfl
      have g2 := sr.free 0 rfl 4
      have g3 := sr.free 0 rfl 5
      go_wp2_with fail
      go_roundw
      case rel => exact ⟨3, by omega, by omega, rfl, by have h := (sr.set 0 rfl 4 (.int .i64 a2)).set 0 rfl 5 (.int .i64 e2); exact h⟩
      case measure => simp [intOf]
    · clear m0 m1 m2 he0 he1 he2
      have st : St W0 w [(bl, .cells #[.int .i64 a0, .int .i64 e0, .int .i64 a1, .int .i64 e1, .int .i64 a2, .int .i64 e2] 34 (0, 0))] wr := sr
      clear sr
      go_upto_region 7 with fail
      go_cut [5, 6, 7] (fun v5 v6 v7 wz => ∃ bx by_ bz : Nat, v5 = .pointer (some ⟨bx, 0, none⟩) ∧ v6 = .pointer (some ⟨by_, 0, none⟩) ∧ v7 = .pointer (some ⟨bz, 0, none⟩) ∧
        St W0 w [(bz, .cells #[.int .i64 a2, .int .i64 e2] 33), (by_, .cells #[.int .i64 a1, .int .i64 e1] 33), (bx, .cells #[.int .i64 a0, .int .i64 e0] 33)] wz)
      case first =>
        have g0 := st.cell 0 rfl 0 rfl
        have g1 := st.cell 0 rfl 1 rfl
        have g2 := st.cell 0 rfl 2 rfl
        have g3 := st.cell 0 rfl 3 rfl
        have g4 := st.cell 0 rfl 4 rfl
        have g5 := st.cell 0 rfl 5 rfl
        have hlt := st.lt 0 rfl
        have n1 : bl ≠ wr.heap.size := by omega
        have n2 : bl ≠ wr.heap.size + 1 := by omega
        have n3 : bl ≠ wr.heap.size + 1 + 1 := by omega
        have p1 : wr.heap.size ≠ bl := by omega
        have p2 : wr.heap.size + 1 ≠ bl := by omega
        have p3 : wr.heap.size + 1 + 1 ≠ bl := by omega
        have n4 : bl ≠ wr.heap.size + 2 := by omega
        have p4 : wr.heap.size + 2 ≠ bl := by omega
        have hk3 : ∀ (o1 o2 o3 : Obj) (j : Nat) (v : Value), (#[.int .i64 a0, .int .i64 e0, .int .i64 a1, .int .i64 e1, .int .i64 a2, .int .i64 e2] : Array Value)[j]? = some v → (((wr.alloc o1).alloc o2).alloc o3).drew.cell? ⟨bl, j, none⟩ = some v := fun o1 o2 o3 j v hj => ((((st.alloc o1).alloc o2).alloc o3).drew).cell 3 rfl j hj
        go_region_held3 (fun w' => w'.cell? ⟨bl, 0, none⟩ = some (.int .i64 a0) ∧ w'.cell? ⟨bl, 1, none⟩ = some (.int .i64 e0) ∧ w'.cell? ⟨bl, 2, none⟩ = some (.int .i64 a1) ∧ w'.cell? ⟨bl, 3, none⟩ = some (.int .i64 e1) ∧ w'.cell? ⟨bl, 4, none⟩ = some (.int .i64 a2) ∧ w'.cell? ⟨bl, 5, none⟩ = some (.int .i64 e2)) (first | go_keep | exact ⟨hk3 _ _ _ 0 _ rfl, hk3 _ _ _ 1 _ rfl, hk3 _ _ _ 2 _ rfl, hk3 _ _ _ 3 _ rfl, hk3 _ _ _ 4 _ rfl, hk3 _ _ _ 5 _ rfl⟩) (fail)
        all_goals
          go_wp2_with fail
          go_meet
          exact ⟨_, _, _, rfl, rfl, rfl, St.sub ((((st.alloc _).alloc _).alloc _).drew) _ (by simp) (by simp <;> omega)⟩
      case rest =>
        obtain ⟨bx, by_, bz, rfl, rfl, rfl, st⟩ := hcut
        go_upto_region 9 with fail
        obtain ⟨bo, v1, eb, ew, st⟩ := st.new (Obj.cells #[.bool true] 4)
        rw [ew, eb]
        clear ew eb
        have ob := st.get 0 rfl
        have xs0 := hide (fun x : Ext v1 => unhide cs0 bo x.get (kept x.le (Array.getElem?_eq_some_iff.1 ob).1 ob))
        have xs1 := hide (fun x : Ext v1 => unhide cs1 bo x.get (kept x.le (Array.getElem?_eq_some_iff.1 ob).1 ob))
        have xs2 := hide (fun x : Ext v1 => unhide cs2 bo x.get (kept x.le (Array.getElem?_eq_some_iff.1 ob).1 ob))
        have xs3 := hide (fun x : Ext v1 => unhide cs3 bo x.get (kept x.le (Array.getElem?_eq_some_iff.1 ob).1 ob))
        have xs4 := hide (fun x : Ext v1 => unhide cs4 bo x.get (kept x.le (Array.getElem?_eq_some_iff.1 ob).1 ob))
        have xs5 := hide (fun x : Ext v1 => unhide cs5 bo x.get (kept x.le (Array.getElem?_eq_some_iff.1 ob).1 ob))
        have xs6 := hide (fun x : Ext v1 => unhide cs6 bo x.get (kept x.le (Array.getElem?_eq_some_iff.1 ob).1 ob))
        have xs7 := hide (fun x : Ext v1 => unhide cs7 bo x.get (kept x.le (Array.getElem?_eq_some_iff.1 ob).1 ob))
        have xm0 := hide (fun x : Ext v1 => unhide cm0 bo x.get (kept x.le (Array.getElem?_eq_some_iff.1 ob).1 ob))
        have xm1 := hide (fun x : Ext v1 => unhide cm1 bo x.get (kept x.le (Array.getElem?_eq_some_iff.1 ob).1 ob))
        have xm2 := hide (fun x : Ext v1 => unhide cm2 bo x.get (kept x.le (Array.getElem?_eq_some_iff.1 ob).1 ob))
        have xm3 := hide (fun x : Ext v1 => unhide cm3 bo x.get (kept x.le (Array.getElem?_eq_some_iff.1 ob).1 ob))
        have xm4 := hide (fun x : Ext v1 => unhide cm4 bo x.get (kept x.le (Array.getElem?_eq_some_iff.1 ob).1 ob))
        have xm5 := hide (fun x : Ext v1 => unhide cm5 bo x.get (kept x.le (Array.getElem?_eq_some_iff.1 ob).1 ob))
        have xm6 := hide (fun x : Ext v1 => unhide cm6 bo x.get (kept x.le (Array.getElem?_eq_some_iff.1 ob).1 ob))
        have y0 := st.xcell 3 rfl 0 rfl
        have y1 := st.xcell 3 rfl 1 rfl
        have y2 := st.xcell 2 rfl 0 rfl
        have y3 := st.xcell 2 rfl 1 rfl
        have y4 := st.xcell 1 rfl 0 rfl
        have y5 := st.xcell 1 rfl 1 rfl
        clear ob
        refine wp_region_ext (by rfl) (by kernel_rfl) ?_
        repeat (quiet_step ((first | (go_at_call 27; first | with_reducible exact Ext.calls (unhide xs0 _) | with_reducible exact Ext.calls (unhide xs1 _) | with_reducible exact Ext.calls (unhide xs2 _) | with_reducible exact Ext.calls (unhide xs3 _) | with_reducible exact Ext.calls (unhide xs4 _) | with_reducible exact Ext.calls (unhide xs5 _) | with_reducible exact Ext.calls (unhide xs6 _) | with_reducible exact Ext.calls (unhide xs7 _)) | (go_at_call 28; first | with_reducible exact Ext.calls (unhide xm0 _) | with_reducible exact Ext.calls (unhide xm1 _) | with_reducible exact Ext.calls (unhide xm2 _) | with_reducible exact Ext.calls (unhide xm3 _) | with_reducible exact Ext.calls (unhide xm4 _) | with_reducible exact Ext.calls (unhide xm5 _) | with_reducible exact Ext.calls (unhide xm6 _)) | (go_at_call 18; first | with_reducible exact Ext.calls (unhide k1 _) | with_reducible exact Ext.calls (unhide k2 _) | with_reducible exact Ext.calls (unhide k3 _)) | (go_at_call 19; with_reducible exact Ext.calls (of_any _ _ _)))))
        refine wpQuiet_nil ?_
        rintro w' ⟨x, rfl⟩
        replace st := st.ext x
        clear xs0 xs1 xs2 xs3 xs4 xs5 xs6 xs7 xm0 xm1 xm2 xm3 xm4 xm5 xm6 y0 y1 y2 y3 y4 y5
        obtain ⟨v2, hv⟩ : ∃ v, x.get = v := ⟨_, rfl⟩
        rw [hv] at st ⊢
        clear hv x
        go_upto_region 11 with fail
        have ob := st.get 0 rfl
        have xs0 := hide (fun x : Ext v2 => unhide cs0 bo x.get (kept x.le (Array.getElem?_eq_some_iff.1 ob).1 ob))
        have xs1 := hide (fun x : Ext v2 => unhide cs1 bo x.get (kept x.le (Array.getElem?_eq_some_iff.1 ob).1 ob))
        have xs2 := hide (fun x : Ext v2 => unhide cs2 bo x.get (kept x.le (Array.getElem?_eq_some_iff.1 ob).1 ob))
        have xs3 := hide (fun x : Ext v2 => unhide cs3 bo x.get (kept x.le (Array.getElem?_eq_some_iff.1 ob).1 ob))
        have xs4 := hide (fun x : Ext v2 => unhide cs4 bo x.get (kept x.le (Array.getElem?_eq_some_iff.1 ob).1 ob))
        have xs5 := hide (fun x : Ext v2 => unhide cs5 bo x.get (kept x.le (Array.getElem?_eq_some_iff.1 ob).1 ob))
        have xs6 := hide (fun x : Ext v2 => unhide cs6 bo x.get (kept x.le (Array.getElem?_eq_some_iff.1 ob).1 ob))
        have xs7 := hide (fun x : Ext v2 => unhide cs7 bo x.get (kept x.le (Array.getElem?_eq_some_iff.1 ob).1 ob))
        have xm0 := hide (fun x : Ext v2 => unhide cm0 bo x.get (kept x.le (Array.getElem?_eq_some_iff.1 ob).1 ob))
        have xm1 := hide (fun x : Ext v2 => unhide cm1 bo x.get (kept x.le (Array.getElem?_eq_some_iff.1 ob).1 ob))
        have xm2 := hide (fun x : Ext v2 => unhide cm2 bo x.get (kept x.le (Array.getElem?_eq_some_iff.1 ob).1 ob))
        have xm3 := hide (fun x : Ext v2 => unhide cm3 bo x.get (kept x.le (Array.getElem?_eq_some_iff.1 ob).1 ob))
        have xm4 := hide (fun x : Ext v2 => unhide cm4 bo x.get (kept x.le (Array.getElem?_eq_some_iff.1 ob).1 ob))
        have xm5 := hide (fun x : Ext v2 => unhide cm5 bo x.get (kept x.le (Array.getElem?_eq_some_iff.1 ob).1 ob))
        have xm6 := hide (fun x : Ext v2 => unhide cm6 bo x.get (kept x.le (Array.getElem?_eq_some_iff.1 ob).1 ob))
        have y0 := st.xcell 3 rfl 0 rfl
        have y1 := st.xcell 3 rfl 1 rfl
        have y2 := st.xcell 2 rfl 0 rfl
        have y3 := st.xcell 2 rfl 1 rfl
        have y4 := st.xcell 1 rfl 0 rfl
        have y5 := st.xcell 1 rfl 1 rfl
        clear ob
        refine wp_region_ext (by rfl) (by kernel_rfl) ?_
        repeat (quiet_step ((first | (go_at_call 27; first | with_reducible exact Ext.calls (unhide xs0 _) | with_reducible exact Ext.calls (unhide xs1 _) | with_reducible exact Ext.calls (unhide xs2 _) | with_reducible exact Ext.calls (unhide xs3 _) | with_reducible exact Ext.calls (unhide xs4 _) | with_reducible exact Ext.calls (unhide xs5 _) | with_reducible exact Ext.calls (unhide xs6 _) | with_reducible exact Ext.calls (unhide xs7 _)) | (go_at_call 28; first | with_reducible exact Ext.calls (unhide xm0 _) | with_reducible exact Ext.calls (unhide xm1 _) | with_reducible exact Ext.calls (unhide xm2 _) | with_reducible exact Ext.calls (unhide xm3 _) | with_reducible exact Ext.calls (unhide xm4 _) | with_reducible exact Ext.calls (unhide xm5 _) | with_reducible exact Ext.calls (unhide xm6 _)) | (go_at_call 18; first | with_reducible exact Ext.calls (unhide k1 _) | with_reducible exact Ext.calls (unhide k2 _) | with_reducible exact Ext.calls (unhide k3 _)) | (go_at_call 19; with_reducible exact Ext.calls (of_any _ _ _)))))
        refine wpQuiet_nil ?_
        rintro w' ⟨x, rfl⟩
        replace st := st.ext x
        clear xs0 xs1 xs2 xs3 xs4 xs5 xs6 xs7 xm0 xm1 xm2 xm3 xm4 xm5 xm6 y0 y1 y2 y3 y4 y5
        obtain ⟨v3, hv⟩ : ∃ v, x.get = v := ⟨_, rfl⟩
        rw [hv] at st ⊢
        clear hv x
        have y0 := st.cell 3 rfl 0 rfl
        have y1 := st.cell 3 rfl 1 rfl
        go_wp2_with fail
        refine (unhide kl _).mono ?_
        rintro e u1 ⟨rfl, hu⟩
        replace st := st.call hu
        clear hu y0 y1 kl
        go_upto_region 14 with fail
        obtain ⟨bk, v4, eb, ew, st⟩ := st.new (Obj.cells #[.int .i64 gn9, .int .i64 gd9] 33)
        rw [ew, eb]
        clear ew eb
        have y9 := st.xcell 1 rfl 0 rfl
        have ewN : IntKind.i64.wrap (-a1) = -a1 := IntWalk.i64_in _ (by omega)
        have ob := st.get 1 rfl
        have xs0 := hide (fun x : Ext v4 => unhide cs0 bo x.get (kept x.le (Array.getElem?_eq_some_iff.1 ob).1 ob))
        have xs1 := hide (fun x : Ext v4 => unhide cs1 bo x.get (kept x.le (Array.getElem?_eq_some_iff.1 ob).1 ob))
        have xs2 := hide (fun x : Ext v4 => unhide cs2 bo x.get (kept x.le (Array.getElem?_eq_some_iff.1 ob).1 ob))
        have xs3 := hide (fun x : Ext v4 => unhide cs3 bo x.get (kept x.le (Array.getElem?_eq_some_iff.1 ob).1 ob))
        have xs4 := hide (fun x : Ext v4 => unhide cs4 bo x.get (kept x.le (Array.getElem?_eq_some_iff.1 ob).1 ob))
        have xs5 := hide (fun x : Ext v4 => unhide cs5 bo x.get (kept x.le (Array.getElem?_eq_some_iff.1 ob).1 ob))
        have xs6 := hide (fun x : Ext v4 => unhide cs6 bo x.get (kept x.le (Array.getElem?_eq_some_iff.1 ob).1 ob))
        have xs7 := hide (fun x : Ext v4 => unhide cs7 bo x.get (kept x.le (Array.getElem?_eq_some_iff.1 ob).1 ob))
        have xm0 := hide (fun x : Ext v4 => unhide cm0 bo x.get (kept x.le (Array.getElem?_eq_some_iff.1 ob).1 ob))
        have xm1 := hide (fun x : Ext v4 => unhide cm1 bo x.get (kept x.le (Array.getElem?_eq_some_iff.1 ob).1 ob))
        have xm2 := hide (fun x : Ext v4 => unhide cm2 bo x.get (kept x.le (Array.getElem?_eq_some_iff.1 ob).1 ob))
        have xm3 := hide (fun x : Ext v4 => unhide cm3 bo x.get (kept x.le (Array.getElem?_eq_some_iff.1 ob).1 ob))
        have xm4 := hide (fun x : Ext v4 => unhide cm4 bo x.get (kept x.le (Array.getElem?_eq_some_iff.1 ob).1 ob))
        have xm5 := hide (fun x : Ext v4 => unhide cm5 bo x.get (kept x.le (Array.getElem?_eq_some_iff.1 ob).1 ob))
        have xm6 := hide (fun x : Ext v4 => unhide cm6 bo x.get (kept x.le (Array.getElem?_eq_some_iff.1 ob).1 ob))
        have y0 := st.xcell 4 rfl 0 rfl
        have y1 := st.xcell 4 rfl 1 rfl
        have y2 := st.xcell 3 rfl 0 rfl
        have y3 := st.xcell 3 rfl 1 rfl
        have y4 := st.xcell 2 rfl 0 rfl
        have y5 := st.xcell 2 rfl 1 rfl
        have y6 := st.xcell 0 rfl 0 rfl
        have y7 := st.xcell 0 rfl 1 rfl
        clear ob
        refine wp_region_ext (by rfl) (by kernel_rfl) ?_
        repeat (quiet_step ((first | (go_at_call 27; first | with_reducible exact Ext.calls (unhide xs0 _) | with_reducible exact Ext.calls (unhide xs1 _) | with_reducible exact Ext.calls (unhide xs2 _) | with_reducible exact Ext.calls (unhide xs3 _) | with_reducible exact Ext.calls (unhide xs4 _) | with_reducible exact Ext.calls (unhide xs5 _) | with_reducible exact Ext.calls (unhide xs6 _) | with_reducible exact Ext.calls (unhide xs7 _)) | (go_at_call 28; first | with_reducible exact Ext.calls (unhide xm0 _) | with_reducible exact Ext.calls (unhide xm1 _) | with_reducible exact Ext.calls (unhide xm2 _) | with_reducible exact Ext.calls (unhide xm3 _) | with_reducible exact Ext.calls (unhide xm4 _) | with_reducible exact Ext.calls (unhide xm5 _) | with_reducible exact Ext.calls (unhide xm6 _)) | (go_at_call 18; first | with_reducible exact Ext.calls (unhide k1 _) | with_reducible exact Ext.calls (unhide k2 _) | with_reducible exact Ext.calls (unhide k3 _)) | (go_at_call 19; with_reducible exact Ext.calls (of_any _ _ _)))))
        refine wpQuiet_nil ?_
        rintro w' ⟨x, rfl⟩
        replace st := st.ext x
        clear xs0 xs1 xs2 xs3 xs4 xs5 xs6 xs7 xm0 xm1 xm2 xm3 xm4 xm5 xm6 y0 y1 y2 y3 y4 y5 y6 y7
        have hbel := st.below
        go_wp2
        go_ret
        rw [← hW0.out] at hbel
        exact ⟨rfl, hbel⟩
end Go.Proofs.Ytfegkaflemcanaa
