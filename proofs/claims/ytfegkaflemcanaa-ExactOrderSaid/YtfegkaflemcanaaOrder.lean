/- The law ExactOrder: comparing ratios is a total order. It holds for every input. -/
import Derived.Test.YtfegkaflemcanaaEx12
import Derived.Test.YtfegkaflemcanaaWrap
import Derived.Test.YtfegkaflemcanaaOrdP
namespace Go.Proofs.Ytfegkaflemcanaa
open Go.ChangeShapes Go.WideShapes Go.ChangeAt Go.RowKit

theorem set_blk {w : World} {b T : Nat} {cs : Array Value} (i : Nat) (v : Value) (h : w.heap[b]? = some (.cells cs T (0, 0))) : (w.setCell ⟨b, i, none⟩ v).heap[b]? = some (.cells (cs.setIfInBounds i v) T (0, 0)) := by
  simp [World.setCell, Array.getElem?_modify, h]
theorem cells6 {w : World} {b T : Nat} {x0 x1 x2 x3 x4 x5 : Value} (h : w.heap[b]? = some (.cells #[x0, x1, x2, x3, x4, x5] T (0, 0))) :
    w.cell? ⟨b, 0, none⟩ = some x0 ∧ w.cell? ⟨b, 1, none⟩ = some x1 ∧ w.cell? ⟨b, 2, none⟩ = some x2 ∧ w.cell? ⟨b, 3, none⟩ = some x3 ∧ w.cell? ⟨b, 4, none⟩ = some x4 ∧ w.cell? ⟨b, 5, none⟩ = some x5 ∧
    (∀ i, w.frozen? ⟨b, i, none⟩ = false) := by
  refine ⟨?_, ?_, ?_, ?_, ?_, ?_, fun i => ?_⟩ <;> simp [World.cell?, World.frozen?, h]

/-- the array while its denominators are replaced -/
def K6 (n0 d0 n1 d1 n2 d2 e0 e1 e2 j : Int) : Array Value :=
  #[.int .i64 n0, .int .i64 (if 1 ≤ j then e0 else d0), .int .i64 n1, .int .i64 (if 2 ≤ j then e1 else d1), .int .i64 n2, .int .i64 (if 3 ≤ j then e2 else d2)]
theorem K6_0 (n0 d0 n1 d1 n2 d2 e0 e1 e2 : Int) : K6 n0 d0 n1 d1 n2 d2 e0 e1 e2 0 = #[.int .i64 n0, .int .i64 d0, .int .i64 n1, .int .i64 d1, .int .i64 n2, .int .i64 d2] := rfl
theorem K6_1 (n0 d0 n1 d1 n2 d2 e0 e1 e2 : Int) : K6 n0 d0 n1 d1 n2 d2 e0 e1 e2 1 = #[.int .i64 n0, .int .i64 e0, .int .i64 n1, .int .i64 d1, .int .i64 n2, .int .i64 d2] := rfl
theorem K6_2 (n0 d0 n1 d1 n2 d2 e0 e1 e2 : Int) : K6 n0 d0 n1 d1 n2 d2 e0 e1 e2 2 = #[.int .i64 n0, .int .i64 e0, .int .i64 n1, .int .i64 e1, .int .i64 n2, .int .i64 d2] := rfl
theorem K6_3 (n0 d0 n1 d1 n2 d2 e0 e1 e2 : Int) : K6 n0 d0 n1 d1 n2 d2 e0 e1 e2 3 = #[.int .i64 n0, .int .i64 e0, .int .i64 n1, .int .i64 e1, .int .i64 n2, .int .i64 e2] := rfl

set_option maxRecDepth 100000 in
set_option maxHeartbeats 2000000 in
theorem order_any (n0 d0 n1 d1 n2 d2 n m : Int) (w : World) (i0 : I64 n0) (_ : I64 d0) (i1 : I64 n1) (_ : I64 d1) (i2 : I64 n2) (_ : I64 d2) (hn : I64 n) (hm : I64 m) :
    Calls Try.prog 5 #[.agg #[.int .i64 n0, .int .i64 d0, .int .i64 n1, .int .i64 d1, .int .i64 n2, .int .i64 d2], .int .i64 n, .int .i64 m] w fun e w' => e = .returned (.bool true) ∧ Below w.heap.size w w' := by
  obtain ⟨e0, he0⟩ : ∃ e, d0 % 4611686018427387904 + 1 = e := ⟨_, rfl⟩
  obtain ⟨e1, he1⟩ : ∃ e, d1 % 4611686018427387904 + 1 = e := ⟨_, rfl⟩
  obtain ⟨e2, he2⟩ : ∃ e, d2 % 4611686018427387904 + 1 = e := ⟨_, rfl⟩
  have b0 : 1 ≤ e0 ∧ e0 ≤ 4611686018427387904 := by omega
  have b1 : 1 ≤ e1 ∧ e1 ≤ 4611686018427387904 := by omega
  have b2 : 1 ≤ e2 ∧ e2 ≤ 4611686018427387904 := by omega
  have j0 : I64 e0 := ⟨by omega, by omega⟩
  have j1 : I64 e1 := ⟨by omega, by omega⟩
  have j2 : I64 e2 := ⟨by omega, by omega⟩
  have jm : I64 (-e0) := ⟨by omega, by omega⟩
  have m0 := fun w => mod_any d0 4611686018427387904 w (by omega) (by omega)
  have m1 := fun w => mod_any d1 4611686018427387904 w (by omega) (by omega)
  have m2 := fun w => mod_any d2 4611686018427387904 w (by omega) (by omega)
  have r0 : 0 ≤ d0 % 4611686018427387904 ∧ d0 % 4611686018427387904 < 4611686018427387904 := by omega
  have r1 : 0 ≤ d1 % 4611686018427387904 ∧ d1 % 4611686018427387904 < 4611686018427387904 := by omega
  have r2 : 0 ≤ d2 % 4611686018427387904 ∧ d2 % 4611686018427387904 < 4611686018427387904 := by omega
  generalize d0 % 4611686018427387904 = D0 at *
  generalize d1 % 4611686018427387904 = D1 at *
  generalize d2 % 4611686018427387904 = D2 at *
  obtain ⟨oa, ob, oc, od, oe⟩ := Ex.order_laws (xn := n0) (xd := e0) (yn := n1) (yd := e1) (zn := n2) (zd := e2) b0.1 b1.1 b2.1
  have c01 := fun w => ecmp_any n0 e0 n1 e1 w i0 j0 i1 j1
  have c12 := fun w => ecmp_any n1 e1 n2 e2 w i1 j1 i2 j2
  have c02 := fun w => ecmp_any n0 e0 n2 e2 w i0 j0 i2 j2
  have c10 := fun w => ecmp_any n1 e1 n0 e0 w i1 j1 i0 j0
  have c00 := fun w => ecmp_any n0 e0 n0 e0 w i0 j0 i0 j0
  rw [oa] at c10
  rw [oe] at c00
  have ba : -1 ≤ Ex.cmpS n0 e0 n1 e1 ∧ Ex.cmpS n0 e0 n1 e1 ≤ 1 := by rw [Ex.cmp_good b0.1 b1.1]; exact Ex.ord_bd _ _
  generalize Ex.cmpS n0 e0 n1 e1 = a at *
  generalize Ex.cmpS n1 e1 n2 e2 = b at *
  generalize Ex.cmpS n0 e0 n2 e2 = c at *
  have cnm := fun w => ecmp_any n 1 m 1 w hn ⟨by omega, by omega⟩ hm ⟨by omega, by omega⟩
  have en : Ex.cmpS n 1 m 1 = Ex.ordI n m := by rw [Ex.cmp_good (by omega) (by omega), Int.mul_one, Int.mul_one]
  rw [en] at cnm
  have cbad1 := fun w => ecmp_any n (-e0) n0 e0 w hn jm i0 j0
  have ebad1 : Ex.cmpS n (-e0) n0 e0 = 0 := by unfold Ex.cmpS; rw [if_pos (by omega)]
  rw [ebad1] at cbad1
  have cbad2 := fun w => ecmp_any n0 e0 m 0 w i0 j0 hm ⟨by omega, by omega⟩
  have ebad2 : Ex.cmpS n0 e0 m 0 = 0 := by unfold Ex.cmpS; rw [if_pos (by omega)]
  rw [ebad2] at cbad2
  clear oa oe en ebad1 ebad2
  replace m0 := hide m0; replace m1 := hide m1; replace m2 := hide m2
  replace he0 := hide he0; replace he1 := hide he1; replace he2 := hide he2
  replace c01 := hide c01; replace c12 := hide c12; replace c02 := hide c02; replace c10 := hide c10; replace c00 := hide c00; replace cnm := hide cnm; replace cbad1 := hide cbad1; replace cbad2 := hide cbad2
  replace ob := hide ob; replace oc := hide oc; replace od := hide od
  have k0 := new1 w (Obj.cells #[.int .i64 n0, .int .i64 d0, .int .i64 n1, .int .i64 d1, .int .i64 n2, .int .i64 d2] 34)
  have hbel : Below w.heap.size w (w.alloc (Obj.cells #[.int .i64 n0, .int .i64 d0, .int .i64 n1, .int .i64 d1, .int .i64 n2, .int .i64 d2] 34)) := (Below.refl _ _).alloc (Nat.le_refl _) _
  obtain ⟨W0, hW0⟩ : ∃ W0, W0 = w.heap.size := ⟨_, rfl⟩
  replace k0 := hide k0
  go_enter Try.func5, Try.ntmps5
  go_wp2_with fail
  refine (sanity_any _).mono ?_
  rintro e w1 ⟨rfl, hb1⟩
  replace k0 := kept hb1 (by simp) (unhide k0)
  replace hbel := hbel.trans (hb1.mono hbel.size)
  clear hb1
  rw [← hW0] at k0 hbel ⊢
  have hle : W0 ≤ w.heap.size := by omega
  replace hW0 := hide hW0
  go_wp2_with fail
  go_loopw [14] (fun v wr => ∃ j : Int, 0 ≤ j ∧ j ≤ 3 ∧ v = .int .i64 j ∧ wr.heap[W0]? = some (.cells (K6 n0 d0 n1 d1 n2 d2 e0 e1 e2 j) 34 (0, 0)) ∧ Below W0 w wr) (fun v _ => (3 - intOf v).toNat)
  case atStart => exact ⟨0, by omega, by omega, rfl, k0, hbel⟩
  case round =>
    obtain ⟨j, hj0, hj3, rfl, kb, hb⟩ := hrel
    clear k0 hbel
    obtain rfl | rfl | rfl | rfl : j = 0 ∨ j = 1 ∨ j = 2 ∨ j = 3 := by omega
    · rw [K6_0] at kb
      obtain ⟨x0, x1, x2, x3, x4, x5, xf⟩ := cells6 kb
      have xf1 := xf 1
      replace xf := hide xf
      go_wp2_with fail
      refine (unhide m0 _).mono ?_
      rintro e wz ⟨rfl, rfl⟩
      go_wp2_with fail
      go_roundw
      case rel => exact ⟨1, by omega, by omega, rfl, by rw [K6_1]; have := set_blk 1 (.int .i64 e0) kb; simpa [he0.out] using this, hb.setCell (Nat.le_refl _) _⟩
      case measure => simp [intOf]
    · rw [K6_1] at kb
      obtain ⟨x0, x1, x2, x3, x4, x5, xf⟩ := cells6 kb
      have xf1 := xf 3
      replace xf := hide xf
      go_wp2_with fail
      refine (unhide m1 _).mono ?_
      rintro e wz ⟨rfl, rfl⟩
      go_wp2_with fail
      go_roundw
      case rel => exact ⟨2, by omega, by omega, rfl, by rw [K6_2]; have := set_blk 3 (.int .i64 e1) kb; simpa [he1.out] using this, hb.setCell (Nat.le_refl _) _⟩
      case measure => simp [intOf]
    · rw [K6_2] at kb
      obtain ⟨x0, x1, x2, x3, x4, x5, xf⟩ := cells6 kb
      have xf1 := xf 5
      replace xf := hide xf
      go_wp2_with fail
      refine (unhide m2 _).mono ?_
      rintro e wz ⟨rfl, rfl⟩
      go_wp2_with fail
      go_roundw
      case rel => exact ⟨3, by omega, by omega, rfl, by rw [K6_3]; have := set_blk 5 (.int .i64 e2) kb; simpa [he2.out] using this, hb.setCell (Nat.le_refl _) _⟩
      case measure => simp [intOf]
    · rw [K6_3] at kb
      clear m0 m1 m2 he0 he1 he2 r0 r1 r2
      obtain ⟨x0, x1, x2, x3, x4, x5, xf⟩ := cells6 kb
      clear xf
      have y0 : ∀ x : Ext wr, x.get.cell? ⟨W0, 0, none⟩ = some (.int .i64 n0) := fun x => x.cell x0
      have y1 : ∀ x : Ext wr, x.get.cell? ⟨W0, 1, none⟩ = some (.int .i64 e0) := fun x => x.cell x1
      have y2 : ∀ x : Ext wr, x.get.cell? ⟨W0, 2, none⟩ = some (.int .i64 n1) := fun x => x.cell x2
      have y3 : ∀ x : Ext wr, x.get.cell? ⟨W0, 3, none⟩ = some (.int .i64 e1) := fun x => x.cell x3
      have y4 : ∀ x : Ext wr, x.get.cell? ⟨W0, 4, none⟩ = some (.int .i64 n2) := fun x => x.cell x4
      have y5 : ∀ x : Ext wr, x.get.cell? ⟨W0, 5, none⟩ = some (.int .i64 e2) := fun x => x.cell x5
      clear x0 x1 x2 x3 x4 x5
      go_upto_region 7 with fail
      refine wp_region_ext (by rfl) (by kernel_rfl) ?_
      repeat (quiet_step ((go_at_call 18; first | with_reducible exact Ext.calls (unhide c01 _) | with_reducible exact Ext.calls (unhide c12 _) | with_reducible exact Ext.calls (unhide c02 _))))
      refine wpQuiet_nil ?_
      rintro w' ⟨x, rfl⟩
      replace kb := kept x.le (Array.getElem?_eq_some_iff.1 kb).1 kb
      replace hb := hb.trans (x.le.mono (Nat.le_trans hle hb.size))
      clear y0 y1 y2 y3 y4 y5 c01 c12 c02
      obtain ⟨w2, hw2⟩ : ∃ w2, w2 = x.get := ⟨_, rfl⟩
      rw [← hw2] at kb hb ⊢
      clear hw2 x
      go_upto_region 8 with fail
      go_cut [90] (fun v w3 => v = .bool false ∧ w3.heap[W0]? = some (.cells #[.int .i64 n0, .int .i64 e0, .int .i64 n1, .int .i64 e1, .int .i64 n2, .int .i64 e2] 34 (0, 0)) ∧ Below W0 w w3)
      case first =>
        obtain ⟨x0, x1, x2, x3, x4, x5, xf⟩ := cells6 kb
        clear xf
        have hc : (a = 0 ∧ b = c) ∨ (0 < a ∧ 0 < b ∧ 0 < c) ∨ (0 < a ∧ b ≤ 0) ∨ (a < 0 ∧ b < 0 ∧ c < 0) ∨ (a < 0 ∧ 0 ≤ b) := by
          have h1 := unhide ob
          have h2 := unhide oc
          have h3 := unhide od
          rcases Int.lt_trichotomy a 0 with h | h | h
          · by_cases hb0 : b < 0
            · exact Or.inr (Or.inr (Or.inr (Or.inl ⟨h, hb0, h3 h hb0⟩)))
            · exact Or.inr (Or.inr (Or.inr (Or.inr ⟨h, by omega⟩)))
          · exact Or.inl ⟨h, h1 h⟩
          · by_cases hb0 : 0 < b
            · exact Or.inr (Or.inl ⟨h, hb0, h2 h hb0⟩)
            · exact Or.inr (Or.inr (Or.inl ⟨h, by omega⟩))
        clear ob oc od
        go_wp2_with fail
        refine (unhide c10 _).mono ?_
        rintro e w3 ⟨rfl, hb3⟩
        have kb3 := kept hb3 (Array.getElem?_eq_some_iff.1 kb).1 kb
        have hb4 := hb.trans (hb3.mono (Nat.le_trans hle hb.size))
        obtain ⟨z0, z1, z2, z3, z4, z5, zf⟩ := cells6 kb3
        clear zf x0 x1 x2 x3 x4 x5 hb3
        replace kb3 := hide kb3
        have fin : ∀ w4, Below w3.heap.size w3 w4 → w4.heap[W0]? = some (.cells #[.int .i64 n0, .int .i64 e0, .int .i64 n1, .int .i64 e1, .int .i64 n2, .int .i64 e2] 34 (0, 0)) ∧ Below W0 w w4 :=
          fun w4 h => ⟨kept h (Array.getElem?_eq_some_iff.1 (unhide kb3)).1 (unhide kb3), hb4.trans (h.mono (Nat.le_trans hle hb4.size))⟩
        replace fin := hide fin
        clear kb hb hb4 kb3
        rcases hc with ⟨rfl, rfl⟩ | ⟨ha, hb0, hc⟩ | ⟨ha, hb0⟩ | ⟨ha, hb0, hc⟩ | ⟨ha, hb0⟩
        · go_wp2_with fail
          refine (unhide c00 _).mono ?_
          rintro e w4 ⟨rfl, hb4⟩
          go_wp2_with fail
          go_meet
          exact ⟨rfl, unhide fin w4 hb4⟩
        · have t1 : (a == 0) = false := by simp; omega
          have t2 : decide (0 < a) = true := by simp; omega
          have t3 : decide (0 < b) = true := by simp; omega
          have t4 : decide (c ≤ 0) = false := by simp; omega
          have t5 : decide (a < 0) = false := by simp; omega
          go_wp2_with fail
          refine (unhide c00 _).mono ?_
          rintro e w4 ⟨rfl, hb4⟩
          go_wp2_with fail
          go_meet
          exact ⟨rfl, unhide fin w4 hb4⟩
        · have t1 : (a == 0) = false := by simp; omega
          have t2 : decide (0 < a) = true := by simp; omega
          have t3 : decide (0 < b) = false := by simp; omega
          have t5 : decide (a < 0) = false := by simp; omega
          go_wp2_with fail
          refine (unhide c00 _).mono ?_
          rintro e w4 ⟨rfl, hb4⟩
          go_wp2_with fail
          go_meet
          exact ⟨rfl, unhide fin w4 hb4⟩
        · have t1 : (a == 0) = false := by simp; omega
          have t2 : decide (0 < a) = false := by simp; omega
          have t3 : decide (b < 0) = true := by simp; omega
          have t4 : decide (0 ≤ c) = false := by simp; omega
          have t5 : decide (a < 0) = true := by simp; omega
          go_wp2_with fail
          refine (unhide c00 _).mono ?_
          rintro e w4 ⟨rfl, hb4⟩
          go_wp2_with fail
          go_meet
          exact ⟨rfl, unhide fin w4 hb4⟩
        · have t1 : (a == 0) = false := by simp; omega
          have t2 : decide (0 < a) = false := by simp; omega
          have t3 : decide (b < 0) = false := by simp; omega
          have t5 : decide (a < 0) = true := by simp; omega
          go_wp2_with fail
          refine (unhide c00 _).mono ?_
          rintro e w4 ⟨rfl, hb4⟩
          go_wp2_with fail
          go_meet
          exact ⟨rfl, unhide fin w4 hb4⟩
      case rest =>
        obtain ⟨rfl, kb, hb⟩ := hcut
        clear ob oc od c10 c00
        have hw : (n < m ∧ Ex.ordI n m = -1) ∨ (m < n ∧ Ex.ordI n m = 1) ∨ (n = m ∧ Ex.ordI n m = 0) := by unfold Ex.ordI; split; omega; split <;> omega
        obtain ⟨x0, x1, x2, x3, x4, x5, xf⟩ := cells6 kb
        clear xf
        have y0 : ∀ x : Ext wc, x.get.cell? ⟨W0, 0, none⟩ = some (.int .i64 n0) := fun x => x.cell x0
        have y1 : ∀ x : Ext wc, x.get.cell? ⟨W0, 1, none⟩ = some (.int .i64 e0) := fun x => x.cell x1
        clear x0 x1 x2 x3 x4 x5
        have ew : IntKind.i64.wrap (-e0) = -e0 := IntWalk.i64_in _ (by omega)
        have ew2 : wrap64 (-e0) = -e0 := IntWalk.wrap64_in _ (by omega)
        obtain ⟨O, hO⟩ : ∃ O, O = Ex.ordI n m := ⟨_, rfl⟩
        rw [← hO] at hw cnm
        clear hO
        have ofx : ∀ (a b : Int) (w : World), Calls Try.prog 19 #[.int .i64 a, .int .i64 b] w fun e w' => e = .returned (.agg #[.int .i64 a, .int .i64 b]) ∧ Below w.heap.size w w' := of_any
        rcases hw with ⟨h1, rfl⟩ | ⟨h1, rfl⟩ | ⟨h1, rfl⟩
        · have t1 : decide (n < m) = true := by simp; omega
          go_upto_region 15 with fail
          refine wp_region_ext (by rfl) (by kernel_rfl) ?_
          repeat (quiet_step ((first | (go_at_call 19; exact Ext.calls (ofx _ _ _)) | (go_at_call 18; first | with_reducible exact Ext.calls (unhide cnm _) | with_reducible exact Ext.calls (unhide cbad1 _) | with_reducible exact Ext.calls (unhide cbad2 _)))))
          refine wpQuiet_nil ?_
          rintro w' ⟨x, rfl⟩
          have hbel := hb.trans (x.le.mono (Nat.le_trans hle hb.size))
          clear y0 y1
          go_wp2
          go_ret
          rw [hW0.out] at hbel
          exact ⟨rfl, hbel⟩
        · have t1 : decide (n < m) = false := by simp; omega
          have t2 : decide (m < n) = true := by simp; omega
          go_upto_region 15 with fail
          refine wp_region_ext (by rfl) (by kernel_rfl) ?_
          repeat (quiet_step ((first | (go_at_call 19; exact Ext.calls (ofx _ _ _)) | (go_at_call 18; first | with_reducible exact Ext.calls (unhide cnm _) | with_reducible exact Ext.calls (unhide cbad1 _) | with_reducible exact Ext.calls (unhide cbad2 _)))))
          refine wpQuiet_nil ?_
          rintro w' ⟨x, rfl⟩
          have hbel := hb.trans (x.le.mono (Nat.le_trans hle hb.size))
          clear y0 y1
          go_wp2
          go_ret
          rw [hW0.out] at hbel
          exact ⟨rfl, hbel⟩
        · have t1 : decide (n < m) = false := by simp; omega
          have t2 : decide (m < n) = false := by simp; omega
          clear h1
          go_upto_region 15 with fail
          refine wp_region_ext (by rfl) (by kernel_rfl) ?_
          repeat (quiet_step ((first | (go_at_call 19; exact Ext.calls (ofx _ _ _)) | (go_at_call 18; first | with_reducible exact Ext.calls (unhide cnm _) | with_reducible exact Ext.calls (unhide cbad1 _) | with_reducible exact Ext.calls (unhide cbad2 _)))))
          refine wpQuiet_nil ?_
          rintro w' ⟨x, rfl⟩
          have hbel := hb.trans (x.le.mono (Nat.le_trans hle hb.size))
          clear y0 y1
          go_wp2
          go_ret
          rw [hW0.out] at hbel
          exact ⟨rfl, hbel⟩
end Go.Proofs.Ytfegkaflemcanaa
