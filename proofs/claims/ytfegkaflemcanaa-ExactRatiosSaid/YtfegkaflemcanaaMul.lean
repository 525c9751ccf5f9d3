/- The product of two ratios, the reference's: valid ratios. -/
import Derived.Test.YtfegkaflemcanaaEx9
import Derived.Test.YtfegkaflemcanaaFrontG
import Derived.Test.YtfegkaflemcanaaLst
namespace Go.Proofs.Ytfegkaflemcanaa
open Go.RowKit
set_option maxHeartbeats 4000000 in
set_option maxRecDepth 100000 in
theorem rmul_ok (xn xd yn yd : Int) (w : World) (h1 : I64 xn) (h2 : I64 xd) (h3 : I64 yn) (h4 : I64 yd) (hx1 : 1 ≤ xd) (hy1 : 1 ≤ yd) :
    Calls Try.prog 23 #[.agg #[.int .i64 xn, .int .i64 xd], .agg #[.int .i64 yn, .int .i64 yd]] w fun e w' => e = .returned (.tuple #[.agg #[.int .i64 (Ex.numR (Ex.mulS xn xd yn yd)), .int .i64 (Ex.denR (Ex.mulS xn xd yn yd))], .bool (Ex.okR (Ex.mulS xn xd yn yd))]) ∧ Below w.heap.size w w' := by
  have hms : Ex.mulS xn xd yn yd = Ex.fitR (Ex.rat xn xd * Ex.rat yn yd) := by unfold Ex.mulS; rw [if_neg (by omega)]
  rw [hms]
  have l1 := fun w => rlow_any xn xd w h1 h2 hx1
  have l2 := fun w => rlow_any yn yd w h3 h4 hy1
  have FA := low_facts xn xd h1 h2 hx1
  have FB := low_facts yn yd h3 h4 hy1
  have ia := FA.inum
  have ib := FB.inum
  have da : (Ex.rat xn xd).den < 9223372036854775808 := by have := FA.iden; unfold I64 at h2; omega
  have db : (Ex.rat yn yd).den < 9223372036854775808 := by have := FB.iden; unfold I64 at h4; omega
  clear hms FA FB
  generalize hA : Ex.rat xn xd = A at *
  generalize hB : Ex.rat yn yd = B at *
  obtain ⟨sa, hsa⟩ : ∃ s, decide (A.num < 0) = s := ⟨_, rfl⟩
  obtain ⟨sb, hsb⟩ : ∃ s, decide (B.num < 0) = s := ⟨_, rfl⟩
  obtain ⟨m1, m2⟩ := Ex.mul_form A B (sa != sb) (fun h => by rw [← hsa, ← hsb] at h; by_cases x : A.num < 0 <;> by_cases y : B.num < 0 <;> simp [x, y] at h <;> omega) (fun h => by rw [← hsa, ← hsb] at h; by_cases x : A.num < 0 <;> by_cases y : B.num < 0 <;> simp [x, y] at h <;> omega)
  have hr := Ex.ratS_fit (sa != sb) _ _ (A * B) m1 m2
  rw [← hr]
  have pd := A.den_pos
  have pe := B.den_pos
  obtain ⟨an, han⟩ : ∃ a, a = A.num := ⟨_, rfl⟩
  obtain ⟨bn, hbn⟩ : ∃ a, a = B.num := ⟨_, rfl⟩
  obtain ⟨ad, had⟩ : ∃ a, a = A.den := ⟨_, rfl⟩
  obtain ⟨bd, hbd⟩ : ∃ a, a = B.den := ⟨_, rfl⟩
  rw [← han, ← had] at l1
  rw [← hbn, ← hbd] at l2
  rw [← han] at hsa
  rw [← hbn] at hsb
  rw [← han, ← hbn, ← had, ← hbd]
  rw [← han] at ia
  rw [← hbn] at ib
  rw [← had] at da pd
  rw [← hbd] at db pe
  clear hr m1 m2 han hbn had hbd hA hB
  have na : an.natAbs < 18446744073709551616 := by unfold I64 at ia; omega
  have nb : bn.natAbs < 18446744073709551616 := by unfold I64 at ib; omega
  have gp : 0 < Nat.gcd an.natAbs bd := Nat.gcd_pos_of_pos_right _ pe
  have hp : 0 < Nat.gcd bn.natAbs ad := Nat.gcd_pos_of_pos_right _ pd
  have sA := fun w => (size_any an w ia).mono fun e w' (h : e = .returned (.int .u64 an.natAbs) ∧ w' = w) => (⟨h.1, h.2 ▸ Below.refl _ _⟩ : e = .returned (.int .u64 an.natAbs) ∧ Below w.heap.size w w')
  have sB := fun w => (size_any bn w ib).mono fun e w' (h : e = .returned (.int .u64 bn.natAbs) ∧ w' = w) => (⟨h.1, h.2 ▸ Below.refl _ _⟩ : e = .returned (.int .u64 bn.natAbs) ∧ Below w.heap.size w w')
  have sAd := fun w => (rsz_nat ad w da).mono fun e w' (h : e = .returned (.int .u64 ad) ∧ w' = w) => (⟨h.1, h.2 ▸ Below.refl _ _⟩ : e = .returned (.int .u64 ad) ∧ Below w.heap.size w w')
  have sBd := fun w => (rsz_nat bd w db).mono fun e w' (h : e = .returned (.int .u64 bd) ∧ w' = w) => (⟨h.1, h.2 ▸ Below.refl _ _⟩ : e = .returned (.int .u64 bd) ∧ Below w.heap.size w w')
  have gc1 := fun w => (rgcd_any an.natAbs bd w).mono fun e w' (h : e = .returned (.int .u64 ((Nat.gcd an.natAbs bd : Nat) : Int)) ∧ ∃ n, w' = w.drewN n) => (⟨h.1, by obtain ⟨n, hn⟩ := h.2; rw [hn]; exact below_drewN _ _⟩ : e = .returned (.int .u64 ((Nat.gcd an.natAbs bd : Nat) : Int)) ∧ Below w.heap.size w w')
  have gc2 := fun w => (rgcd_any bn.natAbs ad w).mono fun e w' (h : e = .returned (.int .u64 ((Nat.gcd bn.natAbs ad : Nat) : Int)) ∧ ∃ n, w' = w.drewN n) => (⟨h.1, by obtain ⟨n, hn⟩ := h.2; rw [hn]; exact below_drewN _ _⟩ : e = .returned (.int .u64 ((Nat.gcd bn.natAbs ad : Nat) : Int)) ∧ Below w.heap.size w w')
  generalize Nat.gcd an.natAbs bd = g at *
  generalize Nat.gcd bn.natAbs ad = h at *
  have q1 := quo_u64 an.natAbs g na
  have q2 := quo_u64 bn.natAbs h nb
  have q3 := quo_u64 ad h (by omega)
  have q4 := quo_u64 bd g (by omega)
  have b1 : an.natAbs / g < 18446744073709551616 := Nat.lt_of_le_of_lt (Nat.div_le_self _ _) na
  have b2 : bn.natAbs / h < 18446744073709551616 := Nat.lt_of_le_of_lt (Nat.div_le_self _ _) nb
  have b3 : ad / h < 18446744073709551616 := Nat.lt_of_le_of_lt (Nat.div_le_self _ _) (by omega)
  have b4 : bd / g < 18446744073709551616 := Nat.lt_of_le_of_lt (Nat.div_le_self _ _) (by omega)
  obtain ⟨q1, q1d⟩ := q1
  obtain ⟨q2, q2d⟩ := q2
  obtain ⟨q3, q3d⟩ := q3
  obtain ⟨q4, q4d⟩ := q4
  generalize an.natAbs / g = p1 at *
  generalize bn.natAbs / h = p2 at *
  generalize ad / h = p3 at *
  generalize bd / g = p4 at *
  obtain ⟨nA, enA⟩ : ∃ x, an.natAbs = x := ⟨_, rfl⟩
  obtain ⟨nB, enB⟩ : ∃ x, bn.natAbs = x := ⟨_, rfl⟩
  simp only [enA] at sA gc1 q1 q1d na
  simp only [enB] at sB gc2 q2 q2d nb
  clear enA enB
  have pr1 := fun w => product_any p1 p2 _ _ rfl rfl b1 b2 w
  have pr2 := fun w => product_any p3 p4 _ _ rfl rfl b3 b4 w
  have hrv := ratS_val (sa != sb) (p1 * p2) (p3 * p4)
  generalize p1 * p2 = N at *
  generalize p3 * p4 = D at *
  have wh1 := fun w => rwhole_any (sa != sb) _ _ N w rfl rfl
  have wh2 := fun w => rwhole_any false _ _ D w rfl rfl
  generalize valI (Ex.fitI (Ex.sg (sa != sb) N)) = X at *
  generalize okI (Ex.fitI (Ex.sg (sa != sb) N)) = O1 at *
  generalize valI (Ex.fitI (Ex.sg false D)) = Y at *
  generalize okI (Ex.fitI (Ex.sg false D)) = O2 at *
  generalize Ex.ratS (sa != sb) N D = R at *
  have z1 : ¬ (g : Int) = 0 := by omega
  have z2 : ¬ g = 0 := by omega
  have z3 : ¬ (h : Int) = 0 := by omega
  have z4 : ¬ h = 0 := by omega
  obtain ⟨b2x, V2, hb2, hV2, st⟩ := (St.start w).new (Obj.cells #[.int .i64 xn, .int .i64 xd] 33)
  obtain ⟨b3x, V3, hb3, hV3, st⟩ := st.new (Obj.cells #[.int .i64 yn, .int .i64 yd] 33)
  obtain ⟨b4, V4, hb4, hV4, st⟩ := st.new (Obj.cells #[.int .i64 0, .int .i64 0] 33)
  have hc3 : b2x + 1 = b3x := by rw [← hb3, ← hV2, World.size_alloc, hb2]
  have hc4 : b3x + 1 = b4 := by rw [← hb4, ← hV3, World.size_alloc, hb3]
  have hb4w : w.heap.size ≤ b4 := by omega
  have d20 := st.cell 2 rfl 0 (v := .int .i64 xn) rfl
  have d21 := st.cell 2 rfl 1 (v := .int .i64 xd) rfl
  have k3 := st.get 1 rfl
  have k4 := st.get 0 rfl
  have hz := st.below
  clear st hb3 hb4 gp hp pd pe b1 b2 b3
  replace l1 := hide l1; replace l2 := hide l2; replace gc1 := hide gc1; replace gc2 := hide gc2; replace sA := hide sA; replace sB := hide sB; replace sAd := hide sAd; replace sBd := hide sBd; replace pr1 := hide pr1; replace pr2 := hide pr2; replace wh1 := hide wh1; replace wh2 := hide wh2; replace hrv := hide hrv
  replace q1 := hide q1; replace q2 := hide q2; replace q3 := hide q3; replace q4 := hide q4; replace q1d := hide q1d; replace q2d := hide q2d; replace q3d := hide q3d; replace q4d := hide q4d; replace hsa := hide hsa; replace hsb := hide hsb
  replace hz := hide hz; replace k3 := hide k3; replace k4 := hide k4; replace hb2 := hide hb2; replace hc3 := hide hc3; replace hc4 := hide hc4; replace hV2 := hide hV2; replace hV3 := hide hV3; replace hV4 := hide hV4
  go_enter Try.func23, Try.ntmps23
  go_upto_region 1 with fail
  rw [unhide hb2, unhide hc3, unhide hc4, unhide hV2, unhide hV3, unhide hV4]
  clear hb2 hc3 hc4 hV2 hV3 hV4
  go_wp2_with fail
  refine (unhide l1 _).mono ?_
  rintro e w1 ⟨rfl, hb1⟩
  have hzx := (unhide hz).trans (hb1.mono (unhide hz).size)
  have k3x := kept hb1 (Array.getElem?_eq_some_iff.1 (unhide k3)).1 (unhide k3)
  have k4x := kept hb1 (Array.getElem?_eq_some_iff.1 (unhide k4)).1 (unhide k4)
  clear hz k3 k4 l1 hb1 d20 d21
  obtain ⟨b6, V6, hb6, hV6, st⟩ := (St.start w1).new (Obj.cells #[.int .i64 an, .int .i64 ad] 33)
  have hz := hide (hzx.trans (st.below.mono hzx.size))
  have k3 := kept st.below (Array.getElem?_eq_some_iff.1 k3x).1 k3x
  have k4 := hide (kept st.below (Array.getElem?_eq_some_iff.1 k4x).1 k4x)
  have k6 := hide (st.get 0 rfl)
  have d30 : V6.cell? ⟨b3x, 0, none⟩ = some (.int .i64 yn) := (cell_of_row _ _ 0 _ _ _ k3).trans rfl
  have d31 : V6.cell? ⟨b3x, 1, none⟩ = some (.int .i64 yd) := (cell_of_row _ _ 1 _ _ _ k3).trans rfl
  clear st k3 k3x k4x hzx
  replace hb6 := hide hb6; replace hV6 := hide hV6; replace d30 := hide d30; replace d31 := hide d31
  go_upto_region 2 with fail
  rw [unhide hV6]
  try rw [unhide hb6]
  clear hb6 hV6
  replace d30 := unhide d30; replace d31 := unhide d31
  go_wp2_with fail
  refine (unhide l2 _).mono ?_
  rintro e w2 ⟨rfl, hb1⟩
  have hzx := (unhide hz).trans (hb1.mono (unhide hz).size)
  have k4x := kept hb1 (Array.getElem?_eq_some_iff.1 (unhide k4)).1 (unhide k4)
  have k6x := kept hb1 (Array.getElem?_eq_some_iff.1 (unhide k6)).1 (unhide k6)
  clear hz k4 k6 l2 hb1 d30 d31
  obtain ⟨b8, V8, hb8, hV8, st⟩ := (St.start w2).new (Obj.cells #[.int .i64 bn, .int .i64 bd] 33)
  have hz := hide (hzx.trans (st.below.mono hzx.size))
  have k4 := hide (kept st.below (Array.getElem?_eq_some_iff.1 k4x).1 k4x)
  have k6 := kept st.below (Array.getElem?_eq_some_iff.1 k6x).1 k6x
  have k8 := st.get 0 rfl
  have f60 : V8.cell? ⟨b6, 0, none⟩ = some (.int .i64 an) := (cell_of_row _ _ 0 _ _ _ k6).trans rfl
  have f61 : V8.cell? ⟨b6, 1, none⟩ = some (.int .i64 (ad : Int)) := (cell_of_row _ _ 1 _ _ _ k6).trans rfl
  have f80 : V8.cell? ⟨b8, 0, none⟩ = some (.int .i64 bn) := (cell_of_row _ _ 0 _ _ _ k8).trans rfl
  have f81 : V8.cell? ⟨b8, 1, none⟩ = some (.int .i64 (bd : Int)) := (cell_of_row _ _ 1 _ _ _ k8).trans rfl
  clear st k6 k8 k6x k4x hzx
  replace hb8 := hide hb8; replace hV8 := hide hV8
  go_upto_region 5 with fail
  rw [unhide hV8]
  try rw [unhide hb8]
  clear hb8 hV8
  obtain ⟨w6, rfl⟩ : ∃ W : World, W = V8 := ⟨_, rfl⟩
  refine wp_region_frontG 7 (fun _ _ w' => Below w6.heap.size w6 w') (fun wa wb => Below wa.heap.size wa wb)
    (fun ix v w' => match ix with
      | 0 => v = .pointer (some ⟨b6, 0, none⟩)
      | 1 => v = .int .i64 an
      | 2 => v = .int .u64 (nA : Int)
      | 3 => v = .pointer (some ⟨b8, 1, none⟩)
      | 4 => v = .int .i64 (bd : Int)
      | 5 => v = .int .u64 (bd : Int)
      | 6 => v = .int .u64 (g : Int)
      | _ => True) (by rfl) (by kernel_rfl) ?_ ?_ ?_ ?_
  · exact (Below.refl _ _).drew
  · intro wa wb hR ix v hv
    match ix, hv with
    | 0, h => exact h
    | 1, h => exact h
    | 2, h => exact h
    | 3, h => exact h
    | 4, h => exact h
    | 5, h => exact h
    | 6, h => exact h
    | _ + 7, _ => trivial
  · intro ix hix
    obtain rfl | rfl | rfl | rfl | rfl | rfl | rfl : ix = 0 ∨ ix = 1 ∨ ix = 2 ∨ ix = 3 ∨ ix = 4 ∨ ix = 5 ∨ ix = 6 := by omega
    · refine FrontStep.of [] _ rfl (by kernel_rfl) ?_
      intro vs LL wq hLL hC hf
      simp only [putL, List.foldl_nil]
      go_wp2_with fail
      first | exact Below.refl _ _ | exact hC | exact ⟨hC, Below.refl _ _⟩ | exact ⟨hC, Below.refl _ _, by omega⟩ | exact ⟨Below.refl _ _, by omega⟩
    · refine FrontStep.of [0] _ rfl (by kernel_rfl) ?_
      intro vs LL wq hLL hC hf
      simp only [putL, List.foldl_nil, List.foldl_cons, List.getElem?_cons_zero]
      have e0 : vs 0 = _ := hf 0 (by simp)
      rw [e0]
      have g0 := cell_under f60 hC
      go_wp2_with fail
      first | exact Below.refl _ _ | exact hC | exact ⟨hC, Below.refl _ _⟩ | exact ⟨hC, Below.refl _ _, by omega⟩ | exact ⟨Below.refl _ _, by omega⟩
    · refine FrontStep.of [1] _ rfl (by kernel_rfl) ?_
      intro vs LL wq hLL hC hf
      simp only [putL, List.foldl_nil, List.foldl_cons, List.getElem?_cons_zero, List.getElem?_cons_succ]
      have e1 : vs 1 = _ := hf 1 (by simp)
      rw [e1]
      have hcq := unhide sA wq
      replace hcq := hide hcq
      go_wp2_with fail
      refine (unhide hcq).mono ?_
      rintro e wz ⟨rfl, hbz⟩
      clear hcq
      replace hbz := hide hbz
      go_wp2_with fail
      first | exact ⟨hC.trans ((unhide hbz).mono hC.size), unhide hbz⟩ | exact hC.trans ((unhide hbz).mono hC.size) | exact ⟨hC.trans ((unhide hbz).mono hC.size), unhide hbz, rfl⟩
    · refine FrontStep.of [] _ rfl (by kernel_rfl) ?_
      intro vs LL wq hLL hC hf
      simp only [putL, List.foldl_nil]
      go_wp2_with fail
      first | exact Below.refl _ _ | exact hC | exact ⟨hC, Below.refl _ _⟩ | exact ⟨hC, Below.refl _ _, by omega⟩ | exact ⟨Below.refl _ _, by omega⟩
    · refine FrontStep.of [3] _ rfl (by kernel_rfl) ?_
      intro vs LL wq hLL hC hf
      simp only [putL, List.foldl_nil, List.foldl_cons, List.getElem?_cons_zero, List.getElem?_cons_succ]
      have e3 : vs 3 = _ := hf 3 (by simp)
      rw [e3]
      have g0 := cell_under f81 hC
      go_wp2_with fail
      first | exact Below.refl _ _ | exact hC | exact ⟨hC, Below.refl _ _⟩ | exact ⟨hC, Below.refl _ _, by omega⟩ | exact ⟨Below.refl _ _, by omega⟩
    · refine FrontStep.of [2, 4] _ rfl (by kernel_rfl) ?_
      intro vs LL wq hLL hC hf
      simp only [putL, List.foldl_nil, List.foldl_cons, List.getElem?_cons_zero, List.getElem?_cons_succ]
      have e2 : vs 2 = _ := hf 2 (by simp)
      rw [e2]
      have e4 : vs 4 = _ := hf 4 (by simp)
      rw [e4]
      have hcq := unhide sBd wq
      replace hcq := hide hcq
      go_wp2_with fail
      refine (unhide hcq).mono ?_
      rintro e wz ⟨rfl, hbz⟩
      clear hcq
      replace hbz := hide hbz
      go_wp2_with fail
      first | exact ⟨hC.trans ((unhide hbz).mono hC.size), unhide hbz⟩ | exact hC.trans ((unhide hbz).mono hC.size) | exact ⟨hC.trans ((unhide hbz).mono hC.size), unhide hbz, rfl⟩
    · refine FrontStep.of [2, 5] _ rfl (by kernel_rfl) ?_
      intro vs LL wq hLL hC hf
      simp only [putL, List.foldl_nil, List.foldl_cons, List.getElem?_cons_zero, List.getElem?_cons_succ]
      have e2 : vs 2 = _ := hf 2 (by simp)
      rw [e2]
      have e5 : vs 5 = _ := hf 5 (by simp)
      rw [e5]
      have hcq := unhide gc1 wq
      replace hcq := hide hcq
      go_wp2_with fail
      refine (unhide hcq).mono ?_
      rintro e wz ⟨rfl, hbz⟩
      clear hcq
      replace hbz := hide hbz
      go_wp2_with fail
      first | exact ⟨hC.trans ((unhide hbz).mono hC.size), unhide hbz⟩ | exact hC.trans ((unhide hbz).mono hC.size) | exact ⟨hC.trans ((unhide hbz).mono hC.size), unhide hbz, rfl⟩
  · intro vs LL wq hLL hC hf
    have e6 : vs 6 = _ := hf 6 (by omega)
    rw [putSome_all]
    simp only [putL, List.range, List.range.loop, List.foldl_nil, List.foldl_cons, List.getElem?_cons_zero, List.getElem?_cons_succ, List.drop_succ_cons, List.drop_zero]
    rw [e6]
    replace f60 := cell_under f60 hC
    replace f61 := cell_under f61 hC
    replace f80 := cell_under f80 hC
    replace f81 := cell_under f81 hC
    replace hz := hide ((unhide hz).trans (hC.mono (unhide hz).size))
    replace k4 := hide (kept hC (Array.getElem?_eq_some_iff.1 (unhide k4)).1 (unhide k4))
    clear e6 hf hLL hC
    obtain ⟨w6, rfl⟩ : ∃ W : World, W = wq := ⟨_, rfl⟩
    go_simp
    go_wp2_with fail
    refine wp_region_frontG 7 (fun _ _ w' => Below w6.heap.size w6 w') (fun wa wb => Below wa.heap.size wa wb)
      (fun ix v w' => match ix with
        | 0 => v = .pointer (some ⟨b8, 0, none⟩)
        | 1 => v = .int .i64 bn
        | 2 => v = .int .u64 (nB : Int)
        | 3 => v = .pointer (some ⟨b6, 1, none⟩)
        | 4 => v = .int .i64 (ad : Int)
        | 5 => v = .int .u64 (ad : Int)
        | 6 => v = .int .u64 (h : Int)
        | _ => True) (by rfl) (by kernel_rfl) ?_ ?_ ?_ ?_
    · exact (Below.refl _ _).drew
    · intro wa wb hR ix v hv
      match ix, hv with
      | 0, h => exact h
      | 1, h => exact h
      | 2, h => exact h
      | 3, h => exact h
      | 4, h => exact h
      | 5, h => exact h
      | 6, h => exact h
      | _ + 7, _ => trivial
    · intro ix hix
      obtain rfl | rfl | rfl | rfl | rfl | rfl | rfl : ix = 0 ∨ ix = 1 ∨ ix = 2 ∨ ix = 3 ∨ ix = 4 ∨ ix = 5 ∨ ix = 6 := by omega
      · refine FrontStep.of [] _ rfl (by kernel_rfl) ?_
        intro vs LL wq hLL hC hf
        simp only [putL, List.foldl_nil]
        go_wp2_with fail
        first | exact Below.refl _ _ | exact hC | exact ⟨hC, Below.refl _ _⟩ | exact ⟨hC, Below.refl _ _, by omega⟩ | exact ⟨Below.refl _ _, by omega⟩
      · refine FrontStep.of [0] _ rfl (by kernel_rfl) ?_
        intro vs LL wq hLL hC hf
        simp only [putL, List.foldl_nil, List.foldl_cons, List.getElem?_cons_zero]
        have e0 : vs 0 = _ := hf 0 (by simp)
        rw [e0]
        have g0 := cell_under f80 hC
        go_wp2_with fail
        first | exact Below.refl _ _ | exact hC | exact ⟨hC, Below.refl _ _⟩ | exact ⟨hC, Below.refl _ _, by omega⟩ | exact ⟨Below.refl _ _, by omega⟩
      · refine FrontStep.of [1] _ rfl (by kernel_rfl) ?_
        intro vs LL wq hLL hC hf
        simp only [putL, List.foldl_nil, List.foldl_cons, List.getElem?_cons_zero, List.getElem?_cons_succ]
        have e1 : vs 1 = _ := hf 1 (by simp)
        rw [e1]
        have hcq := unhide sB wq
        replace hcq := hide hcq
        go_wp2_with fail
        refine (unhide hcq).mono ?_
        rintro e wz ⟨rfl, hbz⟩
        clear hcq
        replace hbz := hide hbz
        go_wp2_with fail
        first | exact ⟨hC.trans ((unhide hbz).mono hC.size), unhide hbz⟩ | exact hC.trans ((unhide hbz).mono hC.size) | exact ⟨hC.trans ((unhide hbz).mono hC.size), unhide hbz, rfl⟩
      · refine FrontStep.of [] _ rfl (by kernel_rfl) ?_
        intro vs LL wq hLL hC hf
        simp only [putL, List.foldl_nil]
        go_wp2_with fail
        first | exact Below.refl _ _ | exact hC | exact ⟨hC, Below.refl _ _⟩ | exact ⟨hC, Below.refl _ _, by omega⟩ | exact ⟨Below.refl _ _, by omega⟩
      · refine FrontStep.of [3] _ rfl (by kernel_rfl) ?_
        intro vs LL wq hLL hC hf
        simp only [putL, List.foldl_nil, List.foldl_cons, List.getElem?_cons_zero, List.getElem?_cons_succ]
        have e3 : vs 3 = _ := hf 3 (by simp)
        rw [e3]
        have g0 := cell_under f61 hC
        go_wp2_with fail
        first | exact Below.refl _ _ | exact hC | exact ⟨hC, Below.refl _ _⟩ | exact ⟨hC, Below.refl _ _, by omega⟩ | exact ⟨Below.refl _ _, by omega⟩
      · refine FrontStep.of [2, 4] _ rfl (by kernel_rfl) ?_
        intro vs LL wq hLL hC hf
        simp only [putL, List.foldl_nil, List.foldl_cons, List.getElem?_cons_zero, List.getElem?_cons_succ]
        have e2 : vs 2 = _ := hf 2 (by simp)
        rw [e2]
        have e4 : vs 4 = _ := hf 4 (by simp)
        rw [e4]
        have hcq := unhide sAd wq
        replace hcq := hide hcq
        go_wp2_with fail
        refine (unhide hcq).mono ?_
        rintro e wz ⟨rfl, hbz⟩
        clear hcq
        replace hbz := hide hbz
        go_wp2_with fail
        first | exact ⟨hC.trans ((unhide hbz).mono hC.size), unhide hbz⟩ | exact hC.trans ((unhide hbz).mono hC.size) | exact ⟨hC.trans ((unhide hbz).mono hC.size), unhide hbz, rfl⟩
      · refine FrontStep.of [2, 5] _ rfl (by kernel_rfl) ?_
        intro vs LL wq hLL hC hf
        simp only [putL, List.foldl_nil, List.foldl_cons, List.getElem?_cons_zero, List.getElem?_cons_succ]
        have e2 : vs 2 = _ := hf 2 (by simp)
        rw [e2]
        have e5 : vs 5 = _ := hf 5 (by simp)
        rw [e5]
        have hcq := unhide gc2 wq
        replace hcq := hide hcq
        go_wp2_with fail
        refine (unhide hcq).mono ?_
        rintro e wz ⟨rfl, hbz⟩
        clear hcq
        replace hbz := hide hbz
        go_wp2_with fail
        first | exact ⟨hC.trans ((unhide hbz).mono hC.size), unhide hbz⟩ | exact hC.trans ((unhide hbz).mono hC.size) | exact ⟨hC.trans ((unhide hbz).mono hC.size), unhide hbz, rfl⟩
    · intro vs LL wq hLL hC hf
      have e6 : vs 6 = _ := hf 6 (by omega)
      rw [putSome_all]
      simp only [putL, List.range, List.range.loop, List.foldl_nil, List.foldl_cons, List.getElem?_cons_zero, List.getElem?_cons_succ, List.drop_succ_cons, List.drop_zero]
      rw [e6]
      replace f60 := cell_under f60 hC
      replace f61 := cell_under f61 hC
      replace f80 := cell_under f80 hC
      replace f81 := cell_under f81 hC
      replace hz := hide ((unhide hz).trans (hC.mono (unhide hz).size))
      replace k4 := hide (kept hC (Array.getElem?_eq_some_iff.1 (unhide k4)).1 (unhide k4))
      clear e6 hf hLL hC
      obtain ⟨w6, rfl⟩ : ∃ W : World, W = wq := ⟨_, rfl⟩
      go_simp
      go_wp2_with fail
      refine wp_region_frontG 23 (fun _ _ w' => Below w6.heap.size w6 w') (fun wa wb => Below wa.heap.size wa wb)
        (fun ix v w' => match ix with
          | 0 => v = .pointer (some ⟨b6, 0, none⟩)
          | 1 => v = .int .i64 an
          | 2 => v = .bool sa
          | 3 => v = .pointer (some ⟨b8, 0, none⟩)
          | 4 => v = .int .i64 bn
          | 5 => v = .bool sb
          | 6 => v = .bool (sa != sb)
          | 7 => v = .pointer (some ⟨b6, 0, none⟩)
          | 8 => v = .int .i64 an
          | 9 => v = .int .u64 (nA : Int)
          | 10 => v = .int .u64 (g : Int)
          | 11 => v = .int .u64 (p1 : Int)
          | 12 => v = .pointer (some ⟨b8, 0, none⟩)
          | 13 => v = .int .i64 bn
          | 14 => v = .int .u64 (nB : Int)
          | 15 => v = .int .u64 (h : Int)
          | 16 => v = .int .u64 (p2 : Int)
          | 17 => v = .agg #[.int .u64 (hiW N), .int .u64 (loW N)]
          | 18 => v = .tuple #[.int .i64 X, .bool O1]
          | 19 => v = .tuple #[.int .i64 X, .bool O1]
          | 20 => v = .int .i64 X
          | 21 => v = .bool O1
          | 22 => v = .int .i64 X
          | _ => True) (by rfl) (by kernel_rfl) ?_ ?_ ?_ ?_
      · exact (Below.refl _ _).drew
      · intro wa wb hR ix v hv
        match ix, hv with
        | 0, h => exact h
        | 1, h => exact h
        | 2, h => exact h
        | 3, h => exact h
        | 4, h => exact h
        | 5, h => exact h
        | 6, h => exact h
        | 7, h => exact h
        | 8, h => exact h
        | 9, h => exact h
        | 10, h => exact h
        | 11, h => exact h
        | 12, h => exact h
        | 13, h => exact h
        | 14, h => exact h
        | 15, h => exact h
        | 16, h => exact h
        | 17, h => exact h
        | 18, h => exact h
        | 19, h => exact h
        | 20, h => exact h
        | 21, h => exact h
        | 22, h => exact h
        | _ + 23, _ => trivial
      · intro ix hix
        obtain rfl | rfl | rfl | rfl | rfl | rfl | rfl | rfl | rfl | rfl | rfl | rfl | rfl | rfl | rfl | rfl | rfl | rfl | rfl | rfl | rfl | rfl | rfl : ix = 0 ∨ ix = 1 ∨ ix = 2 ∨ ix = 3 ∨ ix = 4 ∨ ix = 5 ∨ ix = 6 ∨ ix = 7 ∨ ix = 8 ∨ ix = 9 ∨ ix = 10 ∨ ix = 11 ∨ ix = 12 ∨ ix = 13 ∨ ix = 14 ∨ ix = 15 ∨ ix = 16 ∨ ix = 17 ∨ ix = 18 ∨ ix = 19 ∨ ix = 20 ∨ ix = 21 ∨ ix = 22 := by omega
        · refine FrontStep.of [] _ rfl (by kernel_rfl) ?_
          intro vs LL wq hLL hC hf
          simp only [putL, List.foldl_nil]
          go_wp2_with fail
          first | exact Below.refl _ _ | exact hC | exact ⟨hC, Below.refl _ _⟩ | exact ⟨hC, Below.refl _ _, by omega⟩ | exact ⟨Below.refl _ _, by omega⟩
        · refine FrontStep.of [0] _ rfl (by kernel_rfl) ?_
          intro vs LL wq hLL hC hf
          simp only [putL, List.foldl_nil, List.foldl_cons, List.getElem?_cons_zero]
          have e0 : vs 0 = _ := hf 0 (by simp)
          rw [e0]
          have g0 := cell_under f60 hC
          go_wp2_with fail
          first | exact Below.refl _ _ | exact hC | exact ⟨hC, Below.refl _ _⟩ | exact ⟨hC, Below.refl _ _, by omega⟩ | exact ⟨Below.refl _ _, by omega⟩
        · refine FrontStep.of [1] _ rfl (by kernel_rfl) ?_
          intro vs LL wq hLL hC hf
          simp only [putL, List.foldl_nil, List.foldl_cons, List.getElem?_cons_zero, List.getElem?_cons_succ]
          have e1 : vs 1 = _ := hf 1 (by simp)
          rw [e1]
          have z1 := unhide hsa
          go_wp2_with fail
          first | exact Below.refl _ _ | exact hC | exact ⟨hC, Below.refl _ _⟩ | exact ⟨hC, Below.refl _ _, by omega⟩ | exact ⟨Below.refl _ _, by omega⟩
        · refine FrontStep.of [] _ rfl (by kernel_rfl) ?_
          intro vs LL wq hLL hC hf
          simp only [putL, List.foldl_nil]
          go_wp2_with fail
          first | exact Below.refl _ _ | exact hC | exact ⟨hC, Below.refl _ _⟩ | exact ⟨hC, Below.refl _ _, by omega⟩ | exact ⟨Below.refl _ _, by omega⟩
        · refine FrontStep.of [3] _ rfl (by kernel_rfl) ?_
          intro vs LL wq hLL hC hf
          simp only [putL, List.foldl_nil, List.foldl_cons, List.getElem?_cons_zero, List.getElem?_cons_succ]
          have e3 : vs 3 = _ := hf 3 (by simp)
          rw [e3]
          have g0 := cell_under f80 hC
          go_wp2_with fail
          first | exact Below.refl _ _ | exact hC | exact ⟨hC, Below.refl _ _⟩ | exact ⟨hC, Below.refl _ _, by omega⟩ | exact ⟨Below.refl _ _, by omega⟩
        · refine FrontStep.of [4] _ rfl (by kernel_rfl) ?_
          intro vs LL wq hLL hC hf
          simp only [putL, List.foldl_nil, List.foldl_cons, List.getElem?_cons_zero, List.getElem?_cons_succ]
          have e4 : vs 4 = _ := hf 4 (by simp)
          rw [e4]
          have z1 := unhide hsb
          go_wp2_with fail
          first | exact Below.refl _ _ | exact hC | exact ⟨hC, Below.refl _ _⟩ | exact ⟨hC, Below.refl _ _, by omega⟩ | exact ⟨Below.refl _ _, by omega⟩
        · refine FrontStep.of [2, 5] _ rfl (by kernel_rfl) ?_
          intro vs LL wq hLL hC hf
          simp only [putL, List.foldl_nil, List.foldl_cons, List.getElem?_cons_zero, List.getElem?_cons_succ]
          have e2 : vs 2 = _ := hf 2 (by simp)
          rw [e2]
          have e5 : vs 5 = _ := hf 5 (by simp)
          rw [e5]
          go_wp2_with fail
          cases sa <;> cases sb <;> first | exact Below.refl _ _ | exact ⟨Below.refl _ _, rfl⟩ | exact ⟨rfl, Below.refl _ _⟩ | (simp; exact Below.refl _ _)
        · refine FrontStep.of [] _ rfl (by kernel_rfl) ?_
          intro vs LL wq hLL hC hf
          simp only [putL, List.foldl_nil]
          go_wp2_with fail
          first | exact Below.refl _ _ | exact hC | exact ⟨hC, Below.refl _ _⟩ | exact ⟨hC, Below.refl _ _, by omega⟩ | exact ⟨Below.refl _ _, by omega⟩
        · refine FrontStep.of [7] _ rfl (by kernel_rfl) ?_
          intro vs LL wq hLL hC hf
          simp only [putL, List.foldl_nil, List.foldl_cons, List.getElem?_cons_zero, List.getElem?_cons_succ]
          have e7 : vs 7 = _ := hf 7 (by simp)
          rw [e7]
          have g0 := cell_under f60 hC
          go_wp2_with fail
          first | exact Below.refl _ _ | exact hC | exact ⟨hC, Below.refl _ _⟩ | exact ⟨hC, Below.refl _ _, by omega⟩ | exact ⟨Below.refl _ _, by omega⟩
        · refine FrontStep.of [8] _ rfl (by kernel_rfl) ?_
          intro vs LL wq hLL hC hf
          simp only [putL, List.foldl_nil, List.foldl_cons, List.getElem?_cons_zero, List.getElem?_cons_succ]
          have e8 : vs 8 = _ := hf 8 (by simp)
          rw [e8]
          have hcq := unhide sA wq
          replace hcq := hide hcq
          go_wp2_with fail
          refine (unhide hcq).mono ?_
          rintro e wz ⟨rfl, hbz⟩
          clear hcq
          replace hbz := hide hbz
          go_wp2_with fail
          first | exact ⟨hC.trans ((unhide hbz).mono hC.size), unhide hbz⟩ | exact hC.trans ((unhide hbz).mono hC.size) | exact ⟨hC.trans ((unhide hbz).mono hC.size), unhide hbz, rfl⟩
        · refine FrontStep.of [] _ rfl (by kernel_rfl) ?_
          intro vs LL wq hLL hC hf
          simp only [putL, List.foldl_nil]
          go_wp2_with fail
          first | exact Below.refl _ _ | exact hC | exact ⟨hC, Below.refl _ _⟩ | exact ⟨hC, Below.refl _ _, by omega⟩ | exact ⟨Below.refl _ _, by omega⟩
        · refine FrontStep.of [9, 10] _ rfl (by kernel_rfl) ?_
          intro vs LL wq hLL hC hf
          simp only [putL, List.foldl_nil, List.foldl_cons, List.getElem?_cons_zero, List.getElem?_cons_succ]
          have e9 : vs 9 = _ := hf 9 (by simp)
          rw [e9]
          have e10 : vs 10 = _ := hf 10 (by simp)
          rw [e10]
          have z1 := unhide q1
          have z2 := unhide q1d
          go_wp2_with fail
          first | exact Below.refl _ _ | exact hC | exact ⟨hC, Below.refl _ _⟩ | exact ⟨hC, Below.refl _ _, by omega⟩ | exact ⟨Below.refl _ _, by omega⟩
        · refine FrontStep.of [] _ rfl (by kernel_rfl) ?_
          intro vs LL wq hLL hC hf
          simp only [putL, List.foldl_nil]
          go_wp2_with fail
          first | exact Below.refl _ _ | exact hC | exact ⟨hC, Below.refl _ _⟩ | exact ⟨hC, Below.refl _ _, by omega⟩ | exact ⟨Below.refl _ _, by omega⟩
        · refine FrontStep.of [12] _ rfl (by kernel_rfl) ?_
          intro vs LL wq hLL hC hf
          simp only [putL, List.foldl_nil, List.foldl_cons, List.getElem?_cons_zero, List.getElem?_cons_succ]
          have e12 : vs 12 = _ := hf 12 (by simp)
          rw [e12]
          have g0 := cell_under f80 hC
          go_wp2_with fail
          first | exact Below.refl _ _ | exact hC | exact ⟨hC, Below.refl _ _⟩ | exact ⟨hC, Below.refl _ _, by omega⟩ | exact ⟨Below.refl _ _, by omega⟩
        · refine FrontStep.of [9, 13] _ rfl (by kernel_rfl) ?_
          intro vs LL wq hLL hC hf
          simp only [putL, List.foldl_nil, List.foldl_cons, List.getElem?_cons_zero, List.getElem?_cons_succ]
          have e9 : vs 9 = _ := hf 9 (by simp)
          rw [e9]
          have e13 : vs 13 = _ := hf 13 (by simp)
          rw [e13]
          have hcq := unhide sB wq
          replace hcq := hide hcq
          go_wp2_with fail
          refine (unhide hcq).mono ?_
          rintro e wz ⟨rfl, hbz⟩
          clear hcq
          replace hbz := hide hbz
          go_wp2_with fail
          first | exact ⟨hC.trans ((unhide hbz).mono hC.size), unhide hbz⟩ | exact hC.trans ((unhide hbz).mono hC.size) | exact ⟨hC.trans ((unhide hbz).mono hC.size), unhide hbz, rfl⟩
        · refine FrontStep.of [] _ rfl (by kernel_rfl) ?_
          intro vs LL wq hLL hC hf
          simp only [putL, List.foldl_nil]
          go_wp2_with fail
          first | exact Below.refl _ _ | exact hC | exact ⟨hC, Below.refl _ _⟩ | exact ⟨hC, Below.refl _ _, by omega⟩ | exact ⟨Below.refl _ _, by omega⟩
        · refine FrontStep.of [14, 15] _ rfl (by kernel_rfl) ?_
          intro vs LL wq hLL hC hf
          simp only [putL, List.foldl_nil, List.foldl_cons, List.getElem?_cons_zero, List.getElem?_cons_succ]
          have e14 : vs 14 = _ := hf 14 (by simp)
          rw [e14]
          have e15 : vs 15 = _ := hf 15 (by simp)
          rw [e15]
          have z1 := unhide q2
          have z2 := unhide q2d
          go_wp2_with fail
          first | exact Below.refl _ _ | exact hC | exact ⟨hC, Below.refl _ _⟩ | exact ⟨hC, Below.refl _ _, by omega⟩ | exact ⟨Below.refl _ _, by omega⟩
        · refine FrontStep.of [11, 14, 16] _ rfl (by kernel_rfl) ?_
          intro vs LL wq hLL hC hf
          simp only [putL, List.foldl_nil, List.foldl_cons, List.getElem?_cons_zero, List.getElem?_cons_succ]
          have e11 : vs 11 = _ := hf 11 (by simp)
          rw [e11]
          have e14 : vs 14 = _ := hf 14 (by simp)
          rw [e14]
          have e16 : vs 16 = _ := hf 16 (by simp)
          rw [e16]
          have hcq := unhide pr1 wq
          replace hcq := hide hcq
          go_wp2_with fail
          refine (unhide hcq).mono ?_
          rintro e wz ⟨rfl, hbz⟩
          clear hcq
          replace hbz := hide hbz
          go_wp2_with fail
          first | exact ⟨hC.trans ((unhide hbz).mono hC.size), unhide hbz⟩ | exact hC.trans ((unhide hbz).mono hC.size) | exact ⟨hC.trans ((unhide hbz).mono hC.size), unhide hbz, rfl⟩
        · refine FrontStep.of [6, 17] _ rfl (by kernel_rfl) ?_
          intro vs LL wq hLL hC hf
          simp only [putL, List.foldl_nil, List.foldl_cons, List.getElem?_cons_zero, List.getElem?_cons_succ]
          have e6 : vs 6 = _ := hf 6 (by simp)
          rw [e6]
          have e17 : vs 17 = _ := hf 17 (by simp)
          rw [e17]
          have hcq := unhide wh1 wq
          replace hcq := hide hcq
          go_wp2_with fail
          refine (unhide hcq).mono ?_
          rintro e wz ⟨rfl, hbz⟩
          clear hcq
          replace hbz := hide hbz
          go_wp2_with fail
          first | exact ⟨hC.trans ((unhide hbz).mono hC.size), unhide hbz⟩ | exact hC.trans ((unhide hbz).mono hC.size) | exact ⟨hC.trans ((unhide hbz).mono hC.size), unhide hbz, rfl⟩
        · refine FrontStep.of [18] _ rfl (by kernel_rfl) ?_
          intro vs LL wq hLL hC hf
          simp only [putL, List.foldl_nil, List.foldl_cons, List.getElem?_cons_zero, List.getElem?_cons_succ]
          have e18 : vs 18 = _ := hf 18 (by simp)
          rw [e18]
          go_wp2_with fail
          first | exact Below.refl _ _ | exact hC | exact ⟨hC, Below.refl _ _⟩ | exact ⟨hC, Below.refl _ _, by omega⟩ | exact ⟨Below.refl _ _, by omega⟩
        · refine FrontStep.of [19] _ rfl (by kernel_rfl) ?_
          intro vs LL wq hLL hC hf
          simp only [putL, List.foldl_nil, List.foldl_cons, List.getElem?_cons_zero, List.getElem?_cons_succ]
          have e19 : vs 19 = _ := hf 19 (by simp)
          rw [e19]
          go_wp2_with fail
          first | exact Below.refl _ _ | exact hC | exact ⟨hC, Below.refl _ _⟩ | exact ⟨hC, Below.refl _ _, by omega⟩ | exact ⟨Below.refl _ _, by omega⟩
        · refine FrontStep.of [19] _ rfl (by kernel_rfl) ?_
          intro vs LL wq hLL hC hf
          simp only [putL, List.foldl_nil, List.foldl_cons, List.getElem?_cons_zero, List.getElem?_cons_succ]
          have e19 : vs 19 = _ := hf 19 (by simp)
          rw [e19]
          go_wp2_with fail
          first | exact Below.refl _ _ | exact hC | exact ⟨hC, Below.refl _ _⟩ | exact ⟨hC, Below.refl _ _, by omega⟩ | exact ⟨Below.refl _ _, by omega⟩
        · refine FrontStep.of [0, 1, 2, 3, 4, 5, 6, 7, 8, 9, 10, 11, 12, 13, 14, 15, 16, 17, 18, 19, 20] _ rfl (by kernel_rfl) ?_
          intro vs LL wq hLL hC hf
          simp only [putL, List.foldl_nil, List.foldl_cons, List.getElem?_cons_zero, List.getElem?_cons_succ]
          have e0 : vs 0 = _ := hf 0 (by simp)
          rw [e0]
          have e1 : vs 1 = _ := hf 1 (by simp)
          rw [e1]
          have e2 : vs 2 = _ := hf 2 (by simp)
          rw [e2]
          have e3 : vs 3 = _ := hf 3 (by simp)
          rw [e3]
          have e4 : vs 4 = _ := hf 4 (by simp)
          rw [e4]
          have e5 : vs 5 = _ := hf 5 (by simp)
          rw [e5]
          have e6 : vs 6 = _ := hf 6 (by simp)
          rw [e6]
          have e7 : vs 7 = _ := hf 7 (by simp)
          rw [e7]
          have e8 : vs 8 = _ := hf 8 (by simp)
          rw [e8]
          have e9 : vs 9 = _ := hf 9 (by simp)
          rw [e9]
          have e10 : vs 10 = _ := hf 10 (by simp)
          rw [e10]
          have e11 : vs 11 = _ := hf 11 (by simp)
          rw [e11]
          have e12 : vs 12 = _ := hf 12 (by simp)
          rw [e12]
          have e13 : vs 13 = _ := hf 13 (by simp)
          rw [e13]
          have e14 : vs 14 = _ := hf 14 (by simp)
          rw [e14]
          have e15 : vs 15 = _ := hf 15 (by simp)
          rw [e15]
          have e16 : vs 16 = _ := hf 16 (by simp)
          rw [e16]
          have e17 : vs 17 = _ := hf 17 (by simp)
          rw [e17]
          have e18 : vs 18 = _ := hf 18 (by simp)
          rw [e18]
          have e19 : vs 19 = _ := hf 19 (by simp)
          rw [e19]
          have e20 : vs 20 = _ := hf 20 (by simp)
          rw [e20]
          go_wp2_with fail
          first | exact Below.refl _ _ | exact hC | exact ⟨hC, Below.refl _ _⟩ | exact ⟨hC, Below.refl _ _, by omega⟩ | exact ⟨Below.refl _ _, by omega⟩
      · intro vs LL wq hLL hC hf
        have e22 : vs 22 = _ := hf 22 (by omega)
        have e21 : vs 21 = _ := hf 21 (by omega)
        rw [putSome_all]
        simp only [putL, List.range, List.range.loop, List.foldl_nil, List.foldl_cons, List.getElem?_cons_zero, List.getElem?_cons_succ, List.drop_succ_cons, List.drop_zero]
        rw [e22, e21]
        replace f60 := cell_under f60 hC
        replace f61 := cell_under f61 hC
        replace f80 := cell_under f80 hC
        replace f81 := cell_under f81 hC
        replace hz := hide ((unhide hz).trans (hC.mono (unhide hz).size))
        replace k4 := hide (kept hC (Array.getElem?_eq_some_iff.1 (unhide k4)).1 (unhide k4))
        clear e22 e21 hf hLL hC
        obtain ⟨w6, rfl⟩ : ∃ W : World, W = wq := ⟨_, rfl⟩
        go_simp
        go_wp2_with fail
        refine wp_region_frontG 16 (fun _ _ w' => Below w6.heap.size w6 w') (fun wa wb => Below wa.heap.size wa wb)
          (fun ix v w' => match ix with
            | 0 => v = .pointer (some ⟨b6, 1, none⟩)
            | 1 => v = .int .i64 (ad : Int)
            | 2 => v = .int .u64 (ad : Int)
            | 3 => v = .int .u64 (h : Int)
            | 4 => v = .int .u64 (p3 : Int)
            | 5 => v = .pointer (some ⟨b8, 1, none⟩)
            | 6 => v = .int .i64 (bd : Int)
            | 7 => v = .int .u64 (bd : Int)
            | 8 => v = .int .u64 (g : Int)
            | 9 => v = .int .u64 (p4 : Int)
            | 10 => v = .agg #[.int .u64 (hiW D), .int .u64 (loW D)]
            | 11 => v = .tuple #[.int .i64 Y, .bool O2]
            | 12 => v = .tuple #[.int .i64 Y, .bool O2]
            | 13 => v = .int .i64 Y
            | 14 => v = .bool O2
            | 15 => v = .int .i64 Y
            | _ => True) (by rfl) (by kernel_rfl) ?_ ?_ ?_ ?_
        · exact (Below.refl _ _).drew
        · intro wa wb hR ix v hv
          match ix, hv with
          | 0, h => exact h
          | 1, h => exact h
          | 2, h => exact h
          | 3, h => exact h
          | 4, h => exact h
          | 5, h => exact h
          | 6, h => exact h
          | 7, h => exact h
          | 8, h => exact h
          | 9, h => exact h
          | 10, h => exact h
          | 11, h => exact h
          | 12, h => exact h
          | 13, h => exact h
          | 14, h => exact h
          | 15, h => exact h
          | _ + 16, _ => trivial
        · intro ix hix
          obtain rfl | rfl | rfl | rfl | rfl | rfl | rfl | rfl | rfl | rfl | rfl | rfl | rfl | rfl | rfl | rfl : ix = 0 ∨ ix = 1 ∨ ix = 2 ∨ ix = 3 ∨ ix = 4 ∨ ix = 5 ∨ ix = 6 ∨ ix = 7 ∨ ix = 8 ∨ ix = 9 ∨ ix = 10 ∨ ix = 11 ∨ ix = 12 ∨ ix = 13 ∨ ix = 14 ∨ ix = 15 := by omega
          · refine FrontStep.of [] _ rfl (by kernel_rfl) ?_
            intro vs LL wq hLL hC hf
            simp only [putL, List.foldl_nil]
            go_wp2_with fail
            first | exact Below.refl _ _ | exact hC | exact ⟨hC, Below.refl _ _⟩ | exact ⟨hC, Below.refl _ _, by omega⟩ | exact ⟨Below.refl _ _, by omega⟩
          · refine FrontStep.of [0] _ rfl (by kernel_rfl) ?_
            intro vs LL wq hLL hC hf
            simp only [putL, List.foldl_nil, List.foldl_cons, List.getElem?_cons_zero]
            have e0 : vs 0 = _ := hf 0 (by simp)
            rw [e0]
            have g0 := cell_under f61 hC
            go_wp2_with fail
            first | exact Below.refl _ _ | exact hC | exact ⟨hC, Below.refl _ _⟩ | exact ⟨hC, Below.refl _ _, by omega⟩ | exact ⟨Below.refl _ _, by omega⟩
          · refine FrontStep.of [1] _ rfl (by kernel_rfl) ?_
            intro vs LL wq hLL hC hf
            simp only [putL, List.foldl_nil, List.foldl_cons, List.getElem?_cons_zero, List.getElem?_cons_succ]
            have e1 : vs 1 = _ := hf 1 (by simp)
            rw [e1]
            have hcq := unhide sAd wq
            replace hcq := hide hcq
            go_wp2_with fail
            refine (unhide hcq).mono ?_
            rintro e wz ⟨rfl, hbz⟩
            clear hcq
            replace hbz := hide hbz
            go_wp2_with fail
            first | exact ⟨hC.trans ((unhide hbz).mono hC.size), unhide hbz⟩ | exact hC.trans ((unhide hbz).mono hC.size) | exact ⟨hC.trans ((unhide hbz).mono hC.size), unhide hbz, rfl⟩
          · refine FrontStep.of [] _ rfl (by kernel_rfl) ?_
            intro vs LL wq hLL hC hf
            simp only [putL, List.foldl_nil]
            go_wp2_with fail
            first | exact Below.refl _ _ | exact hC | exact ⟨hC, Below.refl _ _⟩ | exact ⟨hC, Below.refl _ _, by omega⟩ | exact ⟨Below.refl _ _, by omega⟩
          · refine FrontStep.of [2, 3] _ rfl (by kernel_rfl) ?_
            intro vs LL wq hLL hC hf
            simp only [putL, List.foldl_nil, List.foldl_cons, List.getElem?_cons_zero, List.getElem?_cons_succ]
            have e2 : vs 2 = _ := hf 2 (by simp)
            rw [e2]
            have e3 : vs 3 = _ := hf 3 (by simp)
            rw [e3]
            have z1 := unhide q3
            have z2 := unhide q3d
            go_wp2_with fail
            first | exact Below.refl _ _ | exact hC | exact ⟨hC, Below.refl _ _⟩ | exact ⟨hC, Below.refl _ _, by omega⟩ | exact ⟨Below.refl _ _, by omega⟩
          · refine FrontStep.of [] _ rfl (by kernel_rfl) ?_
            intro vs LL wq hLL hC hf
            simp only [putL, List.foldl_nil]
            go_wp2_with fail
            first | exact Below.refl _ _ | exact hC | exact ⟨hC, Below.refl _ _⟩ | exact ⟨hC, Below.refl _ _, by omega⟩ | exact ⟨Below.refl _ _, by omega⟩
          · refine FrontStep.of [5] _ rfl (by kernel_rfl) ?_
            intro vs LL wq hLL hC hf
            simp only [putL, List.foldl_nil, List.foldl_cons, List.getElem?_cons_zero, List.getElem?_cons_succ]
            have e5 : vs 5 = _ := hf 5 (by simp)
            rw [e5]
            have g0 := cell_under f81 hC
            go_wp2_with fail
            first | exact Below.refl _ _ | exact hC | exact ⟨hC, Below.refl _ _⟩ | exact ⟨hC, Below.refl _ _, by omega⟩ | exact ⟨Below.refl _ _, by omega⟩
          · refine FrontStep.of [2, 6] _ rfl (by kernel_rfl) ?_
            intro vs LL wq hLL hC hf
            simp only [putL, List.foldl_nil, List.foldl_cons, List.getElem?_cons_zero, List.getElem?_cons_succ]
            have e2 : vs 2 = _ := hf 2 (by simp)
            rw [e2]
            have e6 : vs 6 = _ := hf 6 (by simp)
            rw [e6]
            have hcq := unhide sBd wq
            replace hcq := hide hcq
            go_wp2_with fail
            refine (unhide hcq).mono ?_
            rintro e wz ⟨rfl, hbz⟩
            clear hcq
            replace hbz := hide hbz
            go_wp2_with fail
            first | exact ⟨hC.trans ((unhide hbz).mono hC.size), unhide hbz⟩ | exact hC.trans ((unhide hbz).mono hC.size) | exact ⟨hC.trans ((unhide hbz).mono hC.size), unhide hbz, rfl⟩
          · refine FrontStep.of [] _ rfl (by kernel_rfl) ?_
            intro vs LL wq hLL hC hf
            simp only [putL, List.foldl_nil]
            go_wp2_with fail
            first | exact Below.refl _ _ | exact hC | exact ⟨hC, Below.refl _ _⟩ | exact ⟨hC, Below.refl _ _, by omega⟩ | exact ⟨Below.refl _ _, by omega⟩
          · refine FrontStep.of [7, 8] _ rfl (by kernel_rfl) ?_
            intro vs LL wq hLL hC hf
            simp only [putL, List.foldl_nil, List.foldl_cons, List.getElem?_cons_zero, List.getElem?_cons_succ]
            have e7 : vs 7 = _ := hf 7 (by simp)
            rw [e7]
            have e8 : vs 8 = _ := hf 8 (by simp)
            rw [e8]
            have z1 := unhide q4
            have z2 := unhide q4d
            go_wp2_with fail
            first | exact Below.refl _ _ | exact hC | exact ⟨hC, Below.refl _ _⟩ | exact ⟨hC, Below.refl _ _, by omega⟩ | exact ⟨Below.refl _ _, by omega⟩
          · refine FrontStep.of [4, 7, 9] _ rfl (by kernel_rfl) ?_
            intro vs LL wq hLL hC hf
            simp only [putL, List.foldl_nil, List.foldl_cons, List.getElem?_cons_zero, List.getElem?_cons_succ]
            have e4 : vs 4 = _ := hf 4 (by simp)
            rw [e4]
            have e7 : vs 7 = _ := hf 7 (by simp)
            rw [e7]
            have e9 : vs 9 = _ := hf 9 (by simp)
            rw [e9]
            have hcq := unhide pr2 wq
            replace hcq := hide hcq
            go_wp2_with fail
            refine (unhide hcq).mono ?_
            rintro e wz ⟨rfl, hbz⟩
            clear hcq
            replace hbz := hide hbz
            go_wp2_with fail
            first | exact ⟨hC.trans ((unhide hbz).mono hC.size), unhide hbz⟩ | exact hC.trans ((unhide hbz).mono hC.size) | exact ⟨hC.trans ((unhide hbz).mono hC.size), unhide hbz, rfl⟩
          · refine FrontStep.of [10] _ rfl (by kernel_rfl) ?_
            intro vs LL wq hLL hC hf
            simp only [putL, List.foldl_nil, List.foldl_cons, List.getElem?_cons_zero, List.getElem?_cons_succ]
            have e10 : vs 10 = _ := hf 10 (by simp)
            rw [e10]
            have hcq := unhide wh2 wq
            replace hcq := hide hcq
            go_wp2_with fail
            refine (unhide hcq).mono ?_
            rintro e wz ⟨rfl, hbz⟩
            clear hcq
            replace hbz := hide hbz
            go_wp2_with fail
            first | exact ⟨hC.trans ((unhide hbz).mono hC.size), unhide hbz⟩ | exact hC.trans ((unhide hbz).mono hC.size) | exact ⟨hC.trans ((unhide hbz).mono hC.size), unhide hbz, rfl⟩
          · refine FrontStep.of [11] _ rfl (by kernel_rfl) ?_
            intro vs LL wq hLL hC hf
            simp only [putL, List.foldl_nil, List.foldl_cons, List.getElem?_cons_zero, List.getElem?_cons_succ]
            have e11 : vs 11 = _ := hf 11 (by simp)
            rw [e11]
            go_wp2_with fail
            first | exact Below.refl _ _ | exact hC | exact ⟨hC, Below.refl _ _⟩ | exact ⟨hC, Below.refl _ _, by omega⟩ | exact ⟨Below.refl _ _, by omega⟩
          · refine FrontStep.of [12] _ rfl (by kernel_rfl) ?_
            intro vs LL wq hLL hC hf
            simp only [putL, List.foldl_nil, List.foldl_cons, List.getElem?_cons_zero, List.getElem?_cons_succ]
            have e12 : vs 12 = _ := hf 12 (by simp)
            rw [e12]
            go_wp2_with fail
            first | exact Below.refl _ _ | exact hC | exact ⟨hC, Below.refl _ _⟩ | exact ⟨hC, Below.refl _ _, by omega⟩ | exact ⟨Below.refl _ _, by omega⟩
          · refine FrontStep.of [12] _ rfl (by kernel_rfl) ?_
            intro vs LL wq hLL hC hf
            simp only [putL, List.foldl_nil, List.foldl_cons, List.getElem?_cons_zero, List.getElem?_cons_succ]
            have e12 : vs 12 = _ := hf 12 (by simp)
            rw [e12]
            go_wp2_with fail
            first | exact Below.refl _ _ | exact hC | exact ⟨hC, Below.refl _ _⟩ | exact ⟨hC, Below.refl _ _, by omega⟩ | exact ⟨Below.refl _ _, by omega⟩
          · refine FrontStep.of [0, 1, 2, 3, 4, 5, 6, 7, 8, 9, 10, 11, 12, 13] _ rfl (by kernel_rfl) ?_
            intro vs LL wq hLL hC hf
            simp only [putL, List.foldl_nil, List.foldl_cons, List.getElem?_cons_zero, List.getElem?_cons_succ]
            have e0 : vs 0 = _ := hf 0 (by simp)
            rw [e0]
            have e1 : vs 1 = _ := hf 1 (by simp)
            rw [e1]
            have e2 : vs 2 = _ := hf 2 (by simp)
            rw [e2]
            have e3 : vs 3 = _ := hf 3 (by simp)
            rw [e3]
            have e4 : vs 4 = _ := hf 4 (by simp)
            rw [e4]
            have e5 : vs 5 = _ := hf 5 (by simp)
            rw [e5]
            have e6 : vs 6 = _ := hf 6 (by simp)
            rw [e6]
            have e7 : vs 7 = _ := hf 7 (by simp)
            rw [e7]
            have e8 : vs 8 = _ := hf 8 (by simp)
            rw [e8]
            have e9 : vs 9 = _ := hf 9 (by simp)
            rw [e9]
            have e10 : vs 10 = _ := hf 10 (by simp)
            rw [e10]
            have e11 : vs 11 = _ := hf 11 (by simp)
            rw [e11]
            have e12 : vs 12 = _ := hf 12 (by simp)
            rw [e12]
            have e13 : vs 13 = _ := hf 13 (by simp)
            rw [e13]
            go_wp2_with fail
            first | exact Below.refl _ _ | exact hC | exact ⟨hC, Below.refl _ _⟩ | exact ⟨hC, Below.refl _ _, by omega⟩ | exact ⟨Below.refl _ _, by omega⟩
        · intro vs LL wq hLL hC hf
          have e15 : vs 15 = _ := hf 15 (by omega)
          have e14 : vs 14 = _ := hf 14 (by omega)
          rw [putSome_all]
          simp only [putL, List.range, List.range.loop, List.foldl_nil, List.foldl_cons, List.getElem?_cons_zero, List.getElem?_cons_succ, List.drop_succ_cons, List.drop_zero]
          rw [e15, e14]
          replace f60 := cell_under f60 hC
          replace f61 := cell_under f61 hC
          replace f80 := cell_under f80 hC
          replace f81 := cell_under f81 hC
          replace hz := hide ((unhide hz).trans (hC.mono (unhide hz).size))
          replace k4 := hide (kept hC (Array.getElem?_eq_some_iff.1 (unhide k4)).1 (unhide k4))
          clear e15 e14 hf hLL hC
          obtain ⟨w6, rfl⟩ : ∃ W : World, W = wq := ⟨_, rfl⟩
          go_simp
          have hk4 := unhide k4
          obtain ⟨c0, c1, g0, g1⟩ := cells2 hk4
          have hz' := unhide hz
          clear hk4 k4 hz sA sB sAd sBd gc1 gc2 pr1 pr2 wh1 wh2 f60 f61 f80 f81 q1 q2 q3 q4 q1d q2d q3d q4d hsa hsb
          cases O1 with
          | false =>
            have hv := (unhide hrv).2 (Or.inl rfl)
            clear hrv
            replace hz' := hide hz'; replace hv := hide hv
            go_wp2_with fail
            refine bodyPost_ret (v := .tuple #[.agg #[.int .i64 0, .int .i64 0], .bool false]) (by simp [results, Try.results23, go_sem, c0, c1]) rfl ⟨by rw [(unhide hv).1, (unhide hv).2.1, (unhide hv).2.2], ?_⟩
            exact ((unhide hz').setCell hb4w _).setCell hb4w _
          | true =>
            cases O2 with
            | false =>
              have hv := (unhide hrv).2 (Or.inr rfl)
              clear hrv
              replace hz' := hide hz'; replace hv := hide hv
              go_wp2_with fail
              refine bodyPost_ret (v := .tuple #[.agg #[.int .i64 0, .int .i64 0], .bool false]) (by simp [results, Try.results23, go_sem, c0, c1]) rfl ⟨by rw [(unhide hv).1, (unhide hv).2.1, (unhide hv).2.2], ?_⟩
              exact ((unhide hz').setCell hb4w _).setCell hb4w _
            | true =>
              have hv := (unhide hrv).1 rfl rfl
              clear hrv
              replace hz' := hide hz'; replace hv := hide hv
              go_wp2_with fail
              refine bodyPost_ret (v := .tuple #[.agg #[.int .i64 X, .int .i64 Y], .bool true]) (by simp [results, Try.results23, go_sem, c0, c1]) rfl ⟨by rw [(unhide hv).1, (unhide hv).2.1, (unhide hv).2.2], ?_⟩
              exact ((unhide hz').setCell hb4w _).setCell hb4w _
end Go.Proofs.Ytfegkaflemcanaa
