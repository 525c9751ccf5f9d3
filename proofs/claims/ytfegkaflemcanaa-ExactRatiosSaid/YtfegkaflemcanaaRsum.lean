/- The sum of two ratios, the reference's: valid ratios. -/
import Derived.Test.YtfegkaflemcanaaMul
import Derived.Test.YtfegkaflemcanaaEx11
namespace Go.Proofs.Ytfegkaflemcanaa
open Go.RowKit
theorem heap_set {w : World} {b off : Nat} {t : TypeId} {cs : Array Value} (h : w.heap[b]? = some (.cells cs t (0, 0))) (u : Value) : (w.setCell ⟨b, off, none⟩ u).heap[b]? = some (.cells (cs.setIfInBounds off u) t (0, 0)) := by
  simp [World.setCell, Array.getElem?_modify, h]
theorem cell_set2 {w : World} {b c o : Nat} {x y v : Value} (hne : c ≠ b) (h : w.cell? ⟨c, o, none⟩ = some v) : ((w.setCell ⟨b, 0, none⟩ x).setCell ⟨b, 1, none⟩ y).cell? ⟨c, o, none⟩ = some v := by
  rw [← h]
  exact World.cell?_of_block (a := ⟨c, o, none⟩) (by rw [Below.heap_setCell _ _ _ _ hne, Below.heap_setCell _ _ _ _ hne])
set_option maxHeartbeats 8000000 in
set_option maxRecDepth 100000 in
theorem rsum_ok (xn xd yn yd : Int) (w : World) (h1 : I64 xn) (h2 : I64 xd) (h3 : I64 yn) (h4 : I64 yd) (hx1 : 1 ≤ xd) (hy1 : 1 ≤ yd) :
    Calls Try.prog 21 #[.agg #[.int .i64 xn, .int .i64 xd], .agg #[.int .i64 yn, .int .i64 yd]] w fun e w' => e = .returned (.tuple #[.agg #[.int .i64 (Ex.numR (Ex.sumS xn xd yn yd)), .int .i64 (Ex.denR (Ex.sumS xn xd yn yd))], .bool (Ex.okR (Ex.sumS xn xd yn yd))]) ∧ Below w.heap.size w w' := by
  have hms : Ex.sumS xn xd yn yd = Ex.fitR (Ex.rat xn xd + Ex.rat yn yd) := by unfold Ex.sumS; rw [if_neg (by omega)]
  rw [hms]
  have l1 := fun w => rlow_any xn xd w h1 h2 hx1
  have l2 := fun w => rlow_any yn yd w h3 h4 hy1
  have FA := low_facts xn xd h1 h2 hx1
  have FB := low_facts yn yd h3 h4 hy1
  have ia := FA.inum
  have ib := FB.inum
  have da : (Ex.rat xn xd).den < 9223372036854775808 := by have := FA.iden; unfold I64 at h2; omega
  have db : (Ex.rat yn yd).den < 9223372036854775808 := by have := FB.iden; unfold I64 at h4; omega
  clear hms FA FB
  generalize hA : Ex.rat xn xd = A at *
  generalize hB : Ex.rat yn yd = B at *
  have hform := fun neg t ht => Ex.add_form A B neg t ht
  have hres : ∀ neg n d, Ex.sg neg n = (A + B).num → d = (A + B).den → Ex.ratS neg n d = Ex.fitR (A + B) := fun neg n d => Ex.ratS_fit neg n d (A + B)
  have hsame := Ex.add_same A.num B.num (B.den / Nat.gcd A.den B.den) (A.den / Nat.gcd A.den B.den)
  have hlt := Ex.add_lt A.num B.num (B.den / Nat.gcd A.den B.den) (A.den / Nat.gcd A.den B.den)
  have hge := Ex.add_ge A.num B.num (B.den / Nat.gcd A.den B.den) (A.den / Nat.gcd A.den B.den)
  have pd := A.den_pos
  have pe := B.den_pos
  obtain ⟨an, han⟩ : ∃ a, a = A.num := ⟨_, rfl⟩
  obtain ⟨bn, hbn⟩ : ∃ a, a = B.num := ⟨_, rfl⟩
  obtain ⟨ad, had⟩ : ∃ a, a = A.den := ⟨_, rfl⟩
  obtain ⟨bd, hbd⟩ : ∃ a, a = B.den := ⟨_, rfl⟩
  rw [← han, ← had] at l1
  rw [← hbn, ← hbd] at l2
  rw [← han] at ia
  rw [← hbn] at ib
  rw [← had] at da pd
  rw [← hbd] at db pe
  simp only [← han, ← hbn, ← had, ← hbd] at hform hsame hlt hge
  generalize A + B = AB at *
  clear han hbn had hbd hA hB
  have na : an.natAbs ≤ 9223372036854775808 := by unfold I64 at ia; omega
  have nb : bn.natAbs ≤ 9223372036854775808 := by unfold I64 at ib; omega
  have gp : 0 < Nat.gcd ad bd := Nat.gcd_pos_of_pos_right _ pe
  have gl : Nat.gcd ad bd ≤ bd := Nat.gcd_le_right _ pe
  have sA := fun w => (size_any an w ia).mono fun e w' (h : e = .returned (.int .u64 an.natAbs) ∧ w' = w) => (⟨h.1, h.2 ▸ Below.refl _ _⟩ : e = .returned (.int .u64 an.natAbs) ∧ Below w.heap.size w w')
  have sB := fun w => (size_any bn w ib).mono fun e w' (h : e = .returned (.int .u64 bn.natAbs) ∧ w' = w) => (⟨h.1, h.2 ▸ Below.refl _ _⟩ : e = .returned (.int .u64 bn.natAbs) ∧ Below w.heap.size w w')
  have sAd := fun w => (rsz_nat ad w da).mono fun e w' (h : e = .returned (.int .u64 ad) ∧ w' = w) => (⟨h.1, h.2 ▸ Below.refl _ _⟩ : e = .returned (.int .u64 ad) ∧ Below w.heap.size w w')
  have sBd := fun w => (rsz_nat bd w db).mono fun e w' (h : e = .returned (.int .u64 bd) ∧ w' = w) => (⟨h.1, h.2 ▸ Below.refl _ _⟩ : e = .returned (.int .u64 bd) ∧ Below w.heap.size w w')
  have gc1 := fun w => (rgcd_any ad bd w).mono fun e w' (h : e = .returned (.int .u64 ((Nat.gcd ad bd : Nat) : Int)) ∧ ∃ n, w' = w.drewN n) => (⟨h.1, by obtain ⟨n, hn⟩ := h.2; rw [hn]; exact below_drewN _ _⟩ : e = .returned (.int .u64 ((Nat.gcd ad bd : Nat) : Int)) ∧ Below w.heap.size w w')
  generalize Nat.gcd ad bd = g at *
  have b3 : ad / g ≤ ad := Nat.div_le_self _ _
  have b4' : bd / g ≤ bd := Nat.div_le_self _ _
  obtain ⟨q3, q3d⟩ := quo_u64 ad g (by omega)
  obtain ⟨q4, q4d⟩ := quo_u64 bd g (by omega)
  generalize ad / g = p3 at *
  generalize bd / g = p4 at *
  have bP : an.natAbs * p4 ≤ 9223372036854775808 * 9223372036854775808 := Nat.mul_le_mul na (by omega)
  have bQ : bn.natAbs * p3 ≤ 9223372036854775808 * 9223372036854775808 := Nat.mul_le_mul nb (by omega)
  have pr1 := fun w => product_any an.natAbs p4 _ _ rfl rfl (by omega) (by omega) w
  have pr2 := fun w => product_any bn.natAbs p3 _ _ rfl rfl (by omega) (by omega) w
  generalize an.natAbs * p4 = N1 at *
  generalize bn.natAbs * p3 = N2 at *
  obtain ⟨nA, enA⟩ : ∃ x, an.natAbs = x := ⟨_, rfl⟩
  obtain ⟨nB, enB⟩ : ∃ x, bn.natAbs = x := ⟨_, rfl⟩
  simp only [enA] at sA pr1 na
  simp only [enB] at sB pr2 nb
  clear enA enB
  have z1 : ¬ (g : Int) = 0 := by omega
  have z2 : ¬ g = 0 := by omega
  obtain ⟨sa, hsa⟩ : ∃ s, decide (an < 0) = s := ⟨_, rfl⟩
  obtain ⟨sb, hsb⟩ : ∃ s, decide (bn < 0) = s := ⟨_, rfl⟩
  obtain ⟨b2x, V2, hb2, hV2, st⟩ := (St.start w).new (Obj.cells #[.int .i64 xn, .int .i64 xd] 33)
  obtain ⟨b3x, V3, hb3, hV3, st⟩ := st.new (Obj.cells #[.int .i64 yn, .int .i64 yd] 33)
  obtain ⟨b4, V4, hb4, hV4, st⟩ := st.new (Obj.cells #[.int .i64 0, .int .i64 0] 33)
  have hc3 : b2x + 1 = b3x := by rw [← hb3, ← hV2, World.size_alloc, hb2]
  have hc4 : b3x + 1 = b4 := by rw [← hb4, ← hV3, World.size_alloc, hb3]
  have hb4w : w.heap.size ≤ b4 := by omega
  have d20 := st.cell 2 rfl 0 (v := .int .i64 xn) rfl
  have d21 := st.cell 2 rfl 1 (v := .int .i64 xd) rfl
  have k3 := st.get 1 rfl
  have k4 := st.get 0 rfl
  have hz := st.below
  clear st hb3 hb4 gp pd pe b4'
  replace l1 := hide l1; replace l2 := hide l2; replace gc1 := hide gc1; replace sA := hide sA; replace sB := hide sB; replace sAd := hide sAd; replace sBd := hide sBd; replace pr1 := hide pr1; replace pr2 := hide pr2
  replace hform := hide hform; replace hres := hide hres; replace hsame := hide hsame; replace hlt := hide hlt; replace hge := hide hge; replace bP := hide bP; replace bQ := hide bQ
  replace q3 := hide q3; replace q4 := hide q4; replace q3d := hide q3d; replace q4d := hide q4d; replace hsa := hide hsa; replace hsb := hide hsb
  replace hz := hide hz; replace k3 := hide k3; replace k4 := hide k4; replace hb2 := hide hb2; replace hc3 := hide hc3; replace hc4 := hide hc4; replace hV2 := hide hV2; replace hV3 := hide hV3; replace hV4 := hide hV4
  go_enter Try.func21, Try.ntmps21
  go_upto_region 1 with fail
  rw [unhide hb2, unhide hc3, unhide hc4, unhide hV2, unhide hV3, unhide hV4]
  clear hb2 hc3 hc4 hV2 hV3 hV4
  go_wp2_with fail
  refine (unhide l1 _).mono ?_
  rintro e w1 ⟨rfl, hb1⟩
  have hzx := (unhide hz).trans (hb1.mono (unhide hz).size)
  have k3x := kept hb1 (Array.getElem?_eq_some_iff.1 (unhide k3)).1 (unhide k3)
  have k4x := kept hb1 (Array.getElem?_eq_some_iff.1 (unhide k4)).1 (unhide k4)
  clear hz k3 k4 l1 hb1 d20 d21
  obtain ⟨b6, V6, hb6, hV6, st⟩ := (St.start w1).new (Obj.cells #[.int .i64 an, .int .i64 ad] 33)
  have hz := hide (hzx.trans (st.below.mono hzx.size))
  have k3 := kept st.below (Array.getElem?_eq_some_iff.1 k3x).1 k3x
  have k4 := hide (kept st.below (Array.getElem?_eq_some_iff.1 k4x).1 k4x)
  have k6 := hide (st.get 0 rfl)
  have d30 : V6.cell? ⟨b3x, 0, none⟩ = some (.int .i64 yn) := (cell_of_row _ _ 0 _ _ _ k3).trans rfl
  have d31 : V6.cell? ⟨b3x, 1, none⟩ = some (.int .i64 yd) := (cell_of_row _ _ 1 _ _ _ k3).trans rfl
  clear st k3 k3x k4x hzx
  replace hb6 := hide hb6; replace hV6 := hide hV6; replace d30 := hide d30; replace d31 := hide d31
  go_upto_region 2 with fail
  rw [unhide hV6]
  try rw [unhide hb6]
  clear hb6 hV6
  replace d30 := unhide d30; replace d31 := unhide d31
  go_wp2_with fail
  refine (unhide l2 _).mono ?_
  rintro e w2 ⟨rfl, hb1⟩
  have hzx := (unhide hz).trans (hb1.mono (unhide hz).size)
  have k4x := kept hb1 (Array.getElem?_eq_some_iff.1 (unhide k4)).1 (unhide k4)
  have k6x := kept hb1 (Array.getElem?_eq_some_iff.1 (unhide k6)).1 (unhide k6)
  clear hz k4 k6 l2 hb1 d30 d31
  obtain ⟨b8, V8, hb8, hV8, st⟩ := (St.start w2).new (Obj.cells #[.int .i64 bn, .int .i64 bd] 33)
  have hz := hide (hzx.trans (st.below.mono hzx.size))
  have k4 := hide (kept st.below (Array.getElem?_eq_some_iff.1 k4x).1 k4x)
  have k6 := kept st.below (Array.getElem?_eq_some_iff.1 k6x).1 k6x
  have k8 := st.get 0 rfl
  have f60 : V8.cell? ⟨b6, 0, none⟩ = some (.int .i64 an) := (cell_of_row _ _ 0 _ _ _ k6).trans rfl
  have f61 : V8.cell? ⟨b6, 1, none⟩ = some (.int .i64 (ad : Int)) := (cell_of_row _ _ 1 _ _ _ k6).trans rfl
  have f80 : V8.cell? ⟨b8, 0, none⟩ = some (.int .i64 bn) := (cell_of_row _ _ 0 _ _ _ k8).trans rfl
  have f81 : V8.cell? ⟨b8, 1, none⟩ = some (.int .i64 (bd : Int)) := (cell_of_row _ _ 1 _ _ _ k8).trans rfl
  clear st k6 k8 k6x k4x hzx
  replace hb8 := hide hb8; replace hV8 := hide hV8
  go_upto_region 5 with fail
  rw [unhide hV8]
  try rw [unhide hb8]
  clear hb8 hV8
  obtain ⟨w6, rfl⟩ : ∃ W : World, W = V8 := ⟨_, rfl⟩
  refine wp_region_frontG 7 (fun _ _ w' => Below w6.heap.size w6 w') (fun wa wb => Below wa.heap.size wa wb)
    (fun ix v w' => match ix with
      | 0 => v = .pointer (some ⟨b6, 1, none⟩)
      | 1 => v = .int .i64 (ad : Int)
      | 2 => v = .int .u64 (ad : Int)
      | 3 => v = .pointer (some ⟨b8, 1, none⟩)
      | 4 => v = .int .i64 (bd : Int)
      | 5 => v = .int .u64 (bd : Int)
      | 6 => v = .int .u64 (g : Int)
      | _ => True) (by rfl) (by kernel_rfl) ?_ ?_ ?_ ?_
  · exact (Below.refl _ _).drew
  · intro wa wb hR ix v hv
    match ix, hv with
    | 0, h => exact h
    | 1, h => exact h
    | 2, h => exact h
    | 3, h => exact h
    | 4, h => exact h
    | 5, h => exact h
    | 6, h => exact h
    | _ + 7, _ => trivial
  · intro ix hix
    obtain rfl | rfl | rfl | rfl | rfl | rfl | rfl : ix = 0 ∨ ix = 1 ∨ ix = 2 ∨ ix = 3 ∨ ix = 4 ∨ ix = 5 ∨ ix = 6 := by omega
    · refine FrontStep.of [] _ rfl (by kernel_rfl) ?_
      intro vs LL wq hLL hC hf
      simp only [putL, List.foldl_nil]
      go_wp2_with fail
      first | exact Below.refl _ _ | exact hC | exact ⟨hC, Below.refl _ _⟩ | exact ⟨hC, Below.refl _ _, by omega⟩ | exact ⟨Below.refl _ _, by omega⟩
    · refine FrontStep.of [0] _ rfl (by kernel_rfl) ?_
      intro vs LL wq hLL hC hf
      simp only [putL, List.foldl_nil, List.foldl_cons, List.getElem?_cons_zero]
      have e0 : vs 0 = _ := hf 0 (by simp)
      rw [e0]
      have g0 := cell_under f61 hC
      go_wp2_with fail
      first | exact Below.refl _ _ | exact hC | exact ⟨hC, Below.refl _ _⟩ | exact ⟨hC, Below.refl _ _, by omega⟩ | exact ⟨Below.refl _ _, by omega⟩
    · refine FrontStep.of [1] _ rfl (by kernel_rfl) ?_
      intro vs LL wq hLL hC hf
      simp only [putL, List.foldl_nil, List.foldl_cons, List.getElem?_cons_zero, List.getElem?_cons_succ]
      have e1 : vs 1 = _ := hf 1 (by simp)
      rw [e1]
      have hcq := unhide sAd wq
      replace hcq := hide hcq
      go_wp2_with fail
      refine (unhide hcq).mono ?_
      rintro e wz ⟨rfl, hbz⟩
      clear hcq
      replace hbz := hide hbz
      go_wp2_with fail
      first | exact ⟨hC.trans ((unhide hbz).mono hC.size), unhide hbz⟩ | exact hC.trans ((unhide hbz).mono hC.size) | exact ⟨hC.trans ((unhide hbz).mono hC.size), unhide hbz, rfl⟩
    · refine FrontStep.of [] _ rfl (by kernel_rfl) ?_
      intro vs LL wq hLL hC hf
      simp only [putL, List.foldl_nil]
      go_wp2_with fail
      first | exact Below.refl _ _ | exact hC | exact ⟨hC, Below.refl _ _⟩ | exact ⟨hC, Below.refl _ _, by omega⟩ | exact ⟨Below.refl _ _, by omega⟩
    · refine FrontStep.of [3] _ rfl (by kernel_rfl) ?_
      intro vs LL wq hLL hC hf
      simp only [putL, List.foldl_nil, List.foldl_cons, List.getElem?_cons_zero, List.getElem?_cons_succ]
      have e3 : vs 3 = _ := hf 3 (by simp)
      rw [e3]
      have g0 := cell_under f81 hC
      go_wp2_with fail
      first | exact Below.refl _ _ | exact hC | exact ⟨hC, Below.refl _ _⟩ | exact ⟨hC, Below.refl _ _, by omega⟩ | exact ⟨Below.refl _ _, by omega⟩
    · refine FrontStep.of [2, 4] _ rfl (by kernel_rfl) ?_
      intro vs LL wq hLL hC hf
      simp only [putL, List.foldl_nil, List.foldl_cons, List.getElem?_cons_zero, List.getElem?_cons_succ]
      have e2 : vs 2 = _ := hf 2 (by simp)
      rw [e2]
      have e4 : vs 4 = _ := hf 4 (by simp)
      rw [e4]
      have hcq := unhide sBd wq
      replace hcq := hide hcq
      go_wp2_with fail
      refine (unhide hcq).mono ?_
      rintro e wz ⟨rfl, hbz⟩
      clear hcq
      replace hbz := hide hbz
      go_wp2_with fail
      first | exact ⟨hC.trans ((unhide hbz).mono hC.size), unhide hbz⟩ | exact hC.trans ((unhide hbz).mono hC.size) | exact ⟨hC.trans ((unhide hbz).mono hC.size), unhide hbz, rfl⟩
    · refine FrontStep.of [2, 5] _ rfl (by kernel_rfl) ?_
      intro vs LL wq hLL hC hf
      simp only [putL, List.foldl_nil, List.foldl_cons, List.getElem?_cons_zero, List.getElem?_cons_succ]
      have e2 : vs 2 = _ := hf 2 (by simp)
      rw [e2]
      have e5 : vs 5 = _ := hf 5 (by simp)
      rw [e5]
      have hcq := unhide gc1 wq
      replace hcq := hide hcq
      go_wp2_with fail
      refine (unhide hcq).mono ?_
      rintro e wz ⟨rfl, hbz⟩
      clear hcq
      replace hbz := hide hbz
      go_wp2_with fail
      first | exact ⟨hC.trans ((unhide hbz).mono hC.size), unhide hbz⟩ | exact hC.trans ((unhide hbz).mono hC.size) | exact ⟨hC.trans ((unhide hbz).mono hC.size), unhide hbz, rfl⟩
  · intro vs LL wq hLL hC hf
    have e6 : vs 6 = _ := hf 6 (by omega)
    rw [putSome_all]
    simp only [putL, List.range, List.range.loop, List.foldl_nil, List.foldl_cons, List.getElem?_cons_zero, List.getElem?_cons_succ, List.drop_succ_cons, List.drop_zero]
    rw [e6]
    replace f60 := cell_under f60 hC
    replace f61 := cell_under f61 hC
    replace f80 := cell_under f80 hC
    replace f81 := cell_under f81 hC
    replace k4 := hide (kept hC (Array.getElem?_eq_some_iff.1 (unhide k4)).1 (unhide k4))
    replace hz := hide ((unhide hz).trans (hC.mono (unhide hz).size))
    clear e6 hf hLL hC
    obtain ⟨w6, rfl⟩ : ∃ W : World, W = wq := ⟨_, rfl⟩
    go_simp
    go_wp2_with fail
    refine wp_region_frontG 10 (fun _ _ w' => Below w6.heap.size w6 w') (fun wa wb => Below wa.heap.size wa wb)
      (fun ix v w' => match ix with
        | 0 => v = .pointer (some ⟨b6, 0, none⟩)
        | 1 => v = .int .i64 an
        | 2 => v = .int .u64 (nA : Int)
        | 3 => v = .pointer (some ⟨b8, 1, none⟩)
        | 4 => v = .int .i64 (bd : Int)
        | 5 => v = .int .u64 (bd : Int)
        | 6 => v = .int .u64 (g : Int)
        | 7 => v = .int .u64 (p4 : Int)
        | 8 => v = .agg #[.int .u64 (hiW N1), .int .u64 (loW N1)]
        | 9 => ∃ b, v = .pointer (some ⟨b, 0, none⟩) ∧ w6.heap.size ≤ b ∧ w'.heap[b]? = some (.cells #[.int .u64 0, .int .u64 0] 54 (0, 0))
        | _ => True) (by rfl) (by kernel_rfl) ?_ ?_ ?_ ?_
    · exact (Below.refl _ _).drew
    · intro wa wb hR ix v hv
      match ix, hv with
      | 0, h => exact h
      | 1, h => exact h
      | 2, h => exact h
      | 3, h => exact h
      | 4, h => exact h
      | 5, h => exact h
      | 6, h => exact h
      | 7, h => exact h
      | 8, h => exact h
      | 9, h => obtain ⟨b, h1, h3, h2⟩ := h; exact ⟨b, h1, h3, (hR.block b (Array.getElem?_eq_some_iff.1 h2).1).trans h2⟩
      | _ + 10, _ => trivial
    · intro ix hix
      obtain rfl | rfl | rfl | rfl | rfl | rfl | rfl | rfl | rfl | rfl : ix = 0 ∨ ix = 1 ∨ ix = 2 ∨ ix = 3 ∨ ix = 4 ∨ ix = 5 ∨ ix = 6 ∨ ix = 7 ∨ ix = 8 ∨ ix = 9 := by omega
      · refine FrontStep.of [] _ rfl (by kernel_rfl) ?_
        intro vs LL wq hLL hC hf
        simp only [putL, List.foldl_nil]
        go_wp2_with fail
        first | exact Below.refl _ _ | exact hC | exact ⟨hC, Below.refl _ _⟩ | exact ⟨hC, Below.refl _ _, by omega⟩ | exact ⟨Below.refl _ _, by omega⟩
      · refine FrontStep.of [0] _ rfl (by kernel_rfl) ?_
        intro vs LL wq hLL hC hf
        simp only [putL, List.foldl_nil, List.foldl_cons, List.getElem?_cons_zero]
        have e0 : vs 0 = _ := hf 0 (by simp)
        rw [e0]
        have g0 := cell_under f60 hC
        go_wp2_with fail
        first | exact Below.refl _ _ | exact hC | exact ⟨hC, Below.refl _ _⟩ | exact ⟨hC, Below.refl _ _, by omega⟩ | exact ⟨Below.refl _ _, by omega⟩
      · refine FrontStep.of [1] _ rfl (by kernel_rfl) ?_
        intro vs LL wq hLL hC hf
        simp only [putL, List.foldl_nil, List.foldl_cons, List.getElem?_cons_zero, List.getElem?_cons_succ]
        have e1 : vs 1 = _ := hf 1 (by simp)
        rw [e1]
        have hcq := unhide sA wq
        replace hcq := hide hcq
        go_wp2_with fail
        refine (unhide hcq).mono ?_
        rintro e wz ⟨rfl, hbz⟩
        clear hcq
        replace hbz := hide hbz
        go_wp2_with fail
        first | exact ⟨hC.trans ((unhide hbz).mono hC.size), unhide hbz⟩ | exact hC.trans ((unhide hbz).mono hC.size) | exact ⟨hC.trans ((unhide hbz).mono hC.size), unhide hbz, rfl⟩
      · refine FrontStep.of [] _ rfl (by kernel_rfl) ?_
        intro vs LL wq hLL hC hf
        simp only [putL, List.foldl_nil]
        go_wp2_with fail
        first | exact Below.refl _ _ | exact hC | exact ⟨hC, Below.refl _ _⟩ | exact ⟨hC, Below.refl _ _, by omega⟩ | exact ⟨Below.refl _ _, by omega⟩
      · refine FrontStep.of [3] _ rfl (by kernel_rfl) ?_
        intro vs LL wq hLL hC hf
        simp only [putL, List.foldl_nil, List.foldl_cons, List.getElem?_cons_zero, List.getElem?_cons_succ]
        have e3 : vs 3 = _ := hf 3 (by simp)
        rw [e3]
        have g0 := cell_under f81 hC
        go_wp2_with fail
        first | exact Below.refl _ _ | exact hC | exact ⟨hC, Below.refl _ _⟩ | exact ⟨hC, Below.refl _ _, by omega⟩ | exact ⟨Below.refl _ _, by omega⟩
      · refine FrontStep.of [2, 4] _ rfl (by kernel_rfl) ?_
        intro vs LL wq hLL hC hf
        simp only [putL, List.foldl_nil, List.foldl_cons, List.getElem?_cons_zero, List.getElem?_cons_succ]
        have e2 : vs 2 = _ := hf 2 (by simp)
        rw [e2]
        have e4 : vs 4 = _ := hf 4 (by simp)
        rw [e4]
        have hcq := unhide sBd wq
        replace hcq := hide hcq
        go_wp2_with fail
        refine (unhide hcq).mono ?_
        rintro e wz ⟨rfl, hbz⟩
        clear hcq
        replace hbz := hide hbz
        go_wp2_with fail
        first | exact ⟨hC.trans ((unhide hbz).mono hC.size), unhide hbz⟩ | exact hC.trans ((unhide hbz).mono hC.size) | exact ⟨hC.trans ((unhide hbz).mono hC.size), unhide hbz, rfl⟩
      · refine FrontStep.of [] _ rfl (by kernel_rfl) ?_
        intro vs LL wq hLL hC hf
        simp only [putL, List.foldl_nil]
        go_wp2_with fail
        first | exact Below.refl _ _ | exact hC | exact ⟨hC, Below.refl _ _⟩ | exact ⟨hC, Below.refl _ _, by omega⟩ | exact ⟨Below.refl _ _, by omega⟩
      · refine FrontStep.of [5, 6] _ rfl (by kernel_rfl) ?_
        intro vs LL wq hLL hC hf
        simp only [putL, List.foldl_nil, List.foldl_cons, List.getElem?_cons_zero, List.getElem?_cons_succ]
        have e5 : vs 5 = _ := hf 5 (by simp)
        rw [e5]
        have e6 : vs 6 = _ := hf 6 (by simp)
        rw [e6]
        have z1 := unhide q4
        have z2 := unhide q4d
        go_wp2_with fail
        first | exact Below.refl _ _ | exact hC | exact ⟨hC, Below.refl _ _⟩ | exact ⟨hC, Below.refl _ _, by omega⟩ | exact ⟨Below.refl _ _, by omega⟩
      · refine FrontStep.of [2, 5, 7] _ rfl (by kernel_rfl) ?_
        intro vs LL wq hLL hC hf
        simp only [putL, List.foldl_nil, List.foldl_cons, List.getElem?_cons_zero, List.getElem?_cons_succ]
        have e2 : vs 2 = _ := hf 2 (by simp)
        rw [e2]
        have e5 : vs 5 = _ := hf 5 (by simp)
        rw [e5]
        have e7 : vs 7 = _ := hf 7 (by simp)
        rw [e7]
        have hcq := unhide pr1 wq
        replace hcq := hide hcq
        go_wp2_with fail
        refine (unhide hcq).mono ?_
        rintro e wz ⟨rfl, hbz⟩
        clear hcq
        replace hbz := hide hbz
        go_wp2_with fail
        first | exact ⟨hC.trans ((unhide hbz).mono hC.size), unhide hbz⟩ | exact hC.trans ((unhide hbz).mono hC.size) | exact ⟨hC.trans ((unhide hbz).mono hC.size), unhide hbz, rfl⟩
      · refine FrontStep.of [] _ rfl (by kernel_rfl) ?_
        intro vs LL wq hLL hC hf
        simp only [putL, List.foldl_nil]
        go_wp2_with fail
        have hn := heap_alloc_new wq (Obj.cells #[.int .u64 0, .int .u64 0] 54)
        have hb1 := (Below.refl wq.heap.size wq).alloc (Nat.le_refl _) (Obj.cells #[.int .u64 0, .int .u64 0] 54)
        first | exact ⟨hC.trans (hb1.mono hC.size), hb1, _, rfl, hC.size, hn⟩ | exact ⟨hC.trans (hb1.mono hC.size), hb1, hC.size, hn⟩ | exact ⟨hC.trans (hb1.mono hC.size), hb1, hC.size, (Array.getElem?_eq_some_iff.1 hn).2⟩
    · intro vs LL wq hLL hC hf
      have hz0 := hz
      have k40 := k4
      have f600 := f60
      have f610 := f61
      have f800 := f80
      have f810 := f81
      obtain ⟨bp, e9, hge, hrz⟩ := hf 9 (by omega)
      have e8 : vs 8 = _ := hf 8 (by omega)
      rw [putSome_all]
      simp only [putL, List.range, List.range.loop, List.foldl_nil, List.foldl_cons, List.getElem?_cons_zero, List.getElem?_cons_succ, List.drop_succ_cons, List.drop_zero]
      rw [e8, e9]
      replace f60 := cell_under f60 hC
      replace f61 := cell_under f61 hC
      replace f80 := cell_under f80 hC
      replace f81 := cell_under f81 hC
      replace k4 := hide (kept hC (Array.getElem?_eq_some_iff.1 (unhide k4)).1 (unhide k4))
      replace hz := hide ((unhide hz).trans (hC.mono (unhide hz).size))
      obtain ⟨z0, z1, g0, g1⟩ := cells2 hrz
      have z1' : (wq.setCell ⟨bp, 0, none⟩ (.int .u64 (hiW N1))).cell? ⟨bp, 1, none⟩ = some (.int .u64 0) := (cell_of_row _ _ 1 _ _ _ (heap_set (off := 0) hrz (.int .u64 (hiW N1)))).trans rfl
      have g1' : (wq.setCell ⟨bp, 0, none⟩ (.int .u64 (hiW N1))).frozen? ⟨bp, 1, none⟩ = false := by simp [World.frozen?, heap_set (off := 0) hrz (.int .u64 (hiW N1))]
      have fbp := hide (set2 hrz (.int .u64 (hiW N1)) (.int .u64 (loW N1)))
      have hws := hC.size
      have hnek4 : b4 ≠ bp := fun e => by have := (Array.getElem?_eq_some_iff.1 (unhide k40)).1; omega
      replace k4 := hide (set2o (.int .u64 (hiW N1)) (.int .u64 (loW N1)) hnek4 (unhide k4))
      have f60s : ((wq.setCell ⟨bp, 0, none⟩ (.int .u64 (hiW N1))).setCell ⟨bp, 1, none⟩ (.int .u64 (loW N1))).cell? ⟨b6, 0, none⟩ = some (.int .i64 an) := cell_set2 (fun e => by have := World.block_lt_of_cell? w6 ⟨b6, 0, none⟩ f600; simp at this; omega) f60
      have f61s : ((wq.setCell ⟨bp, 0, none⟩ (.int .u64 (hiW N1))).setCell ⟨bp, 1, none⟩ (.int .u64 (loW N1))).cell? ⟨b6, 1, none⟩ = some (.int .i64 (ad : Int)) := cell_set2 (fun e => by have := World.block_lt_of_cell? w6 ⟨b6, 1, none⟩ f610; simp at this; omega) f61
      have f80s : ((wq.setCell ⟨bp, 0, none⟩ (.int .u64 (hiW N1))).setCell ⟨bp, 1, none⟩ (.int .u64 (loW N1))).cell? ⟨b8, 0, none⟩ = some (.int .i64 bn) := cell_set2 (fun e => by have := World.block_lt_of_cell? w6 ⟨b8, 0, none⟩ f800; simp at this; omega) f80
      have f81s : ((wq.setCell ⟨bp, 0, none⟩ (.int .u64 (hiW N1))).setCell ⟨bp, 1, none⟩ (.int .u64 (loW N1))).cell? ⟨b8, 1, none⟩ = some (.int .i64 (bd : Int)) := cell_set2 (fun e => by have := World.block_lt_of_cell? w6 ⟨b8, 1, none⟩ f810; simp at this; omega) f81
      replace hz := hide (((unhide hz).setCell (p := ⟨bp, 0, none⟩) (by have := (unhide hz0).size; simp; omega) (.int .u64 (hiW N1))).setCell (p := ⟨bp, 1, none⟩) (by have := (unhide hz0).size; simp; omega) (.int .u64 (loW N1)))
      obtain ⟨wf, hwf⟩ : ∃ wf, ((wq.setCell ⟨bp, 0, none⟩ (.int .u64 (hiW N1))).setCell ⟨bp, 1, none⟩ (.int .u64 (loW N1))) = wf := ⟨_, rfl⟩
      rw [hwf] at f60s f61s f80s f81s fbp hz k4
      clear f60 f61 f80 f81 hrz hf hLL hC e8 e9 hge hws hnek4 k40 hz0 f600 f610 f800 f810
      have f60 := hide f60s; have f61 := hide f61s; have f80 := hide f80s; have f81 := hide f81s
      clear f60s f61s f80s f81s
      replace hwf := hide hwf
      go_simp
      go_upto_region 7 with fail
      rw [unhide hwf]
      clear hwf z0 z1 g0 g1 z1' g1'
      obtain ⟨w6, rfl⟩ : ∃ W : World, W = wf := ⟨_, rfl⟩
      replace f60 := unhide f60; replace f61 := unhide f61; replace f80 := unhide f80; replace f81 := unhide f81
      refine wp_region_frontG 10 (fun _ _ w' => Below w6.heap.size w6 w') (fun wa wb => Below wa.heap.size wa wb)
        (fun ix v w' => match ix with
          | 0 => v = .pointer (some ⟨b8, 0, none⟩)
          | 1 => v = .int .i64 bn
          | 2 => v = .int .u64 (nB : Int)
          | 3 => v = .pointer (some ⟨b6, 1, none⟩)
          | 4 => v = .int .i64 (ad : Int)
          | 5 => v = .int .u64 (ad : Int)
          | 6 => v = .int .u64 (g : Int)
          | 7 => v = .int .u64 (p3 : Int)
          | 8 => v = .agg #[.int .u64 (hiW N2), .int .u64 (loW N2)]
          | 9 => ∃ b, v = .pointer (some ⟨b, 0, none⟩) ∧ w6.heap.size ≤ b ∧ w'.heap[b]? = some (.cells #[.int .u64 0, .int .u64 0] 54 (0, 0))
          | _ => True) (by rfl) (by kernel_rfl) ?_ ?_ ?_ ?_
      · exact (Below.refl _ _).drew
      · intro wa wb hR ix v hv
        match ix, hv with
        | 0, h => exact h
        | 1, h => exact h
        | 2, h => exact h
        | 3, h => exact h
        | 4, h => exact h
        | 5, h => exact h
        | 6, h => exact h
        | 7, h => exact h
        | 8, h => exact h
        | 9, h => obtain ⟨b, h1, h3, h2⟩ := h; exact ⟨b, h1, h3, (hR.block b (Array.getElem?_eq_some_iff.1 h2).1).trans h2⟩
        | _ + 10, _ => trivial
      · intro ix hix
        obtain rfl | rfl | rfl | rfl | rfl | rfl | rfl | rfl | rfl | rfl : ix = 0 ∨ ix = 1 ∨ ix = 2 ∨ ix = 3 ∨ ix = 4 ∨ ix = 5 ∨ ix = 6 ∨ ix = 7 ∨ ix = 8 ∨ ix = 9 := by omega
        · refine FrontStep.of [] _ rfl (by kernel_rfl) ?_
          intro vs LL wq hLL hC hf
          simp only [putL, List.foldl_nil]
          go_wp2_with fail
          first | exact Below.refl _ _ | exact hC | exact ⟨hC, Below.refl _ _⟩ | exact ⟨hC, Below.refl _ _, by omega⟩ | exact ⟨Below.refl _ _, by omega⟩
        · refine FrontStep.of [0] _ rfl (by kernel_rfl) ?_
          intro vs LL wq hLL hC hf
          simp only [putL, List.foldl_nil, List.foldl_cons, List.getElem?_cons_zero]
          have e0 : vs 0 = _ := hf 0 (by simp)
          rw [e0]
          have g0 := cell_under f80 hC
          go_wp2_with fail
          first | exact Below.refl _ _ | exact hC | exact ⟨hC, Below.refl _ _⟩ | exact ⟨hC, Below.refl _ _, by omega⟩ | exact ⟨Below.refl _ _, by omega⟩
        · refine FrontStep.of [1] _ rfl (by kernel_rfl) ?_
          intro vs LL wq hLL hC hf
          simp only [putL, List.foldl_nil, List.foldl_cons, List.getElem?_cons_zero, List.getElem?_cons_succ]
          have e1 : vs 1 = _ := hf 1 (by simp)
          rw [e1]
          have hcq := unhide sB wq
          replace hcq := hide hcq
          go_wp2_with fail
          refine (unhide hcq).mono ?_
          rintro e wz ⟨rfl, hbz⟩
          clear hcq
          replace hbz := hide hbz
          go_wp2_with fail
          first | exact ⟨hC.trans ((unhide hbz).mono hC.size), unhide hbz⟩ | exact hC.trans ((unhide hbz).mono hC.size) | exact ⟨hC.trans ((unhide hbz).mono hC.size), unhide hbz, rfl⟩
        · refine FrontStep.of [] _ rfl (by kernel_rfl) ?_
          intro vs LL wq hLL hC hf
          simp only [putL, List.foldl_nil]
          go_wp2_with fail
          first | exact Below.refl _ _ | exact hC | exact ⟨hC, Below.refl _ _⟩ | exact ⟨hC, Below.refl _ _, by omega⟩ | exact ⟨Below.refl _ _, by omega⟩
        · refine FrontStep.of [3] _ rfl (by kernel_rfl) ?_
          intro vs LL wq hLL hC hf
          simp only [putL, List.foldl_nil, List.foldl_cons, List.getElem?_cons_zero, List.getElem?_cons_succ]
          have e3 : vs 3 = _ := hf 3 (by simp)
          rw [e3]
          have g0 := cell_under f61 hC
          go_wp2_with fail
          first | exact Below.refl _ _ | exact hC | exact ⟨hC, Below.refl _ _⟩ | exact ⟨hC, Below.refl _ _, by omega⟩ | exact ⟨Below.refl _ _, by omega⟩
        · refine FrontStep.of [2, 4] _ rfl (by kernel_rfl) ?_
          intro vs LL wq hLL hC hf
          simp only [putL, List.foldl_nil, List.foldl_cons, List.getElem?_cons_zero, List.getElem?_cons_succ]
          have e2 : vs 2 = _ := hf 2 (by simp)
          rw [e2]
          have e4 : vs 4 = _ := hf 4 (by simp)
          rw [e4]
          have hcq := unhide sAd wq
          replace hcq := hide hcq
          go_wp2_with fail
          refine (unhide hcq).mono ?_
          rintro e wz ⟨rfl, hbz⟩
          clear hcq
          replace hbz := hide hbz
          go_wp2_with fail
          first | exact ⟨hC.trans ((unhide hbz).mono hC.size), unhide hbz⟩ | exact hC.trans ((unhide hbz).mono hC.size) | exact ⟨hC.trans ((unhide hbz).mono hC.size), unhide hbz, rfl⟩
        · refine FrontStep.of [] _ rfl (by kernel_rfl) ?_
          intro vs LL wq hLL hC hf
          simp only [putL, List.foldl_nil]
          go_wp2_with fail
          first | exact Below.refl _ _ | exact hC | exact ⟨hC, Below.refl _ _⟩ | exact ⟨hC, Below.refl _ _, by omega⟩ | exact ⟨Below.refl _ _, by omega⟩
        · refine FrontStep.of [5, 6] _ rfl (by kernel_rfl) ?_
          intro vs LL wq hLL hC hf
          simp only [putL, List.foldl_nil, List.foldl_cons, List.getElem?_cons_zero, List.getElem?_cons_succ]
          have e5 : vs 5 = _ := hf 5 (by simp)
          rw [e5]
          have e6 : vs 6 = _ := hf 6 (by simp)
          rw [e6]
          have z1 := unhide q3
          have z2 := unhide q3d
          go_wp2_with fail
          first | exact Below.refl _ _ | exact hC | exact ⟨hC, Below.refl _ _⟩ | exact ⟨hC, Below.refl _ _, by omega⟩ | exact ⟨Below.refl _ _, by omega⟩
        · refine FrontStep.of [2, 5, 7] _ rfl (by kernel_rfl) ?_
          intro vs LL wq hLL hC hf
          simp only [putL, List.foldl_nil, List.foldl_cons, List.getElem?_cons_zero, List.getElem?_cons_succ]
          have e2 : vs 2 = _ := hf 2 (by simp)
          rw [e2]
          have e5 : vs 5 = _ := hf 5 (by simp)
          rw [e5]
          have e7 : vs 7 = _ := hf 7 (by simp)
          rw [e7]
          have hcq := unhide pr2 wq
          replace hcq := hide hcq
          go_wp2_with fail
          refine (unhide hcq).mono ?_
          rintro e wz ⟨rfl, hbz⟩
          clear hcq
          replace hbz := hide hbz
          go_wp2_with fail
          first | exact ⟨hC.trans ((unhide hbz).mono hC.size), unhide hbz⟩ | exact hC.trans ((unhide hbz).mono hC.size) | exact ⟨hC.trans ((unhide hbz).mono hC.size), unhide hbz, rfl⟩
        · refine FrontStep.of [] _ rfl (by kernel_rfl) ?_
          intro vs LL wq hLL hC hf
          simp only [putL, List.foldl_nil]
          go_wp2_with fail
          have hn := heap_alloc_new wq (Obj.cells #[.int .u64 0, .int .u64 0] 54)
          have hb1 := (Below.refl wq.heap.size wq).alloc (Nat.le_refl _) (Obj.cells #[.int .u64 0, .int .u64 0] 54)
          first | exact ⟨hC.trans (hb1.mono hC.size), hb1, _, rfl, hC.size, hn⟩ | exact ⟨hC.trans (hb1.mono hC.size), hb1, hC.size, hn⟩ | exact ⟨hC.trans (hb1.mono hC.size), hb1, hC.size, (Array.getElem?_eq_some_iff.1 hn).2⟩
      · intro vs LL wq hLL hC hf
        have hz0 := hz
        have k40 := k4
        have fbp0 := fbp
        have f600 := f60
        have f610 := f61
        have f800 := f80
        have f810 := f81
        obtain ⟨bq, e9, hge, hrz⟩ := hf 9 (by omega)
        have e8 : vs 8 = _ := hf 8 (by omega)
        rw [putSome_all]
        simp only [putL, List.range, List.range.loop, List.foldl_nil, List.foldl_cons, List.getElem?_cons_zero, List.getElem?_cons_succ, List.drop_succ_cons, List.drop_zero]
        rw [e8, e9]
        replace f60 := cell_under f60 hC
        replace f61 := cell_under f61 hC
        replace f80 := cell_under f80 hC
        replace f81 := cell_under f81 hC
        replace k4 := hide (kept hC (Array.getElem?_eq_some_iff.1 (unhide k4)).1 (unhide k4))
        replace fbp := hide (kept hC (Array.getElem?_eq_some_iff.1 (unhide fbp)).1 (unhide fbp))
        replace hz := hide ((unhide hz).trans (hC.mono (unhide hz).size))
        obtain ⟨z0, z1, g0, g1⟩ := cells2 hrz
        have z1' : (wq.setCell ⟨bq, 0, none⟩ (.int .u64 (hiW N2))).cell? ⟨bq, 1, none⟩ = some (.int .u64 0) := (cell_of_row _ _ 1 _ _ _ (heap_set (off := 0) hrz (.int .u64 (hiW N2)))).trans rfl
        have g1' : (wq.setCell ⟨bq, 0, none⟩ (.int .u64 (hiW N2))).frozen? ⟨bq, 1, none⟩ = false := by simp [World.frozen?, heap_set (off := 0) hrz (.int .u64 (hiW N2))]
        have fbq := hide (set2 hrz (.int .u64 (hiW N2)) (.int .u64 (loW N2)))
        have hws := hC.size
        have hnek4 : b4 ≠ bq := fun e => by have := (Array.getElem?_eq_some_iff.1 (unhide k40)).1; omega
        replace k4 := hide (set2o (.int .u64 (hiW N2)) (.int .u64 (loW N2)) hnek4 (unhide k4))
        have hnefbp : bp ≠ bq := fun e => by have := (Array.getElem?_eq_some_iff.1 (unhide fbp0)).1; omega
        replace fbp := hide (set2o (.int .u64 (hiW N2)) (.int .u64 (loW N2)) hnefbp (unhide fbp))
        have f60s : ((wq.setCell ⟨bq, 0, none⟩ (.int .u64 (hiW N2))).setCell ⟨bq, 1, none⟩ (.int .u64 (loW N2))).cell? ⟨b6, 0, none⟩ = some (.int .i64 an) := cell_set2 (fun e => by have := World.block_lt_of_cell? w6 ⟨b6, 0, none⟩ f600; simp at this; omega) f60
        have f61s : ((wq.setCell ⟨bq, 0, none⟩ (.int .u64 (hiW N2))).setCell ⟨bq, 1, none⟩ (.int .u64 (loW N2))).cell? ⟨b6, 1, none⟩ = some (.int .i64 (ad : Int)) := cell_set2 (fun e => by have := World.block_lt_of_cell? w6 ⟨b6, 1, none⟩ f610; simp at this; omega) f61
        have f80s : ((wq.setCell ⟨bq, 0, none⟩ (.int .u64 (hiW N2))).setCell ⟨bq, 1, none⟩ (.int .u64 (loW N2))).cell? ⟨b8, 0, none⟩ = some (.int .i64 bn) := cell_set2 (fun e => by have := World.block_lt_of_cell? w6 ⟨b8, 0, none⟩ f800; simp at this; omega) f80
        have f81s : ((wq.setCell ⟨bq, 0, none⟩ (.int .u64 (hiW N2))).setCell ⟨bq, 1, none⟩ (.int .u64 (loW N2))).cell? ⟨b8, 1, none⟩ = some (.int .i64 (bd : Int)) := cell_set2 (fun e => by have := World.block_lt_of_cell? w6 ⟨b8, 1, none⟩ f810; simp at this; omega) f81
        replace hz := hide (((unhide hz).setCell (p := ⟨bq, 0, none⟩) (by have := (unhide hz0).size; simp; omega) (.int .u64 (hiW N2))).setCell (p := ⟨bq, 1, none⟩) (by have := (unhide hz0).size; simp; omega) (.int .u64 (loW N2)))
        obtain ⟨wf, hwf⟩ : ∃ wf, ((wq.setCell ⟨bq, 0, none⟩ (.int .u64 (hiW N2))).setCell ⟨bq, 1, none⟩ (.int .u64 (loW N2))) = wf := ⟨_, rfl⟩
        rw [hwf] at f60s f61s f80s f81s fbq hz k4 fbp
        clear f60 f61 f80 f81 hrz hf hLL hC e8 e9 hge hws hnek4 k40 hnefbp fbp0 hz0 f600 f610 f800 f810
        have f60 := hide f60s; have f61 := hide f61s; have f80 := hide f80s; have f81 := hide f81s
        clear f60s f61s f80s f81s
        replace hwf := hide hwf
        go_simp
        go_upto_region 8 with fail
        rw [unhide hwf]
        clear hwf z0 z1 g0 g1 z1' g1'
        obtain ⟨w6, rfl⟩ : ∃ W : World, W = wf := ⟨_, rfl⟩
        replace f60 := unhide f60; replace f61 := unhide f61; replace f80 := unhide f80; replace f81 := unhide f81
        have hPQ := unhide bP
        have hPQ2 := unhide bQ
        obtain ⟨c0, c1, _, _⟩ := cells2 (unhide fbp)
        obtain ⟨d0, d1, _, _⟩ := cells2 (unhide fbq)
        have hpl := rplus_any N1 N2 _ _ _ _ w6 rfl rfl rfl rfl (by omega)
        have hPQs : N1 + N2 < 340282366920938463463374607431768211456 := by omega
        have hN1 : N1 < 340282366920938463463374607431768211456 := by omega
        have hN2 : N2 < 340282366920938463463374607431768211456 := by omega
        clear hPQ hPQ2 bP bQ sA sB pr1 pr2
        replace hpl := hide hpl; replace hPQs := hide hPQs; replace hN1 := hide hN1; replace hN2 := hide hN2
        go_wp2_with fail
        refine (unhide hpl).mono ?_
        rintro e w7 ⟨rfl, hb7⟩
        clear hpl c0 c1 d0 d1
        replace f60 := cell_under f60 hb7
        replace f61 := cell_under f61 hb7
        replace f80 := cell_under f80 hb7
        replace f81 := cell_under f81 hb7
        replace k4 := hide (kept hb7 (Array.getElem?_eq_some_iff.1 (unhide k4)).1 (unhide k4))
        replace fbp := hide (kept hb7 (Array.getElem?_eq_some_iff.1 (unhide fbp)).1 (unhide fbp))
        replace fbq := hide (kept hb7 (Array.getElem?_eq_some_iff.1 (unhide fbq)).1 (unhide fbq))
        replace hz := hide ((unhide hz).trans (hb7.mono (unhide hz).size))
        obtain ⟨bt, Vt, hbt, hVt, st⟩ := (St.start w7).new (Obj.cells #[.int .u64 (hiW (N1 + N2)), .int .u64 (loW (N1 + N2))] 54)
        have hn6 : b6 ≠ bt := fun e => by have := World.block_lt_of_cell? w7 ⟨b6, 1, none⟩ f61; simp at this; omega
        have hn8 : b8 ≠ bt := fun e => by have := World.block_lt_of_cell? w7 ⟨b8, 1, none⟩ f81; simp at this; omega
        have hn4 : b4 ≠ bt := fun e => by have := (Array.getElem?_eq_some_iff.1 (unhide k4)).1; omega
        have hnt : w.heap.size ≤ bt := by have := (unhide hz).size; omega
        have hbl := st.below
        replace f60 := cell_under f60 hbl
        replace f61 := cell_under f61 hbl
        replace f80 := cell_under f80 hbl
        replace f81 := cell_under f81 hbl
        replace k4 := hide (kept hbl (Array.getElem?_eq_some_iff.1 (unhide k4)).1 (unhide k4))
        replace fbp := hide (kept hbl (Array.getElem?_eq_some_iff.1 (unhide fbp)).1 (unhide fbp))
        replace fbq := hide (kept hbl (Array.getElem?_eq_some_iff.1 (unhide fbq)).1 (unhide fbq))
        replace hz := hide ((unhide hz).trans (hbl.mono (unhide hz).size))
        have ft := hide (st.get 0 rfl)
        clear st hbl hb7
        replace f60 := hide f60; replace f61 := hide f61; replace f80 := hide f80; replace f81 := hide f81; replace hbt := hide hbt; replace hVt := hide hVt
        go_upto_region 9 with fail
        rw [unhide hVt]
        try rw [unhide hbt]
        clear hbt hVt
        obtain ⟨w9, rfl⟩ : ∃ W : World, W = Vt := ⟨_, rfl⟩
        replace f60 := unhide f60; replace f61 := unhide f61; replace f80 := unhide f80; replace f81 := unhide f81
        have xsa := unhide hsa
        have xsb := unhide hsb
        go_upto_if 76 with fail
        clear xsa xsb
        go_cut [14] (fun v14 wr => ∃ (neg : Bool) (t : Nat), v14 = .bool neg ∧ an * (p4 : Int) + bn * (p3 : Int) = Ex.sg neg t ∧ t < 340282366920938463463374607431768211456 ∧ wr.heap[bt]? = some (.cells #[.int .u64 (hiW t), .int .u64 (loW t)] 54 (0, 0)) ∧ wr.cell? ⟨b6, 1, none⟩ = some (.int .i64 (ad : Int)) ∧ wr.cell? ⟨b8, 1, none⟩ = some (.int .i64 (bd : Int)) ∧ wr.heap[b4]? = some (.cells #[.int .i64 0, .int .i64 0] 33 (0, 0)) ∧ Below w.heap.size w wr)
        case first =>
          have hN1' := unhide hN1
          have hN2' := unhide hN2
          by_cases hxy : sa = sb
          · have hsm := (unhide hsame) (by rw [unhide hsa, unhide hsb, hxy])
            rw [unhide hsa] at hsm
            replace hsm := hide hsm
            clear hN1' hN2'
            subst hxy
            cases sa
            all_goals
              go_wp2_with fail
              go_meet
              exact ⟨_, N1 + N2, rfl, unhide hsm, unhide hPQs, unhide ft, f61, f81, unhide k4, unhide hz⟩
          · have hny := bool_not hxy
            clear hxy
            obtain ⟨c0, c1, _, _⟩ := cells2 (unhide fbp)
            obtain ⟨d0, d1, _, _⟩ := cells2 (unhide fbq)
            have hls := less_any N1 N2 _ _ _ _ w9 rfl rfl rfl rfl
            obtain ⟨x, hx⟩ : ∃ x, decide (N1 < N2) = x := ⟨_, rfl⟩
            rw [hx] at hls
            replace hls := hide hls; replace hx := hide hx
            subst hny
            cases sb
            all_goals
              replace hN1' := hide hN1'; replace hN2' := hide hN2'
              go_wp2_with fail
              refine (unhide hls).mono ?_
              rintro e w10 ⟨rfl, hb10⟩
              clear hls c0 c1 d0 d1
              replace f60 := cell_under f60 hb10
              replace f61 := cell_under f61 hb10
              replace f80 := cell_under f80 hb10
              replace f81 := cell_under f81 hb10
              replace k4 := hide (kept hb10 (Array.getElem?_eq_some_iff.1 (unhide k4)).1 (unhide k4))
              replace ft := hide (kept hb10 (Array.getElem?_eq_some_iff.1 (unhide ft)).1 (unhide ft))
              replace fbp := hide (kept hb10 (Array.getElem?_eq_some_iff.1 (unhide fbp)).1 (unhide fbp))
              replace fbq := hide (kept hb10 (Array.getElem?_eq_some_iff.1 (unhide fbq)).1 (unhide fbq))
              replace hz := hide ((unhide hz).trans (hb10.mono (unhide hz).size))
              clear hb10
              replace hN1' := unhide hN1'; replace hN2' := unhide hN2'
              cases x with
              | true =>
                have hl : N1 < N2 := of_decide_eq_true (unhide hx)
                have hll := (unhide hlt) (by rw [unhide hsa, unhide hsb]; try rfl) hl
                rw [unhide hsb] at hll
                have hmi := rminus_any N2 N1 _ _ _ _ w10 rfl rfl rfl rfl (by omega) (by omega)
                have hfin : N2 - N1 < 340282366920938463463374607431768211456 := by omega
                obtain ⟨c0, c1, _, _⟩ := cells2 (unhide fbp)
                obtain ⟨d0, d1, _, _⟩ := cells2 (unhide fbq)
                replace hll := hide hll; replace hmi := hide hmi; replace hfin := hide hfin
                clear hl
                go_wp2_with fail
                refine (unhide hmi).mono ?_
                rintro e w11 ⟨rfl, hb11⟩
                clear hmi c0 c1 d0 d1
                replace f60 := cell_under f60 hb11
                replace f61 := cell_under f61 hb11
                replace f80 := cell_under f80 hb11
                replace f81 := cell_under f81 hb11
                replace k4 := hide (kept hb11 (Array.getElem?_eq_some_iff.1 (unhide k4)).1 (unhide k4))
                replace ft := hide (kept hb11 (Array.getElem?_eq_some_iff.1 (unhide ft)).1 (unhide ft))
                replace hz := hide ((unhide hz).trans (hb11.mono (unhide hz).size))
                clear hb11 fbp fbq
                have f80s := hide (cell_set2 (x := .int .u64 (hiW (N2 - N1))) (y := .int .u64 (loW (N2 - N1))) hn8 f80)
                obtain ⟨tz0, tz1, tf0, tf1⟩ := cells2 (unhide ft)
                have tz1' : (w11.setCell ⟨bt, 0, none⟩ (.int .u64 (hiW (N2 - N1)))).cell? ⟨bt, 1, none⟩ = _ := (cell_of_row _ _ 1 _ _ _ (heap_set (off := 0) (unhide ft) (.int .u64 (hiW (N2 - N1))))).trans rfl
                have tf1' : (w11.setCell ⟨bt, 0, none⟩ (.int .u64 (hiW (N2 - N1)))).frozen? ⟨bt, 1, none⟩ = false := by simp [World.frozen?, heap_set (off := 0) (unhide ft) (.int .u64 (hiW (N2 - N1)))]
                have fts := hide (set2 (unhide ft) (.int .u64 (hiW (N2 - N1))) (.int .u64 (loW (N2 - N1))))
                have f61s := hide (cell_set2 (x := (.int .u64 (hiW (N2 - N1)))) (y := (.int .u64 (loW (N2 - N1)))) hn6 f61)
                have f81s := hide (cell_set2 (x := (.int .u64 (hiW (N2 - N1)))) (y := (.int .u64 (loW (N2 - N1)))) hn8 f81)
                have k4s := hide (set2o (.int .u64 (hiW (N2 - N1))) (.int .u64 (loW (N2 - N1))) hn4 (unhide k4))
                have hzs := hide (((unhide hz).setCell (p := ⟨bt, 0, none⟩) hnt (.int .u64 (hiW (N2 - N1)))).setCell (p := ⟨bt, 1, none⟩) hnt (.int .u64 (loW (N2 - N1))))
                obtain ⟨wg, hwg⟩ : ∃ W, ((w11.setCell ⟨bt, 0, none⟩ (.int .u64 (hiW (N2 - N1)))).setCell ⟨bt, 1, none⟩ (.int .u64 (loW (N2 - N1)))) = W := ⟨_, rfl⟩
                have f80t := f80s
                rw [hwg] at f80t
                clear f80s f80
                rw [hwg] at fts f61s f81s k4s hzs
                clear f61 f81 ft k4 hz
                replace hwg := hide hwg
                go_upto_region 13 with fail
                rw [unhide hwg]
                clear hwg tz0 tz1 tf0 tf1 tz1' tf1'
                have f61 := unhide f61s
                have f81 := unhide f81s
                have ft := fts
                have k4 := k4s
                have hz := hzs
                clear f61s f81s fts k4s hzs
                have f80 := unhide f80t
                clear f80t
                have xsb := unhide hsb
                go_wp2_with fail
                go_meet
                exact ⟨_, N2 - N1, rfl, unhide hll, unhide hfin, unhide ft, f61, f81, unhide k4, unhide hz⟩
              | false =>
                have hl : ¬ N1 < N2 := of_decide_eq_false (unhide hx)
                have hll := (unhide hge) (by rw [unhide hsa, unhide hsb]; try rfl) (by omega)
                rw [unhide hsa] at hll
                have hmi := rminus_any N1 N2 _ _ _ _ w10 rfl rfl rfl rfl (by omega) (by omega)
                have hfin : N1 - N2 < 340282366920938463463374607431768211456 := by omega
                obtain ⟨c0, c1, _, _⟩ := cells2 (unhide fbp)
                obtain ⟨d0, d1, _, _⟩ := cells2 (unhide fbq)
                replace hll := hide hll; replace hmi := hide hmi; replace hfin := hide hfin
                clear hl
                go_wp2_with fail
                refine (unhide hmi).mono ?_
                rintro e w11 ⟨rfl, hb11⟩
                clear hmi c0 c1 d0 d1
                replace f60 := cell_under f60 hb11
                replace f61 := cell_under f61 hb11
                replace f80 := cell_under f80 hb11
                replace f81 := cell_under f81 hb11
                replace k4 := hide (kept hb11 (Array.getElem?_eq_some_iff.1 (unhide k4)).1 (unhide k4))
                replace ft := hide (kept hb11 (Array.getElem?_eq_some_iff.1 (unhide ft)).1 (unhide ft))
                replace hz := hide ((unhide hz).trans (hb11.mono (unhide hz).size))
                clear hb11 fbp fbq
                clear f60 f80
                obtain ⟨tz0, tz1, tf0, tf1⟩ := cells2 (unhide ft)
                have tz1' : (w11.setCell ⟨bt, 0, none⟩ (.int .u64 (hiW (N1 - N2)))).cell? ⟨bt, 1, none⟩ = _ := (cell_of_row _ _ 1 _ _ _ (heap_set (off := 0) (unhide ft) (.int .u64 (hiW (N1 - N2))))).trans rfl
                have tf1' : (w11.setCell ⟨bt, 0, none⟩ (.int .u64 (hiW (N1 - N2)))).frozen? ⟨bt, 1, none⟩ = false := by simp [World.frozen?, heap_set (off := 0) (unhide ft) (.int .u64 (hiW (N1 - N2)))]
                have fts := hide (set2 (unhide ft) (.int .u64 (hiW (N1 - N2))) (.int .u64 (loW (N1 - N2))))
                have f61s := hide (cell_set2 (x := (.int .u64 (hiW (N1 - N2)))) (y := (.int .u64 (loW (N1 - N2)))) hn6 f61)
                have f81s := hide (cell_set2 (x := (.int .u64 (hiW (N1 - N2)))) (y := (.int .u64 (loW (N1 - N2)))) hn8 f81)
                have k4s := hide (set2o (.int .u64 (hiW (N1 - N2))) (.int .u64 (loW (N1 - N2))) hn4 (unhide k4))
                have hzs := hide (((unhide hz).setCell (p := ⟨bt, 0, none⟩) hnt (.int .u64 (hiW (N1 - N2)))).setCell (p := ⟨bt, 1, none⟩) hnt (.int .u64 (loW (N1 - N2))))
                obtain ⟨wg, hwg⟩ : ∃ W, ((w11.setCell ⟨bt, 0, none⟩ (.int .u64 (hiW (N1 - N2)))).setCell ⟨bt, 1, none⟩ (.int .u64 (loW (N1 - N2)))) = W := ⟨_, rfl⟩
                rw [hwg] at fts f61s f81s k4s hzs
                clear f61 f81 ft k4 hz
                replace hwg := hide hwg
                go_wp2_with fail
                rw [unhide hwg]
                go_meet
                exact ⟨_, N1 - N2, rfl, unhide hll, unhide hfin, unhide fts, unhide f61s, unhide f81s, unhide k4s, unhide hzs⟩
        case rest =>
          obtain ⟨neg, t, rfl, ht, htl, ft, f61, f81, k4, hz⟩ := hcut
          obtain ⟨r1, r2, r3⟩ := (unhide hform) neg t ht
          obtain ⟨w6, rfl⟩ : ∃ W : World, W = wc := ⟨_, rfl⟩
          have hgl0 : g ≤ 9223372036854775808 := by omega
          have dv1 := divide_any t g _ _ _ w6 rfl rfl rfl (by omega) hgl0 htl
          have hgl : Nat.gcd (t % g) g ≤ g := Nat.gcd_le_right _ (by omega)
          have gc2 := fun w => (rgcd_any (t % g) g w).mono fun e w' (h : e = .returned (.int .u64 ((Nat.gcd (t % g) g : Nat) : Int)) ∧ ∃ n, w' = w.drewN n) => (⟨h.1, by obtain ⟨n, hn⟩ := h.2; rw [hn]; exact below_drewN _ _⟩ : e = .returned (.int .u64 ((Nat.gcd (t % g) g : Nat) : Int)) ∧ Below w.heap.size w w')
          generalize Nat.gcd (t % g) g = h at *
          have dv2 := fun w => divide_any t h _ _ _ w rfl rfl rfl r3 (by omega) htl
          have b5 : bd / h ≤ bd := Nat.div_le_self _ _
          obtain ⟨q5, q5d⟩ := quo_u64 bd h (by omega)
          generalize t / h = N at *
          generalize t % h = N' at *
          generalize bd / h = p5 at *
          generalize t % g = M at *
          generalize t / g = M' at *
          have pr3 := fun w => product_any p3 p5 _ _ rfl rfl (by omega) (by omega) w
          have hrv := ratS_val neg N (p3 * p5)
          rw [(unhide hres) neg N (p3 * p5) r1 r2] at hrv
          generalize p3 * p5 = D at *
          have wh1 := fun w => rwhole_any neg _ _ N w rfl rfl
          have wh2 := fun w => rwhole_any false _ _ D w rfl rfl
          generalize valI (Ex.fitI (Ex.sg neg N)) = X at *
          generalize okI (Ex.fitI (Ex.sg neg N)) = O1 at *
          generalize valI (Ex.fitI (Ex.sg false D)) = Y at *
          generalize okI (Ex.fitI (Ex.sg false D)) = O2 at *
          have z3 : ¬ (h : Int) = 0 := by omega
          have z4 : ¬ h = 0 := by omega
          clear r1 r2 b5 hres hform hsame hlt hge ht htl hgl hgl0
          replace ft := hide ft; replace k4 := hide k4; replace hz := hide hz
          replace dv1 := hide dv1; replace dv2 := hide dv2; replace gc2 := hide gc2; replace pr3 := hide pr3; replace wh1 := hide wh1; replace wh2 := hide wh2; replace hrv := hide hrv; replace q5 := hide q5; replace q5d := hide q5d
          obtain ⟨c0, c1, _, _⟩ := cells2 (unhide ft)
          go_wp2_with fail
          refine (unhide dv1).mono ?_
          rintro e w7 ⟨rfl, hb7⟩
          clear dv1 c0 c1
          replace f61 := cell_under f61 hb7
          replace f81 := cell_under f81 hb7
          replace ft := hide (kept hb7 (Array.getElem?_eq_some_iff.1 (unhide ft)).1 (unhide ft))
          replace k4 := hide (kept hb7 (Array.getElem?_eq_some_iff.1 (unhide k4)).1 (unhide k4))
          replace hz := hide ((unhide hz).trans (hb7.mono (unhide hz).size))
          obtain ⟨bu, Vu, hbu, hVu, st⟩ := (St.start w7).new (Obj.cells #[.int .u64 (hiW M'), .int .u64 (loW M')] 54)
          have hbl := st.below
          replace f61 := cell_under f61 hbl
          replace f81 := cell_under f81 hbl
          replace ft := hide (kept hbl (Array.getElem?_eq_some_iff.1 (unhide ft)).1 (unhide ft))
          replace k4 := hide (kept hbl (Array.getElem?_eq_some_iff.1 (unhide k4)).1 (unhide k4))
          replace hz := hide ((unhide hz).trans (hbl.mono (unhide hz).size))
          clear st hbl hb7
          have gcv := unhide gc2 Vu
          replace gcv := hide gcv; replace hbu := hide hbu; replace hVu := hide hVu
          go_wp2_with fail
          rw [unhide hVu]
          try rw [unhide hbu]
          refine (unhide gcv).mono ?_
          rintro e w8 ⟨rfl, hb8⟩
          replace f61 := cell_under f61 hb8
          replace f81 := cell_under f81 hb8
          replace ft := hide (kept hb8 (Array.getElem?_eq_some_iff.1 (unhide ft)).1 (unhide ft))
          replace k4 := hide (kept hb8 (Array.getElem?_eq_some_iff.1 (unhide k4)).1 (unhide k4))
          replace hz := hide ((unhide hz).trans (hb8.mono (unhide hz).size))
          clear hb8 gcv gc2 hbu hVu
          obtain ⟨c0, c1, _, _⟩ := cells2 (unhide ft)
          have dvv := hide (unhide dv2 w8)
          go_wp2_with fail
          refine (unhide dvv).mono ?_
          rintro e w9' ⟨rfl, hb9⟩
          clear dvv dv2 c0 c1
          replace f61 := cell_under f61 hb9
          replace f81 := cell_under f81 hb9
          replace ft := hide (kept hb9 (Array.getElem?_eq_some_iff.1 (unhide ft)).1 (unhide ft))
          replace k4 := hide (kept hb9 (Array.getElem?_eq_some_iff.1 (unhide k4)).1 (unhide k4))
          replace hz := hide ((unhide hz).trans (hb9.mono (unhide hz).size))
          clear hb9
          obtain ⟨tz0, tz1, tf0, tf1⟩ := cells2 (unhide ft)
          have tz1' : (w9'.setCell ⟨bt, 0, none⟩ (.int .u64 (hiW (N)))).cell? ⟨bt, 1, none⟩ = _ := (cell_of_row _ _ 1 _ _ _ (heap_set (off := 0) (unhide ft) (.int .u64 (hiW (N))))).trans rfl
          have tf1' : (w9'.setCell ⟨bt, 0, none⟩ (.int .u64 (hiW (N)))).frozen? ⟨bt, 1, none⟩ = false := by simp [World.frozen?, heap_set (off := 0) (unhide ft) (.int .u64 (hiW (N)))]
          have fts := hide (set2 (unhide ft) (.int .u64 (hiW (N))) (.int .u64 (loW (N))))
          have f61s := hide (cell_set2 (x := (.int .u64 (hiW (N)))) (y := (.int .u64 (loW (N)))) hn6 f61)
          have f81s := hide (cell_set2 (x := (.int .u64 (hiW (N)))) (y := (.int .u64 (loW (N)))) hn8 f81)
          have k4s := hide (set2o (.int .u64 (hiW (N))) (.int .u64 (loW (N))) hn4 (unhide k4))
          have hzs := hide (((unhide hz).setCell (p := ⟨bt, 0, none⟩) hnt (.int .u64 (hiW (N)))).setCell (p := ⟨bt, 1, none⟩) hnt (.int .u64 (loW (N))))
          obtain ⟨wg, hwg⟩ : ∃ W, ((w9'.setCell ⟨bt, 0, none⟩ (.int .u64 (hiW (N)))).setCell ⟨bt, 1, none⟩ (.int .u64 (loW (N)))) = W := ⟨_, rfl⟩
          rw [hwg] at fts f61s f81s k4s hzs
          clear f61 f81 ft k4 hz
          replace hwg := hide hwg
          go_upto_region 18 with fail
          rw [unhide hwg]
          clear hwg tz0 tz1 tf0 tf1 tz1' tf1'
          have f61 := unhide f61s
          have f81 := unhide f81s
          have ft := fts
          have k4 := k4s
          have hz := hzs
          clear f61s f81s fts k4s hzs
          obtain ⟨c0, c1, _, _⟩ := cells2 (unhide ft)
          have whv := hide (unhide wh1 wg)
          go_wp2_with fail
          refine (unhide whv).mono ?_
          rintro e w10 ⟨rfl, hb10⟩
          clear whv wh1 c0 c1
          replace f61 := cell_under f61 hb10
          replace f81 := cell_under f81 hb10
          replace k4 := hide (kept hb10 (Array.getElem?_eq_some_iff.1 (unhide k4)).1 (unhide k4))
          replace hz := hide ((unhide hz).trans (hb10.mono (unhide hz).size))
          clear hb10 ft
          obtain ⟨w6, rfl⟩ : ∃ W : World, W = w10 := ⟨_, rfl⟩
          go_upto_region 19 with fail
          refine wp_region_frontG 16 (fun _ _ w' => Below w6.heap.size w6 w') (fun wa wb => Below wa.heap.size wa wb)
            (fun ix v w' => match ix with
              | 0 => v = .pointer (some ⟨b6, 1, none⟩)
              | 1 => v = .int .i64 (ad : Int)
              | 2 => v = .int .u64 (ad : Int)
              | 3 => v = .int .u64 (g : Int)
              | 4 => v = .int .u64 (p3 : Int)
              | 5 => v = .pointer (some ⟨b8, 1, none⟩)
              | 6 => v = .int .i64 (bd : Int)
              | 7 => v = .int .u64 (bd : Int)
              | 8 => v = .int .u64 (h : Int)
              | 9 => v = .int .u64 (p5 : Int)
              | 10 => v = .agg #[.int .u64 (hiW D), .int .u64 (loW D)]
              | 11 => v = .tuple #[.int .i64 Y, .bool O2]
              | 12 => v = .tuple #[.int .i64 Y, .bool O2]
              | 13 => v = .int .i64 Y
              | 14 => v = .bool O2
              | 15 => v = .int .i64 Y
              | _ => True) (by rfl) (by kernel_rfl) ?_ ?_ ?_ ?_
          · exact (Below.refl _ _).drew
          · intro wa wb hR ix v hv
            match ix, hv with
            | 0, h => exact h
            | 1, h => exact h
            | 2, h => exact h
            | 3, h => exact h
            | 4, h => exact h
            | 5, h => exact h
            | 6, h => exact h
            | 7, h => exact h
            | 8, h => exact h
            | 9, h => exact h
            | 10, h => exact h
            | 11, h => exact h
            | 12, h => exact h
            | 13, h => exact h
            | 14, h => exact h
            | 15, h => exact h
            | _ + 16, _ => trivial
          · intro ix hix
            obtain rfl | rfl | rfl | rfl | rfl | rfl | rfl | rfl | rfl | rfl | rfl | rfl | rfl | rfl | rfl | rfl : ix = 0 ∨ ix = 1 ∨ ix = 2 ∨ ix = 3 ∨ ix = 4 ∨ ix = 5 ∨ ix = 6 ∨ ix = 7 ∨ ix = 8 ∨ ix = 9 ∨ ix = 10 ∨ ix = 11 ∨ ix = 12 ∨ ix = 13 ∨ ix = 14 ∨ ix = 15 := by omega
            · refine FrontStep.of [] _ rfl (by kernel_rfl) ?_
              intro vs LL wq hLL hC hf
              simp only [putL, List.foldl_nil]
              go_wp2_with fail
              first | exact Below.refl _ _ | exact hC | exact ⟨hC, Below.refl _ _⟩ | exact ⟨hC, Below.refl _ _, by omega⟩ | exact ⟨Below.refl _ _, by omega⟩
            · refine FrontStep.of [0] _ rfl (by kernel_rfl) ?_
              intro vs LL wq hLL hC hf
              simp only [putL, List.foldl_nil, List.foldl_cons, List.getElem?_cons_zero]
              have e0 : vs 0 = _ := hf 0 (by simp)
              rw [e0]
              have g0 := cell_under f61 hC
              go_wp2_with fail
              first | exact Below.refl _ _ | exact hC | exact ⟨hC, Below.refl _ _⟩ | exact ⟨hC, Below.refl _ _, by omega⟩ | exact ⟨Below.refl _ _, by omega⟩
            · refine FrontStep.of [1] _ rfl (by kernel_rfl) ?_
              intro vs LL wq hLL hC hf
              simp only [putL, List.foldl_nil, List.foldl_cons, List.getElem?_cons_zero, List.getElem?_cons_succ]
              have e1 : vs 1 = _ := hf 1 (by simp)
              rw [e1]
              have hcq := unhide sAd wq
              replace hcq := hide hcq
              go_wp2_with fail
              refine (unhide hcq).mono ?_
              rintro e wz ⟨rfl, hbz⟩
              clear hcq
              replace hbz := hide hbz
              go_wp2_with fail
              first | exact ⟨hC.trans ((unhide hbz).mono hC.size), unhide hbz⟩ | exact hC.trans ((unhide hbz).mono hC.size) | exact ⟨hC.trans ((unhide hbz).mono hC.size), unhide hbz, rfl⟩
            · refine FrontStep.of [] _ rfl (by kernel_rfl) ?_
              intro vs LL wq hLL hC hf
              simp only [putL, List.foldl_nil]
              go_wp2_with fail
              first | exact Below.refl _ _ | exact hC | exact ⟨hC, Below.refl _ _⟩ | exact ⟨hC, Below.refl _ _, by omega⟩ | exact ⟨Below.refl _ _, by omega⟩
            · refine FrontStep.of [2, 3] _ rfl (by kernel_rfl) ?_
              intro vs LL wq hLL hC hf
              simp only [putL, List.foldl_nil, List.foldl_cons, List.getElem?_cons_zero, List.getElem?_cons_succ]
              have e2 : vs 2 = _ := hf 2 (by simp)
              rw [e2]
              have e3 : vs 3 = _ := hf 3 (by simp)
              rw [e3]
              have z1 := unhide q3
              have z2 := unhide q3d
              go_wp2_with fail
              first | exact Below.refl _ _ | exact hC | exact ⟨hC, Below.refl _ _⟩ | exact ⟨hC, Below.refl _ _, by omega⟩ | exact ⟨Below.refl _ _, by omega⟩
            · refine FrontStep.of [] _ rfl (by kernel_rfl) ?_
              intro vs LL wq hLL hC hf
              simp only [putL, List.foldl_nil]
              go_wp2_with fail
              first | exact Below.refl _ _ | exact hC | exact ⟨hC, Below.refl _ _⟩ | exact ⟨hC, Below.refl _ _, by omega⟩ | exact ⟨Below.refl _ _, by omega⟩
            · refine FrontStep.of [5] _ rfl (by kernel_rfl) ?_
              intro vs LL wq hLL hC hf
              simp only [putL, List.foldl_nil, List.foldl_cons, List.getElem?_cons_zero, List.getElem?_cons_succ]
              have e5 : vs 5 = _ := hf 5 (by simp)
              rw [e5]
              have g0 := cell_under f81 hC
              go_wp2_with fail
              first | exact Below.refl _ _ | exact hC | exact ⟨hC, Below.refl _ _⟩ | exact ⟨hC, Below.refl _ _, by omega⟩ | exact ⟨Below.refl _ _, by omega⟩
            · refine FrontStep.of [2, 6] _ rfl (by kernel_rfl) ?_
              intro vs LL wq hLL hC hf
              simp only [putL, List.foldl_nil, List.foldl_cons, List.getElem?_cons_zero, List.getElem?_cons_succ]
              have e2 : vs 2 = _ := hf 2 (by simp)
              rw [e2]
              have e6 : vs 6 = _ := hf 6 (by simp)
              rw [e6]
              have hcq := unhide sBd wq
              replace hcq := hide hcq
              go_wp2_with fail
              refine (unhide hcq).mono ?_
              rintro e wz ⟨rfl, hbz⟩
              clear hcq
              replace hbz := hide hbz
              go_wp2_with fail
              first | exact ⟨hC.trans ((unhide hbz).mono hC.size), unhide hbz⟩ | exact hC.trans ((unhide hbz).mono hC.size) | exact ⟨hC.trans ((unhide hbz).mono hC.size), unhide hbz, rfl⟩
            · refine FrontStep.of [] _ rfl (by kernel_rfl) ?_
              intro vs LL wq hLL hC hf
              simp only [putL, List.foldl_nil]
              go_wp2_with fail
              first | exact Below.refl _ _ | exact hC | exact ⟨hC, Below.refl _ _⟩ | exact ⟨hC, Below.refl _ _, by omega⟩ | exact ⟨Below.refl _ _, by omega⟩
            · refine FrontStep.of [7, 8] _ rfl (by kernel_rfl) ?_
              intro vs LL wq hLL hC hf
              simp only [putL, List.foldl_nil, List.foldl_cons, List.getElem?_cons_zero, List.getElem?_cons_succ]
              have e7 : vs 7 = _ := hf 7 (by simp)
              rw [e7]
              have e8 : vs 8 = _ := hf 8 (by simp)
              rw [e8]
              have z1 := unhide q5
              have z2 := unhide q5d
              go_wp2_with fail
              first | exact Below.refl _ _ | exact hC | exact ⟨hC, Below.refl _ _⟩ | exact ⟨hC, Below.refl _ _, by omega⟩ | exact ⟨Below.refl _ _, by omega⟩
            · refine FrontStep.of [4, 7, 9] _ rfl (by kernel_rfl) ?_
              intro vs LL wq hLL hC hf
              simp only [putL, List.foldl_nil, List.foldl_cons, List.getElem?_cons_zero, List.getElem?_cons_succ]
              have e4 : vs 4 = _ := hf 4 (by simp)
              rw [e4]
              have e7 : vs 7 = _ := hf 7 (by simp)
              rw [e7]
              have e9 : vs 9 = _ := hf 9 (by simp)
              rw [e9]
              have hcq := unhide pr3 wq
              replace hcq := hide hcq
              go_wp2_with fail
              refine (unhide hcq).mono ?_
              rintro e wz ⟨rfl, hbz⟩
              clear hcq
              replace hbz := hide hbz
              go_wp2_with fail
              first | exact ⟨hC.trans ((unhide hbz).mono hC.size), unhide hbz⟩ | exact hC.trans ((unhide hbz).mono hC.size) | exact ⟨hC.trans ((unhide hbz).mono hC.size), unhide hbz, rfl⟩
            · refine FrontStep.of [10] _ rfl (by kernel_rfl) ?_
              intro vs LL wq hLL hC hf
              simp only [putL, List.foldl_nil, List.foldl_cons, List.getElem?_cons_zero, List.getElem?_cons_succ]
              have e10 : vs 10 = _ := hf 10 (by simp)
              rw [e10]
              have hcq := unhide wh2 wq
              replace hcq := hide hcq
              go_wp2_with fail
              refine (unhide hcq).mono ?_
              rintro e wz ⟨rfl, hbz⟩
              clear hcq
              replace hbz := hide hbz
              go_wp2_with fail
              first | exact ⟨hC.trans ((unhide hbz).mono hC.size), unhide hbz⟩ | exact hC.trans ((unhide hbz).mono hC.size) | exact ⟨hC.trans ((unhide hbz).mono hC.size), unhide hbz, rfl⟩
            · refine FrontStep.of [11] _ rfl (by kernel_rfl) ?_
              intro vs LL wq hLL hC hf
              simp only [putL, List.foldl_nil, List.foldl_cons, List.getElem?_cons_zero, List.getElem?_cons_succ]
              have e11 : vs 11 = _ := hf 11 (by simp)
              rw [e11]
              go_wp2_with fail
              first | exact Below.refl _ _ | exact hC | exact ⟨hC, Below.refl _ _⟩ | exact ⟨hC, Below.refl _ _, by omega⟩ | exact ⟨Below.refl _ _, by omega⟩
            · refine FrontStep.of [12] _ rfl (by kernel_rfl) ?_
              intro vs LL wq hLL hC hf
              simp only [putL, List.foldl_nil, List.foldl_cons, List.getElem?_cons_zero, List.getElem?_cons_succ]
              have e12 : vs 12 = _ := hf 12 (by simp)
              rw [e12]
              go_wp2_with fail
              first | exact Below.refl _ _ | exact hC | exact ⟨hC, Below.refl _ _⟩ | exact ⟨hC, Below.refl _ _, by omega⟩ | exact ⟨Below.refl _ _, by omega⟩
            · refine FrontStep.of [12] _ rfl (by kernel_rfl) ?_
              intro vs LL wq hLL hC hf
              simp only [putL, List.foldl_nil, List.foldl_cons, List.getElem?_cons_zero, List.getElem?_cons_succ]
              have e12 : vs 12 = _ := hf 12 (by simp)
              rw [e12]
              go_wp2_with fail
              first | exact Below.refl _ _ | exact hC | exact ⟨hC, Below.refl _ _⟩ | exact ⟨hC, Below.refl _ _, by omega⟩ | exact ⟨Below.refl _ _, by omega⟩
            · refine FrontStep.of [0, 1, 2, 3, 4, 5, 6, 7, 8, 9, 10, 11, 12, 13] _ rfl (by kernel_rfl) ?_
              intro vs LL wq hLL hC hf
              simp only [putL, List.foldl_nil, List.foldl_cons, List.getElem?_cons_zero, List.getElem?_cons_succ]
              have e0 : vs 0 = _ := hf 0 (by simp)
              rw [e0]
              have e1 : vs 1 = _ := hf 1 (by simp)
              rw [e1]
              have e2 : vs 2 = _ := hf 2 (by simp)
              rw [e2]
              have e3 : vs 3 = _ := hf 3 (by simp)
              rw [e3]
              have e4 : vs 4 = _ := hf 4 (by simp)
              rw [e4]
              have e5 : vs 5 = _ := hf 5 (by simp)
              rw [e5]
              have e6 : vs 6 = _ := hf 6 (by simp)
              rw [e6]
              have e7 : vs 7 = _ := hf 7 (by simp)
              rw [e7]
              have e8 : vs 8 = _ := hf 8 (by simp)
              rw [e8]
              have e9 : vs 9 = _ := hf 9 (by simp)
              rw [e9]
              have e10 : vs 10 = _ := hf 10 (by simp)
              rw [e10]
              have e11 : vs 11 = _ := hf 11 (by simp)
              rw [e11]
              have e12 : vs 12 = _ := hf 12 (by simp)
              rw [e12]
              have e13 : vs 13 = _ := hf 13 (by simp)
              rw [e13]
              go_wp2_with fail
              first | exact Below.refl _ _ | exact hC | exact ⟨hC, Below.refl _ _⟩ | exact ⟨hC, Below.refl _ _, by omega⟩ | exact ⟨Below.refl _ _, by omega⟩
          · intro vs LL wq hLL hC hf
            have e15 : vs 15 = _ := hf 15 (by omega)
            have e14 : vs 14 = _ := hf 14 (by omega)
            rw [putSome_all]
            simp only [putL, List.range, List.range.loop, List.foldl_nil, List.foldl_cons, List.getElem?_cons_zero, List.getElem?_cons_succ, List.drop_succ_cons, List.drop_zero]
            rw [e15, e14]
            replace hz := hide ((unhide hz).trans (hC.mono (unhide hz).size))
            have hk4 := kept hC (Array.getElem?_eq_some_iff.1 (unhide k4)).1 (unhide k4)
            clear e15 e14 hf hLL hC k4 f61 f81
            obtain ⟨w6, rfl⟩ : ∃ W : World, W = wq := ⟨_, rfl⟩
            go_simp
            obtain ⟨c0, c1, g0, g1⟩ := cells2 hk4
            have hz' := unhide hz
            clear hk4 hz sAd sBd gc1 pr3 wh2 q3 q4 q5 q3d q4d q5d
            cases O1 with
            | false =>
              have hv := (unhide hrv).2 (Or.inl rfl)
              clear hrv
              replace hz' := hide hz'; replace hv := hide hv
              go_wp2_with fail
              refine bodyPost_ret (v := .tuple #[.agg #[.int .i64 0, .int .i64 0], .bool false]) (by simp [results, Try.results21, go_sem, c0, c1]) rfl ⟨by rw [(unhide hv).1, (unhide hv).2.1, (unhide hv).2.2], ?_⟩
              exact ((unhide hz').setCell hb4w _).setCell hb4w _
            | true =>
              cases O2 with
              | false =>
                have hv := (unhide hrv).2 (Or.inr rfl)
                clear hrv
                replace hz' := hide hz'; replace hv := hide hv
                go_wp2_with fail
                refine bodyPost_ret (v := .tuple #[.agg #[.int .i64 0, .int .i64 0], .bool false]) (by simp [results, Try.results21, go_sem, c0, c1]) rfl ⟨by rw [(unhide hv).1, (unhide hv).2.1, (unhide hv).2.2], ?_⟩
                exact ((unhide hz').setCell hb4w _).setCell hb4w _
              | true =>
                have hv := (unhide hrv).1 rfl rfl
                clear hrv
                replace hz' := hide hz'; replace hv := hide hv
                go_wp2_with fail
                refine bodyPost_ret (v := .tuple #[.agg #[.int .i64 X, .int .i64 Y], .bool true]) (by simp [results, Try.results21, go_sem, c0, c1]) rfl ⟨by rw [(unhide hv).1, (unhide hv).2.1, (unhide hv).2.2], ?_⟩
                exact ((unhide hz').setCell hb4w _).setCell hb4w _
end Go.Proofs.Ytfegkaflemcanaa
