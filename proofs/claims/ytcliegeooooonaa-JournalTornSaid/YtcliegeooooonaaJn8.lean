/- The reference's journal: Append, Sync, Crash, Open. -/
import Derived.Test.YtcliegeooooonaaJn7
namespace Go.Proofs.Ytcliegeooooonaa
open Go.RowKit
set_option maxRecDepth 100000 in
set_option maxHeartbeats 1000000 in
theorem rsync_any (s p : List UInt8) (w : World) (hs : s.length ≤ 100000000) (hp : p.length ≤ 100000000) :
    Calls Try.prog 16 #[dk s p] w fun e w' => e = .returned (dk (s ++ p) []) ∧ Below w.heap.size w w' := by
  obtain ⟨bd, br, w1, e1, e2, ew, st⟩ := St.new2 w (Obj.cells #[.string ⟨s.toArray⟩, .string ⟨p.toArray⟩] 27) (Obj.cells #[.string ⟨#[]⟩, .string ⟨#[]⟩] 27)
  have hb1 := st.below
  have d0 := st.cell 1 rfl 0 rfl
  have d1 := st.cell 1 rfl 1 rfl
  have c0 := st.cell 0 rfl 0 rfl
  have c1 := st.cell 0 rfl 1 rfl
  have f0 := st.free 0 rfl 0
  have f1 := st.free 0 rfl 1
  have hge : w.heap.size ≤ br := by omega
  have ha : ∀ w, (Op.stringOp .add ⟨s.toArray⟩ ⟨p.toArray⟩).run Try.prog w = .ok (.string ⟨(s ++ p).toArray⟩) w := fun w => str_add2 _ _ (by omega)
  clear st
  replace e1 := hide e1; replace e2 := hide e2; replace ew := hide ew; replace hb1 := hide hb1
  unfold dk
  go_enter Try.func16, Try.ntmps16
  go_upto_region 1 with fail
  rw [unhide ew]
  try rw [unhide e2]
  try rw [unhide e1]
  go_wp2_with fail
  exact bodyPost_ret (v := .agg #[.string ⟨(s ++ p).toArray⟩, .string ⟨#[]⟩]) (by simp [results, Try.results16, go_sem, c0, c1]) rfl ⟨rfl, ((unhide hb1).setCell (p := ⟨br, 0, none⟩) hge _).setCell (p := ⟨br, 1, none⟩) hge _⟩
set_option maxRecDepth 100000 in
set_option maxHeartbeats 2000000 in
theorem rcrash_any (s p : List UInt8) (n : Int) (w : World) (_ : I64 n) (hs : s.length ≤ 100000000) (hp : p.length ≤ 100000000) :
    Calls Try.prog 18 #[dk s p, .int .i64 n] w fun e w' => e = .returned (dk (s ++ p.take (crN p n)) []) ∧ Below w.heap.size w w' := by
  obtain ⟨bd, br, V, e1, e2, ew, st⟩ := St.new2 w (Obj.cells #[.string ⟨s.toArray⟩, .string ⟨p.toArray⟩] 27) (Obj.cells #[.string ⟨#[]⟩, .string ⟨#[]⟩] 27)
  have hb1 := st.below
  have hDV := st.get 1 rfl
  have hRV := st.get 0 rfl
  have hge : w.heap.size ≤ br := by omega
  have z1 : (⟨p.toArray⟩ : ByteArray).size = p.length := ba_size p
  obtain ⟨q, hq⟩ : ∃ q, crN p n = q := ⟨_, rfl⟩
  have hql : q ≤ p.length := by rw [← hq]; exact crN_le p n
  have hx : (⟨p.toArray⟩ : ByteArray).extract 0 q = ⟨(p.take q).toArray⟩ := ba_take p q
  have ha : ∀ w, (Op.stringOp .add ⟨s.toArray⟩ ⟨(p.take q).toArray⟩).run Try.prog w = .ok (.string ⟨(s ++ p.take q).toArray⟩) w := fun w => str_add2 _ _ (by rw [List.length_take]; omega)
  have hm : max (0 : Int) (min n (p.length : Int)) = (q : Int) := by
    rw [← hq]; unfold crN; split <;> (try split) <;> omega
  have i1 : (q : Int) ≤ (p.length : Int) := by omega
  rw [hq]
  clear hq st
  replace e1 := hide e1; replace e2 := hide e2; replace ew := hide ew; replace hb1 := hide hb1; replace hm := hide hm; replace hDV := hide hDV; replace hRV := hide hRV
  unfold dk
  go_enter Try.func18, Try.ntmps18
  go_upto_region 1 with fail
  rw [unhide ew]
  try rw [unhide e2]
  try rw [unhide e1]
  clear ew e1 e2
  refine wp_region_frontG 13 (fun _ _ w' => Below V.heap.size V w') (fun wa wb => Below wa.heap.size wa wb)
    (fun ix v w' => match ix with
      | 0 => v = .pointer (some ⟨bd, 0, none⟩)
      | 1 => v = .string ⟨s.toArray⟩
      | 2 => v = .pointer (some ⟨bd, 1, none⟩)
      | 3 => v = .string ⟨p.toArray⟩
      | 4 => v = .int .i64 n
      | 5 => v = .pointer (some ⟨bd, 1, none⟩)
      | 6 => v = .string ⟨p.toArray⟩
      | 7 => v = .int .i64 (p.length : Int)
      | 8 => v = .int .i64 (min n (p.length : Int))
      | 9 => v = .int .i64 (q : Int)
      | 10 => v = .string ⟨(p.take q).toArray⟩
      | 11 => v = .string ⟨(s ++ p.take q).toArray⟩
      | 12 => v = .agg #[.string ⟨(s ++ p.take q).toArray⟩, .string ⟨#[]⟩]
      | _ => True) (by rfl) (by kernel_rfl) ?_ ?_ ?_ ?_
  · exact (Below.refl _ _).drew
  · intro wa wb hR ix v hv
    match ix, hv with
    | 0, h => exact h
    | 1, h => exact h
    | 2, h => exact h
    | 3, h => exact h
    | 4, h => exact h
    | 5, h => exact h
    | 6, h => exact h
    | 7, h => exact h
    | 8, h => exact h
    | 9, h => exact h
    | 10, h => exact h
    | 11, h => exact h
    | 12, h => exact h
    | _ + 13, _ => trivial
  · intro ix hix
    obtain rfl | rfl | rfl | rfl | rfl | rfl | rfl | rfl | rfl | rfl | rfl | rfl | rfl : ix = 0 ∨ ix = 1 ∨ ix = 2 ∨ ix = 3 ∨ ix = 4 ∨ ix = 5 ∨ ix = 6 ∨ ix = 7 ∨ ix = 8 ∨ ix = 9 ∨ ix = 10 ∨ ix = 11 ∨ ix = 12 := by omega
    · refine FrontStep.of [] _ rfl (by kernel_rfl) ?_
      intro vs LL wq hLL hC hf
      simp only [putL, List.foldl_nil]
      go_wp2_with fail
      first | exact Below.refl _ _ | exact ⟨Below.refl _ _, by omega⟩
    · refine FrontStep.of [0] _ rfl (by kernel_rfl) ?_
      intro vs LL wq hLL hC hf
      simp only [putL, List.foldl_nil, List.foldl_cons, List.getElem?_cons_zero]
      have e0 : vs 0 = _ := hf 0 (by simp)
      rw [e0]
      have dd0 := cell_of_row _ _ 0 _ _ _ (kept2 hC (unhide hDV))
      have dd1 := cell_of_row _ _ 1 _ _ _ (kept2 hC (unhide hDV))
      go_wp2_with fail
      first | exact Below.refl _ _ | exact ⟨Below.refl _ _, by omega⟩ | exact ⟨Below.refl _ _, trivial⟩
    · refine FrontStep.of [] _ rfl (by kernel_rfl) ?_
      intro vs LL wq hLL hC hf
      simp only [putL, List.foldl_nil]
      go_wp2_with fail
      first | exact Below.refl _ _ | exact ⟨Below.refl _ _, by omega⟩
    · refine FrontStep.of [2] _ rfl (by kernel_rfl) ?_
      intro vs LL wq hLL hC hf
      simp only [putL, List.foldl_nil, List.foldl_cons, List.getElem?_cons_zero, List.getElem?_cons_succ]
      have e2 : vs 2 = _ := hf 2 (by simp)
      rw [e2]
      have dd0 := cell_of_row _ _ 0 _ _ _ (kept2 hC (unhide hDV))
      have dd1 := cell_of_row _ _ 1 _ _ _ (kept2 hC (unhide hDV))
      go_wp2_with fail
      first | exact Below.refl _ _ | exact ⟨Below.refl _ _, by omega⟩ | exact ⟨Below.refl _ _, trivial⟩
    · refine FrontStep.of [] _ rfl (by kernel_rfl) ?_
      intro vs LL wq hLL hC hf
      simp only [putL, List.foldl_nil]
      go_wp2_with fail
      first | exact Below.refl _ _ | exact ⟨Below.refl _ _, by omega⟩
    · refine FrontStep.of [] _ rfl (by kernel_rfl) ?_
      intro vs LL wq hLL hC hf
      simp only [putL, List.foldl_nil]
      go_wp2_with fail
      first | exact Below.refl _ _ | exact ⟨Below.refl _ _, by omega⟩
    · refine FrontStep.of [5] _ rfl (by kernel_rfl) ?_
      intro vs LL wq hLL hC hf
      simp only [putL, List.foldl_nil, List.foldl_cons, List.getElem?_cons_zero, List.getElem?_cons_succ]
      have e5 : vs 5 = _ := hf 5 (by simp)
      rw [e5]
      have dd0 := cell_of_row _ _ 0 _ _ _ (kept2 hC (unhide hDV))
      have dd1 := cell_of_row _ _ 1 _ _ _ (kept2 hC (unhide hDV))
      go_wp2_with fail
      first | exact Below.refl _ _ | exact ⟨Below.refl _ _, by omega⟩ | exact ⟨Below.refl _ _, trivial⟩
    · refine FrontStep.of [6] _ rfl (by kernel_rfl) ?_
      intro vs LL wq hLL hC hf
      simp only [putL, List.foldl_nil, List.foldl_cons, List.getElem?_cons_zero, List.getElem?_cons_succ]
      have e6 : vs 6 = _ := hf 6 (by simp)
      rw [e6]
      go_wp2_with fail
      first | exact Below.refl _ _ | exact ⟨Below.refl _ _, by omega⟩
    · refine FrontStep.of [4, 7] _ rfl (by kernel_rfl) ?_
      intro vs LL wq hLL hC hf
      simp only [putL, List.foldl_nil, List.foldl_cons, List.getElem?_cons_zero, List.getElem?_cons_succ]
      have e4 : vs 4 = _ := hf 4 (by simp)
      rw [e4]
      have e7 : vs 7 = _ := hf 7 (by simp)
      rw [e7]
      go_wp2_with fail
      first | exact Below.refl _ _ | exact ⟨Below.refl _ _, by omega⟩
    · refine FrontStep.of [8] _ rfl (by kernel_rfl) ?_
      intro vs LL wq hLL hC hf
      simp only [putL, List.foldl_nil, List.foldl_cons, List.getElem?_cons_zero, List.getElem?_cons_succ]
      have e8 : vs 8 = _ := hf 8 (by simp)
      rw [e8]
      have hm' := unhide hm
      go_wp2_with fail
      first | exact Below.refl _ _ | exact ⟨Below.refl _ _, by omega⟩
    · refine FrontStep.of [3, 9] _ rfl (by kernel_rfl) ?_
      intro vs LL wq hLL hC hf
      simp only [putL, List.foldl_nil, List.foldl_cons, List.getElem?_cons_zero, List.getElem?_cons_succ]
      have e3 : vs 3 = _ := hf 3 (by simp)
      rw [e3]
      have e9 : vs 9 = _ := hf 9 (by simp)
      rw [e9]
      go_wp2_with fail
      first | exact Below.refl _ _ | exact ⟨Below.refl _ _, by omega⟩
    · refine FrontStep.of [1, 10] _ rfl (by kernel_rfl) ?_
      intro vs LL wq hLL hC hf
      simp only [putL, List.foldl_nil, List.foldl_cons, List.getElem?_cons_zero, List.getElem?_cons_succ]
      have e1 : vs 1 = _ := hf 1 (by simp)
      rw [e1]
      have e10 : vs 10 = _ := hf 10 (by simp)
      rw [e10]
      go_wp2_with fail
      first | exact Below.refl _ _ | exact ⟨Below.refl _ _, by omega⟩
    · refine FrontStep.of [11] _ rfl (by kernel_rfl) ?_
      intro vs LL wq hLL hC hf
      simp only [putL, List.foldl_nil, List.foldl_cons, List.getElem?_cons_zero, List.getElem?_cons_succ]
      have e11 : vs 11 = _ := hf 11 (by simp)
      rw [e11]
      go_wp2_with fail
      first | exact Below.refl _ _ | exact ⟨Below.refl _ _, by omega⟩
  · intro vs LL wq hLL hC hf
    have e12 : vs 12 = _ := hf 12 (by decide)
    rw [putSome_all]
    simp only [putL, List.range, List.range.loop, List.foldl_nil, List.foldl_cons, List.getElem?_cons_zero, List.getElem?_cons_succ, List.drop_succ_cons, List.drop_zero]
    rw [e12]
    have hr := kept2 hC (unhide hRV)
    have c0 := cell_of_row _ _ 0 _ _ _ hr
    have c1 := cell_of_row _ _ 1 _ _ _ hr
    have f0 : wq.frozen? ⟨br, 0, none⟩ = false := by simp [World.frozen?, hr]
    have f1 : wq.frozen? ⟨br, 1, none⟩ = false := by simp [World.frozen?, hr]
    have hbw := hide ((unhide hb1).trans (hC.mono (unhide hb1).size))
    clear hf hr hC hLL e12
    go_simp
    go_wp2_with fail
    exact bodyPost_ret (v := .agg #[.string ⟨(s ++ p.take q).toArray⟩, .string ⟨#[]⟩]) (by simp [results, Try.results18, go_sem, c0, c1]) rfl ⟨rfl, ((unhide hbw).setCell (p := ⟨br, 0, none⟩) hge _).setCell (p := ⟨br, 1, none⟩) hge _⟩
set_option maxRecDepth 100000 in
set_option maxHeartbeats 2000000 in
theorem rappend_any (s p x : List UInt8) (w : World) (hs : s.length ≤ 100000000) (hp : p.length ≤ 100000000) (hx : x.length ≤ 100000000) :
    Calls Try.prog 14 #[dk s p, .string ⟨x.toArray⟩] w fun e w' => e = .returned (.tuple #[dk (apS s p x).1 (apS s p x).2.1, .int .i64 (apS s p x).2.2]) ∧ Below w.heap.size w w' := by
  obtain ⟨bd, br, w1, e1, e2, ew, st⟩ := St.new2 w (Obj.cells #[.string ⟨s.toArray⟩, .string ⟨p.toArray⟩] 27) (Obj.cells #[.string ⟨#[]⟩, .string ⟨#[]⟩] 27)
  have hb1 := st.below
  have zx : (⟨x.toArray⟩ : ByteArray).size = x.length := ba_size x
  have c0 := st.cell 0 rfl 0 rfl
  have c1 := st.cell 0 rfl 1 rfl
  have f0 := st.free 0 rfl 0
  have f1 := st.free 0 rfl 1
  have hge : w.heap.size ≤ br := by omega
  obtain ⟨A, hA⟩ : ∃ A, apS s p x = A := ⟨_, rfl⟩
  rw [hA]
  by_cases hbig : 262144 < x.length
  · have hA' : A = ([], [], 2) := by rw [← hA]; unfold apS; rw [if_pos hbig]
    have t2 : (262144 : Int) < (x.length : Int) := by omega
    subst hA'
    clear st hA
    replace e1 := hide e1; replace e2 := hide e2; replace ew := hide ew; replace hb1 := hide hb1
    unfold dk
    go_enter Try.func14, Try.ntmps14
    go_upto_region 1 with fail
    rw [unhide ew]
    try rw [unhide e2]
    try rw [unhide e1]
    go_wp2_with fail
    exact bodyPost_ret (v := .tuple #[.agg #[.string ⟨#[]⟩, .string ⟨#[]⟩], .int .i64 2]) (by simp [results, Try.results14, go_sem, c0, c1]) rfl ⟨rfl, ((unhide hb1).setCell (p := ⟨br, 0, none⟩) hge _).setCell (p := ⟨br, 1, none⟩) hge _⟩
  · have t2 : ¬ (262144 : Int) < (x.length : Int) := by omega
    have d0 := st.cell 1 rfl 0 rfl
    have d1 := st.cell 1 rfl 1 rfl
    have hS := hide st
    obtain ⟨all, hall⟩ : ∃ all, s ++ p = all := ⟨_, rfl⟩
    have hal : all.length = s.length + p.length := by rw [← hall, List.length_append]
    have ha : ∀ w, (Op.stringOp .add ⟨s.toArray⟩ ⟨p.toArray⟩).run Try.prog w = .ok (.string ⟨all.toArray⟩) w := fun w => by rw [← hall]; exact str_add2 _ _ (by omega)
    have hrd := rgood_any all w1 (by omega)
    have z2 : (⟨all.toArray⟩ : ByteArray).size = all.length := ba_size all
    unfold apS at hA
    rw [if_neg hbig, hall] at hA
    have hgl := Jn.good_left b0L all
    have hlb : (Jn.good b0L all).2.2.length = 8 := by rw [Jn.good_last]; exact Jn.lastb_len _ rfl _
    obtain ⟨G, hG⟩ : ∃ G, Jn.good b0L all = G := ⟨_, rfl⟩
    unfold ReadPost at hrd
    simp only [hG] at hrd hA hgl hlb
    clear st hall hbig
    replace e1 := hide e1; replace e2 := hide e2; replace ew := hide ew; replace hb1 := hide hb1; replace hrd := hide hrd; replace hA := hide hA; replace hG := hide hG; replace hal := hide hal; replace hlb := hide hlb
    unfold dk
    go_enter Try.func14, Try.ntmps14
    go_upto_region 1 with fail
    rw [unhide ew]
    try rw [unhide e2]
    try rw [unhide e1]
    go_wp2_with fail
    refine (unhide hrd).mono ?_
    rintro e V ⟨v, rfl, -, hb2⟩
    have st2 := (unhide hS).call hb2
    have c0 := st2.cell 0 rfl 0 rfl
    have c1 := st2.cell 0 rfl 1 rfl
    have f0 := st2.free 0 rfl 0
    have f1 := st2.free 0 rfl 1
    have hbw := st2.below
    have hDV := st2.get 1 rfl
    have hRV := st2.get 0 rfl
    replace st2 := hide st2; replace hbw := hide hbw; replace hDV := hide hDV; replace hRV := hide hRV
    by_cases hl : G.2.1 = []
    · have hA' : A = (s, p ++ Jn.recd G.2.2 x, 0) := by rw [← unhide hA, if_pos hl]
      rw [hl, List.length_nil, Nat.sub_zero]
      have hre := fun w => rrecord_any G.2.2 x w (by rw [unhide hlb]; omega) (by omega)
      have ha2 : ∀ w, (Op.stringOp .add ⟨p.toArray⟩ ⟨(Jn.recd G.2.2 x).toArray⟩).run Try.prog w = .ok (.string ⟨(p ++ Jn.recd G.2.2 x).toArray⟩) w := fun w => str_add2 _ _ (by rw [Jn.recd_len]; have := txt_len x; omega)
      obtain ⟨R, hR⟩ : ∃ R, Jn.recd G.2.2 x = R := ⟨_, rfl⟩
      simp only [hR] at ha2 hre hA'
      subst hA'
      have t3 : ¬ (all.length : Int) < (all.length : Int) := by omega
      clear hrd hb2 hS hR hl hA c0 c1 f0 f1 d0 d1
      replace hre := hide hre
      go_upto_region 7 with fail
      refine wp_region_frontG 9 (fun _ _ w' => Below V.heap.size V w') (fun wa wb => Below wa.heap.size wa wb)
        (fun ix v w' => match ix with
          | 0 => v = .pointer (some ⟨bd, 0, none⟩)
          | 1 => v = .string ⟨s.toArray⟩
          | 2 => v = .pointer (some ⟨bd, 1, none⟩)
          | 3 => v = .string ⟨p.toArray⟩
          | 4 => v = .string ⟨G.2.2.toArray⟩
          | 5 => v = .string ⟨x.toArray⟩
          | 6 => v = .string ⟨R.toArray⟩
          | 7 => v = .string ⟨(p ++ R).toArray⟩
          | 8 => v = .agg #[.string ⟨s.toArray⟩, .string ⟨(p ++ R).toArray⟩]
          | _ => True) (by rfl) (by kernel_rfl) ?_ ?_ ?_ ?_
      · exact (Below.refl _ _).drew
      · intro wa wb hR ix v hv
        match ix, hv with
        | 0, h => exact h
        | 1, h => exact h
        | 2, h => exact h
        | 3, h => exact h
        | 4, h => exact h
        | 5, h => exact h
        | 6, h => exact h
        | 7, h => exact h
        | 8, h => exact h
        | _ + 9, _ => trivial
      · intro ix hix
        obtain rfl | rfl | rfl | rfl | rfl | rfl | rfl | rfl | rfl : ix = 0 ∨ ix = 1 ∨ ix = 2 ∨ ix = 3 ∨ ix = 4 ∨ ix = 5 ∨ ix = 6 ∨ ix = 7 ∨ ix = 8 := by omega
        · refine FrontStep.of [] _ rfl (by kernel_rfl) ?_
          intro vs LL wq hLL hC hf
          simp only [putL, List.foldl_nil]
          go_wp2_with fail
          first | exact Below.refl _ _ | exact ⟨Below.refl _ _, by omega⟩
        · refine FrontStep.of [0] _ rfl (by kernel_rfl) ?_
          intro vs LL wq hLL hC hf
          simp only [putL, List.foldl_nil, List.foldl_cons, List.getElem?_cons_zero]
          have e0 : vs 0 = _ := hf 0 (by simp)
          rw [e0]
          have dd0 := cell_of_row _ _ 0 _ _ _ (kept2 hC (unhide hDV))
          have dd1 := cell_of_row _ _ 1 _ _ _ (kept2 hC (unhide hDV))
          go_wp2_with fail
          first | exact Below.refl _ _ | exact ⟨Below.refl _ _, by omega⟩ | exact ⟨Below.refl _ _, trivial⟩
        · refine FrontStep.of [] _ rfl (by kernel_rfl) ?_
          intro vs LL wq hLL hC hf
          simp only [putL, List.foldl_nil]
          go_wp2_with fail
          first | exact Below.refl _ _ | exact ⟨Below.refl _ _, by omega⟩
        · refine FrontStep.of [2] _ rfl (by kernel_rfl) ?_
          intro vs LL wq hLL hC hf
          simp only [putL, List.foldl_nil, List.foldl_cons, List.getElem?_cons_zero, List.getElem?_cons_succ]
          have e2 : vs 2 = _ := hf 2 (by simp)
          rw [e2]
          have dd0 := cell_of_row _ _ 0 _ _ _ (kept2 hC (unhide hDV))
          have dd1 := cell_of_row _ _ 1 _ _ _ (kept2 hC (unhide hDV))
          go_wp2_with fail
          first | exact Below.refl _ _ | exact ⟨Below.refl _ _, by omega⟩ | exact ⟨Below.refl _ _, trivial⟩
        · refine FrontStep.of [] _ rfl (by kernel_rfl) ?_
          intro vs LL wq hLL hC hf
          simp only [putL, List.foldl_nil]
          go_wp2_with fail
          first | exact Below.refl _ _ | exact ⟨Below.refl _ _, by omega⟩
        · refine FrontStep.of [] _ rfl (by kernel_rfl) ?_
          intro vs LL wq hLL hC hf
          simp only [putL, List.foldl_nil]
          go_wp2_with fail
          first | exact Below.refl _ _ | exact ⟨Below.refl _ _, by omega⟩
        · refine FrontStep.of [4, 5] _ rfl (by kernel_rfl) ?_
          intro vs LL wq hLL hC hf
          simp only [putL, List.foldl_nil, List.foldl_cons, List.getElem?_cons_zero, List.getElem?_cons_succ]
          have e4 : vs 4 = _ := hf 4 (by simp)
          rw [e4]
          have e5 : vs 5 = _ := hf 5 (by simp)
          rw [e5]
          go_wp2_with fail
          refine (unhide hre _).mono ?_
          rintro e w2 ⟨rfl, hb2⟩
          have q1 := hide (hC.trans (hb2.mono hC.size))
          have q2 := hide hb2
          clear hC hb2
          go_wp2_with fail
          exact ⟨unhide q1, unhide q2⟩
        · refine FrontStep.of [3, 6] _ rfl (by kernel_rfl) ?_
          intro vs LL wq hLL hC hf
          simp only [putL, List.foldl_nil, List.foldl_cons, List.getElem?_cons_zero, List.getElem?_cons_succ]
          have e3 : vs 3 = _ := hf 3 (by simp)
          rw [e3]
          have e6 : vs 6 = _ := hf 6 (by simp)
          rw [e6]
          go_wp2_with fail
          first | exact Below.refl _ _ | exact ⟨Below.refl _ _, by omega⟩
        · refine FrontStep.of [1, 7] _ rfl (by kernel_rfl) ?_
          intro vs LL wq hLL hC hf
          simp only [putL, List.foldl_nil, List.foldl_cons, List.getElem?_cons_zero, List.getElem?_cons_succ]
          have e1 : vs 1 = _ := hf 1 (by simp)
          rw [e1]
          have e7 : vs 7 = _ := hf 7 (by simp)
          rw [e7]
          go_wp2_with fail
          first | exact Below.refl _ _ | exact ⟨Below.refl _ _, by omega⟩
      · intro vs LL wq hLL hC hf
        have e8 : vs 8 = _ := hf 8 (by decide)
        rw [putSome_all]
        simp only [putL, List.range, List.range.loop, List.foldl_nil, List.foldl_cons, List.getElem?_cons_zero, List.getElem?_cons_succ, List.drop_succ_cons, List.drop_zero]
        rw [e8]
        have hr := kept2 hC (unhide hRV)
        have c0 := cell_of_row _ _ 0 _ _ _ hr
        have c1 := cell_of_row _ _ 1 _ _ _ hr
        have f0 : wq.frozen? ⟨br, 0, none⟩ = false := by simp [World.frozen?, hr]
        have f1 : wq.frozen? ⟨br, 1, none⟩ = false := by simp [World.frozen?, hr]
        have hbz := hide ((unhide hbw).trans (hC.mono (unhide hbw).size))
        clear hf hr hC hLL e8
        go_simp
        go_wp2_with fail
        exact bodyPost_ret (v := .tuple #[.agg #[.string ⟨s.toArray⟩, .string ⟨(p ++ R).toArray⟩], .int .i64 0]) (by simp [results, Try.results14, go_sem, c0, c1]) rfl ⟨rfl, ((unhide hbz).setCell (p := ⟨br, 0, none⟩) hge _).setCell (p := ⟨br, 1, none⟩) hge _⟩
    · have hA' : A = ([], [], 90) := by rw [← unhide hA, if_neg hl]
      have hpos : 0 < G.2.1.length := List.length_pos_iff.2 hl
      have t3 : ((all.length - G.2.1.length : Nat) : Int) < (all.length : Int) := by omega
      subst hA'
      clear hrd hb2 hS hl hA
      replace hpos := hide hpos
      go_wp2_with fail
      exact bodyPost_ret (v := .tuple #[.agg #[.string ⟨#[]⟩, .string ⟨#[]⟩], .int .i64 90]) (by simp [results, Try.results14, go_sem, c0, c1]) rfl ⟨rfl, ((unhide hbw).setCell (p := ⟨br, 0, none⟩) hge _).setCell (p := ⟨br, 1, none⟩) hge _⟩
set_option maxRecDepth 100000 in
set_option maxHeartbeats 2000000 in
theorem ropen_any (s p : List UInt8) (w : World) (hs : s.length ≤ 100000000) (hp : p.length ≤ 100000000) :
    Calls Try.prog 20 #[dk s p] w (OpenPost s p w) := by
  obtain ⟨bd, br, w1, e1, e2, ew, st⟩ := St.new2 w (Obj.cells #[.string ⟨s.toArray⟩, .string ⟨p.toArray⟩] 27) (Obj.cells #[.string ⟨#[]⟩, .string ⟨#[]⟩] 27)
  have hb1 := st.below
  have d0 := st.cell 1 rfl 0 rfl
  have d1 := st.cell 1 rfl 1 rfl
  have h0 := st.get 0 rfl
  have hD := st.get 1 rfl
  have z1 : (⟨s.toArray⟩ : ByteArray).size = s.length := ba_size s
  obtain ⟨all, hall⟩ : ∃ all, s ++ p = all := ⟨_, rfl⟩
  have hal : all.length = s.length + p.length := by rw [← hall, List.length_append]
  have ha : ∀ w, (Op.stringOp .add ⟨s.toArray⟩ ⟨p.toArray⟩).run Try.prog w = .ok (.string ⟨all.toArray⟩) w := fun w => by rw [← hall]; exact str_add2 _ _ (by omega)
  have hrd := rgood_any all w1 (by omega)
  obtain ⟨N, hN⟩ : ∃ N, opN all = N := ⟨_, rfl⟩
  obtain ⟨K, hK⟩ : ∃ K, opK s p = K := ⟨_, rfl⟩
  have hNl : N ≤ all.length := by rw [← hN]; unfold opN; omega
  have hKN : K ≤ N := by rw [← hK, ← hN, ← hall]; unfold opK; omega
  have hm : min (N : Int) (s.length : Int) = (K : Int) := by rw [← hK, ← hN]; unfold opK; rw [hall]; omega
  have z2 : (⟨all.toArray⟩ : ByteArray).size = all.length := ba_size all
  have x1 : (⟨all.toArray⟩ : ByteArray).extract 0 K = ⟨(all.take K).toArray⟩ := ba_take all K
  have x2 : (⟨all.toArray⟩ : ByteArray).extract K N = ⟨((all.drop K).take (N - K)).toArray⟩ := by
    have := ba_mid ⟨all.toArray⟩ K (N - K)
    rw [ba_list, show K + (N - K) = N by omega] at this
    exact this
  have hpost : ∀ v w', w'.ownsRow w.heap.size 9 1 v (Jn.good b0L all).1.length ((Jn.good b0L all).1.map vl) → Below w.heap.size w w' → OpenPost s p w (.returned (.tuple #[v, dk (all.take K) ((all.drop K).take (N - K))])) w' := fun v w' h1 h2 => by
    refine ⟨v, ?_, ?_, h2⟩
    · rw [hall, hK, hN]
    · rw [hall]; exact h1
  have hNd : all.length - (Jn.good b0L all).2.1.length = N := hN
  have hge : w.heap.size ≤ br := by omega
  have hlt : br < w1.heap.size := (Array.getElem?_eq_some_iff.1 h0).1
  clear st hK hall
  replace e1 := hide e1; replace e2 := hide e2; replace ew := hide ew; replace hb1 := hide hb1; replace hrd := hide hrd; replace h0 := hide h0; replace hD := hide hD; replace hm := hide hm; replace hpost := hide hpost; replace hNd := hide hNd; replace hN := hide hN; replace hal := hide hal
  unfold dk
  go_enter Try.func20, Try.ntmps20
  go_upto_region 1 with fail
  rw [unhide ew]
  try rw [unhide e2]
  try rw [unhide e1]
  go_wp2_with fail
  refine (unhide hrd).mono ?_
  rintro e w2 ⟨v, rfl, hrow, hb2⟩
  rw [unhide hNd]
  have h2 := kept2 hb2 (unhide h0)
  have h3 := kept2 hb2 (unhide hD)
  have d0 := cell_of_row _ _ 0 _ _ _ h3
  have c0 := cell_of_row _ _ 0 _ _ _ h2
  have c1 := cell_of_row _ _ 1 _ _ _ h2
  have f0 : w2.frozen? ⟨br, 0, none⟩ = false := by simp [World.frozen?, h2]
  have f1 : w2.frozen? ⟨br, 1, none⟩ = false := by simp [World.frozen?, h2]
  have hbw := (unhide hb1).trans (hb2.mono (unhide hb1).size)
  obtain ⟨va, vc, hv⟩ := own_shape hrow
  have hs1 := (unhide hb1).size
  obtain ⟨gn, hgn⟩ : ∃ m, (Jn.good b0L all).1.length = m := ⟨_, rfl⟩
  rw [hgn] at hv hrow
  subst hv
  have i1 : (K : Int) ≤ (N : Int) := by omega
  have i2 : (N : Int) ≤ (all.length : Int) := by omega
  have i3 : (K : Int) ≤ (all.length : Int) := by omega
  clear hrd hb1 hb2 h0 h2 d1 h3 hD
  replace hbw := hide hbw; replace hrow := hide hrow; replace hgn := hide hgn
  go_upto_region 4 with fail
  rw [unhide hm]
  clear hm
  go_region
  go_wp2_with fail
  refine bodyPost_ret (v := .tuple #[.slice va gn vc, dk (all.take K) ((all.drop K).take (N - K))]) (by unfold dk; simp [results, Try.results20, go_sem, c0, c1]) rfl (unhide hpost _ _ ?_ (((unhide hbw).setCell (p := ⟨br, 0, none⟩) hge _).setCell (p := ⟨br, 1, none⟩) hge _).drew)
  rw [unhide hgn]
  exact own_base (own_same (own_set (own_set (unhide hrow) hlt) hlt) (fun _ _ => rfl)) hs1
end Go.Proofs.Ytcliegeooooonaa
