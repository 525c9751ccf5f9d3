/- DigestProves. -/
import Derived.Test.YtlmaofibdjmkeaaDgQ
import Derived.Test.YtlmaofibdjmkeaaDg15
import Derived.Test.YtlmaofibdjmkeaaDg17
import Derived.Test.YtlmaofibdjmkeaaOpenA
namespace Go.Proofs.Ytlmaofibdjmkeaa
open Go.RowKit
attribute [local go_sem ↓] Go.wp_at_zero Go.wp_at_succ
set_option maxRecDepth 100000 in
set_option maxHeartbeats 8000000 in
theorem digestProves_any (a : Option Addr) (n c0 : Nat) (l0 : List ByteArray) (cs1 : Array Value) (y1 : List Int) (cs2 : Array Value) (y2 : ByteArray × (Int × Int)) (w : World) (hl : Lst Enc.str w (fun b => b < w.heap.size) a n l0) (_ : n ≤ c0) (_ : c0 ≤ maxLen)
    (hy1 : (Enc.arr 2 (Enc.num .u8 0 255)).rep w (fun b => b < w.heap.size) cs1.toList y1) (hy2 : EOther.rep w (fun b => b < w.heap.size) cs2.toList y2) :
    Calls Try.prog 8 #[.slice a n c0, .agg cs1, .agg cs2] w fun e w' => e = .returned (.bool true) ∧ Below w.heap.size w w' := by
  obtain ⟨p, c, hp, hc, hyS, rfl⟩ := other_open hy2
  obtain ⟨a0, a1, ha0, ha0', ha1, ha1', rfl⟩ := arr2_open hy1
  obtain ⟨A0, rfl⟩ := Int.eq_ofNat_of_zero_le ha0
  obtain ⟨A1, rfl⟩ := Int.eq_ofNat_of_zero_le ha1
  clear hy1 hy2 ha0 ha1
  obtain ⟨S, hS⟩ : ∃ S, y2.1 = S := ⟨_, rfl⟩
  rw [hS] at hyS ⊢
  clear hS
  have hsan := fun w => dsanity_any w
  have hls := fun w hl => dlist_any a n c0 l0 w hl
  replace hsan := hide hsan; replace hls := hide hls; replace hl := hide hl
  obtain ⟨bx, hbx⟩ : ∃ bx, bx = w.heap.size := ⟨_, rfl⟩
  obtain ⟨wo, hwo⟩ : ∃ wo, wo = (w.alloc (Obj.cells #[.int .u8 (A0 : Int), .int .u8 (A1 : Int)] 41)).alloc (Obj.cells #[.string S, .int .u8 (p : Int), .int .u8 (c : Int)] 27) := ⟨_, rfl⟩
  have hrow1 : wo.heap[bx]? = some (.cells #[.int .u8 (A0 : Int), .int .u8 (A1 : Int)] 41 (0, 0)) := by
    rw [hwo, hbx]
    exact (Below.heap_alloc _ _ _ (by simp)).trans (heap_alloc_new w _)
  have hrow2 : wo.heap[bx + 1]? = some (.cells #[.string S, .int .u8 (p : Int), .int .u8 (c : Int)] 27 (0, 0)) := by
    rw [hwo, hbx]
    have := heap_alloc_new (w.alloc (Obj.cells #[.int .u8 (A0 : Int), .int .u8 (A1 : Int)] 41)) (Obj.cells #[.string S, .int .u8 (p : Int), .int .u8 (c : Int)] 27)
    rwa [World.size_alloc] at this
  have hb0 : Below w.heap.size w wo := by rw [hwo]; exact ((Below.refl _ _).alloc (Nat.le_refl _) _).alloc (by simp) _
  have hbl : bx < wo.heap.size := (Array.getElem?_eq_some_iff.1 hrow1).1
  have hbl2 : bx + 1 < wo.heap.size := (Array.getElem?_eq_some_iff.1 hrow2).1
  replace hwo := hide hwo; replace hb0 := hide hb0; replace hrow1 := hide hrow1; replace hrow2 := hide hrow2; replace hbx := hide hbx
  go_enter Try.func8, Try.ntmps8
  go_wp2_with fail
  rw [← unhide hwo, ← unhide hbx]
  go_wp2_with fail
  refine (unhide hsan _).mono ?_
  rintro e w1 ⟨rfl, h1⟩
  go_wp2_with fail
  refine (unhide hls _ (((unhide hl).under (unhide hb0)).under h1)).mono ?_
  rintro e w2 ⟨⟨pa, pc, rfl, hL0⟩, h2⟩
  have hL := hL0.wide (S' := fun b => b < w2.heap.size) (fun b h => h.1)
  have hB := h1.trans (h2.mono h1.size)
  have hlen : (Dg.cutL l0).length ≤ 20 := by rw [cutL_len]; omega
  have hsz := cutL_sizes l0
  obtain ⟨L, hLe⟩ : ∃ L, Dg.cutL l0 = L := ⟨_, rfl⟩
  obtain ⟨N, hN⟩ : ∃ N, (Dg.cutL l0).length = N := ⟨_, rfl⟩
  rw [hN] at hlen hL ⊢
  rw [hLe] at hL hsz hN
  clear h1 h2 hL0 hls hsan hl hLe
  by_cases hN0 : N = 0
  · subst hN0
    have hBF := (unhide hb0).trans (hB.mono (unhide hb0).size)
    replace hL := hide hL; replace hN := hide hN; replace hsz := hide hsz
    go_wp2_with fail
    go_ret
    exact ⟨rfl, hBF⟩
  have t0 : ((N : Int) == 0) = false := beq_eq_false_iff_ne.2 (by omega)
  obtain ⟨i, hi⟩ : ∃ i, A0 % N = i := ⟨_, rfl⟩
  have hiN : i < N := by rw [← hi]; exact Nat.mod_lt _ (by omega)
  have ti : (A0 : Int) % (N : Int) = (i : Int) := by rw [← hi]; rfl
  have ti' : Int.tmod (A0 : Int) (N : Int) = (i : Int) := by rw [← hi]; rfl
  obtain ⟨k, hk⟩ : ∃ k, A1 % 32 = k := ⟨_, rfl⟩
  have hk32 : k < 32 := by omega
  have tk : (A1 : Int) % 32 = (k : Int) := by rw [← hk]; rfl
  have tk' : Int.tmod (A1 : Int) 32 = (k : Int) := by rw [← hk]; rfl
  obtain ⟨bb, off, s, rfl, hbb, hs, hsi, hcell⟩ := lst_str hL hiN
  have hs30 := hsz s (List.mem_of_getElem? hs)
  have hr1 := (hB.block bx hbl).trans (unhide hrow1)
  have hr2 := (hB.block (bx + 1) hbl2).trans (unhide hrow2)
  have hbl' : bx < w2.heap.size := (Array.getElem?_eq_some_iff.1 hr1).1
  have hbl2' : bx + 1 < w2.heap.size := (Array.getElem?_eq_some_iff.1 hr2).1
  have hA0 : w2.cell? ⟨bx, 0, none⟩ = some (.int .u8 (A0 : Int)) := (cell_of_row _ _ 0 _ _ _ hr1).trans rfl
  have hA1 : w2.cell? ⟨bx, 1, none⟩ = some (.int .u8 (A1 : Int)) := (cell_of_row _ _ 1 _ _ _ hr1).trans rfl
  have hO0 : w2.cell? ⟨bx + 1, 0, none⟩ = some (.string S) := (cell_of_row _ _ 0 _ _ _ hr2).trans rfl
  have hO1 : w2.cell? ⟨bx + 1, 1, none⟩ = some (.int .u8 (p : Int)) := (cell_of_row _ _ 1 _ _ _ hr2).trans rfl
  have hO2 : w2.cell? ⟨bx + 1, 2, none⟩ = some (.int .u8 (c : Int)) := (cell_of_row _ _ 2 _ _ _ hr2).trans rfl
  clear hr1 hr2
  have hLn : L.length = N := hN
  have hself := ver_self L (by omega) i (by omega) s hs
  have hroot := fun w hL => root_any (some ⟨bb, off, none⟩) N pc L w hL (by omega)
  have hprv := fun w hL => prove_any (some ⟨bb, off, none⟩) N pc L i w hL (by omega) hiN
  obtain ⟨P, hP⟩ : ∃ P, Dg.prf (L.map fun s => s.data.toList) i = P := ⟨_, rfl⟩
  have hP5 : P.length ≤ 5 := by rw [← hP]; exact Nat.le_trans (Dg.pf_many _ i _) (by unfold Dg.dp; (repeat' split) <;> omega)
  obtain ⟨R, hR⟩ : ∃ R : ByteArray, (⟨(Dg.top (L.map fun s => s.data.toList)).toArray⟩ : ByteArray) = R := ⟨_, rfl⟩
  have hRs : R.size = 8 ∨ R.size ≠ 8 := by omega
  rw [hP, hR] at hself
  have hRs : R.size = 8 := by
    unfold verS at hself
    exact (of_decide_eq_true hself).2.2.2.1
  simp only [hR] at hroot
  simp only [hP] at hprv
  obtain ⟨m, hm⟩ : ∃ m, P.length = m := ⟨_, rfl⟩
  simp only [hm] at hprv
  rw [hm] at hP5
  clear hP hR hs
  have hLst := hide hL; clear hL
  replace hB := hide hB; replace hsz := hide hsz; replace hN := hide hN; replace hLn := hide hLn; replace hself := hide hself; replace hroot := hide hroot; replace hprv := hide hprv; replace hi := hide hi; replace hk := hide hk; replace hm := hide hm
  go_wp2_with fail
  refine wp_region_frontG 11 (fun _ _ w' => Below w2.heap.size w2 w') (fun wa wb => Below wa.heap.size wa wb)
    (fun ix v w' => match ix with
      | 0 => v = .pointer (some ⟨bx, 0, none⟩)
      | 1 => v = .int .u8 (A0 : Int)
      | 2 => v = .int .i64 (A0 : Int)
      | 3 => v = .slice (some ⟨bb, off, none⟩) N pc
      | 4 => v = .int .i64 (N : Int)
      | 5 => v = .int .i64 (i : Int)
      | 6 => v = .pointer (some ⟨bx, 1, none⟩)
      | 7 => v = .int .u8 (A1 : Int)
      | 8 => v = .int .i64 (A1 : Int)
      | 9 => v = .int .i64 (k : Int)
      | 10 => v = .int .i64 (i : Int)
      | _ => True) (by rfl) (by kernel_rfl) ?_ ?_ ?_ ?_
  · exact (Below.refl _ _).drew
  · intro wa wb hR ix v hv
    match ix, hv with
    | 0, h => exact h
    | 1, h => exact h
    | 2, h => exact h
    | 3, h => exact h
    | 4, h => exact h
    | 5, h => exact h
    | 6, h => exact h
    | 7, h => exact h
    | 8, h => exact h
    | 9, h => exact h
    | 10, h => exact h
    | _ + 11, _ => trivial
  · intro ix hix
    obtain rfl | rfl | rfl | rfl | rfl | rfl | rfl | rfl | rfl | rfl | rfl : ix = 0 ∨ ix = 1 ∨ ix = 2 ∨ ix = 3 ∨ ix = 4 ∨ ix = 5 ∨ ix = 6 ∨ ix = 7 ∨ ix = 8 ∨ ix = 9 ∨ ix = 10 := by omega
    · refine FrontStep.of [] _ rfl (by kernel_rfl) ?_
      intro vs L wq hL hC hf
      simp only [putL, List.foldl_nil]
      go_wp2_with fail
      first | exact Below.refl _ _ | exact ⟨Below.refl _ _, by omega⟩
    · refine FrontStep.of [0] _ rfl (by kernel_rfl) ?_
      intro vs L wq hL hC hf
      simp only [putL, List.foldl_nil, List.foldl_cons, List.getElem?_cons_zero]
      have e0 : vs 0 = _ := hf 0 (by simp)
      rw [e0]
      have hcq := (hC.cell (p := ⟨bx, 0, none⟩) hbl').trans hA0
      go_wp2_with fail
      first | exact Below.refl _ _ | exact ⟨Below.refl _ _, by omega⟩
    · refine FrontStep.of [1] _ rfl (by kernel_rfl) ?_
      intro vs L wq hL hC hf
      simp only [putL, List.foldl_nil, List.foldl_cons, List.getElem?_cons_zero, List.getElem?_cons_succ]
      have e1 : vs 1 = _ := hf 1 (by simp)
      rw [e1]
      go_wp2_with fail
      first | exact Below.refl _ _ | exact ⟨Below.refl _ _, by omega⟩
    · refine FrontStep.of [] _ rfl (by kernel_rfl) ?_
      intro vs L wq hL hC hf
      simp only [putL, List.foldl_nil]
      go_wp2_with fail
      first | exact Below.refl _ _ | exact ⟨Below.refl _ _, by omega⟩
    · refine FrontStep.of [3] _ rfl (by kernel_rfl) ?_
      intro vs L wq hL hC hf
      simp only [putL, List.foldl_nil, List.foldl_cons, List.getElem?_cons_zero, List.getElem?_cons_succ]
      have e3 : vs 3 = _ := hf 3 (by simp)
      rw [e3]
      go_wp2_with fail
      first | exact Below.refl _ _ | exact ⟨Below.refl _ _, by omega⟩
    · refine FrontStep.of [2, 4] _ rfl (by kernel_rfl) ?_
      intro vs L wq hL hC hf
      simp only [putL, List.foldl_nil, List.foldl_cons, List.getElem?_cons_zero, List.getElem?_cons_succ]
      have e2 : vs 2 = _ := hf 2 (by simp)
      rw [e2]
      have e4 : vs 4 = _ := hf 4 (by simp)
      rw [e4]
      go_wp2_with fail
      first | exact Below.refl _ _ | exact ⟨Below.refl _ _, by omega⟩
    · refine FrontStep.of [] _ rfl (by kernel_rfl) ?_
      intro vs L wq hL hC hf
      simp only [putL, List.foldl_nil]
      go_wp2_with fail
      first | exact Below.refl _ _ | exact ⟨Below.refl _ _, by omega⟩
    · refine FrontStep.of [6] _ rfl (by kernel_rfl) ?_
      intro vs L wq hL hC hf
      simp only [putL, List.foldl_nil, List.foldl_cons, List.getElem?_cons_zero, List.getElem?_cons_succ]
      have e6 : vs 6 = _ := hf 6 (by simp)
      rw [e6]
      have hcq := (hC.cell (p := ⟨bx, 1, none⟩) hbl').trans hA1
      go_wp2_with fail
      first | exact Below.refl _ _ | exact ⟨Below.refl _ _, by omega⟩
    · refine FrontStep.of [7] _ rfl (by kernel_rfl) ?_
      intro vs L wq hL hC hf
      simp only [putL, List.foldl_nil, List.foldl_cons, List.getElem?_cons_zero, List.getElem?_cons_succ]
      have e7 : vs 7 = _ := hf 7 (by simp)
      rw [e7]
      go_wp2_with fail
      first | exact Below.refl _ _ | exact ⟨Below.refl _ _, by omega⟩
    · refine FrontStep.of [8] _ rfl (by kernel_rfl) ?_
      intro vs L wq hL hC hf
      simp only [putL, List.foldl_nil, List.foldl_cons, List.getElem?_cons_zero, List.getElem?_cons_succ]
      have e8 : vs 8 = _ := hf 8 (by simp)
      rw [e8]
      go_wp2_with fail
      first | exact Below.refl _ _ | exact ⟨Below.refl _ _, by omega⟩
    · refine FrontStep.of [0, 1, 2, 3, 4, 5] _ rfl (by kernel_rfl) ?_
      intro vs L wq hL hC hf
      simp only [putL, List.foldl_nil, List.foldl_cons, List.getElem?_cons_zero, List.getElem?_cons_succ]
      have e0 : vs 0 = _ := hf 0 (by simp)
      rw [e0]
      have e1 : vs 1 = _ := hf 1 (by simp)
      rw [e1]
      have e2 : vs 2 = _ := hf 2 (by simp)
      rw [e2]
      have e3 : vs 3 = _ := hf 3 (by simp)
      rw [e3]
      have e4 : vs 4 = _ := hf 4 (by simp)
      rw [e4]
      have e5 : vs 5 = _ := hf 5 (by simp)
      rw [e5]
      go_wp2_with fail
      first | exact Below.refl _ _ | exact ⟨Below.refl _ _, by omega⟩
  · intro vs L wq hL hC hf
    have e10 : vs 10 = _ := hf 10 (by omega)
    have e9 : vs 9 = _ := hf 9 (by omega)
    rw [putSome_all]
    simp only [putL, List.range, List.range.loop, List.foldl_nil, List.foldl_cons, List.getElem?_cons_zero, List.getElem?_cons_succ, List.drop_succ_cons, List.drop_zero]
    rw [e10, e9]
    clear e10 e9 hf hL
    go_simp
    have hBq := hide ((unhide hB).trans (hC.mono (unhide hB).size))
    have hLq := hide ((unhide hLst).under hC)
    replace hcell := (hC.cell (p := ⟨bb, off + i, none⟩) hbb).trans hcell
    replace hO0 := (hC.cell (p := ⟨bx + 1, 0, none⟩) hbl2').trans hO0
    replace hO1 := (hC.cell (p := ⟨bx + 1, 1, none⟩) hbl2').trans hO1
    replace hO2 := (hC.cell (p := ⟨bx + 1, 2, none⟩) hbl2').trans hO2
    replace hbb : bb < wq.heap.size := Nat.lt_of_lt_of_le hbb hC.size
    replace hbl2' : bx + 1 < wq.heap.size := Nat.lt_of_lt_of_le hbl2' hC.size
    clear hA0 hA1 hC hB hLst
    replace hcell := hide hcell; replace hO0 := hide hO0; replace hO1 := hide hO1; replace hO2 := hide hO2
    go_wp2_with fail
    refine (unhide hroot _ (unhide hLq)).mono ?_
    rintro e w3 ⟨rfl, h3⟩
    go_wp2_with fail
    refine (unhide hprv _ ((unhide hLq).under h3)).mono ?_
    rintro e w4 ⟨⟨qa, qc, rfl, hPl0⟩, h4⟩
    have hb4 := h3.trans (h4.mono h3.size)
    have hPl := hPl0.wide (S' := fun b => b < w4.heap.size) (fun b h => h.1)
    have hcell4 := (hb4.cell (p := ⟨bb, off + i, none⟩) hbb).trans (unhide hcell)
    have hbb4 : bb < w4.heap.size := Nat.lt_of_lt_of_le hbb hb4.size
    have hbl4 : bx + 1 < w4.heap.size := Nat.lt_of_lt_of_le hbl2' hb4.size
    have hver := fun w i' s' hL' (hs' : s'.size ≤ 1000000) (hi' : i' < 9223372036854775808) => dVerify_any R s' i' qa m qc P w hL' hs' (by omega) hi'
    have hv1 := dVerify_any R s (i : Int) qa m qc P w4 hPl (by omega) (by omega) (by omega)
    rw [unhide hself] at hv1
    have hch := fun w => change_any S s p c w hp hc (by unfold maxLen; omega)
    obtain ⟨O, hO⟩ : ∃ O, Dg.chg s p c = O := ⟨_, rfl⟩
    have hOs : O.size ≤ 30 := by rw [← hO, chg_size]; exact hs30
    rw [hO] at hch
    replace hver := hide hver; replace hv1 := hide hv1; replace hch := hide hch; replace hPl := hide hPl; replace hb4 := hide hb4
    clear h3 h4 hPl0 hroot hprv hO hLq
    go_wp2_with fail
    refine (unhide hv1).mono ?_
    rintro e w5 ⟨rfl, h5⟩
    have hb5 := (unhide hb4).trans (h5.mono (unhide hb4).size)
    replace hPl := (unhide hPl).under h5
    replace hcell4 := (h5.cell (p := ⟨bb, off + i, none⟩) hbb4).trans hcell4
    replace hbb4 := Nat.lt_of_lt_of_le hbb4 h5.size
    have hbl5 : bx + 1 < w5.heap.size := Nat.lt_of_lt_of_le hbl4 h5.size
    have hO0' := (hb5.cell (p := ⟨bx + 1, 0, none⟩) hbl2').trans (unhide hO0)
    have hO1' := (hb5.cell (p := ⟨bx + 1, 1, none⟩) hbl2').trans (unhide hO1)
    have hO2' := (hb5.cell (p := ⟨bx + 1, 2, none⟩) hbl2').trans (unhide hO2)
    replace hPl := hide hPl; replace hb5 := hide hb5
    clear h5 hv1 hb4 hbl4
    go_wp2_with fail
    refine wp_region_frontG 6 (fun _ _ w' => Below w5.heap.size w5 w') (fun wa wb => Below wa.heap.size wa wb)
      (fun ix v w' => match ix with
        | 0 => v = .agg #[.string S, .int .u8 (p : Int), .int .u8 (c : Int)]
        | 1 => v = .slice (some ⟨bb, off, none⟩) N pc
        | 2 => v = .int .i64 (i : Int)
        | 3 => v = .pointer (some ⟨bb, off + i, none⟩)
        | 4 => v = .string s
        | 5 => v = .string O
        | _ => True) (by rfl) (by kernel_rfl) ?_ ?_ ?_ ?_
    · exact (Below.refl _ _).drew
    · intro wa wb hR ix v hv
      match ix, hv with
      | 0, h => exact h
      | 1, h => exact h
      | 2, h => exact h
      | 3, h => exact h
      | 4, h => exact h
      | 5, h => exact h
      | _ + 6, _ => trivial
    · intro ix hix
      obtain rfl | rfl | rfl | rfl | rfl | rfl : ix = 0 ∨ ix = 1 ∨ ix = 2 ∨ ix = 3 ∨ ix = 4 ∨ ix = 5 := by omega
      · refine FrontStep.of [] _ rfl (by kernel_rfl) ?_
        intro vs L wq hL hC hf
        simp only [putL, List.foldl_nil]
        have q0 := (hC.cell (p := ⟨bx + 1, 0, none⟩) hbl5).trans hO0'
        have q1 := (hC.cell (p := ⟨bx + 1, 1, none⟩) hbl5).trans hO1'
        have q2 := (hC.cell (p := ⟨bx + 1, 2, none⟩) hbl5).trans hO2'
        go_wp2_with fail
        first | exact Below.refl _ _ | exact ⟨Below.refl _ _, by omega⟩
      · refine FrontStep.of [] _ rfl (by kernel_rfl) ?_
        intro vs L wq hL hC hf
        simp only [putL, List.foldl_nil]
        go_wp2_with fail
        first | exact Below.refl _ _ | exact ⟨Below.refl _ _, by omega⟩
      · refine FrontStep.of [] _ rfl (by kernel_rfl) ?_
        intro vs L wq hL hC hf
        simp only [putL, List.foldl_nil]
        go_wp2_with fail
        first | exact Below.refl _ _ | exact ⟨Below.refl _ _, by omega⟩
      · refine FrontStep.of [1, 2] _ rfl (by kernel_rfl) ?_
        intro vs L wq hL hC hf
        simp only [putL, List.foldl_nil, List.foldl_cons, List.getElem?_cons_zero, List.getElem?_cons_succ]
        have e1 : vs 1 = _ := hf 1 (by simp)
        rw [e1]
        have e2 : vs 2 = _ := hf 2 (by simp)
        rw [e2]
        go_wp2_with fail
        first | exact Below.refl _ _ | exact ⟨Below.refl _ _, by omega⟩
      · refine FrontStep.of [3] _ rfl (by kernel_rfl) ?_
        intro vs L wq hL hC hf
        simp only [putL, List.foldl_nil, List.foldl_cons, List.getElem?_cons_zero, List.getElem?_cons_succ]
        have e3 : vs 3 = _ := hf 3 (by simp)
        rw [e3]
        have hcq := (hC.cell (p := ⟨bb, off + i, none⟩) hbb4).trans hcell4
        go_wp2_with fail
        first | exact Below.refl _ _ | exact ⟨Below.refl _ _, by omega⟩
      · refine FrontStep.of [0, 4] _ rfl (by kernel_rfl) ?_
        intro vs L wq hL hC hf
        simp only [putL, List.foldl_nil, List.foldl_cons, List.getElem?_cons_zero, List.getElem?_cons_succ]
        have e0 : vs 0 = _ := hf 0 (by simp)
        rw [e0]
        have e4 : vs 4 = _ := hf 4 (by simp)
        rw [e4]
        go_wp2_with fail
        refine (unhide hch _).mono ?_
        rintro e w6 ⟨rfl, hb6⟩
        go_wp2_with fail
        exact hC.trans (hb6.mono hC.size)
    · intro vs L wq hL hC hf
      have e5 : vs 5 = _ := hf 5 (by omega)
      rw [putSome_all]
      simp only [putL, List.range, List.range.loop, List.foldl_nil, List.foldl_cons, List.getElem?_cons_zero, List.getElem?_cons_succ, List.drop_succ_cons, List.drop_zero]
      rw [e5]
      clear e5 hf hL
      go_simp
      obtain ⟨w6, hw6⟩ : ∃ w6, w6 = wq := ⟨_, rfl⟩
      rw [← hw6] at hC ⊢
      clear hw6
      have hb6 := hide ((unhide hb5).trans (hC.mono (unhide hb5).size))
      replace hPl := (unhide hPl).under hC
      replace hcell4 := (hC.cell (p := ⟨bb, off + i, none⟩) hbb4).trans hcell4
      replace hbb4 := Nat.lt_of_lt_of_le hbb4 hC.size
      have hlf := fun w => rLeaf_any O w (by omega)
      have hup := fun w hL => rUp_any (leafB O) i qa m qc P w hL (Dg.leaf_len _) (by omega)
      have hvO := upS_ver R O i P
      obtain ⟨D, hD⟩ : ∃ D, leafB O = D := ⟨_, rfl⟩
      rw [hD] at hlf hup hvO
      obtain ⟨U, hU⟩ : ∃ U, (upS D i P).1 = U := ⟨_, rfl⟩
      obtain ⟨B, hBB⟩ : ∃ B, (upS D i P).2 = B := ⟨_, rfl⟩
      simp only [hU, hBB] at hup
      rw [hU, hBB] at hvO
      have hlf2 := fun w => rLeaf_any s w (by omega)
      have hup2 := fun w hL => rUp_any (leafB s) k qa m qc P w hL (Dg.leaf_len _) (by omega)
      have hv2 := upS_ver R s k P
      obtain ⟨D2, hD2⟩ : ∃ D, leafB s = D := ⟨_, rfl⟩
      rw [hD2] at hlf2 hup2 hv2
      obtain ⟨U2, hU2⟩ : ∃ U, (upS D2 k P).1 = U := ⟨_, rfl⟩
      obtain ⟨B2, hBB2⟩ : ∃ B, (upS D2 k P).2 = B := ⟨_, rfl⟩
      simp only [hU2, hBB2] at hup2
      rw [hU2, hBB2] at hv2
      clear hO0' hO1' hO2' hO0 hO1 hO2 hC hb5 hD hU hBB hD2 hU2 hBB2 hch
      replace hlf := hide hlf; replace hup := hide hup; replace hvO := hide hvO; replace hlf2 := hide hlf2; replace hup2 := hide hup2; replace hv2 := hide hv2; replace hPl := hide hPl
      go_wp2_with fail
      refine (unhide hlf _).mono ?_
      rintro e w7 ⟨rfl, h7⟩
      go_wp2_with fail
      refine (unhide hup _ ((unhide hPl).under h7)).mono ?_
      rintro e w8 ⟨rfl, h8⟩
      have h78 := h7.trans (h8.mono h7.size)
      have hb8 := hide ((unhide hb6).trans (h78.mono (unhide hb6).size))
      have hPl8 := (unhide hPl).under h78
      have hcell8 := (h78.cell (p := ⟨bb, off + i, none⟩) hbb4).trans hcell4
      have hbb8 := Nat.lt_of_lt_of_le hbb4 h78.size
      replace hPl8 := hide hPl8
      clear hcell4 h7 h8 h78 hPl hb6 hup hlf hcell
      go_upto_region 12 with fail
      go_cut [88] (fun v wr => v = .bool false ∧ Below w8.heap.size w8 wr)
      case first =>
        have hoe := ba_dec O s
        have hue := ba_dec U R
        have hvv := unhide hver w8 i O (unhide hPl8) (by omega) (by omega)
        rw [← unhide hvO] at hvv
        replace hvv := hide hvv
        by_cases c1 : O = s
        · rw [decide_eq_true c1] at hoe
          go_wp2_with fail
          go_meet
          exact ⟨rfl, Below.refl _ _⟩
        · rw [decide_eq_false c1] at hoe
          cases B
          · go_wp2_with fail
            go_meet
            exact ⟨rfl, Below.refl _ _⟩
          · by_cases c2 : U = R
            · rw [decide_eq_true c2] at hue
              go_wp2_with fail
              go_meet
              exact ⟨rfl, Below.refl _ _⟩
            · rw [decide_eq_false c2] at hue
              have hvf := unhide hvv
              rw [decide_eq_false c2, Bool.and_false] at hvf
              replace hvf := hide hvf
              clear hvv
              go_wp2_with fail
              refine (unhide hvf).mono ?_
              rintro e w9 ⟨rfl, h9⟩
              go_wp2_with fail
              go_meet
              exact ⟨rfl, h9⟩
      case rest =>
        obtain ⟨rfl, h9⟩ := hcut
        have hPl9 := (unhide hPl8).under h9
        have hcell9 := (h9.cell (p := ⟨bb, off + i, none⟩) hbb8).trans hcell8
        have hbb9 := Nat.lt_of_lt_of_le hbb8 h9.size
        have hb9 := hide ((unhide hb8).trans (h9.mono (unhide hb8).size))
        replace hPl9 := hide hPl9
        clear hcell8 h9
        go_wp2_with fail
        refine (unhide hlf2 _).mono ?_
        rintro e w10 ⟨rfl, h10⟩
        go_wp2_with fail
        refine (unhide hup2 _ ((unhide hPl9).under h10)).mono ?_
        rintro e w11 ⟨rfl, h11⟩
        have h101 := h10.trans (h11.mono h10.size)
        have hPl11 := (unhide hPl9).under h101
        have hcell11 := (h101.cell (p := ⟨bb, off + i, none⟩) hbb9).trans hcell9
        have hb11 := (unhide hb9).trans (h101.mono (unhide hb9).size)
        have hbF := (unhide hBq).trans (hb11.mono (unhide hBq).size)
        have hbF2 := (unhide hb0).trans (hbF.mono (unhide hb0).size)
        have hue := ba_dec U2 R
        have hvv := unhide hver w11 k s hPl11 (by omega) (by omega)
        rw [← unhide hv2] at hvv
        replace hvv := hide hvv
        clear hcell9 h10 h11 h101 hb11 hbF hup2 hlf2
        replace hPl11 := hide hPl11
        by_cases c1 : k = i
        · subst c1
          go_wp2_with fail
          go_ret
          exact ⟨rfl, hbF2⟩
        · have tki : ((k : Int) == (i : Int)) = false := beq_eq_false_iff_ne.2 (by omega)
          by_cases c2 : B2 = true ∧ U2 = R
          · obtain ⟨c2, c3⟩ := c2
            subst c2
            rw [decide_eq_true c3] at hue
            go_wp2_with fail
            go_ret
            exact ⟨rfl, hbF2⟩
          · have hvf := unhide hvv
            have hff : (B2 && decide (U2 = R)) = false := by
              cases B2
              · rfl
              · rw [Bool.true_and]
                exact decide_eq_false (fun h => c2 ⟨rfl, h⟩)
            rw [hff] at hvf
            replace hvf := hide hvf
            clear hvv hff
            cases B2
            · go_wp2_with fail
              refine (unhide hvf).mono ?_
              rintro e w12 ⟨rfl, h12⟩
              go_wp2_with fail
              go_ret
              exact ⟨rfl, hbF2.trans (h12.mono hbF2.size)⟩
            · rw [decide_eq_false (fun h => c2 ⟨rfl, h⟩)] at hue
              go_wp2_with fail
              refine (unhide hvf).mono ?_
              rintro e w12 ⟨rfl, h12⟩
              go_wp2_with fail
              go_ret
              exact ⟨rfl, hbF2.trans (h12.mono hbF2.size)⟩
end Go.Proofs.Ytlmaofibdjmkeaa
