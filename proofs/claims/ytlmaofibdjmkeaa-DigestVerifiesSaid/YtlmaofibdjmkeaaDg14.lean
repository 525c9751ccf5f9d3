/- The reference of digest: above, Root, Prove. -/
import Derived.Test.YtlmaofibdjmkeaaDg13
namespace Go.Proofs.Ytlmaofibdjmkeaa
open Go.RowKit
attribute [local go_sem ↓] Go.wp_at_zero Go.wp_at_succ
abbrev mkS (d : List UInt8) : ByteArray := ⟨d.toArray⟩
theorem digS_vba (l : List (List UInt8)) : digS l = (l.map mkS).map vba := by simp [digS, mkS]
set_option maxRecDepth 100000 in
set_option maxHeartbeats 4000000 in
theorem rabove_any (a : Option Addr) (n cap : Nat) (l : List (List UInt8)) (w : World) (hL : Lst Enc.str w (fun b => b < w.heap.size) a n (l.map mkS)) (hn : n ≤ 32) (hall : ∀ d ∈ l, d.length = 8) :
    Calls Try.prog 39 #[.slice a n cap] w fun e w' => (∃ v, e = .returned v ∧ w'.ownsRow w.heap.size 9 1 v (Dg.up l).length (digS (Dg.up l))) ∧ Below w.heap.size w w' := by
  obtain ⟨i1, hi, hz0, hz1, hz2⟩ := info_parts info_str
  have hL0 : l.length = n := by have := hL.1; rwa [List.length_map] at this
  have hul := Dg.up_len l
  rw [hL0] at hul
  replace hL := hide hL; replace hL0 := hide hL0; replace hall := hide hall; replace hul := hide hul
  replace hi := hide hi; replace hz0 := hide hz0; replace hz1 := hide hz1; replace hz2 := hide hz2
  go_enter Try.func39, Try.ntmps39
  go_wp2_with fail
  go_loopw [3, 4] (fun v3 v4 wr => ∃ j : Nat, j ≤ n / 2 ∧ v4 = .int .i64 ((2 * j : Nat) : Int) ∧ wr.ownsRow w.heap.size 9 1 v3 j (digS ((Dg.up l).take j)) ∧ Below w.heap.size w wr) (fun _ v _ => (n - intOf v).toNat)
  case atStart => exact ⟨0, by omega, rfl, World.ownsRow_nil _ _ _ _, Below.refl _ _⟩
  case round =>
    obtain ⟨j, hj, rfl, hown, hb⟩ := hrel
    by_cases hlt : 2 * j + 1 < n
    · have hjl : j < n / 2 := by omega
      obtain ⟨bb, off, x, rfl, hbb, hx, hxi, hc⟩ := lst_str (k := 2 * j) ((unhide hL).under hb) (by omega)
      obtain ⟨bb', off', y, he', hbb', hy, hyi, hc'⟩ := lst_str (k := 2 * j + 1) ((unhide hL).under hb) hlt
      injection he' with he1
      injection he1 with he2 he3
      subst he2 he3
      obtain ⟨A, hA, rfl⟩ : ∃ A, l[2 * j]? = some A ∧ mkS A = x := by simpa using hx
      obtain ⟨B, hB, rfl⟩ : ∃ B, l[2 * j + 1]? = some B ∧ mkS B = y := by simpa using hy
      have hA8 := unhide hall A (List.mem_of_getElem? hA)
      have hB8 := unhide hall B (List.mem_of_getElem? hB)
      have hup := up_step l j A B (by rw [unhide hL0]; exact hjl) hA hB
      have hof : ∀ T : ByteArray, T.data.toList = 110 :: (A ++ B) → ∀ w, Calls Try.prog 13 #[.string T] w fun e w' => e = .returned (.string ⟨(Dg.node A B).toArray⟩) ∧ Below w.heap.size w w' := fun T hT w => by
        have := rOf_any T w (by rw [← data_len, hT]; simp [maxLen, hA8, hB8])
        rw [hT] at this
        exact this
      have hs1 : (mkS A).size = 8 := hA8
      have hs2 : (mkS B).size = 8 := hB8
      obtain ⟨D, hDD⟩ : ∃ D, Dg.node A B = D := ⟨_, rfl⟩
      rw [hDD] at hup hof
      replace hof := hide hof; replace hup := hide hup; replace hDD := hide hDD
      have e1 : ((2 * j : Nat) : Int) + 1 < (n : Int) := by omega
      clear hx hy hxi hyi hA8 hB8 hA hB
      obtain ⟨va, vc, rfl⟩ := own_shape hown
      have hbl : bb < wr.heap.size := hbb
      go_wp2_with fail
      refine wp_region_frontG 14 (fun _ _ w' => Below wr.heap.size wr w') (fun wa wb => Below wa.heap.size wa wb)
        (fun i v w' => match i with
          | 0 => v = .slice va j vc
          | 1 => v = .slice (some ⟨bb, off, none⟩) n cap
          | 2 => v = .int .i64 ((2 * j : Nat) : Int)
          | 3 => v = .pointer (some ⟨bb, off + 2 * j, none⟩)
          | 4 => v = .string (mkS A)
          | 5 => ∃ T, v = .string T ∧ T.size = 9 ∧ T.data.toList = 110 :: A
          | 6 => v = .slice (some ⟨bb, off, none⟩) n cap
          | 7 => v = .int .i64 ((2 * j : Nat) : Int)
          | 8 => v = .int .i64 ((2 * j + 1 : Nat) : Int)
          | 9 => v = .pointer (some ⟨bb, off + (2 * j + 1), none⟩)
          | 10 => v = .string (mkS B)
          | 11 => ∃ T, v = .string T ∧ T.data.toList = 110 :: (A ++ B)
          | 12 => v = .string ⟨D.toArray⟩
          | 13 => ∃ b, v = .slice (some ⟨b, 0, none⟩) 1 1 ∧ w'.heap[b]? = some (.cells #[.string ⟨D.toArray⟩] 9 (0, 0))
          | _ => True) (by rfl) (by kernel_rfl) ?_ ?_ ?_ ?_
      · exact (Below.refl _ _).drew
      · intro wa wb hR i v hv
        match i, hv with
        | 0, h => exact h
        | 1, h => exact h
        | 2, h => exact h
        | 3, h => exact h
        | 4, h => exact h
        | 5, h => obtain ⟨T, h1, h2⟩ := h; exact ⟨T, h1, h2⟩
        | 6, h => exact h
        | 7, h => exact h
        | 8, h => exact h
        | 9, h => exact h
        | 10, h => exact h
        | 11, h => obtain ⟨T, h1, h2⟩ := h; exact ⟨T, h1, h2⟩
        | 12, h => exact h
        | 13, h => obtain ⟨b, h1, h2⟩ := h; exact ⟨b, h1, (hR.block b (Array.getElem?_eq_some_iff.1 h2).1).trans h2⟩
        | _ + 14, _ => trivial
      · intro i hi
        obtain rfl | rfl | rfl | rfl | rfl | rfl | rfl | rfl | rfl | rfl | rfl | rfl | rfl | rfl : i = 0 ∨ i = 1 ∨ i = 2 ∨ i = 3 ∨ i = 4 ∨ i = 5 ∨ i = 6 ∨ i = 7 ∨ i = 8 ∨ i = 9 ∨ i = 10 ∨ i = 11 ∨ i = 12 ∨ i = 13 := by omega
        · refine FrontStep.of [] _ rfl (by kernel_rfl) ?_
          intro vs L wq hL hC hf
          simp only [putL, List.foldl_nil]
          go_wp2_with fail
          exact Below.refl _ _
        · refine FrontStep.of [] _ rfl (by kernel_rfl) ?_
          intro vs L wq hL hC hf
          simp only [putL, List.foldl_nil]
          go_wp2_with fail
          exact Below.refl _ _
        · refine FrontStep.of [] _ rfl (by kernel_rfl) ?_
          intro vs L wq hL hC hf
          simp only [putL, List.foldl_nil]
          go_wp2_with fail
          exact Below.refl _ _
        · refine FrontStep.of [1, 2] _ rfl (by kernel_rfl) ?_
          intro vs L wq hL hC hf
          simp only [putL, List.foldl_nil, List.foldl_cons, List.getElem?_cons_zero, List.getElem?_cons_succ]
          have e1 : vs 1 = _ := hf 1 (by simp)
          rw [e1]
          have e2 : vs 2 = _ := hf 2 (by simp)
          rw [e2]
          go_wp2_with fail
          exact Below.refl _ _
        · refine FrontStep.of [3] _ rfl (by kernel_rfl) ?_
          intro vs L wq hL hC hf
          simp only [putL, List.foldl_nil, List.foldl_cons, List.getElem?_cons_zero, List.getElem?_cons_succ]
          have e3 : vs 3 = _ := hf 3 (by simp)
          rw [e3]
          have hcq := (hC.cell (p := ⟨bb, off + 2 * j, none⟩) hbl).trans hc
          go_wp2_with fail
          exact Below.refl _ _
        · refine FrontStep.of [4] _ rfl (by kernel_rfl) ?_
          intro vs L wq hL hC hf
          simp only [putL, List.foldl_nil, List.foldl_cons, List.getElem?_cons_zero, List.getElem?_cons_succ]
          have e4 : vs 4 = _ := hf 4 (by simp)
          rw [e4]
          go_wp2_with fail
          first | exact Below.refl _ _ | exact ⟨Below.refl _ _, by simp [ByteArray.size_append, hs1]; rfl, by simp [mkS]⟩ | (simp [ByteArray.size_append, hs1]; exact Below.refl _ _)
        · refine FrontStep.of [] _ rfl (by kernel_rfl) ?_
          intro vs L wq hL hC hf
          simp only [putL, List.foldl_nil]
          go_wp2_with fail
          exact Below.refl _ _
        · refine FrontStep.of [] _ rfl (by kernel_rfl) ?_
          intro vs L wq hL hC hf
          simp only [putL, List.foldl_nil]
          go_wp2_with fail
          exact Below.refl _ _
        · refine FrontStep.of [7] _ rfl (by kernel_rfl) ?_
          intro vs L wq hL hC hf
          simp only [putL, List.foldl_nil, List.foldl_cons, List.getElem?_cons_zero, List.getElem?_cons_succ]
          have e7 : vs 7 = _ := hf 7 (by simp)
          rw [e7]
          go_wp2_with fail
          exact Below.refl _ _
        · refine FrontStep.of [6, 8] _ rfl (by kernel_rfl) ?_
          intro vs L wq hL hC hf
          simp only [putL, List.foldl_nil, List.foldl_cons, List.getElem?_cons_zero, List.getElem?_cons_succ]
          have e6 : vs 6 = _ := hf 6 (by simp)
          rw [e6]
          have e8 : vs 8 = _ := hf 8 (by simp)
          rw [e8]
          go_wp2_with fail
          exact Below.refl _ _
        · refine FrontStep.of [9] _ rfl (by kernel_rfl) ?_
          intro vs L wq hL hC hf
          simp only [putL, List.foldl_nil, List.foldl_cons, List.getElem?_cons_zero, List.getElem?_cons_succ]
          have e9 : vs 9 = _ := hf 9 (by simp)
          rw [e9]
          have hcq := (hC.cell (p := ⟨bb, off + (2 * j + 1), none⟩) hbl).trans hc'
          go_wp2_with fail
          exact Below.refl _ _
        · refine FrontStep.of [5, 10] _ rfl (by kernel_rfl) ?_
          intro vs L wq hL hC hf
          simp only [putL, List.foldl_nil, List.foldl_cons, List.getElem?_cons_zero, List.getElem?_cons_succ]
          have e10 : vs 10 = _ := hf 10 (by simp)
          rw [e10]
          obtain ⟨T, hT1, hTs, hT2⟩ := hf 5 (by simp)
          rw [hT1]
          go_wp2_with fail
          first | exact Below.refl _ _ | exact ⟨Below.refl _ _, by simp [mkS, hT2]⟩
        · refine FrontStep.of [11] _ rfl (by kernel_rfl) ?_
          intro vs L wq hL hC hf
          simp only [putL, List.foldl_nil, List.foldl_cons, List.getElem?_cons_zero, List.getElem?_cons_succ]
          obtain ⟨T, hT1, hT2⟩ := hf 11 (by simp)
          rw [hT1]
          go_wp2_with fail
          refine (unhide hof _ hT2 _).mono ?_
          rintro e w5 ⟨rfl, hb5⟩
          go_wp2_with fail
          exact hC.trans (hb5.mono hC.size)
        · refine FrontStep.of [12] _ rfl (by kernel_rfl) ?_
          intro vs L wq hL hC hf
          simp only [putL, List.foldl_nil, List.foldl_cons, List.getElem?_cons_zero, List.getElem?_cons_succ]
          have e12 : vs 12 = _ := hf 12 (by simp)
          rw [e12]
          go_wp2_with fail
          exact ⟨hC.alloc hC.size _, (Below.refl _ _).alloc (Nat.le_refl _) _, (Array.getElem?_eq_some_iff.1 (heap_alloc_new _ _)).2⟩
      · intro vs L wq hL hC hf
        have e0 : vs 0 = _ := hf 0 (by omega)
        obtain ⟨b, e13, hb13⟩ := hf 13 (by omega)
        rw [putSome_all]
        simp only [putL, List.range, List.range.loop, List.foldl_nil, List.foldl_cons, List.getElem?_cons_zero, List.getElem?_cons_succ, List.drop_succ_cons, List.drop_zero]
        rw [e0, e13]
        clear e0 e13 hf hL
        have hownq := own_below hown hC
        have hcq := cell_of_row _ b 0 _ _ _ hb13
        have hszq := hC.size
        have hbw := hb.trans (hC.mono hb.size)
        go_simp
        go_wp2_with (at_builtin; refine wpList_append_own _ rfl _ _ 28 rfl w.heap.size 9 i1 (.string ⟨#[]⟩) 1 16 Try.underlying28 (unhide hi) (unhide hz0) (unhide hz1) (unhide hz2) rfl (by decide) _ _ _ rfl hownq ⟨b, 0, none⟩ 1 1 [.string ⟨D.toArray⟩] rfl rfl ?c1 ?c2 ?c3 ?c4 ?c5 ?_)
        case c1 =>
          intro j u hj
          cases j with
          | zero => simp at hj; subst hj; rw [Addr.add_lit, cell_of_row _ _ _ _ _ _ hb13]; rfl
          | succ j => simp at hj
        case c2 => intro u hu; simp at hu; subst hu; rfl
        case c3 => unfold maxLen; omega
        case c4 => omega
        case c5 => have := hb.size; omega
        intro v' w5 hown5 hg5 _
        have hb3 : Below w.heap.size w w5 := Below.grown hbw hg5 (by have := hb.size; omega) (fun g hg => (hownq.lt g hg).1)
        obtain ⟨va', vc', rfl⟩ := own_shape hown5
        clear hg5 hownq hbw
        go_wp2_with fail
        go_roundw
        case rel => exact ⟨j + 1, by omega, by go_num, by rw [unhide hup, digS_snoc]; exact hown5, hb3⟩
        case measure => simp [intOf]; omega
    · have hje : j = n / 2 := by omega
      have e1 : ¬ ((2 * j : Nat) : Int) + 1 < (n : Int) := by omega
      rw [List.take_of_length_le (by rw [unhide hul]; omega)] at hown
      obtain ⟨va, vc, rfl⟩ := own_shape hown
      have hq : (Dg.up l).length = j := by rw [unhide hul, hje]
      subst hje
      replace hown := hide hown
      go_wp2_with fail
      go_ret
      exact ⟨⟨_, rfl, unhide hown⟩, hb⟩
end Go.Proofs.Ytlmaofibdjmkeaa
