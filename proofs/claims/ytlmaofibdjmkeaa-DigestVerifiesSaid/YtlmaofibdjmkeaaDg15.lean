/- The law's list and change. -/
import Derived.Test.YtlmaofibdjmkeaaDg13
namespace Go.Proofs.Ytlmaofibdjmkeaa
open Go.RowKit
attribute [local go_sem ↓] Go.wp_at_zero Go.wp_at_succ
/-- the law's list -/
def Dg.cutL (L : List ByteArray) : List ByteArray := (L.take 20).map fun s => s.extract 0 (min s.size 30)
theorem cutL_step (L : List ByteArray) (k : Nat) (x : ByteArray) (hk : k < 20) (hx : L[k]? = some x) : (Dg.cutL (L.take (k + 1))).map vba = (Dg.cutL (L.take k)).map vba ++ [vba (x.extract 0 (min x.size 30))] := by
  obtain ⟨hkl, hxe⟩ := List.getElem?_eq_some_iff.1 hx
  unfold Dg.cutL
  rw [List.take_succ_eq_append_getElem hkl, List.take_of_length_le (l := L.take k ++ [L[k]]) (by simp; omega), List.take_of_length_le (l := L.take k) (by rw [List.length_take]; omega), List.map_append, List.map_append, hxe]
  rfl
theorem cutL_sizes (L : List ByteArray) : ∀ x ∈ Dg.cutL L, x.size ≤ 30 := by
  intro x hx
  obtain ⟨y, hy, rfl⟩ := List.mem_map.1 hx
  rw [ByteArray.size_extract]
  omega
theorem cutL_len (L : List ByteArray) : (Dg.cutL L).length = min 20 L.length := by simp [Dg.cutL]
set_option maxRecDepth 100000 in
set_option maxHeartbeats 4000000 in
theorem dlist_any (a : Option Addr) (len cap : Nat) (L : List ByteArray) (w : World) (hL : Lst Enc.str w (fun b => b < w.heap.size) a len L) :
    Calls Try.prog 22 #[.slice a len cap] w fun e w' => (∃ pa pc, e = .returned (.slice pa (Dg.cutL L).length pc) ∧ Lst Enc.str w' (fun b => b < w'.heap.size ∧ w.heap.size ≤ b) pa (Dg.cutL L).length (Dg.cutL L)) ∧ Below w.heap.size w w' := by
  obtain ⟨i1, hi, hz0, hz1, hz2⟩ := info_parts info_str
  have hL0 := hL.1
  replace hL := hide hL; replace hL0 := hide hL0
  replace hi := hide hi; replace hz0 := hide hz0; replace hz1 := hide hz1; replace hz2 := hide hz2
  go_enter Try.func22, Try.ntmps22
  go_wp2_with fail
  go_loopw [3, 4] (fun v3 v4 wr => ∃ k : Nat, k ≤ len ∧ k ≤ 20 ∧ v4 = .int .i64 (k : Int) ∧ wr.ownsRow w.heap.size 9 1 v3 k ((Dg.cutL (L.take k)).map vba) ∧ Below w.heap.size w wr) (fun _ v _ => (len - intOf v).toNat)
  case atStart => exact ⟨0, by omega, by omega, rfl, World.ownsRow_nil _ _ _ _, Below.refl _ _⟩
  case round =>
    obtain ⟨k, hk, hk20, rfl, hown, hb⟩ := hrel
    obtain ⟨va, vc, rfl⟩ := own_shape hown
    by_cases hlt : k < len ∧ k < 20
    · obtain ⟨bb, off, x, rfl, hbl, hx, hxi, hc⟩ := lst_str ((unhide hL).under hb) hlt.1
      have hstep := cutL_step L k x hlt.2 hx
      have t1 : (k : Int) < (len : Int) := by omega
      have t2 : (k : Int) < 20 := by omega
      unfold maxLen at hxi
      obtain ⟨u, hu⟩ : ∃ u, min x.size 30 = u := ⟨_, rfl⟩
      rw [hu] at hstep
      obtain ⟨y, hy⟩ : ∃ y, x.extract 0 u = y := ⟨_, rfl⟩
      rw [hy] at hstep
      replace hstep := hide hstep
      clear hx
      go_wp2_with fail
      refine wp_region_frontG 13 (fun _ _ w' => Below wr.heap.size wr w') (fun wa wb => Below wa.heap.size wa wb)
        (fun i v w' => match i with
          | 0 => v = .slice va k vc
          | 1 => v = .slice (some ⟨bb, off, none⟩) len cap
          | 2 => v = .int .i64 (k : Int)
          | 3 => v = .pointer (some ⟨bb, off + k, none⟩)
          | 4 => v = .string x
          | 5 => v = .slice (some ⟨bb, off, none⟩) len cap
          | 6 => v = .int .i64 (k : Int)
          | 7 => v = .pointer (some ⟨bb, off + k, none⟩)
          | 8 => v = .string x
          | 9 => v = .int .i64 (x.size : Int)
          | 10 => v = .int .i64 (u : Int)
          | 11 => v = .string y
          | 12 => ∃ b, v = .slice (some ⟨b, 0, none⟩) 1 1 ∧ w'.heap[b]? = some (.cells #[.string y] 9 (0, 0))
          | _ => True) (by rfl) (by kernel_rfl) ?_ ?_ ?_ ?_
      · exact (Below.refl _ _).drew
      · intro wa wb hR i v hv
        match i, hv with
        | 0, h => exact h
        | 1, h => exact h
        | 2, h => exact h
        | 3, h => exact h
        | 4, h => exact h
        | 5, h => exact h
        | 6, h => exact h
        | 7, h => exact h
        | 8, h => exact h
        | 9, h => exact h
        | 10, h => exact h
        | 11, h => exact h
        | 12, h => obtain ⟨b, h1, h2⟩ := h; exact ⟨b, h1, (hR.block b (Array.getElem?_eq_some_iff.1 h2).1).trans h2⟩
        | _ + 13, _ => trivial
      · intro i hi
        obtain rfl | rfl | rfl | rfl | rfl | rfl | rfl | rfl | rfl | rfl | rfl | rfl | rfl : i = 0 ∨ i = 1 ∨ i = 2 ∨ i = 3 ∨ i = 4 ∨ i = 5 ∨ i = 6 ∨ i = 7 ∨ i = 8 ∨ i = 9 ∨ i = 10 ∨ i = 11 ∨ i = 12 := by omega
        · refine FrontStep.of [] _ rfl (by kernel_rfl) ?_
          intro vs L wq hL hC hf
          simp only [putL, List.foldl_nil]
          go_wp2_with fail
          first | exact Below.refl _ _ | exact ⟨Below.refl _ _, by omega⟩
        · refine FrontStep.of [] _ rfl (by kernel_rfl) ?_
          intro vs L wq hL hC hf
          simp only [putL, List.foldl_nil]
          go_wp2_with fail
          first | exact Below.refl _ _ | exact ⟨Below.refl _ _, by omega⟩
        · refine FrontStep.of [] _ rfl (by kernel_rfl) ?_
          intro vs L wq hL hC hf
          simp only [putL, List.foldl_nil]
          go_wp2_with fail
          first | exact Below.refl _ _ | exact ⟨Below.refl _ _, by omega⟩
        · refine FrontStep.of [1, 2] _ rfl (by kernel_rfl) ?_
          intro vs L wq hL hC hf
          simp only [putL, List.foldl_nil, List.foldl_cons, List.getElem?_cons_zero, List.getElem?_cons_succ]
          have e1 : vs 1 = _ := hf 1 (by simp)
          rw [e1]
          have e2 : vs 2 = _ := hf 2 (by simp)
          rw [e2]
          go_wp2_with fail
          first | exact Below.refl _ _ | exact ⟨Below.refl _ _, by omega⟩
        · refine FrontStep.of [3] _ rfl (by kernel_rfl) ?_
          intro vs L wq hL hC hf
          simp only [putL, List.foldl_nil, List.foldl_cons, List.getElem?_cons_zero, List.getElem?_cons_succ]
          have e3 : vs 3 = _ := hf 3 (by simp)
          rw [e3]
          have hcq := (hC.cell (p := ⟨bb, off + k, none⟩) hbl).trans hc
          go_wp2_with fail
          first | exact Below.refl _ _ | exact ⟨Below.refl _ _, by omega⟩
        · refine FrontStep.of [] _ rfl (by kernel_rfl) ?_
          intro vs L wq hL hC hf
          simp only [putL, List.foldl_nil]
          go_wp2_with fail
          first | exact Below.refl _ _ | exact ⟨Below.refl _ _, by omega⟩
        · refine FrontStep.of [] _ rfl (by kernel_rfl) ?_
          intro vs L wq hL hC hf
          simp only [putL, List.foldl_nil]
          go_wp2_with fail
          first | exact Below.refl _ _ | exact ⟨Below.refl _ _, by omega⟩
        · refine FrontStep.of [5, 6] _ rfl (by kernel_rfl) ?_
          intro vs L wq hL hC hf
          simp only [putL, List.foldl_nil, List.foldl_cons, List.getElem?_cons_zero, List.getElem?_cons_succ]
          have e5 : vs 5 = _ := hf 5 (by simp)
          rw [e5]
          have e6 : vs 6 = _ := hf 6 (by simp)
          rw [e6]
          go_wp2_with fail
          first | exact Below.refl _ _ | exact ⟨Below.refl _ _, by omega⟩
        · refine FrontStep.of [7] _ rfl (by kernel_rfl) ?_
          intro vs L wq hL hC hf
          simp only [putL, List.foldl_nil, List.foldl_cons, List.getElem?_cons_zero, List.getElem?_cons_succ]
          have e7 : vs 7 = _ := hf 7 (by simp)
          rw [e7]
          have hcq := (hC.cell (p := ⟨bb, off + k, none⟩) hbl).trans hc
          go_wp2_with fail
          first | exact Below.refl _ _ | exact ⟨Below.refl _ _, by omega⟩
        · refine FrontStep.of [8] _ rfl (by kernel_rfl) ?_
          intro vs L wq hL hC hf
          simp only [putL, List.foldl_nil, List.foldl_cons, List.getElem?_cons_zero, List.getElem?_cons_succ]
          have e8 : vs 8 = _ := hf 8 (by simp)
          rw [e8]
          go_wp2_with fail
          first | exact Below.refl _ _ | exact ⟨Below.refl _ _, by omega⟩
        · refine FrontStep.of [9] _ rfl (by kernel_rfl) ?_
          intro vs L wq hL hC hf
          simp only [putL, List.foldl_nil, List.foldl_cons, List.getElem?_cons_zero, List.getElem?_cons_succ]
          have e9 : vs 9 = _ := hf 9 (by simp)
          rw [e9]
          rcases Nat.le_total x.size 30 with hle | hle
          · obtain rfl : x.size = u := by omega
            have t3 : ¬ (30 : Int) < (x.size : Int) := by omega
            go_wp2_with fail
            exact Below.refl _ _
          · obtain rfl : 30 = u := by omega
            go_wp2_with fail
            first | exact Below.refl _ _ | exact ⟨Below.refl _ _, by omega⟩
        · refine FrontStep.of [4, 10] _ rfl (by kernel_rfl) ?_
          intro vs L wq hL hC hf
          simp only [putL, List.foldl_nil, List.foldl_cons, List.getElem?_cons_zero, List.getElem?_cons_succ]
          have e4 : vs 4 = _ := hf 4 (by simp)
          rw [e4]
          have e10 : vs 10 = _ := hf 10 (by simp)
          rw [e10]
          have hux : u ≤ x.size := by omega
          go_wp2_with fail
          first | exact Below.refl _ _ | exact ⟨Below.refl _ _, by rw [← hy]⟩
        · refine FrontStep.of [11] _ rfl (by kernel_rfl) ?_
          intro vs L wq hL hC hf
          simp only [putL, List.foldl_nil, List.foldl_cons, List.getElem?_cons_zero, List.getElem?_cons_succ]
          have e11 : vs 11 = _ := hf 11 (by simp)
          rw [e11]
          go_wp2_with fail
          exact ⟨hC.alloc hC.size _, (Below.refl _ _).alloc (Nat.le_refl _) _, (Array.getElem?_eq_some_iff.1 (heap_alloc_new _ _)).2⟩
      · intro vs L wq hL hC hf
        have e0 : vs 0 = _ := hf 0 (by omega)
        obtain ⟨b, e12, hb12⟩ := hf 12 (by omega)
        rw [putSome_all]
        simp only [putL, List.range, List.range.loop, List.foldl_nil, List.foldl_cons, List.getElem?_cons_zero, List.getElem?_cons_succ, List.drop_succ_cons, List.drop_zero]
        rw [e0, e12]
        clear e0 e12 hf hL
        have hownq := own_below hown hC
        have hcq := cell_of_row _ b 0 _ _ _ hb12
        have hszq := hC.size
        have hbw := hb.trans (hC.mono hb.size)
        go_simp
        go_wp2_with (at_builtin; refine wpList_append_own _ rfl _ _ 28 rfl w.heap.size 9 i1 (.string ⟨#[]⟩) 1 16 Try.underlying28 (unhide hi) (unhide hz0) (unhide hz1) (unhide hz2) rfl (by decide) _ _ _ rfl hownq ⟨b, 0, none⟩ 1 1 [.string y] rfl rfl ?c1 ?c2 ?c3 ?c4 ?c5 ?_)
        case c1 =>
          intro j u hj
          cases j with
          | zero => simp at hj; subst hj; rw [Addr.add_lit, cell_of_row _ _ _ _ _ _ hb12]; rfl
          | succ j => simp at hj
        case c2 => intro u hu; simp at hu; subst hu; rfl
        case c3 => unfold maxLen; omega
        case c4 => omega
        case c5 => have := hb.size; omega
        intro v' w5 hown5 hg5 _
        have hb3 : Below w.heap.size w w5 := Below.grown hbw hg5 (by have := hb.size; omega) (fun g hg => (hownq.lt g hg).1)
        obtain ⟨va', vc', rfl⟩ := own_shape hown5
        clear hg5 hownq hbw
        go_wp2_with fail
        go_roundw
        case rel => exact ⟨k + 1, by omega, by omega, by go_num, by rw [unhide hstep]; exact hown5, hb3⟩
        case measure => simp [intOf]; omega
    · have hkk : (Dg.cutL (L.take k)) = Dg.cutL L := by
        unfold Dg.cutL
        rw [List.take_take]
        congr 1
        have := unhide hL0
        rcases Nat.lt_or_ge k 20 with h | h
        · rw [List.take_of_length_le (by omega), List.take_of_length_le (by omega)]
        · rw [show min 20 k = 20 by omega]
      rw [hkk] at hown
      have hkl : k = (Dg.cutL L).length := by have := hown.1; simpa using this.symm
      obtain ⟨pa, pc, hpe, hlst⟩ := lst_own_vba hown (fun x hx => by have := cutL_sizes L x hx; unfold maxLen; omega)
      rw [hpe]
      replace hlst := hide hlst; replace hkl := hide hkl
      clear hown hpe hkk
      by_cases h1 : k < len
      · have t1 : (k : Int) < (len : Int) := by omega
        have t2 : ¬ (k : Int) < 20 := by omega
        go_wp2_with fail
        go_ret
        exact ⟨⟨_, ⟨_, rfl⟩, unhide hlst⟩, hb⟩
      · have t1 : ¬ (k : Int) < (len : Int) := by omega
        go_wp2_with fail
        go_ret
        exact ⟨⟨_, ⟨_, rfl⟩, unhide hlst⟩, hb⟩
end Go.Proofs.Ytlmaofibdjmkeaa
