/- StreamSteps, walked. -/
import Derived.Test.YtfbgbbbfpkpfkaaTsD
import Derived.Deep.CutBlock
namespace Go.Proofs.Ytfbgbbbfpkpfkaa
open Go.RowKit
set_option maxRecDepth 100000 in
set_option maxHeartbeats 16000000 in
theorem streamSteps_any (na : Option Addr) (nn nc : Nat) (N : List Int) (ra : Option Addr) (rn rc : Nat) (raw : List (List Sub)) (ga : Option Addr) (gn gc : Nat) (g : List Int) (cs : Array Value) (sts : List Stg) (w : World)
    (hN : Lst Enc.int w (fun b => b < w.heap.size) na nn N) (hN1 : nn ≤ nc) (hN2 : nc ≤ maxLen) (hraw : Lst Enc.lk w (fun b => b < w.heap.size) ra rn raw) (hr1 : rn ≤ rc) (hr2 : rc ≤ maxLen) (hG : Lst Enc.int w (fun b => b < w.heap.size) ga gn g) (hG1 : gn ≤ gc) (hG2 : gc ≤ maxLen)
    (hcs : (Enc.list Enc.stg).rep w (fun b => b < w.heap.size) cs.toList sts) :
    Calls Try.prog 6 #[.slice na nn nc, .slice ra rn rc, .slice ga gn gc, .agg cs] w fun e w' => e = .returned (.bool true) ∧ Below w.heap.size w w' := by
  obtain ⟨sa, sn, sc, hcl, hs1, hs2, hS⟩ := hcs
  obtain ⟨cs⟩ := cs
  simp only at hcl
  subst hcl
  have hsm : sn ≤ maxLen := by omega
  obtain ⟨nm, enm⟩ : ∃ m : Nat, (min (nn : Int) 60).toNat = m := ⟨_, rfl⟩
  have mnm : nm ≤ nn := by omega
  have mnc : nm ≤ nc := by omega
  have hif : Hid ((if (60 : Int) < (nn : Int) then (60 : Int) else (nn : Int)) = (nm : Int)) := hide (by split <;> omega)
  have hif2 : Hid (min (nn : Int) 60 = (nm : Int)) := hide (by omega)
  have i60 : (0 : Int) ≤ (nm : Int) := by omega
  have i61 : (nm : Int) ≤ (nc : Int) := by omega
  obtain ⟨b7, V7, hb7, hV7, st⟩ := (St.start w).new (Obj.cells #[.slice sa sn sc] 29)
  have k7 := hide (st.get 0 rfl)
  have hz7 := hide st.below
  have hN' := hide (hN.under st.below)
  have hR' := hide (hraw.under st.below)
  have hG' := hide (hG.under st.below)
  have hS' := hide (hS.under st.below)
  have hsan := hide (sanity_any V7)
  clear st hN hraw hG hS enm
  replace hb7 := hide hb7; replace hV7 := hide hV7
  go_enter Try.func6, Try.ntmps6
  go_upto_region 1 with fail
  try rw [unhide hb7]
  rw [unhide hV7]
  clear hV7 hb7
  go_wp2_with fail
  refine (unhide hsan).mono ?_
  rintro e w1 ⟨rfl, hb1⟩
  clear hsan
  have hz1 := hide ((unhide hz7).trans (hb1.mono (unhide hz7).size))
  have k71 := hide (kept' hb1 (unhide k7))
  have hN1' := hide ((unhide hN').under hb1)
  have hG1' := hide ((unhide hG').under hb1)
  have hS1' := hide ((unhide hS').under hb1)
  have hc := hide (few_any ra rn rc raw w1 ((unhide hR').under hb1) hr1 hr2)
  clear hz7 k7 hN' hG' hS' hR' hb1
  go_wp2_with fail
  refine (unhide hc).mono ?_
  rintro e w2 ⟨v, us, rfl, hF⟩
  have hbF := hF.bel
  obtain ⟨fa, fc, rfl, hf⟩ := InR.lst hF.out hF.row (fun b hb => Nat.lt_of_lt_of_le hb hF.bel.size)
  obtain ⟨hf3, hfs⟩ := fewS3_small raw
  obtain ⟨FL, hFL⟩ : ∃ L, fewS3 raw = L := ⟨_, rfl⟩
  rw [hFL] at hf hf3 hfs
  try rw [hFL]
  obtain ⟨fn, hfn⟩ : ∃ m, FL.length = m := ⟨_, rfl⟩
  rw [hfn] at hf hf3
  try rw [hfn]
  have hft := lst_to hf
  have hz2 := hide ((unhide hz1).trans (hbF.mono (unhide hz1).size))
  have k72 := hide (kept' hbF (unhide k71))
  have hN2' := hide ((unhide hN1').under hbF)
  have hS2' := hide ((unhide hS1').under hbF)
  have hcc := hide (cut_any ga gn gc g w2 ((unhide hG1').under hbF) (by omega))
  clear hc hF hz1 k71 hN1' hG1' hS1' hbF
  replace hf := hide hf; replace hfs := hide hfs; replace hft := hide hft; replace hFL := hide hFL; replace hfn := hide hfn
  go_wp2_with fail
  refine (unhide hcc).mono ?_
  rintro e w3 ⟨v, rfl, hown, hb3⟩
  obtain ⟨ca, cc, rfl, -, hcl⟩ := own_lst hown (cutS_i64 g)
  have hcn := cutS_len g
  have hci : AllI (cutS g) := cutS_i64 g
  obtain ⟨X, hX⟩ : ∃ X, cutS g = X := ⟨_, rfl⟩
  rw [hX] at hcl hcn hci
  try rw [hX]
  obtain ⟨xn, hxn⟩ : ∃ m, X.length = m := ⟨_, rfl⟩
  rw [hxn] at hcl hcn
  try rw [hxn]
  have hz3 := hide ((unhide hz2).trans (hb3.mono (unhide hz2).size))
  have k73 := hide (kept' hb3 (unhide k72))
  have hN3 := hide ((unhide hN2').under hb3)
  have hS3 := hide ((unhide hS2').under hb3)
  have hf3' := hide ((unhide hf).under hb3)
  obtain ⟨b10, V10, hb10, hV10, st⟩ := (St.start w3).new (Obj.cells #[.slice none 0 0] 29)
  have hq0 := hide (CqI.start (F := fun b => b < w3.heap.size) st.below (st.get 0 rfl) (by omega) (fun _ h => h))
  clear hcc hz2 k72 hN2' hS2' hf hown hb3 st hX
  replace hcl := hide hcl; replace hci := hide hci; replace hxn := hide hxn; replace hb10 := hide hb10; replace hV10 := hide hV10
  go_upto_region 4 with fail
  try rw [unhide hb10]
  rw [unhide hV10]
  clear hV10 hb10
  go_upto_block 0 with fail
  go_cut [] (fun wr => ∃ (ya : Option Addr) (yn yc : Nat) (AN : List Stg), SmS 0 AN ∧ AN.length = yn ∧ wr.heap[b10]? = some (.cells #[.slice ya yn yc] 29 (0, 0)) ∧ Lst Enc.stg wr (fun b => b < wr.heap.size) ya yn AN ∧ Below w3.heap.size w3 wr)
  case first =>
    go_wp2_with fail
    go_loopw [11] (fun v wr => ∃ (k : Nat) (vo : Value), k ≤ sn ∧ k ≤ 4 ∧ v = .int .i64 (k : Int) ∧ CqI (fun b => b < w3.heap.size) w3 wr b10 vo ((sts.take k).map cut8)) (fun v _ => 4 - (intOf v).toNat)
    case atStart => exact ⟨0, _, by omega, by omega, rfl, unhide hq0⟩
    case round =>
      clear hq0
      obtain ⟨k, vo, hk, hk4, rfl, hq⟩ := hrel
      obtain ⟨wo, rfl⟩ : ∃ W : World, W = wr := ⟨_, rfl⟩
      have d7 := blk_cell (kept' hq.bel (unhide k73))
      by_cases hlt : k < sn ∧ k < 4
      · obtain ⟨hlt1, hlt2⟩ := hlt
        have t3 : (k : Int) < (sn : Int) := by omega
        have t4 : (k : Int) < 4 := by omega
        obtain ⟨g0, off, s, a1, n1, c1, a2, n2, c2, rfl, hbs, hx, ⟨p11, p12, p1⟩, ⟨p21, p22, p2⟩, e1, e2⟩ := lst_stg (unhide hS3) hlt1
        have e1' := (hq.bel.cell (p := ⟨g0, off + k * 2, none⟩) hbs).trans e1
        have e2' := (hq.bel.cell (p := ⟨g0, off + k * 2 + 1, none⟩) hbs).trans e2
        obtain ⟨k1, ek1⟩ : ∃ m, min n1 8 = m := ⟨_, rfl⟩
        obtain ⟨k2, ek2⟩ : ∃ m, min n2 8 = m := ⟨_, rfl⟩
        have q1 : Hid ((if (8 : Int) < (n1 : Int) then (8 : Int) else (n1 : Int)) = (k1 : Int)) := hide (by split <;> omega)
        have q2 : Hid ((if (8 : Int) < (n2 : Int) then (8 : Int) else (n2 : Int)) = (k2 : Int)) := hide (by split <;> omega)
        have r1 : Hid (min (n1 : Int) 8 = (k1 : Int)) := hide (by omega)
        have r2 : Hid (min (n2 : Int) 8 = (k2 : Int)) := hide (by omega)
        have zz1 : (k1 : Int) ≤ (c1 : Int) := by omega
        have zz2 : (k2 : Int) ≤ (c2 : Int) := by omega
        have zz3 : (0 : Int) ≤ (k1 : Int) := by omega
        have zz4 : (0 : Int) ≤ (k2 : Int) := by omega
        have m1 : k1 ≤ c1 := by omega
        have m2 : k2 ≤ c2 := by omega
        have T1 := hide (lst_take8 p1 ek1)
        have T2 := hide (lst_take8 p2 ek2)
        have hlk : ((sts.take k).map cut8).length = k := by rw [List.length_map, List.length_take]; have := (unhide hS3).1; omega
        obtain ⟨b12, V12, hb12, hV12, st⟩ := (St.start wo).new (Obj.cells #[.slice a1 n1 c1, .slice a2 n2 c2] 33)
        have hq12 := hide (hq.under st.below)
        have d10 := cell_under (blk_cell hq.box) st.below
        obtain ⟨f0, f1, _, _⟩ := cells2 (st.get 0 rfl)
        clear st hq p1 p2 e1 e2
        replace hb12 := hide hb12; replace hV12 := hide hV12; replace hlk := hide hlk; replace hx := hide hx; replace d10 := hide d10; replace f0 := hide f0; replace f1 := hide f1
        go_upto_region 8 with fail
        try rw [unhide hb12]
        rw [unhide hV12]
        clear hV12 hb12 e1' e2' d7
        have d10 := unhide d10
        have f0 := unhide f0
        have f1 := unhide f1
        refine wp_region_frontG 18 (fun _ _ w' => Below V12.heap.size V12 w') (fun wa wb => Below wa.heap.size wa wb)
          (fun ix v w' => match ix with
            | 0 => v = .pointer (some ⟨b10, 0, none⟩)
            | 1 => v = vo
            | 2 => v = .pointer (some ⟨b12, 0, none⟩)
            | 3 => v = .slice a1 n1 c1
            | 4 => v = .pointer (some ⟨b12, 0, none⟩)
            | 5 => v = .slice a1 n1 c1
            | 6 => v = .int .i64 (n1 : Int)
            | 7 => v = .int .i64 (k1 : Int)
            | 8 => v = .slice a1 k1 c1
            | 9 => v = .pointer (some ⟨b12, 1, none⟩)
            | 10 => v = .slice a2 n2 c2
            | 11 => v = .pointer (some ⟨b12, 1, none⟩)
            | 12 => v = .slice a2 n2 c2
            | 13 => v = .int .i64 (n2 : Int)
            | 14 => v = .int .i64 (k2 : Int)
            | 15 => v = .slice a2 k2 c2
            | 16 => v = .agg #[.slice a1 k1 c1, .slice a2 k2 c2]
            | 17 => ∃ b, v = .slice (some ⟨b, 0, none⟩) 1 1 ∧ w'.heap[b]? = some (.cells #[.slice a1 k1 c1, .slice a2 k2 c2] 33 (0, 0))
            | _ => True) (by rfl) (by kernel_rfl) ?_ ?_ ?_ ?_
        · exact (Below.refl _ _).drew
        · intro wa wb hR ix v hv
          match ix, hv with
          | 0, h => exact h
          | 1, h => exact h
          | 2, h => exact h
          | 3, h => exact h
          | 4, h => exact h
          | 5, h => exact h
          | 6, h => exact h
          | 7, h => exact h
          | 8, h => exact h
          | 9, h => exact h
          | 10, h => exact h
          | 11, h => exact h
          | 12, h => exact h
          | 13, h => exact h
          | 14, h => exact h
          | 15, h => exact h
          | 16, h => exact h
          | 17, h => obtain ⟨b, h1, h2⟩ := h; exact ⟨b, h1, kept' hR h2⟩
          | _ + 18, _ => trivial
        · intro ix hix
          obtain rfl | rfl | rfl | rfl | rfl | rfl | rfl | rfl | rfl | rfl | rfl | rfl | rfl | rfl | rfl | rfl | rfl | rfl : ix = 0 ∨ ix = 1 ∨ ix = 2 ∨ ix = 3 ∨ ix = 4 ∨ ix = 5 ∨ ix = 6 ∨ ix = 7 ∨ ix = 8 ∨ ix = 9 ∨ ix = 10 ∨ ix = 11 ∨ ix = 12 ∨ ix = 13 ∨ ix = 14 ∨ ix = 15 ∨ ix = 16 ∨ ix = 17 := by omega
          · refine FrontStep.of [] _ rfl (by kernel_rfl) ?_
            intro vs LL wq hLL hC hf
            simp only [putL, List.foldl_nil]
            go_wp2_with fail
            first | exact Below.refl _ _ | exact hC | exact ⟨hC, Below.refl _ _⟩ | exact ⟨hC, Below.refl _ _, by omega⟩ | exact ⟨Below.refl _ _, by omega⟩ | trace_state
          · refine FrontStep.of [0] _ rfl (by kernel_rfl) ?_
            intro vs LL wq hLL hC hf
            simp only [putL, List.foldl_nil, List.foldl_cons, List.getElem?_cons_zero]
            have e0 : vs 0 = _ := hf 0 (by simp)
            rw [e0]
            have g0c0 := cell_under d10 hC
            go_wp2_with fail
            first | exact Below.refl _ _ | exact hC | exact ⟨hC, Below.refl _ _⟩ | exact ⟨hC, Below.refl _ _, by omega⟩ | exact ⟨Below.refl _ _, by omega⟩ | trace_state
          · refine FrontStep.of [] _ rfl (by kernel_rfl) ?_
            intro vs LL wq hLL hC hf
            simp only [putL, List.foldl_nil]
            go_wp2_with fail
            first | exact Below.refl _ _ | exact hC | exact ⟨hC, Below.refl _ _⟩ | exact ⟨hC, Below.refl _ _, by omega⟩ | exact ⟨Below.refl _ _, by omega⟩ | trace_state
          · refine FrontStep.of [2] _ rfl (by kernel_rfl) ?_
            intro vs LL wq hLL hC hf
            simp only [putL, List.foldl_nil, List.foldl_cons, List.getElem?_cons_zero, List.getElem?_cons_succ]
            have e2 : vs 2 = _ := hf 2 (by simp)
            rw [e2]
            have g0c0 := cell_under f0 hC
            go_wp2_with fail
            first | exact Below.refl _ _ | exact hC | exact ⟨hC, Below.refl _ _⟩ | exact ⟨hC, Below.refl _ _, by omega⟩ | exact ⟨Below.refl _ _, by omega⟩ | trace_state
          · refine FrontStep.of [] _ rfl (by kernel_rfl) ?_
            intro vs LL wq hLL hC hf
            simp only [putL, List.foldl_nil]
            go_wp2_with fail
            first | exact Below.refl _ _ | exact hC | exact ⟨hC, Below.refl _ _⟩ | exact ⟨hC, Below.refl _ _, by omega⟩ | exact ⟨Below.refl _ _, by omega⟩ | trace_state
          · refine FrontStep.of [4] _ rfl (by kernel_rfl) ?_
            intro vs LL wq hLL hC hf
            simp only [putL, List.foldl_nil, List.foldl_cons, List.getElem?_cons_zero, List.getElem?_cons_succ]
            have e4 : vs 4 = _ := hf 4 (by simp)
            rw [e4]
            have g0c0 := cell_under f0 hC
            go_wp2_with fail
            first | exact Below.refl _ _ | exact hC | exact ⟨hC, Below.refl _ _⟩ | exact ⟨hC, Below.refl _ _, by omega⟩ | exact ⟨Below.refl _ _, by omega⟩ | trace_state
          · refine FrontStep.of [5] _ rfl (by kernel_rfl) ?_
            intro vs LL wq hLL hC hf
            simp only [putL, List.foldl_nil, List.foldl_cons, List.getElem?_cons_zero, List.getElem?_cons_succ]
            have e5 : vs 5 = _ := hf 5 (by simp)
            rw [e5]
            go_wp2_with fail
            first | exact Below.refl _ _ | exact hC | exact ⟨hC, Below.refl _ _⟩ | exact ⟨hC, Below.refl _ _, by omega⟩ | exact ⟨Below.refl _ _, by omega⟩ | trace_state
          · refine FrontStep.of [6] _ rfl (by kernel_rfl) ?_
            intro vs LL wq hLL hC hf
            simp only [putL, List.foldl_nil, List.foldl_cons, List.getElem?_cons_zero, List.getElem?_cons_succ]
            have e6 : vs 6 = _ := hf 6 (by simp)
            rw [e6]
            have qq := unhide q1
            have rr := unhide r1
            go_wp2_with fail
            first | exact Below.refl _ _ | exact hC | exact ⟨hC, Below.refl _ _⟩ | exact ⟨hC, Below.refl _ _, by omega⟩ | exact ⟨Below.refl _ _, by omega⟩ | trace_state
          · refine FrontStep.of [3, 7] _ rfl (by kernel_rfl) ?_
            intro vs LL wq hLL hC hf
            simp only [putL, List.foldl_nil, List.foldl_cons, List.getElem?_cons_zero, List.getElem?_cons_succ]
            have e3 : vs 3 = _ := hf 3 (by simp)
            rw [e3]
            have e7 : vs 7 = _ := hf 7 (by simp)
            rw [e7]
            go_wp2_with fail
            first | exact Below.refl _ _ | exact hC | exact ⟨hC, Below.refl _ _⟩ | exact ⟨hC, Below.refl _ _, by omega⟩ | exact ⟨Below.refl _ _, by omega⟩ | trace_state
          · refine FrontStep.of [] _ rfl (by kernel_rfl) ?_
            intro vs LL wq hLL hC hf
            simp only [putL, List.foldl_nil]
            go_wp2_with fail
            first | exact Below.refl _ _ | exact hC | exact ⟨hC, Below.refl _ _⟩ | exact ⟨hC, Below.refl _ _, by omega⟩ | exact ⟨Below.refl _ _, by omega⟩ | trace_state
          · refine FrontStep.of [9] _ rfl (by kernel_rfl) ?_
            intro vs LL wq hLL hC hf
            simp only [putL, List.foldl_nil, List.foldl_cons, List.getElem?_cons_zero, List.getElem?_cons_succ]
            have e9 : vs 9 = _ := hf 9 (by simp)
            rw [e9]
            have g0c0 := cell_under f1 hC
            go_wp2_with fail
            first | exact Below.refl _ _ | exact hC | exact ⟨hC, Below.refl _ _⟩ | exact ⟨hC, Below.refl _ _, by omega⟩ | exact ⟨Below.refl _ _, by omega⟩ | trace_state
          · refine FrontStep.of [] _ rfl (by kernel_rfl) ?_
            intro vs LL wq hLL hC hf
            simp only [putL, List.foldl_nil]
            go_wp2_with fail
            first | exact Below.refl _ _ | exact hC | exact ⟨hC, Below.refl _ _⟩ | exact ⟨hC, Below.refl _ _, by omega⟩ | exact ⟨Below.refl _ _, by omega⟩ | trace_state
          · refine FrontStep.of [11] _ rfl (by kernel_rfl) ?_
            intro vs LL wq hLL hC hf
            simp only [putL, List.foldl_nil, List.foldl_cons, List.getElem?_cons_zero, List.getElem?_cons_succ]
            have e11 : vs 11 = _ := hf 11 (by simp)
            rw [e11]
            have g0c0 := cell_under f1 hC
            go_wp2_with fail
            first | exact Below.refl _ _ | exact hC | exact ⟨hC, Below.refl _ _⟩ | exact ⟨hC, Below.refl _ _, by omega⟩ | exact ⟨Below.refl _ _, by omega⟩ | trace_state
          · refine FrontStep.of [12] _ rfl (by kernel_rfl) ?_
            intro vs LL wq hLL hC hf
            simp only [putL, List.foldl_nil, List.foldl_cons, List.getElem?_cons_zero, List.getElem?_cons_succ]
            have e12 : vs 12 = _ := hf 12 (by simp)
            rw [e12]
            go_wp2_with fail
            first | exact Below.refl _ _ | exact hC | exact ⟨hC, Below.refl _ _⟩ | exact ⟨hC, Below.refl _ _, by omega⟩ | exact ⟨Below.refl _ _, by omega⟩ | trace_state
          · refine FrontStep.of [13] _ rfl (by kernel_rfl) ?_
            intro vs LL wq hLL hC hf
            simp only [putL, List.foldl_nil, List.foldl_cons, List.getElem?_cons_zero, List.getElem?_cons_succ]
            have e13 : vs 13 = _ := hf 13 (by simp)
            rw [e13]
            have qq := unhide q2
            have rr := unhide r2
            go_wp2_with fail
            first | exact Below.refl _ _ | exact hC | exact ⟨hC, Below.refl _ _⟩ | exact ⟨hC, Below.refl _ _, by omega⟩ | exact ⟨Below.refl _ _, by omega⟩ | trace_state
          · refine FrontStep.of [10, 14] _ rfl (by kernel_rfl) ?_
            intro vs LL wq hLL hC hf
            simp only [putL, List.foldl_nil, List.foldl_cons, List.getElem?_cons_zero, List.getElem?_cons_succ]
            have e10 : vs 10 = _ := hf 10 (by simp)
            rw [e10]
            have e14 : vs 14 = _ := hf 14 (by simp)
            rw [e14]
            go_wp2_with fail
            first | exact Below.refl _ _ | exact hC | exact ⟨hC, Below.refl _ _⟩ | exact ⟨hC, Below.refl _ _, by omega⟩ | exact ⟨Below.refl _ _, by omega⟩ | trace_state
          · refine FrontStep.of [8, 15] _ rfl (by kernel_rfl) ?_
            intro vs LL wq hLL hC hf
            simp only [putL, List.foldl_nil, List.foldl_cons, List.getElem?_cons_zero, List.getElem?_cons_succ]
            have e8 : vs 8 = _ := hf 8 (by simp)
            rw [e8]
            have e15 : vs 15 = _ := hf 15 (by simp)
            rw [e15]
            go_wp2_with fail
            first | exact Below.refl _ _ | exact hC | exact ⟨hC, Below.refl _ _⟩ | exact ⟨hC, Below.refl _ _, by omega⟩ | exact ⟨Below.refl _ _, by omega⟩ | trace_state
          · refine FrontStep.of [16] _ rfl (by kernel_rfl) ?_
            intro vs LL wq hLL hC hf
            simp only [putL, List.foldl_nil, List.foldl_cons, List.getElem?_cons_zero, List.getElem?_cons_succ]
            have e16 : vs 16 = _ := hf 16 (by simp)
            rw [e16]
            have hn0 := heap_alloc_new wq (Obj.cells #[.slice a1 k1 c1, .slice a2 k2 c2] 33)
            have hb0 := (Below.refl wq.heap.size wq).alloc (Nat.le_refl _) (Obj.cells #[.slice a1 k1 c1, .slice a2 k2 c2] 33)
            have hfin := hide (hC.trans (hb0.mono hC.size))
            replace hb0 := hide hb0; replace hn0 := hide hn0
            go_wp2_with fail
            first | exact ⟨unhide hfin, unhide hb0, _, rfl, unhide hn0⟩ | exact ⟨unhide hfin, unhide hb0, unhide hn0⟩ | exact ⟨unhide hb0, unhide hn0⟩ | exact ⟨unhide hfin, unhide hb0, (Array.getElem?_eq_some_iff.1 (unhide hn0)).2⟩ | trace_state
        · intro vs LL wq hLL hC hf
          obtain ⟨b64, e17, hr64⟩ := hf 17 (by omega)
          have e1 : vs 1 = _ := hf 1 (by omega)
          rw [putSome_all]
          simp only [putL, List.range, List.range.loop, List.foldl_nil, List.foldl_cons, List.getElem?_cons_zero, List.getElem?_cons_succ, List.drop_succ_cons, List.drop_zero]
          rw [e17, e1]
          have hq2 := (unhide hq12).under hC
          obtain ⟨_, xs, hown, hcc⟩ := hq2.rs
          have hs3 := hq2.bel.size
          have hT1 := ((unhide T1).same (fun b hb => hq2.bel.block b hb)).wide (S' := fun b => (b < w3.heap.size ∨ (w3.heap.size ≤ b ∧ vo.ownBlock ≠ some b ∧ b ≠ b10)) ∧ b < wq.heap.size) (fun b hb => ⟨.inl hb, Nat.lt_of_lt_of_le hb hs3⟩)
          have hT2 := ((unhide T2).same (fun b hb => hq2.bel.block b hb)).wide (S' := fun b => (b < w3.heap.size ∨ (w3.heap.size ≤ b ∧ vo.ownBlock ≠ some b ∧ b ≠ b10)) ∧ b < wq.heap.size) (fun b hb => ⟨.inl hb, Nat.lt_of_lt_of_le hb hs3⟩)
          rw [unhide hlk] at hown
          clear hf hLL hC e17 e1 hq12 T1 T2 f0 f1 d10
          replace hq2 := hide hq2; replace hown := hide hown; replace hcc := hide hcc; replace hr64 := hide hr64; replace hT1 := hide hT1; replace hT2 := hide hT2; replace hs3 := hide hs3
          go_simp
          go_wp2_with (at_builtin; refine wpList_append_el Try.underlying27 info_stage rfl (by decide) (by decide) rfl _ _ rfl w3.heap.size _ k xs rfl (unhide hown) b64 [.slice a1 k1 c1, .slice a2 k2 c2] rfl (unhide hr64) rfl ?aa ?ab (unhide hs3) ?_)
          case aa => first | exact ⟨rfl, rfl⟩ | (intro u hu; simp at hu; rcases hu with rfl | rfl <;> rfl)
          case ab => omega
          intro v' wz hrow hgr hown'
          obtain ⟨a', c', rfl⟩ := own_shape hrow
          obtain ⟨z1, z2, hq3⟩ := (unhide hq2).push (s := cut8 s) (by rw [unhide hlk]; exact unhide hown) (unhide hcc) (by rw [unhide hlk]; exact hrow) hgr hown' m1 (by omega) (unhide hT1) m2 (by omega) (unhide hT2)
          rw [← any_take (unhide hx)] at hq3
          clear hrow hgr hown' hq2 hown hcc hr64 hT1 hT2
          replace hq3 := hide hq3
          go_wp2_with fail
          go_roundw
          case rel => exact ⟨k + 1, _, by omega, by omega, by go_num, unhide hq3⟩
          case measure => simp [intOf]; omega
      · have hkx : (sts.take k).map cut8 = anyS sts := by
          unfold anyS
          have hl := (unhide hS3).1
          rw [show sts.take k = sts.take 4 by
            rcases Nat.lt_or_ge k 4 with h | h
            · rw [List.take_of_length_le (by omega), List.take_of_length_le (by omega)]
            · rw [show k = 4 by omega]]
        rw [hkx] at hq
        clear hkx
        obtain ⟨AN, hAN⟩ : ∃ A, anyS sts = A := ⟨_, rfl⟩
        have hsmA := anyS_sm sts
        rw [hAN] at hq hsmA
        obtain ⟨yn, hyn⟩ : ∃ m, AN.length = m := ⟨_, rfl⟩
        obtain ⟨ya, yc, hvo⟩ : ∃ a c, vo = .slice a yn c := by
          obtain ⟨_, vs, h, _⟩ := hq.rs
          rw [hyn] at h
          exact own_shape h
        have hqr := hq.rs
        have hqx := hq.box
        have hqb := hq.bel
        rw [hvo, hyn] at hqr
        rw [hvo] at hqx
        obtain ⟨_, _, hLA⟩ := hqr.lst (T := fun b => b < wo.heap.size) (fun b hb => hb.2) (fun b _ _ h => h)
        clear hq hqr hvo hAN
        replace hLA := hide hLA; replace hqx := hide hqx; replace hsmA := hide hsmA; replace hyn := hide hyn; replace hqb := hide hqb
        by_cases hxi : (k : Int) < (sn : Int)
        · have t5 : ¬ (k : Int) < 4 := by omega
          go_wp2_with fail
          go_meet
          exact ⟨ya, yn, yc, AN, unhide hsmA, unhide hyn, unhide hqx, unhide hLA, unhide hqb⟩
        · go_wp2_with fail
          go_meet
          exact ⟨ya, yn, yc, AN, unhide hsmA, unhide hyn, unhide hqx, unhide hLA, unhide hqb⟩
  case rest =>
    obtain ⟨ya, yn, yc, AN, hsmA, hyn, hqx, hLA, hqb⟩ := hcut
    obtain ⟨wo, rfl⟩ : ∃ W : World, W = wc := ⟨_, rfl⟩
    have hz5 := hide ((unhide hz3).trans (hqb.mono (unhide hz3).size))
    have hN5 := hide ((unhide hN3).under hqb)
    have hF5 := hide ((unhide hf3').under hqb)
    have hX5 := hide ((unhide hcl).under hqb)
    have hm := hide (made_any na nm nc (N.take nm) 12 wo ((unhide hN5).take mnm) (by omega) (by decide) (by decide))
    clear hz3 hN3 hf3' hcl hqb hN5 k73 hS3 hq0
    replace hLA := hide hLA; replace hqx := hide hqx; replace hsmA := hide hsmA; replace hyn := hide hyn
    have hif' := unhide hif
    have hif2' := unhide hif2
    go_wp2_with fail
    refine (unhide hm).mono ?_
    rintro e w6 ⟨la, lc, l, rfl, hl, hgl, hb6⟩
    obtain ⟨hls, hlt, hl3⟩ := goodL12 hgl
    obtain ⟨ln, hln⟩ : ∃ m, l.length = m := ⟨_, rfl⟩
    rw [hln] at hl hl3
    try rw [hln]
    obtain ⟨b74, V74, hb74, hV74, st⟩ := (St.start w6).new (Obj.cells #[.slice la ln lc, .slice fa fn fc] 24)
    have hk74 := st.get 0 rfl
    have hbz := st.below
    have hbb := hb6.trans (hbz.mono hb6.size)
    have hz9 := hide ((unhide hz5).trans (hbb.mono (unhide hz5).size))
    have hI : LwI V74 b74 b10 ya yn yc AN ca xn X fa fn FL := by
      refine ⟨fun i hi => ?_, cell_under (blk_cell (unhide hqx)) hbb, (unhide hLA).under hbb, (unhide hX5).under hbb, (unhide hF5).under hbb⟩
      have : i = 0 ∨ i = 1 := by omega
      rcases this with rfl | rfl
      · exact ⟨la, ln, lc, l, (cell_of_row _ _ 0 _ _ _ hk74).trans rfl, hl.under hbz, hl3, hls, hlt⟩
      · exact ⟨fa, fn, fc, FL, (cell_of_row _ _ 1 _ _ _ hk74).trans rfl, (unhide hF5).under hbb, hf3, unhide hfs, unhide hft⟩
    have hyn4 : yn ≤ 4 := by rw [← unhide hyn]; exact (unhide hsmA).1
    clear hm hl hgl hb6 st hk74 hbz hbb hls hlt hl3 hln hz5 hF5 hX5 hLA hqx hif' hif2'
    replace hI := hide hI; replace hb74 := hide hb74; replace hV74 := hide hV74
    go_upto_block 2 with fail
    try rw [unhide hb74]
    rw [unhide hV74]
    clear hV74 hb74
    go_wp2_with fail
    go_loopw [76] (fun v wr => ∃ i : Nat, i ≤ 2 ∧ v = .int .i64 (i : Int) ∧ LwI wr b74 b10 ya yn yc AN ca xn X fa fn FL ∧ Below w.heap.size w wr) (fun v _ => 2 - (intOf v).toNat)
    case atStart => exact ⟨0, by omega, rfl, unhide hI, unhide hz9⟩
    case round =>
      clear hI hz9
      obtain ⟨i, hi, rfl, hI, hz9⟩ := hrel
      obtain ⟨wa, rfl⟩ : ∃ W : World, W = wr := ⟨_, rfl⟩
      by_cases hi2 : i < 2
      · have t1 : (i : Int) < 2 := by omega
        obtain ⟨a, n, c, L, cw, hL, hn3, hLs, hLt⟩ := hI.ways i hi2
        replace hI := hide hI; replace hz9 := hide hz9; replace hL := hide hL; replace hLs := hide hLs; replace hLt := hide hLt
        go_wp2_with fail
        clear cw
        go_loopw [82] (fun v wr => ∃ k : Nat, k ≤ n ∧ v = .int .i64 (k : Int) ∧ LwI wr b74 b10 ya yn yc AN ca xn X fa fn FL ∧ Lst Enc.lk wr (fun b => b < wr.heap.size) a n L ∧ Below w.heap.size w wr) (fun v _ => n - (intOf v).toNat)
        case atStart => exact ⟨0, by omega, rfl, unhide hI, unhide hL, unhide hz9⟩
        case round =>
          clear hI hz9 hL
          obtain ⟨k, hk, rfl, hI, hL, hz9⟩ := hrel
          obtain ⟨wo, rfl⟩ : ∃ W : World, W = wr := ⟨_, rfl⟩
          by_cases hkn : k < n
          · have t2 : (k : Int) < (n : Int) := by omega
            have t3 : (0 : Int) ≤ (k : Int) := by omega
            obtain ⟨gl, ol, x, xa, xm, xc, rfl, _, hx, _, _, hLx, cl⟩ := lst_list hL hkn
            have hsx := hide (unhide hLs x (List.mem_of_getElem? hx))
            replace hI := hide hI; replace hz9 := hide hz9; replace hL := hide hL; replace hLx := hide hLx
            clear hx
            go_upto_region 15 with fail
            refine wp_region_frontG 11 (fun _ _ w' => Below wo.heap.size wo w') (fun wa wb => Below wa.heap.size wa wb)
              (fun ix v w' => match ix with
                | 0 => v = .slice (some ⟨gl, ol, none⟩) n c
                | 1 => v = .int .i64 (k : Int)
                | 2 => v = .pointer (some ⟨gl, ol + k, none⟩)
                | 3 => v = .agg #[.slice xa xm xc]
                | 4 => v = .int .i64 (winS x : Nat)
                | 5 => v = .slice (some ⟨gl, ol, none⟩) n c
                | 6 => v = .int .i64 (k : Int)
                | 7 => v = .pointer (some ⟨gl, ol + k, none⟩)
                | 8 => v = .agg #[.slice xa xm xc]
                | 9 => v = .int .i64 (winS x : Nat)
                | 10 => v = .bool false
                | _ => True) (by rfl) (by kernel_rfl) ?_ ?_ ?_ ?_
            · exact (Below.refl _ _).drew
            · intro wa wb hR ix v hv
              match ix, hv with
              | 0, h => exact h
              | 1, h => exact h
              | 2, h => exact h
              | 3, h => exact h
              | 4, h => exact h
              | 5, h => exact h
              | 6, h => exact h
              | 7, h => exact h
              | 8, h => exact h
              | 9, h => exact h
              | 10, h => exact h
              | _ + 11, _ => trivial
            --BEGIN15
            · intro ix hix
              obtain rfl | rfl | rfl | rfl | rfl | rfl | rfl | rfl | rfl | rfl | rfl : ix = 0 ∨ ix = 1 ∨ ix = 2 ∨ ix = 3 ∨ ix = 4 ∨ ix = 5 ∨ ix = 6 ∨ ix = 7 ∨ ix = 8 ∨ ix = 9 ∨ ix = 10 := by omega
              · refine FrontStep.of [] _ rfl (by kernel_rfl) ?_
                intro vs LL wq hLL hC hf
                simp only [putL, List.foldl_nil]
                go_wp2_with fail
                first | exact Below.refl _ _ | exact hC | exact ⟨hC, Below.refl _ _⟩ | exact ⟨hC, Below.refl _ _, by omega⟩ | exact ⟨Below.refl _ _, by omega⟩ | trace_state
              · refine FrontStep.of [] _ rfl (by kernel_rfl) ?_
                intro vs LL wq hLL hC hf
                simp only [putL, List.foldl_nil]
                go_wp2_with fail
                first | exact Below.refl _ _ | exact hC | exact ⟨hC, Below.refl _ _⟩ | exact ⟨hC, Below.refl _ _, by omega⟩ | exact ⟨Below.refl _ _, by omega⟩ | trace_state
              · refine FrontStep.of [0, 1] _ rfl (by kernel_rfl) ?_
                intro vs LL wq hLL hC hf
                simp only [putL, List.foldl_nil, List.foldl_cons, List.getElem?_cons_zero, List.getElem?_cons_succ]
                have e0 : vs 0 = _ := hf 0 (by simp)
                rw [e0]
                have e1 : vs 1 = _ := hf 1 (by simp)
                rw [e1]
                go_wp2_with fail
                first | exact Below.refl _ _ | exact hC | exact ⟨hC, Below.refl _ _⟩ | exact ⟨hC, Below.refl _ _, by omega⟩ | exact ⟨Below.refl _ _, by omega⟩ | trace_state
              · refine FrontStep.of [2] _ rfl (by kernel_rfl) ?_
                intro vs LL wq hLL hC hf
                simp only [putL, List.foldl_nil, List.foldl_cons, List.getElem?_cons_zero, List.getElem?_cons_succ]
                have e2 : vs 2 = _ := hf 2 (by simp)
                rw [e2]
                have g0c0 := cell_under cl hC
                go_wp2_with fail
                first | exact Below.refl _ _ | exact hC | exact ⟨hC, Below.refl _ _⟩ | exact ⟨hC, Below.refl _ _, by omega⟩ | exact ⟨Below.refl _ _, by omega⟩ | trace_state
              · refine FrontStep.of [3] _ rfl (by kernel_rfl) ?_
                intro vs LL wq hLL hC hf
                simp only [putL, List.foldl_nil, List.foldl_cons, List.getElem?_cons_zero, List.getElem?_cons_succ]
                have e3 : vs 3 = _ := hf 3 (by simp)
                rw [e3]
                have hcq := window_any xa xm xc x wq ((unhide hLx).under hC) (unhide hsx)
                replace hcq := hide hcq
                go_wp2_with fail
                refine (unhide hcq).mono ?_
                rintro e wz ⟨rfl, hbz⟩
                clear hcq
                replace hbz := hide hbz
                go_wp2_with fail
                first | exact ⟨hC.trans ((unhide hbz).mono hC.size), unhide hbz⟩ | exact hC.trans ((unhide hbz).mono hC.size) | trace_state
              · refine FrontStep.of [] _ rfl (by kernel_rfl) ?_
                intro vs LL wq hLL hC hf
                simp only [putL, List.foldl_nil]
                go_wp2_with fail
                first | exact Below.refl _ _ | exact hC | exact ⟨hC, Below.refl _ _⟩ | exact ⟨hC, Below.refl _ _, by omega⟩ | exact ⟨Below.refl _ _, by omega⟩ | trace_state
              · refine FrontStep.of [] _ rfl (by kernel_rfl) ?_
                intro vs LL wq hLL hC hf
                simp only [putL, List.foldl_nil]
                go_wp2_with fail
                first | exact Below.refl _ _ | exact hC | exact ⟨hC, Below.refl _ _⟩ | exact ⟨hC, Below.refl _ _, by omega⟩ | exact ⟨Below.refl _ _, by omega⟩ | trace_state
              · refine FrontStep.of [5, 6] _ rfl (by kernel_rfl) ?_
                intro vs LL wq hLL hC hf
                simp only [putL, List.foldl_nil, List.foldl_cons, List.getElem?_cons_zero, List.getElem?_cons_succ]
                have e5 : vs 5 = _ := hf 5 (by simp)
                rw [e5]
                have e6 : vs 6 = _ := hf 6 (by simp)
                rw [e6]
                go_wp2_with fail
                first | exact Below.refl _ _ | exact hC | exact ⟨hC, Below.refl _ _⟩ | exact ⟨hC, Below.refl _ _, by omega⟩ | exact ⟨Below.refl _ _, by omega⟩ | trace_state
              · refine FrontStep.of [7] _ rfl (by kernel_rfl) ?_
                intro vs LL wq hLL hC hf
                simp only [putL, List.foldl_nil, List.foldl_cons, List.getElem?_cons_zero, List.getElem?_cons_succ]
                have e7 : vs 7 = _ := hf 7 (by simp)
                rw [e7]
                have g0c0 := cell_under cl hC
                go_wp2_with fail
                first | exact Below.refl _ _ | exact hC | exact ⟨hC, Below.refl _ _⟩ | exact ⟨hC, Below.refl _ _, by omega⟩ | exact ⟨Below.refl _ _, by omega⟩ | trace_state
              · refine FrontStep.of [4, 8] _ rfl (by kernel_rfl) ?_
                intro vs LL wq hLL hC hf
                simp only [putL, List.foldl_nil, List.foldl_cons, List.getElem?_cons_zero, List.getElem?_cons_succ]
                have e4 : vs 4 = _ := hf 4 (by simp)
                rw [e4]
                have e8 : vs 8 = _ := hf 8 (by simp)
                rw [e8]
                have hcq := rwindow_any xa xm xc x wq ((unhide hLx).under hC) (unhide hsx)
                replace hcq := hide hcq
                go_wp2_with fail
                refine (unhide hcq).mono ?_
                rintro e wz ⟨rfl, hbz⟩
                clear hcq
                replace hbz := hide hbz
                go_wp2_with fail
                first | exact ⟨hC.trans ((unhide hbz).mono hC.size), unhide hbz⟩ | exact hC.trans ((unhide hbz).mono hC.size) | trace_state
              · refine FrontStep.of [4, 9] _ rfl (by kernel_rfl) ?_
                intro vs LL wq hLL hC hf
                simp only [putL, List.foldl_nil, List.foldl_cons, List.getElem?_cons_zero, List.getElem?_cons_succ]
                have e4 : vs 4 = _ := hf 4 (by simp)
                rw [e4]
                have e9 : vs 9 = _ := hf 9 (by simp)
                rw [e9]
                go_wp2_with fail
                first | exact Below.refl _ _ | exact hC | exact ⟨hC, Below.refl _ _⟩ | exact ⟨hC, Below.refl _ _, by omega⟩ | exact ⟨Below.refl _ _, by omega⟩ | trace_state
            --END15
            · intro vs LL wq hLL hC hf
              have e10 : vs 10 = _ := hf 10 (by omega)
              rw [putSome_all]
              simp only [putL, List.range, List.range.loop, List.foldl_nil, List.foldl_cons, List.getElem?_cons_zero, List.getElem?_cons_succ, List.drop_succ_cons, List.drop_zero]
              rw [e10]
              have hI2 := hide ((unhide hI).under hC)
              have hL2 := hide ((unhide hL).under hC)
              have hz2 := hide ((unhide hz9).trans (hC.mono (unhide hz9).size))
              clear hf hLL hC e10 hI hL hz9 cl hLx
              go_simp
              go_wp2_with fail
              go_roundw
              case rel => exact ⟨k + 1, by omega, by go_num, unhide hI2, unhide hL2, unhide hz2⟩
              case measure => simp [intOf]; omega
          · have t2 : ¬ (k : Int) < (n : Int) := by omega
            replace hI := hide hI; replace hz9 := hide hz9; replace hL := hide hL
            have d10 := (unhide hI).any
            go_upto_region 18 with fail
            refine wp_region_frontG 6 (fun _ _ w' => Below wo.heap.size wo w') (fun wa wb => Below wa.heap.size wa wb)
              (fun ix v w' => match ix with
                | 0 => v = .slice a n c
                | 1 => ∃ a', v = .agg #[.slice a' n n] ∧ Lst Enc.stg w' (fun b => b < w'.heap.size) a' n (List.replicate n ([], []))
                | 2 => v = .agg #[.slice ya yn yc]
                | 3 => F2I wo w' n ya yn yc v
                | 4 => v = .int .i64 2
                | 5 => v = .int .i64 0
                | _ => True) (by rfl) (by kernel_rfl) ?_ ?_ ?_ ?_
            · exact (Below.refl _ _).drew
            · intro wa wb hR ix v hv
              match ix, hv with
              | 0, h => exact h
              | 1, h => obtain ⟨a', h1, h2⟩ := h; exact ⟨a', h1, h2.under hR⟩
              | 2, h => exact h
              | 3, h => exact h.under hR
              | 4, h => exact h
              | 5, h => exact h
              | _ + 6, _ => trivial
            --BEGIN18
            · intro ix hix
              obtain rfl | rfl | rfl | rfl | rfl | rfl : ix = 0 ∨ ix = 1 ∨ ix = 2 ∨ ix = 3 ∨ ix = 4 ∨ ix = 5 := by omega
              · refine FrontStep.of [] _ rfl (by kernel_rfl) ?_
                intro vs LL wq hLL hC hf
                simp only [putL, List.foldl_nil]
                go_wp2_with fail
                first | exact Below.refl _ _ | exact hC | exact ⟨hC, Below.refl _ _⟩ | exact ⟨hC, Below.refl _ _, by omega⟩ | exact ⟨Below.refl _ _, by omega⟩ | trace_state
              · refine FrontStep.of [0] _ rfl (by kernel_rfl) ?_
                intro vs LL wq hLL hC hf
                simp only [putL, List.foldl_nil, List.foldl_cons, List.getElem?_cons_zero]
                have e0 : vs 0 = _ := hf 0 (by simp)
                rw [e0]
                have hcq := start_any a n c wq (by omega)
                replace hcq := hide hcq
                go_wp2_with fail
                refine (unhide hcq).mono ?_
                rintro e wz ⟨a', rfl, hls, hbz⟩
                clear hcq
                have hlw := hls.wide (S' := fun b => b < wz.heap.size) (fun b hb => hb.2)
                clear hls
                replace hbz := hide hbz; replace hlw := hide hlw
                go_wp2_with fail
                first | exact ⟨hC.trans ((unhide hbz).mono hC.size), unhide hbz, a', rfl, unhide hlw⟩ | exact ⟨hC.trans ((unhide hbz).mono hC.size), unhide hbz, a', ⟨rfl, rfl⟩, unhide hlw⟩ | exact ⟨hC.trans ((unhide hbz).mono hC.size), unhide hbz, unhide hlw⟩ | trace_state
              · refine FrontStep.of [] _ rfl (by kernel_rfl) ?_
                intro vs LL wq hLL hC hf
                simp only [putL, List.foldl_nil]
                have g0c0 := cell_under d10 hC
                go_wp2_with fail
                first | exact Below.refl _ _ | exact hC | exact ⟨hC, Below.refl _ _⟩ | exact ⟨hC, Below.refl _ _, by omega⟩ | exact ⟨Below.refl _ _, by omega⟩ | trace_state
              · refine FrontStep.of [1, 2] _ rfl (by kernel_rfl) ?_
                intro vs LL wq hLL hC hf
                simp only [putL, List.foldl_nil, List.foldl_cons, List.getElem?_cons_zero, List.getElem?_cons_succ]
                obtain ⟨a98, e98, h98⟩ := hf 1 (by simp)
                rw [e98]
                have e2 : vs 2 = _ := hf 2 (by simp)
                rw [e2]
                have hn0 := heap_alloc_new wq (Obj.cells #[.slice a98 n n, .slice ya yn yc] 29)
                have hb0 := (Below.refl wq.heap.size wq).alloc (Nat.le_refl _) (Obj.cells #[.slice a98 n n, .slice ya yn yc] 29)
                have hfin := hide (hC.trans (hb0.mono hC.size))
                have hf2 : F2I wo (wq.alloc (Obj.cells #[.slice a98 n n, .slice ya yn yc] 29)) n ya yn yc (.slice (some ⟨wq.heap.size, 0, none⟩) 2 2) := ⟨_, a98, rfl, hC.size, hn0, h98.under hb0⟩
                clear h98 hn0
                replace hb0 := hide hb0; replace hf2 := hide hf2
                go_wp2_with fail
                first | exact ⟨unhide hfin, unhide hb0, unhide hf2⟩ | exact ⟨unhide hb0, unhide hf2⟩ | trace_state
              · refine FrontStep.of [3] _ rfl (by kernel_rfl) ?_
                intro vs LL wq hLL hC hf
                simp only [putL, List.foldl_nil, List.foldl_cons, List.getElem?_cons_zero, List.getElem?_cons_succ]
                obtain ⟨b100, a100, e100, hge100, hr100, h100⟩ := hf 3 (by simp)
                rw [e100]
                go_wp2_with fail
                first | exact Below.refl _ _ | exact hC | exact ⟨hC, Below.refl _ _⟩ | exact ⟨hC, Below.refl _ _, by omega⟩ | exact ⟨Below.refl _ _, by omega⟩ | trace_state
              · refine FrontStep.of [] _ rfl (by kernel_rfl) ?_
                intro vs LL wq hLL hC hf
                simp only [putL, List.foldl_nil]
                go_wp2_with fail
                first | exact Below.refl _ _ | exact hC | exact ⟨hC, Below.refl _ _⟩ | exact ⟨hC, Below.refl _ _, by omega⟩ | exact ⟨Below.refl _ _, by omega⟩ | trace_state
            --END18
            · intro vs LL wq hLL hC hf
              obtain ⟨b100, aS, e3, hge, hb100, hS100⟩ := hf 3 (by omega)
              have e4 : vs 4 = _ := hf 4 (by omega)
              have e5 : vs 5 = _ := hf 5 (by omega)
              rw [putSome_all]
              simp only [putL, List.range, List.range.loop, List.foldl_nil, List.foldl_cons, List.getElem?_cons_zero, List.getElem?_cons_succ, List.drop_succ_cons, List.drop_zero]
              rw [e3, e4, e5]
              have hI2 := hide ((unhide hI).under hC)
              have hL2 := hide ((unhide hL).under hC)
              have hz2 := hide ((unhide hz9).trans (hC.mono (unhide hz9).size))
              have hfw : FwI wq b100 := fun j hj => by
                have : j = 0 ∨ j = 1 := by omega
                rcases this with rfl | rfl
                · exact ⟨aS, n, n, _, (cell_of_row _ _ 0 _ _ _ hb100).trans rfl, hS100, SmS.start hn3⟩
                · exact ⟨ya, yn, yc, AN, (cell_of_row _ _ 1 _ _ _ hb100).trans rfl, (unhide hI2).an, unhide hsmA⟩
              obtain ⟨wb, rfl⟩ : ∃ W : World, W = wq := ⟨_, rfl⟩
              clear hf hLL hC e3 e4 e5 hI hL hz9 d10 hb100 hS100 hge
              replace hfw := hide hfw
              go_simp
              go_wp2_with fail
              go_loopw [102] (fun v wr => ∃ j : Nat, j ≤ 2 ∧ v = .int .i64 (j : Int) ∧ FwI wr b100 ∧ LwI wr b74 b10 ya yn yc AN ca xn X fa fn FL ∧ Lst Enc.lk wr (fun b => b < wr.heap.size) a n L ∧ Below w.heap.size w wr) (fun v _ => 2 - (intOf v).toNat)
              case atStart => exact ⟨0, by omega, rfl, unhide hfw, unhide hI2, unhide hL2, unhide hz2⟩
              case round =>
                clear hfw hI2 hL2 hz2
                obtain ⟨j, hj, rfl, hfw, hI, hL, hz9⟩ := hrel
                obtain ⟨wd, rfl⟩ : ∃ W : World, W = wr := ⟨_, rfl⟩
                by_cases hj2 : j < 2
                · have t4 : (j : Int) < 2 := by omega
                  obtain ⟨fa4, fm, fc4, ss0, cf, hlf0, hsf⟩ := hfw j hj2
                  obtain ⟨b17, V17, hb17, hV17, st⟩ := (St.start wd).new (Obj.cells #[.slice fa4 fm fc4] 29)
                  have hb := st.below
                  have d17 := blk_cell (st.get 0 rfl)
                  have hfw7 := hide (hfw.under hb)
                  have hI7 := hide (hI.under hb)
                  have hL7 := hide (hL.under hb)
                  have hz7 := hide (hz9.trans (hb.mono hz9.size))
                  have hlf := hide (hlf0.under hb)
                  clear st hb hfw hI hL hz9 hlf0
                  replace hb17 := hide hb17; replace hV17 := hide hV17; replace hsf := hide hsf; replace d17 := hide d17
                  go_upto_region 21 with fail
                  try rw [unhide hb17]
                  rw [unhide hV17]
                  clear hV17 hb17 cf
                  have d17 := unhide d17
                  refine wp_region_frontG 5 (fun LL vs w' => CU V17 (.slice fa4 fm fc4) LL vs w') (fun _ _ => True)
                    (fun ix v w' => match ix with
                      | 0 => v = .agg #[.slice fa4 fm fc4]
                      | 1 => v = .agg #[.slice fa4 fm fc4]
                      | 2 => IsP v
                      | 3 => IsP v
                      | 4 => True
                      | _ => True) (by rfl) (by kernel_rfl) ?_ ?_ ?_ ?_
                  · exact CU.start V17 (.slice fa4 fm fc4)
                  · intro wa wb hR ix v hv
                    match ix, hv with
                    | 0, h => exact h
                    | 1, h => exact h
                    | 2, h => exact h
                    | 3, h => exact h
                    | 4, h => exact h
                    | _ + 5, _ => trivial
                  · intro ix hix
                    obtain rfl | rfl | rfl | rfl | rfl : ix = 0 ∨ ix = 1 ∨ ix = 2 ∨ ix = 3 ∨ ix = 4 := by omega
                    · refine FrontStep.of [] _ rfl (by kernel_rfl) ?_
                      intro vs LL wq hLL hC hf
                      simp only [putL, List.foldl_nil]
                      have g0c := cell_under d17 hC.bel
                      have hkp := fun v => hC.keep 0 v (by omega)
                      replace hkp := hide hkp
                      clear hC
                      go_wp2_with fail
                      first | exact unhide hkp _ | exact ⟨unhide hkp _, trivial⟩ | trace_state
                    · refine FrontStep.of [] _ rfl (by kernel_rfl) ?_
                      intro vs LL wq hLL hC hf
                      simp only [putL, List.foldl_nil]
                      have g0c := cell_under d17 hC.bel
                      have hkp := fun v => hC.keep 1 v (by omega)
                      replace hkp := hide hkp
                      clear hC
                      go_wp2_with fail
                      first | exact unhide hkp _ | exact ⟨unhide hkp _, trivial⟩ | trace_state
                    · refine FrontStep.of [] _ rfl (by kernel_rfl) ?_
                      intro vs LL wq hLL hC hf
                      simp only [putL, List.foldl_nil]
                      have hnx := hC.a2 hLL
                      replace hnx := hide hnx
                      clear hC
                      go_wp2_with fail
                      first | exact ⟨unhide hnx, trivial, _, rfl⟩ | exact ⟨unhide hnx, _, rfl⟩ | exact ⟨unhide hnx, ⟨_, rfl⟩⟩ | exact ⟨unhide hnx, trivial, ⟨_, rfl⟩⟩ | trace_state
                    · refine FrontStep.of [] _ rfl (by kernel_rfl) ?_
                      intro vs LL wq hLL hC hf
                      simp only [putL, List.foldl_nil]
                      have hnx := hC.a3
                      replace hnx := hide hnx
                      clear hC
                      go_wp2_with fail
                      first | exact ⟨unhide hnx, trivial, _, rfl⟩ | exact ⟨unhide hnx, _, rfl⟩ | exact ⟨unhide hnx, ⟨_, rfl⟩⟩ | exact ⟨unhide hnx, trivial, ⟨_, rfl⟩⟩ | trace_state
                    · refine FrontStep.of [0, 2, 3] _ rfl (by kernel_rfl) ?_
                      intro vs LL wq hLL hC hf
                      simp only [putL, List.foldl_nil, List.foldl_cons, List.getElem?_cons_zero, List.getElem?_cons_succ]
                      have y0 : vs 0 = _ := hf 0 (by simp)
                      try rw [y0]
                      have y2 := hf 2 (by simp)
                      have y3 := hf 3 (by simp)
                      obtain ⟨p, y2'⟩ := y2
                      rw [y2']
                      have g := (hC.b2 p y2').2
                      rw [hLL] at g
                      have gc := blk_cell (v := .slice none 0 0) g
                      have gf : wq.frozen? ⟨p, 0, none⟩ = false := by simp [World.frozen?, g]
                      have hnx := hC.st (.bool true) y2'
                      replace hnx := hide hnx
                      clear hC y2' g
                      go_wp2_with fail
                      first | exact ⟨.bool true, unhide hnx⟩ | exact ⟨.bool true, rfl, unhide hnx, trivial, rfl⟩ | exact unhide hnx | exact ⟨.bool true, unhide hnx, trivial⟩ | trace_state
                  · intro vs LL wq hLL hC hf
                    obtain ⟨b18, e2⟩ := hf 2 (by omega)
                    obtain ⟨b19, e3⟩ := hf 3 (by omega)
                    have e1 : vs 1 = _ := hf 1 (by omega)
                    obtain ⟨hg18, g2⟩ := hC.b2 b18 e2
                    obtain ⟨hg19, g3⟩ := hC.b3 b19 e3
                    have hne := hC.ne b18 b19 e2 e3
                    rw [if_pos (hLL 4 (by omega))] at g2
                    have hbV := hC.bel
                    rw [putSome_all]
                    simp only [putL, List.range, List.range.loop, List.foldl_nil, List.foldl_cons, List.getElem?_cons_zero, List.getElem?_cons_succ, List.drop_succ_cons, List.drop_zero]
                    rw [e1, e2, e3]
                    have gc := blk_cell g3
                    have gf : wq.frozen? ⟨b19, 0, none⟩ = false := by simp [World.frozen?, g3]
                    have hls : Lst Enc.stg wq (fun b => b ≠ b18 ∧ b ≠ b19 ∧ b < wq.heap.size) fa4 fm ss0 := ((unhide hlf).same (fun b hb => hbV.block b hb)).wide (fun b hb => ⟨by omega, by omega, Nat.lt_of_lt_of_le hb hbV.size⟩)
                    have hFe : FeI V17 (wq.setCell ⟨b19, 0, none⟩ (.slice fa4 fm fc4)) b18 b19 fm fa4 fc4 fa4 fc4 ss0 := by
                      have hsz : (wq.setCell ⟨b19, 0, none⟩ (.slice fa4 fm fc4)).heap.size = wq.heap.size := World.size_setCell ..
                      have hl2 := (hls.same (w' := wq.setCell ⟨b19, 0, none⟩ (.slice fa4 fm fc4)) (fun b hb => heap_set_ne hb.2.1)).wide (S' := fun b => b ≠ b18 ∧ b ≠ b19 ∧ b < (wq.setCell ⟨b19, 0, none⟩ (.slice fa4 fm fc4)).heap.size) (fun b hb => ⟨hb.1, hb.2.1, by rw [hsz]; exact hb.2.2⟩)
                      exact ⟨hbV.setCell (p := ⟨b19, 0, none⟩) hg19 _, hg18, hg19, hne, (heap_set_ne hne).trans g2, (heap_set g3 _).trans rfl, hl2, hl2⟩
                    obtain ⟨W21, hW21⟩ : ∃ W, wq.setCell ⟨b19, 0, none⟩ (.slice fa4 fm fc4) = W := ⟨_, rfl⟩
                    rw [hW21] at hFe
                    clear hf hLL hC e1 e2 e3 hg18 hg19 g2 g3 hls hbV hlf d17 hne
                    replace hFe := hide hFe; replace hW21 := hide hW21
                    go_simp
                    go_upto_block 8 with fail
                    rw [unhide hW21]
                    clear hW21 gc gf
                    go_wp2_with fail
                    go_loopw [110] (fun v wr => ∃ (p m : Nat) (a1 a2 : Option Addr) (c1 c2 : Nat) (ss : List Stg), p ≤ xn ∧ v = .int .i64 (p : Int) ∧ SmS p ss ∧ FeI V17 wr b18 b19 m a1 c1 a2 c2 ss) (fun v _ => xn - (intOf v).toNat)
                    case atStart => exact ⟨0, fm, fa4, fa4, fc4, fc4, ss0, by omega, rfl, unhide hsf, unhide hFe⟩
                    case round =>
                      clear hFe hsf
                      obtain ⟨p, m, a1, a2, c1, c2, ss, hp, rfl, hss, hFe⟩ := hrel
                      obtain ⟨we, rfl⟩ : ∃ W : World, W = wr := ⟨_, rfl⟩
                      by_cases hp2 : p < xn
                      · have t5 : (p : Int) < (xn : Int) := by omega
                        have t6 : (0 : Int) ≤ (p : Int) := by omega
                        obtain ⟨gX, oX, y, rfl, _, hy, hyi, cX⟩ := lst_int ((unhide hI7).gl.under hFe.bel) hp2
                        obtain ⟨q1, q2, q3⟩ := hss.bd (by omega)
                        have hfc := feedx_any a n c L a1 m c1 ss y we ((unhide hL7).under hFe.bel) (unhide hLs) (unhide hLt) (hFe.l1.wide (fun b hb => hb.2.2)) (by omega) hyi q1 q2
                        have hrc := fun (wz : World) (hb : Below we.heap.size we wz) => rfeed_any a n c L a2 m c2 ss y wz (((unhide hL7).under hFe.bel).under hb) (unhide hLs) (unhide hLt) ((hFe.under hb).l2.wide (fun b hb => hb.2.2)) (by omega) hyi q1 q2
                        have hLn : L.length ≤ 4 := by have := (unhide hL7).1; omega
                        obtain ⟨hs2, ho2⟩ := hss.feed (l := L) (g := y) hLn
                        obtain ⟨r, hr⟩ : ∃ r, feedX L ss y = r := ⟨_, rfl⟩
                        simp only [hr] at hfc hrc hs2 ho2
                        have d18 := blk_cell hFe.x18
                        clear q1 q2 q3 hr hy hyi hss
                        replace hFe := hide hFe; replace hfc := hide hfc; replace hrc := hide hrc; replace hs2 := hide hs2; replace ho2 := hide ho2
                        go_wp2_with fail
                        refine (unhide hfc).mono ?_
                        rintro e w1 ⟨a3, c3, a3', c3', rfl, l3, o3, hb1⟩
                        clear hfc d18 cX
                        obtain ⟨mm, hmm⟩ : ∃ m, r.1.length = m := ⟨_, rfl⟩
                        obtain ⟨om, hom⟩ : ∃ m, r.2.length = m := ⟨_, rfl⟩
                        rw [hmm] at l3
                        rw [hom] at o3
                        rw [hmm, hom]
                        obtain ⟨b22, V22, hb22, hV22, st⟩ := (St.start w1).new (Obj.cells #[.slice a3 mm c3] 29)
                        have k22 := hide (st.get 0 rfl)
                        have hb2 := st.below
                        have hbe := hb1.trans (hb2.mono hb1.size)
                        have hF2 := hide ((unhide hFe).under hbe)
                        have hfl18 := (Array.getElem?_eq_some_iff.1 (unhide hFe).x18).1
                        have hfl19 := (Array.getElem?_eq_some_iff.1 (unhide hFe).x19).1
                        have l3b := hide ((l3.same (fun b hb => hb2.block b hb.2)).wide (S' := fun b => b ≠ b18 ∧ b ≠ b19 ∧ b < V22.heap.size) (fun b hb => ⟨by have := hb.1; omega, by have := hb.1; omega, Nat.lt_of_lt_of_le hb.2 hb2.size⟩))
                        have o3b := hide ((o3.wide (S' := fun b => b < w1.heap.size) (fun b hb => hb.2)).under hb2)
                        have n22 : Hid (b22 ≠ b18 ∧ b22 ≠ b19) := hide (by have := hb1.size; omega)
                        have d19 := blk_cell (unhide hF2).x19
                        have hrc2 := hide (unhide hrc V22 hbe)
                        clear st l3 o3 hb1 hb2 hbe hrc hFe
                        replace hb22 := hide hb22; replace hV22 := hide hV22; replace hmm := hide hmm; replace hom := hide hom; replace d19 := hide d19
                        go_upto_region 26 with fail
                        try rw [unhide hb22]
                        rw [unhide hV22]
                        clear hV22 hb22
                        have d19 := unhide d19
                        go_wp2_with fail
                        refine (unhide hrc2).mono ?_
                        rintro e w2 ⟨a4, c4, a4', c4', rfl, l4, o4, hb1⟩
                        clear hrc2 d19
                        rw [unhide hmm] at l4
                        rw [unhide hom] at o4
                        rw [unhide hmm, unhide hom]
                        obtain ⟨b24, V24, hb24, hV24, st⟩ := (St.start w2).new (Obj.cells #[.slice a4 mm c4] 29)
                        have hb2 := st.below
                        have hbe := hb1.trans (hb2.mono hb1.size)
                        have hF4 := hide ((unhide hF2).under hbe)
                        have hfl18 := (Array.getElem?_eq_some_iff.1 (unhide hF2).x18).1
                        have hfl19 := (Array.getElem?_eq_some_iff.1 (unhide hF2).x19).1
                        have k24 := hide (st.get 0 rfl)
                        have k22 := hide (kept' hbe (unhide k22))
                        have l4c := hide ((l4.same (fun b hb => hb2.block b hb.2)).wide (S' := fun b => b ≠ b18 ∧ b ≠ b19 ∧ b < V24.heap.size) (fun b hb => ⟨by have := hb.1; omega, by have := hb.1; omega, Nat.lt_of_lt_of_le hb.2 hb2.size⟩))
                        have l3c := hide (((unhide l3b).same (fun b hb => hbe.block b hb.2.2)).wide (S' := fun b => b ≠ b18 ∧ b ≠ b19 ∧ b < V24.heap.size) (fun b hb => ⟨hb.1, hb.2.1, Nat.lt_of_lt_of_le hb.2.2 hbe.size⟩))
                        have o3c := hide ((unhide o3b).under hbe)
                        have o4c := hide ((o4.wide (S' := fun b => b < w2.heap.size) (fun b hb => hb.2)).under hb2)
                        have n24 : Hid (b24 ≠ b18 ∧ b24 ≠ b19) := hide (by have := hb1.size; omega)
                        have hL24 := hide ((unhide hL7).under (unhide hF4).bel)
                        clear st l4 o4 hb1 hb2 hbe hF2 l3b o3b
                        replace hb24 := hide hb24; replace hV24 := hide hV24
                        go_upto_region 27 with fail
                        try rw [unhide hb24]
                        rw [unhide hV24]
                        clear hV24 hb24
                        have d22 := blk_cell (unhide k22)
                        have d24 := blk_cell (unhide k24)
                        have l3w := hide ((unhide l3c).wide (S' := fun b => b < V24.heap.size) (fun b hb => hb.2.2))
                        have l4w := hide ((unhide l4c).wide (S' := fun b => b < V24.heap.size) (fun b hb => hb.2.2))
                        obtain ⟨q1, q2, q3⟩ := (unhide hs2).bd (by omega)
                        have hm4 : mm ≤ 4 := by rw [← unhide hmm]; exact (unhide hs2).1
                        have hom2 : om ≤ 1000 := by have := unhide ho2; rw [unhide hom] at this; omega
                        replace q1 := hide q1; replace q2 := hide q2; replace q3 := hide q3
                        refine wp_region_frontG 27 (fun _ _ w' => Below V24.heap.size V24 w') (fun wa wb => Below wa.heap.size wa wb)
                          (fun ix v w' => match ix with
                            | 0 => v = .agg #[.slice a3 mm c3]
                            | 1 => v = .agg #[.slice a4 mm c4]
                            | 2 => v = .bool true
                            | 3 => v = .bool false
                            | 4 => v = .bool false
                            | 5 => v = (.slice a3' om c3')
                            | 6 => v = (.slice a4' om c4')
                            | 7 => v = .bool true
                            | 8 => v = .bool false
                            | 9 => v = .bool false
                            | 10 => v = .bool false
                            | 11 => v = .agg #[.slice a3 mm c3]
                            | 12 => v = .string ⟨(keyB r.1).toArray⟩
                            | 13 => v = .agg #[.slice a4 mm c4]
                            | 14 => v = .string ⟨(keyB r.1).toArray⟩
                            | 15 => v = .bool false
                            | 16 => v = .bool false
                            | 17 => v = .bool false
                            | 18 => v = (.slice a n c)
                            | 19 => v = .agg #[.slice a3 mm c3]
                            | 20 => IV w' (endX L r.1) v
                            | 21 => v = (.slice a n c)
                            | 22 => v = .agg #[.slice a4 mm c4]
                            | 23 => IV w' (endX L r.1) v
                            | 24 => v = .bool true
                            | 25 => v = .bool false
                            | 26 => v = .bool false
                            | _ => True) (by rfl) (by kernel_rfl) ?_ ?_ ?_ ?_
                        · exact (Below.refl _ _).drew
                        · intro wa wb hR ix v hv
                          match ix, hv with
                          | 0, h => exact h
                          | 1, h => exact h
                          | 2, h => exact h
                          | 3, h => exact h
                          | 4, h => exact h
                          | 5, h => exact h
                          | 6, h => exact h
                          | 7, h => exact h
                          | 8, h => exact h
                          | 9, h => exact h
                          | 10, h => exact h
                          | 11, h => exact h
                          | 12, h => exact h
                          | 13, h => exact h
                          | 14, h => exact h
                          | 15, h => exact h
                          | 16, h => exact h
                          | 17, h => exact h
                          | 18, h => exact h
                          | 19, h => exact h
                          | 20, h => exact h.under hR
                          | 21, h => exact h
                          | 22, h => exact h
                          | 23, h => exact h.under hR
                          | 24, h => exact h
                          | 25, h => exact h
                          | 26, h => exact h
                          | _ + 27, _ => trivial
                        --BEGIN27
                        · intro ix hix
                          obtain rfl | rfl | rfl | rfl | rfl | rfl | rfl | rfl | rfl | rfl | rfl | rfl | rfl | rfl | rfl | rfl | rfl | rfl | rfl | rfl | rfl | rfl | rfl | rfl | rfl | rfl | rfl : ix = 0 ∨ ix = 1 ∨ ix = 2 ∨ ix = 3 ∨ ix = 4 ∨ ix = 5 ∨ ix = 6 ∨ ix = 7 ∨ ix = 8 ∨ ix = 9 ∨ ix = 10 ∨ ix = 11 ∨ ix = 12 ∨ ix = 13 ∨ ix = 14 ∨ ix = 15 ∨ ix = 16 ∨ ix = 17 ∨ ix = 18 ∨ ix = 19 ∨ ix = 20 ∨ ix = 21 ∨ ix = 22 ∨ ix = 23 ∨ ix = 24 ∨ ix = 25 ∨ ix = 26 := by omega
                          · refine FrontStep.of [] _ rfl (by kernel_rfl) ?_
                            intro vs LL wq hLL hC hf
                            simp only [putL, List.foldl_nil]
                            have g0c0 := cell_under d22 hC
                            go_wp2_with fail
                            first | exact Below.refl _ _ | exact hC | exact ⟨hC, Below.refl _ _⟩ | exact ⟨hC, Below.refl _ _, by omega⟩ | exact ⟨Below.refl _ _, by omega⟩ | trace_state
                          · refine FrontStep.of [] _ rfl (by kernel_rfl) ?_
                            intro vs LL wq hLL hC hf
                            simp only [putL, List.foldl_nil]
                            have g0c0 := cell_under d24 hC
                            go_wp2_with fail
                            first | exact Below.refl _ _ | exact hC | exact ⟨hC, Below.refl _ _⟩ | exact ⟨hC, Below.refl _ _, by omega⟩ | exact ⟨Below.refl _ _, by omega⟩ | trace_state
                          · refine FrontStep.of [0, 1] _ rfl (by kernel_rfl) ?_
                            intro vs LL wq hLL hC hf
                            simp only [putL, List.foldl_nil, List.foldl_cons, List.getElem?_cons_zero, List.getElem?_cons_succ]
                            have e0 : vs 0 = _ := hf 0 (by simp)
                            rw [e0]
                            have e1 : vs 1 = _ := hf 1 (by simp)
                            rw [e1]
                            have hcq := same_any a3 mm c3 r.1 a4 mm c4 r.1 wq ((unhide l3w).under hC) ((unhide l4w).under hC) (unhide q3) (unhide q3) (by omega) (by omega)
                            rw [decide_eq_true rfl] at hcq
                            replace hcq := hide hcq
                            go_wp2_with fail
                            refine (unhide hcq).mono ?_
                            rintro e wz ⟨rfl, hbz⟩
                            clear hcq
                            replace hbz := hide hbz
                            go_wp2_with fail
                            first | exact ⟨hC.trans ((unhide hbz).mono hC.size), unhide hbz⟩ | exact hC.trans ((unhide hbz).mono hC.size) | trace_state
                          · refine FrontStep.of [2] _ rfl (by kernel_rfl) ?_
                            intro vs LL wq hLL hC hf
                            simp only [putL, List.foldl_nil, List.foldl_cons, List.getElem?_cons_zero, List.getElem?_cons_succ]
                            have e2 : vs 2 = _ := hf 2 (by simp)
                            rw [e2]
                            go_wp2_with fail
                            first | exact Below.refl _ _ | exact hC | exact ⟨hC, Below.refl _ _⟩ | exact ⟨hC, Below.refl _ _, by omega⟩ | exact ⟨Below.refl _ _, by omega⟩ | trace_state
                          · refine FrontStep.of [2, 3] _ rfl (by kernel_rfl) ?_
                            intro vs LL wq hLL hC hf
                            simp only [putL, List.foldl_nil, List.foldl_cons, List.getElem?_cons_zero, List.getElem?_cons_succ]
                            have e2 : vs 2 = _ := hf 2 (by simp)
                            rw [e2]
                            have e3 : vs 3 = _ := hf 3 (by simp)
                            rw [e3]
                            go_wp2_with fail
                            first | exact Below.refl _ _ | exact hC | exact ⟨hC, Below.refl _ _⟩ | exact ⟨hC, Below.refl _ _, by omega⟩ | exact ⟨Below.refl _ _, by omega⟩ | trace_state
                          · refine FrontStep.of [4] _ rfl (by kernel_rfl) ?_
                            intro vs LL wq hLL hC hf
                            simp only [putL, List.foldl_nil, List.foldl_cons, List.getElem?_cons_zero, List.getElem?_cons_succ]
                            have e4 : vs 4 = _ := hf 4 (by simp)
                            rw [e4]
                            go_wp2_with fail
                            first | exact Below.refl _ _ | exact hC | exact ⟨hC, Below.refl _ _⟩ | exact ⟨hC, Below.refl _ _, by omega⟩ | exact ⟨Below.refl _ _, by omega⟩ | trace_state
                          · refine FrontStep.of [4] _ rfl (by kernel_rfl) ?_
                            intro vs LL wq hLL hC hf
                            simp only [putL, List.foldl_nil, List.foldl_cons, List.getElem?_cons_zero, List.getElem?_cons_succ]
                            have e4 : vs 4 = _ := hf 4 (by simp)
                            rw [e4]
                            go_wp2_with fail
                            first | exact Below.refl _ _ | exact hC | exact ⟨hC, Below.refl _ _⟩ | exact ⟨hC, Below.refl _ _, by omega⟩ | exact ⟨Below.refl _ _, by omega⟩ | trace_state
                          · refine FrontStep.of [4, 5, 6] _ rfl (by kernel_rfl) ?_
                            intro vs LL wq hLL hC hf
                            simp only [putL, List.foldl_nil, List.foldl_cons, List.getElem?_cons_zero, List.getElem?_cons_succ]
                            have e4 : vs 4 = _ := hf 4 (by simp)
                            rw [e4]
                            have e5 : vs 5 = _ := hf 5 (by simp)
                            rw [e5]
                            have e6 : vs 6 = _ := hf 6 (by simp)
                            rw [e6]
                            have hcq := sameInts_blw a3' om c3' r.2 a4' om c4' r.2 wq ((unhide o3c).under hC) ((unhide o4c).under hC) (by omega) (by omega)
                            rw [decide_eq_true rfl] at hcq
                            replace hcq := hide hcq
                            go_wp2_with fail
                            refine (unhide hcq).mono ?_
                            rintro e wz ⟨rfl, hbz⟩
                            clear hcq
                            replace hbz := hide hbz
                            go_wp2_with fail
                            first | exact ⟨hC.trans ((unhide hbz).mono hC.size), unhide hbz⟩ | exact hC.trans ((unhide hbz).mono hC.size) | trace_state
                          · refine FrontStep.of [4, 7] _ rfl (by kernel_rfl) ?_
                            intro vs LL wq hLL hC hf
                            simp only [putL, List.foldl_nil, List.foldl_cons, List.getElem?_cons_zero, List.getElem?_cons_succ]
                            have e4 : vs 4 = _ := hf 4 (by simp)
                            rw [e4]
                            have e7 : vs 7 = _ := hf 7 (by simp)
                            rw [e7]
                            go_wp2_with fail
                            first | exact Below.refl _ _ | exact hC | exact ⟨hC, Below.refl _ _⟩ | exact ⟨hC, Below.refl _ _, by omega⟩ | exact ⟨Below.refl _ _, by omega⟩ | trace_state
                          · refine FrontStep.of [4, 8] _ rfl (by kernel_rfl) ?_
                            intro vs LL wq hLL hC hf
                            simp only [putL, List.foldl_nil, List.foldl_cons, List.getElem?_cons_zero, List.getElem?_cons_succ]
                            have e4 : vs 4 = _ := hf 4 (by simp)
                            rw [e4]
                            have e8 : vs 8 = _ := hf 8 (by simp)
                            rw [e8]
                            go_wp2_with fail
                            first | exact Below.refl _ _ | exact hC | exact ⟨hC, Below.refl _ _⟩ | exact ⟨hC, Below.refl _ _, by omega⟩ | exact ⟨Below.refl _ _, by omega⟩ | trace_state
                          · refine FrontStep.of [7, 9] _ rfl (by kernel_rfl) ?_
                            intro vs LL wq hLL hC hf
                            simp only [putL, List.foldl_nil, List.foldl_cons, List.getElem?_cons_zero, List.getElem?_cons_succ]
                            have e7 : vs 7 = _ := hf 7 (by simp)
                            rw [e7]
                            have e9 : vs 9 = _ := hf 9 (by simp)
                            rw [e9]
                            go_wp2_with fail
                            first | exact Below.refl _ _ | exact hC | exact ⟨hC, Below.refl _ _⟩ | exact ⟨hC, Below.refl _ _, by omega⟩ | exact ⟨Below.refl _ _, by omega⟩ | trace_state
                          · refine FrontStep.of [10] _ rfl (by kernel_rfl) ?_
                            intro vs LL wq hLL hC hf
                            simp only [putL, List.foldl_nil, List.foldl_cons, List.getElem?_cons_zero, List.getElem?_cons_succ]
                            have e10 : vs 10 = _ := hf 10 (by simp)
                            rw [e10]
                            have g0c0 := cell_under d22 hC
                            go_wp2_with fail
                            first | exact Below.refl _ _ | exact hC | exact ⟨hC, Below.refl _ _⟩ | exact ⟨hC, Below.refl _ _, by omega⟩ | exact ⟨Below.refl _ _, by omega⟩ | trace_state
                          · refine FrontStep.of [10, 11] _ rfl (by kernel_rfl) ?_
                            intro vs LL wq hLL hC hf
                            simp only [putL, List.foldl_nil, List.foldl_cons, List.getElem?_cons_zero, List.getElem?_cons_succ]
                            have e10 : vs 10 = _ := hf 10 (by simp)
                            rw [e10]
                            have e11 : vs 11 = _ := hf 11 (by simp)
                            rw [e11]
                            have hcq := key_any a3 mm c3 r.1 wq ((unhide l3w).under hC) (unhide q3) (by omega)
                            replace hcq := hide hcq
                            go_wp2_with fail
                            refine (unhide hcq).mono ?_
                            rintro e wz ⟨rfl, hbz⟩
                            clear hcq
                            replace hbz := hide hbz
                            go_wp2_with fail
                            first | exact ⟨hC.trans ((unhide hbz).mono hC.size), unhide hbz⟩ | exact hC.trans ((unhide hbz).mono hC.size) | trace_state
                          · refine FrontStep.of [10] _ rfl (by kernel_rfl) ?_
                            intro vs LL wq hLL hC hf
                            simp only [putL, List.foldl_nil, List.foldl_cons, List.getElem?_cons_zero, List.getElem?_cons_succ]
                            have e10 : vs 10 = _ := hf 10 (by simp)
                            rw [e10]
                            have g0c0 := cell_under d24 hC
                            go_wp2_with fail
                            first | exact Below.refl _ _ | exact hC | exact ⟨hC, Below.refl _ _⟩ | exact ⟨hC, Below.refl _ _, by omega⟩ | exact ⟨Below.refl _ _, by omega⟩ | trace_state
                          · refine FrontStep.of [10, 12, 13] _ rfl (by kernel_rfl) ?_
                            intro vs LL wq hLL hC hf
                            simp only [putL, List.foldl_nil, List.foldl_cons, List.getElem?_cons_zero, List.getElem?_cons_succ]
                            have e10 : vs 10 = _ := hf 10 (by simp)
                            rw [e10]
                            have e12 : vs 12 = _ := hf 12 (by simp)
                            rw [e12]
                            have e13 : vs 13 = _ := hf 13 (by simp)
                            rw [e13]
                            have hcq := rkey_any a4 mm c4 r.1 wq ((unhide l4w).under hC) (unhide q3) (by omega)
                            replace hcq := hide hcq
                            go_wp2_with fail
                            refine (unhide hcq).mono ?_
                            rintro e wz ⟨rfl, hbz⟩
                            clear hcq
                            replace hbz := hide hbz
                            go_wp2_with fail
                            first | exact ⟨hC.trans ((unhide hbz).mono hC.size), unhide hbz⟩ | exact hC.trans ((unhide hbz).mono hC.size) | trace_state
                          · refine FrontStep.of [10, 12, 14] _ rfl (by kernel_rfl) ?_
                            intro vs LL wq hLL hC hf
                            simp only [putL, List.foldl_nil, List.foldl_cons, List.getElem?_cons_zero, List.getElem?_cons_succ]
                            have e10 : vs 10 = _ := hf 10 (by simp)
                            rw [e10]
                            have e12 : vs 12 = _ := hf 12 (by simp)
                            rw [e12]
                            have e14 : vs 14 = _ := hf 14 (by simp)
                            rw [e14]
                            go_wp2_with fail
                            first | exact Below.refl _ _ | exact hC | exact ⟨hC, Below.refl _ _⟩ | exact ⟨hC, Below.refl _ _, by omega⟩ | exact ⟨Below.refl _ _, by omega⟩ | trace_state
                          · refine FrontStep.of [10, 15] _ rfl (by kernel_rfl) ?_
                            intro vs LL wq hLL hC hf
                            simp only [putL, List.foldl_nil, List.foldl_cons, List.getElem?_cons_zero, List.getElem?_cons_succ]
                            have e10 : vs 10 = _ := hf 10 (by simp)
                            rw [e10]
                            have e15 : vs 15 = _ := hf 15 (by simp)
                            rw [e15]
                            go_wp2_with fail
                            first | exact Below.refl _ _ | exact hC | exact ⟨hC, Below.refl _ _⟩ | exact ⟨hC, Below.refl _ _, by omega⟩ | exact ⟨Below.refl _ _, by omega⟩ | trace_state
                          · refine FrontStep.of [14, 16] _ rfl (by kernel_rfl) ?_
                            intro vs LL wq hLL hC hf
                            simp only [putL, List.foldl_nil, List.foldl_cons, List.getElem?_cons_zero, List.getElem?_cons_succ]
                            have e14 : vs 14 = _ := hf 14 (by simp)
                            rw [e14]
                            have e16 : vs 16 = _ := hf 16 (by simp)
                            rw [e16]
                            go_wp2_with fail
                            first | exact Below.refl _ _ | exact hC | exact ⟨hC, Below.refl _ _⟩ | exact ⟨hC, Below.refl _ _, by omega⟩ | exact ⟨Below.refl _ _, by omega⟩ | trace_state
                          · refine FrontStep.of [17] _ rfl (by kernel_rfl) ?_
                            intro vs LL wq hLL hC hf
                            simp only [putL, List.foldl_nil, List.foldl_cons, List.getElem?_cons_zero, List.getElem?_cons_succ]
                            have e17 : vs 17 = _ := hf 17 (by simp)
                            rw [e17]
                            go_wp2_with fail
                            first | exact Below.refl _ _ | exact hC | exact ⟨hC, Below.refl _ _⟩ | exact ⟨hC, Below.refl _ _, by omega⟩ | exact ⟨Below.refl _ _, by omega⟩ | trace_state
                          · refine FrontStep.of [17] _ rfl (by kernel_rfl) ?_
                            intro vs LL wq hLL hC hf
                            simp only [putL, List.foldl_nil, List.foldl_cons, List.getElem?_cons_zero, List.getElem?_cons_succ]
                            have e17 : vs 17 = _ := hf 17 (by simp)
                            rw [e17]
                            have g0c0 := cell_under d22 hC
                            go_wp2_with fail
                            first | exact Below.refl _ _ | exact hC | exact ⟨hC, Below.refl _ _⟩ | exact ⟨hC, Below.refl _ _, by omega⟩ | exact ⟨Below.refl _ _, by omega⟩ | trace_state
                          · refine FrontStep.of [17, 18, 19] _ rfl (by kernel_rfl) ?_
                            intro vs LL wq hLL hC hf
                            simp only [putL, List.foldl_nil, List.foldl_cons, List.getElem?_cons_zero, List.getElem?_cons_succ]
                            have e17 : vs 17 = _ := hf 17 (by simp)
                            rw [e17]
                            have e18 : vs 18 = _ := hf 18 (by simp)
                            rw [e18]
                            have e19 : vs 19 = _ := hf 19 (by simp)
                            rw [e19]
                            have hcq := endx_any a n c L a3 mm c3 r.1 wq ((unhide hL24).under hC) (unhide hLs) (unhide hLt) ((unhide l3w).under hC) (by omega) (unhide q1) (Nat.le_of_succ_le (unhide q2))
                            replace hcq := hide hcq
                            go_wp2_with fail
                            refine (unhide hcq).mono ?_
                            rintro e wz ⟨ae, ce, rfl, hle, hce, hbz⟩
                            clear hcq
                            have hiv : IV wz (endX L r.1) (.slice ae (endX L r.1).length ce) := ⟨ae, ce, rfl, hle, hce⟩
                            replace hbz := hide hbz; replace hiv := hide hiv; clear hle
                            go_wp2_with fail
                            first | exact ⟨hC.trans ((unhide hbz).mono hC.size), unhide hbz, unhide hiv⟩ | trace_state
                          · refine FrontStep.of [17] _ rfl (by kernel_rfl) ?_
                            intro vs LL wq hLL hC hf
                            simp only [putL, List.foldl_nil, List.foldl_cons, List.getElem?_cons_zero, List.getElem?_cons_succ]
                            have e17 : vs 17 = _ := hf 17 (by simp)
                            rw [e17]
                            go_wp2_with fail
                            first | exact Below.refl _ _ | exact hC | exact ⟨hC, Below.refl _ _⟩ | exact ⟨hC, Below.refl _ _, by omega⟩ | exact ⟨Below.refl _ _, by omega⟩ | trace_state
                          · refine FrontStep.of [17] _ rfl (by kernel_rfl) ?_
                            intro vs LL wq hLL hC hf
                            simp only [putL, List.foldl_nil, List.foldl_cons, List.getElem?_cons_zero, List.getElem?_cons_succ]
                            have e17 : vs 17 = _ := hf 17 (by simp)
                            rw [e17]
                            have g0c0 := cell_under d24 hC
                            go_wp2_with fail
                            first | exact Below.refl _ _ | exact hC | exact ⟨hC, Below.refl _ _⟩ | exact ⟨hC, Below.refl _ _, by omega⟩ | exact ⟨Below.refl _ _, by omega⟩ | trace_state
                          · refine FrontStep.of [17, 20, 21, 22] _ rfl (by kernel_rfl) ?_
                            intro vs LL wq hLL hC hf
                            simp only [putL, List.foldl_nil, List.foldl_cons, List.getElem?_cons_zero, List.getElem?_cons_succ]
                            have e17 : vs 17 = _ := hf 17 (by simp)
                            rw [e17]
                            have e20 := hf 20 (by simp)
                            have e21 : vs 21 = _ := hf 21 (by simp)
                            rw [e21]
                            have e22 : vs 22 = _ := hf 22 (by simp)
                            rw [e22]
                            have hcq := rend_any a n c L a4 mm c4 r.1 wq ((unhide hL24).under hC) (unhide hLs) (unhide hLt) ((unhide l4w).under hC) (by omega) (unhide q1) (Nat.le_of_succ_le (unhide q2))
                            replace hcq := hide hcq
                            go_wp2_with fail
                            refine (unhide hcq).mono ?_
                            rintro e wz ⟨ae, ce, rfl, hle, hce, hbz⟩
                            clear hcq
                            have hiv : IV wz (endX L r.1) (.slice ae (endX L r.1).length ce) := ⟨ae, ce, rfl, hle, hce⟩
                            replace hbz := hide hbz; replace hiv := hide hiv; clear hle
                            go_wp2_with fail
                            first | exact ⟨hC.trans ((unhide hbz).mono hC.size), unhide hbz, unhide hiv⟩ | trace_state
                          · refine FrontStep.of [17, 20, 23] _ rfl (by kernel_rfl) ?_
                            intro vs LL wq hLL hC hf
                            simp only [putL, List.foldl_nil, List.foldl_cons, List.getElem?_cons_zero, List.getElem?_cons_succ]
                            have e17 : vs 17 = _ := hf 17 (by simp)
                            rw [e17]
                            have e20 := hf 20 (by simp)
                            have e23 := hf 23 (by simp)
                            obtain ⟨a148, c148, e148, h148, b148⟩ := e20
                            obtain ⟨a151, c151, e151, h151, b151⟩ := e23
                            rw [e148, e151]
                            have hcq := sameInts_blw a148 (endX L r.1).length c148 (endX L r.1) a151 (endX L r.1).length c151 (endX L r.1) wq h148 h151 (by omega) (by omega)
                            rw [decide_eq_true rfl] at hcq
                            clear h148 h151 e148 e151
                            replace hcq := hide hcq
                            go_wp2_with fail
                            refine (unhide hcq).mono ?_
                            rintro e wz ⟨rfl, hbz⟩
                            clear hcq
                            replace hbz := hide hbz
                            go_wp2_with fail
                            first | exact ⟨hC.trans ((unhide hbz).mono hC.size), unhide hbz⟩ | exact hC.trans ((unhide hbz).mono hC.size) | trace_state
                          · refine FrontStep.of [17, 24] _ rfl (by kernel_rfl) ?_
                            intro vs LL wq hLL hC hf
                            simp only [putL, List.foldl_nil, List.foldl_cons, List.getElem?_cons_zero, List.getElem?_cons_succ]
                            have e17 : vs 17 = _ := hf 17 (by simp)
                            rw [e17]
                            have e24 : vs 24 = _ := hf 24 (by simp)
                            rw [e24]
                            go_wp2_with fail
                            first | exact Below.refl _ _ | exact hC | exact ⟨hC, Below.refl _ _⟩ | exact ⟨hC, Below.refl _ _, by omega⟩ | exact ⟨Below.refl _ _, by omega⟩ | trace_state
                          · refine FrontStep.of [17, 25] _ rfl (by kernel_rfl) ?_
                            intro vs LL wq hLL hC hf
                            simp only [putL, List.foldl_nil, List.foldl_cons, List.getElem?_cons_zero, List.getElem?_cons_succ]
                            have e17 : vs 17 = _ := hf 17 (by simp)
                            rw [e17]
                            have e25 : vs 25 = _ := hf 25 (by simp)
                            rw [e25]
                            go_wp2_with fail
                            first | exact Below.refl _ _ | exact hC | exact ⟨hC, Below.refl _ _⟩ | exact ⟨hC, Below.refl _ _, by omega⟩ | exact ⟨Below.refl _ _, by omega⟩ | trace_state
                        --END27
                        · intro vs LL wq hLL hC hf
                          have e26 : vs 26 = _ := hf 26 (by omega)
                          rw [putSome_all]
                          simp only [putL, List.range, List.range.loop, List.foldl_nil, List.foldl_cons, List.getElem?_cons_zero, List.getElem?_cons_succ, List.drop_succ_cons, List.drop_zero]
                          rw [e26]
                          have hF6 := hide ((unhide hF4).under hC)
                          have k226 := hide (kept' hC (unhide k22))
                          have k246 := hide (kept' hC (unhide k24))
                          have l36 := hide (((unhide l3c).same (fun b hb => hC.block b hb.2.2)).wide (S' := fun b => b ≠ b18 ∧ b ≠ b19 ∧ b < wq.heap.size) (fun b hb => ⟨hb.1, hb.2.1, Nat.lt_of_lt_of_le hb.2.2 hC.size⟩))
                          have l46 := hide (((unhide l4c).same (fun b hb => hC.block b hb.2.2)).wide (S' := fun b => b ≠ b18 ∧ b ≠ b19 ∧ b < wq.heap.size) (fun b hb => ⟨hb.1, hb.2.1, Nat.lt_of_lt_of_le hb.2.2 hC.size⟩))
                          obtain ⟨wf, rfl⟩ : ∃ W : World, W = wq := ⟨_, rfl⟩
                          clear hf hLL hC e26 hF4 k22 k24 l3c l4c l3w l4w o3c o4c q1 q2 q3 hL24 d22 d24
                          go_simp
                          go_upto_region 29 with fail
                          have d22 := blk_cell (unhide k226)
                          have d24 := blk_cell (unhide k246)
                          have d18 := blk_cell (unhide hF6).x18
                          have f18 : wf.frozen? ⟨b18, 0, none⟩ = false := by simp [World.frozen?, (unhide hF6).x18]
                          refine wp_region_frontG 3 (fun LL vs w' => CS wf 2 [0] (fun wz => wz.setCell ⟨b18, 0, none⟩ (.slice a3 mm c3)) LL vs w') (fun _ _ => True)
                            (fun ix v w' => match ix with
                              | 0 => v = .agg #[.slice a3 mm c3]
                              | 1 => v = .agg #[.slice a4 mm c4]
                              | 2 => True
                              | _ => True) (by rfl) (by kernel_rfl) ?_ ?_ ?_ ?_
                          · exact CS.start _ _ _ _
                          · intro wa wb hR ix v hv
                            match ix, hv with
                            | 0, h => exact h
                            | 1, h => exact h
                            | 2, h => exact h
                            | _ + 3, _ => trivial
                          · intro ix hix
                            obtain rfl | rfl | rfl : ix = 0 ∨ ix = 1 ∨ ix = 2 := by omega
                            · refine FrontStep.of [] _ rfl (by kernel_rfl) ?_
                              intro vs LL wq hLL hC hf
                              simp only [putL, List.foldl_nil]
                              have hE := (hC.early (j := 0) hLL (by simp)).2
                              have g0c := cell_under d22 hE
                              have hkp := fun v => hC.keep 0 v (by omega)
                              replace hkp := hide hkp
                              clear hC hE
                              go_wp2_with fail
                              first | exact unhide hkp _ | exact ⟨unhide hkp _, trivial⟩ | trace_state
                            · refine FrontStep.of [] _ rfl (by kernel_rfl) ?_
                              intro vs LL wq hLL hC hf
                              simp only [putL, List.foldl_nil]
                              have g0c : wq.cell? ⟨b24, 0, none⟩ = some (.slice a4 mm c4) := by
                                obtain ⟨wz, h1, h2⟩ := hC.st
                                rw [h2]
                                split
                                · exact (World.cell?_of_block (a := ⟨b24, 0, none⟩) (heap_set_ne (unhide n24).1)).trans (cell_under d24 h1)
                                · exact cell_under d24 h1
                              have hkp := fun v => hC.keep 1 v (by omega)
                              replace hkp := hide hkp
                              clear hC
                              go_wp2_with fail
                              first | exact unhide hkp _ | exact ⟨unhide hkp _, trivial⟩ | trace_state
                            · refine FrontStep.of [0] _ rfl (by kernel_rfl) ?_
                              intro vs LL wq hLL hC hf
                              simp only [putL, List.foldl_nil, List.foldl_cons, List.getElem?_cons_zero]
                              have y0 : vs 0 = _ := hf 0 (by simp)
                              try rw [y0]
                              have hcalm := hC.calm hLL
                              have hx := ((unhide hF6).under hcalm).x18
                              have gc := blk_cell hx
                              have gf : wq.frozen? ⟨b18, 0, none⟩ = false := by simp [World.frozen?, hx]
                              have hnx := hC.store (.bool true) hLL (fun j hj => by simp at hj; rw [hj, y0]; exact fun h => by cases h)
                              replace hnx := hide hnx
                              clear hC hcalm y0 hx
                              go_wp2_with fail
                              first | exact ⟨.bool true, unhide hnx⟩ | exact ⟨.bool true, rfl, unhide hnx, trivial, rfl⟩ | exact unhide hnx | exact ⟨.bool true, unhide hnx, trivial⟩ | trace_state
                          · intro vs LL wq hLL hC hf
                            obtain ⟨wz, h1, h2⟩ := hC.fin (hLL 2 (by omega))
                            have e1 : vs 1 = _ := hf 1 (by omega)
                            rw [putSome_all]
                            simp only [putL, List.range, List.range.loop, List.foldl_nil, List.foldl_cons, List.getElem?_cons_zero, List.getElem?_cons_succ, List.drop_succ_cons, List.drop_zero]
                            rw [e1]
                            have hF7 := (unhide hF6).under h1
                            have hput := hF7.put (c3 := c3) (c4 := c4) (((unhide l36).same (fun b hb => h1.block b hb.2.2)).wide (S' := fun b => b ≠ b18 ∧ b ≠ b19 ∧ b < wz.heap.size) (fun b hb => ⟨hb.1, hb.2.1, Nat.lt_of_lt_of_le hb.2.2 h1.size⟩)) (((unhide l46).same (fun b hb => h1.block b hb.2.2)).wide (S' := fun b => b ≠ b18 ∧ b ≠ b19 ∧ b < wz.heap.size) (fun b hb => ⟨hb.1, hb.2.1, Nat.lt_of_lt_of_le hb.2.2 h1.size⟩))
                            have hx : wq.heap[b19]? = some (.cells #[.slice a2 m c2] 29 (0, 0)) := by rw [h2]; exact (heap_set_ne (fun e => hF7.ne e.symm)).trans hF7.x19
                            rw [← h2] at hput
                            have gc := blk_cell hx
                            have gf : wq.frozen? ⟨b19, 0, none⟩ = false := by simp [World.frozen?, hx]
                            obtain ⟨W9, hW9⟩ : ∃ W, wq.setCell ⟨b19, 0, none⟩ (.slice a4 mm c4) = W := ⟨_, rfl⟩
                            rw [hW9] at hput
                            clear hf hLL hC e1 hF7 hx h1 h2 hF6 l36 l46 k226 k246 d22 d24 d18 f18 n22 n24
                            replace hput := hide hput; replace hW9 := hide hW9
                            go_simp
                            go_wp2_with fail
                            rw [unhide hW9]
                            go_roundw
                            case rel => exact ⟨p + 1, mm, a3, a4, c3, c4, r.1, by omega, by go_num, unhide hs2, unhide hput⟩
                            case measure => simp [intOf]; omega
                      · have t5 : ¬ (p : Int) < (xn : Int) := by omega
                        have hfwE := hide ((unhide hfw7).under hFe.bel)
                        have hIE := hide ((unhide hI7).under hFe.bel)
                        have hLE := hide ((unhide hL7).under hFe.bel)
                        have hzE := hide ((unhide hz7).trans (hFe.bel.mono (unhide hz7).size))
                        clear hFe hss hfw7 hI7 hL7 hz7
                        go_wp2_with fail
                        go_roundw
                        case rel => exact ⟨j + 1, by omega, by go_num, unhide hfwE, unhide hIE, unhide hLE, unhide hzE⟩
                        case measure => simp [intOf]; omega
                · have t4 : ¬ (j : Int) < 2 := by omega
                  clear hfw hL
                  replace hI := hide hI; replace hz9 := hide hz9
                  go_wp2_with fail
                  go_roundw
                  case rel => exact ⟨i + 1, by omega, by go_num, unhide hI, unhide hz9⟩
                  case measure => simp [intOf]; omega
      · have t1 : ¬ (i : Int) < 2 := by omega
        replace hI := hide hI; replace hz9 := hide hz9
        have d10 := (unhide hI).any
        have hsA3 := hide ((unhide hsmA).bd (by omega)).2.2
        have hbF : Hid (∀ s ∈ List.replicate fn (([], []) : Stg), s.1.length ≤ 300000 ∧ s.2.length ≤ 300000) := hide (fun s hs => by rw [List.eq_of_mem_replicate hs]; simp)
        go_upto_region 33 with fail
        refine wp_region_frontG 15 (fun _ _ w' => Below wa.heap.size wa w') (fun wa wb => Below wa.heap.size wa wb)
          (fun ix v w' => match ix with
            | 0 => v = .bool true
            | 1 => v = .bool true
            | 2 => v = .slice fa fn fc
            | 3 => SV w' fn v
            | 4 => v = .slice fa fn fc
            | 5 => SV w' fn v
            | 6 => v = .bool true
            | 7 => v = .bool true
            | 8 => v = .bool true
            | 9 => v = .agg #[.slice ya yn yc]
            | 10 => v = .string ⟨(keyB AN).toArray⟩
            | 11 => v = .agg #[.slice ya yn yc]
            | 12 => v = .string ⟨(keyB AN).toArray⟩
            | 13 => v = .bool true
            | 14 => v = .bool true
            | _ => True) (by rfl) (by kernel_rfl) ?_ ?_ ?_ ?_
        · exact (Below.refl _ _).drew
        · intro wa wb hR ix v hv
          match ix, hv with
          | 0, h => exact h
          | 1, h => exact h
          | 2, h => exact h
          | 3, h => exact h.under hR
          | 4, h => exact h
          | 5, h => exact h.under hR
          | 6, h => exact h
          | 7, h => exact h
          | 8, h => exact h
          | 9, h => exact h
          | 10, h => exact h
          | 11, h => exact h
          | 12, h => exact h
          | 13, h => exact h
          | 14, h => exact h
          | _ + 15, _ => trivial
        --BEGIN33
        · intro ix hix
          obtain rfl | rfl | rfl | rfl | rfl | rfl | rfl | rfl | rfl | rfl | rfl | rfl | rfl | rfl | rfl : ix = 0 ∨ ix = 1 ∨ ix = 2 ∨ ix = 3 ∨ ix = 4 ∨ ix = 5 ∨ ix = 6 ∨ ix = 7 ∨ ix = 8 ∨ ix = 9 ∨ ix = 10 ∨ ix = 11 ∨ ix = 12 ∨ ix = 13 ∨ ix = 14 := by omega
          · refine FrontStep.of [] _ rfl (by kernel_rfl) ?_
            intro vs LL wq hLL hC hf
            simp only [putL, List.foldl_nil]
            go_wp2_with fail
            first | exact Below.refl _ _ | exact hC | exact ⟨hC, Below.refl _ _⟩ | exact ⟨hC, Below.refl _ _, by omega⟩ | exact ⟨Below.refl _ _, by omega⟩ | trace_state
          · refine FrontStep.of [0] _ rfl (by kernel_rfl) ?_
            intro vs LL wq hLL hC hf
            simp only [putL, List.foldl_nil, List.foldl_cons, List.getElem?_cons_zero]
            have e0 : vs 0 = _ := hf 0 (by simp)
            rw [e0]
            go_wp2_with fail
            first | exact Below.refl _ _ | exact hC | exact ⟨hC, Below.refl _ _⟩ | exact ⟨hC, Below.refl _ _, by omega⟩ | exact ⟨Below.refl _ _, by omega⟩ | trace_state
          · refine FrontStep.of [1] _ rfl (by kernel_rfl) ?_
            intro vs LL wq hLL hC hf
            simp only [putL, List.foldl_nil, List.foldl_cons, List.getElem?_cons_zero, List.getElem?_cons_succ]
            have e1 : vs 1 = _ := hf 1 (by simp)
            rw [e1]
            go_wp2_with fail
            first | exact Below.refl _ _ | exact hC | exact ⟨hC, Below.refl _ _⟩ | exact ⟨hC, Below.refl _ _, by omega⟩ | exact ⟨Below.refl _ _, by omega⟩ | trace_state
          · refine FrontStep.of [1, 2] _ rfl (by kernel_rfl) ?_
            intro vs LL wq hLL hC hf
            simp only [putL, List.foldl_nil, List.foldl_cons, List.getElem?_cons_zero, List.getElem?_cons_succ]
            have e1 : vs 1 = _ := hf 1 (by simp)
            rw [e1]
            have e2 : vs 2 = _ := hf 2 (by simp)
            rw [e2]
            have hcq := start_any fa fn fc wq (by omega)
            replace hcq := hide hcq
            go_wp2_with fail
            refine (unhide hcq).mono ?_
            rintro e wz ⟨as', rfl, hls, hbz⟩
            clear hcq
            have hsv : SV wz fn (.agg #[.slice as' fn fn]) := ⟨as', fn, rfl, hls.wide (fun b hb => hb.2)⟩
            replace hbz := hide hbz; replace hsv := hide hsv; clear hls
            go_wp2_with fail
            first | exact ⟨hC.trans ((unhide hbz).mono hC.size), unhide hbz, unhide hsv⟩ | trace_state
          · refine FrontStep.of [1] _ rfl (by kernel_rfl) ?_
            intro vs LL wq hLL hC hf
            simp only [putL, List.foldl_nil, List.foldl_cons, List.getElem?_cons_zero, List.getElem?_cons_succ]
            have e1 : vs 1 = _ := hf 1 (by simp)
            rw [e1]
            go_wp2_with fail
            first | exact Below.refl _ _ | exact hC | exact ⟨hC, Below.refl _ _⟩ | exact ⟨hC, Below.refl _ _, by omega⟩ | exact ⟨Below.refl _ _, by omega⟩ | trace_state
          · refine FrontStep.of [1, 3, 4] _ rfl (by kernel_rfl) ?_
            intro vs LL wq hLL hC hf
            simp only [putL, List.foldl_nil, List.foldl_cons, List.getElem?_cons_zero, List.getElem?_cons_succ]
            have e1 : vs 1 = _ := hf 1 (by simp)
            rw [e1]
            have e3 := hf 3 (by simp)
            have e4 : vs 4 = _ := hf 4 (by simp)
            rw [e4]
            have hcq := rstart_any fa fn fc wq (by omega)
            replace hcq := hide hcq
            go_wp2_with fail
            refine (unhide hcq).mono ?_
            rintro e wz ⟨as', cs', rfl, hls, hbz⟩
            clear hcq
            have hsv : SV wz fn (.agg #[.slice as' fn cs']) := ⟨as', cs', rfl, hls⟩
            replace hbz := hide hbz; replace hsv := hide hsv; clear hls
            go_wp2_with fail
            first | exact ⟨hC.trans ((unhide hbz).mono hC.size), unhide hbz, unhide hsv⟩ | trace_state
          · refine FrontStep.of [1, 3, 5] _ rfl (by kernel_rfl) ?_
            intro vs LL wq hLL hC hf
            simp only [putL, List.foldl_nil, List.foldl_cons, List.getElem?_cons_zero, List.getElem?_cons_succ]
            have e1 : vs 1 = _ := hf 1 (by simp)
            rw [e1]
            have e3 := hf 3 (by simp)
            have e5 := hf 5 (by simp)
            obtain ⟨a163, c163, e163, h163⟩ := e3
            obtain ⟨a165, c165, e165, h165⟩ := e5
            rw [e163, e165]
            have hcq := same_any a163 fn c163 _ a165 fn c165 _ wq h163 h165 (unhide hbF) (unhide hbF) (by omega) (by omega)
            rw [decide_eq_true rfl] at hcq
            clear h163 h165 e163 e165
            replace hcq := hide hcq
            go_wp2_with fail
            refine (unhide hcq).mono ?_
            rintro e wz ⟨rfl, hbz⟩
            clear hcq
            replace hbz := hide hbz
            go_wp2_with fail
            first | exact ⟨hC.trans ((unhide hbz).mono hC.size), unhide hbz⟩ | exact hC.trans ((unhide hbz).mono hC.size) | trace_state
          · refine FrontStep.of [1, 6] _ rfl (by kernel_rfl) ?_
            intro vs LL wq hLL hC hf
            simp only [putL, List.foldl_nil, List.foldl_cons, List.getElem?_cons_zero, List.getElem?_cons_succ]
            have e1 : vs 1 = _ := hf 1 (by simp)
            rw [e1]
            have e6 : vs 6 = _ := hf 6 (by simp)
            rw [e6]
            go_wp2_with fail
            first | exact Below.refl _ _ | exact hC | exact ⟨hC, Below.refl _ _⟩ | exact ⟨hC, Below.refl _ _, by omega⟩ | exact ⟨Below.refl _ _, by omega⟩ | trace_state
          · refine FrontStep.of [6, 7] _ rfl (by kernel_rfl) ?_
            intro vs LL wq hLL hC hf
            simp only [putL, List.foldl_nil, List.foldl_cons, List.getElem?_cons_zero, List.getElem?_cons_succ]
            have e6 : vs 6 = _ := hf 6 (by simp)
            rw [e6]
            have e7 : vs 7 = _ := hf 7 (by simp)
            rw [e7]
            go_wp2_with fail
            first | exact Below.refl _ _ | exact hC | exact ⟨hC, Below.refl _ _⟩ | exact ⟨hC, Below.refl _ _, by omega⟩ | exact ⟨Below.refl _ _, by omega⟩ | trace_state
          · refine FrontStep.of [8] _ rfl (by kernel_rfl) ?_
            intro vs LL wq hLL hC hf
            simp only [putL, List.foldl_nil, List.foldl_cons, List.getElem?_cons_zero, List.getElem?_cons_succ]
            have e8 : vs 8 = _ := hf 8 (by simp)
            rw [e8]
            have g0c0 := cell_under d10 hC
            go_wp2_with fail
            first | exact Below.refl _ _ | exact hC | exact ⟨hC, Below.refl _ _⟩ | exact ⟨hC, Below.refl _ _, by omega⟩ | exact ⟨Below.refl _ _, by omega⟩ | trace_state
          · refine FrontStep.of [8, 9] _ rfl (by kernel_rfl) ?_
            intro vs LL wq hLL hC hf
            simp only [putL, List.foldl_nil, List.foldl_cons, List.getElem?_cons_zero, List.getElem?_cons_succ]
            have e8 : vs 8 = _ := hf 8 (by simp)
            rw [e8]
            have e9 : vs 9 = _ := hf 9 (by simp)
            rw [e9]
            have hcq := key_any ya yn yc AN wq (((unhide hI).under hC).an) (unhide hsA3) (by omega)
            replace hcq := hide hcq
            go_wp2_with fail
            refine (unhide hcq).mono ?_
            rintro e wz ⟨rfl, hbz⟩
            clear hcq
            replace hbz := hide hbz
            go_wp2_with fail
            first | exact ⟨hC.trans ((unhide hbz).mono hC.size), unhide hbz⟩ | exact hC.trans ((unhide hbz).mono hC.size) | trace_state
          · refine FrontStep.of [8] _ rfl (by kernel_rfl) ?_
            intro vs LL wq hLL hC hf
            simp only [putL, List.foldl_nil, List.foldl_cons, List.getElem?_cons_zero, List.getElem?_cons_succ]
            have e8 : vs 8 = _ := hf 8 (by simp)
            rw [e8]
            have g0c0 := cell_under d10 hC
            go_wp2_with fail
            first | exact Below.refl _ _ | exact hC | exact ⟨hC, Below.refl _ _⟩ | exact ⟨hC, Below.refl _ _, by omega⟩ | exact ⟨Below.refl _ _, by omega⟩ | trace_state
          · refine FrontStep.of [8, 10, 11] _ rfl (by kernel_rfl) ?_
            intro vs LL wq hLL hC hf
            simp only [putL, List.foldl_nil, List.foldl_cons, List.getElem?_cons_zero, List.getElem?_cons_succ]
            have e8 : vs 8 = _ := hf 8 (by simp)
            rw [e8]
            have e10 : vs 10 = _ := hf 10 (by simp)
            rw [e10]
            have e11 : vs 11 = _ := hf 11 (by simp)
            rw [e11]
            have hcq := rkey_any ya yn yc AN wq (((unhide hI).under hC).an) (unhide hsA3) (by omega)
            replace hcq := hide hcq
            go_wp2_with fail
            refine (unhide hcq).mono ?_
            rintro e wz ⟨rfl, hbz⟩
            clear hcq
            replace hbz := hide hbz
            go_wp2_with fail
            first | exact ⟨hC.trans ((unhide hbz).mono hC.size), unhide hbz⟩ | exact hC.trans ((unhide hbz).mono hC.size) | trace_state
          · refine FrontStep.of [8, 10, 12] _ rfl (by kernel_rfl) ?_
            intro vs LL wq hLL hC hf
            simp only [putL, List.foldl_nil, List.foldl_cons, List.getElem?_cons_zero, List.getElem?_cons_succ]
            have e8 : vs 8 = _ := hf 8 (by simp)
            rw [e8]
            have e10 : vs 10 = _ := hf 10 (by simp)
            rw [e10]
            have e12 : vs 12 = _ := hf 12 (by simp)
            rw [e12]
            go_wp2_with fail
            first | exact Below.refl _ _ | exact hC | exact ⟨hC, Below.refl _ _⟩ | exact ⟨hC, Below.refl _ _, by omega⟩ | exact ⟨Below.refl _ _, by omega⟩ | trace_state
          · refine FrontStep.of [8, 13] _ rfl (by kernel_rfl) ?_
            intro vs LL wq hLL hC hf
            simp only [putL, List.foldl_nil, List.foldl_cons, List.getElem?_cons_zero, List.getElem?_cons_succ]
            have e8 : vs 8 = _ := hf 8 (by simp)
            rw [e8]
            have e13 : vs 13 = _ := hf 13 (by simp)
            rw [e13]
            go_wp2_with fail
            first | exact Below.refl _ _ | exact hC | exact ⟨hC, Below.refl _ _⟩ | exact ⟨hC, Below.refl _ _, by omega⟩ | exact ⟨Below.refl _ _, by omega⟩ | trace_state
        --END33
        · intro vs LL wq hLL hC hf
          have e14 : vs 14 = _ := hf 14 (by omega)
          rw [putSome_all]
          simp only [putL, List.range, List.range.loop, List.foldl_nil, List.foldl_cons, List.getElem?_cons_zero, List.getElem?_cons_succ, List.drop_succ_cons, List.drop_zero]
          rw [e14]
          have hz8 := hide ((unhide hz9).trans (hC.mono (unhide hz9).size))
          clear hf hLL hC e14 hI hz9 d10
          go_simp
          go_wp2_with fail
          go_ret
          exact ⟨rfl, unhide hz8⟩
end Go.Proofs.Ytfbgbbbfpkpfkaa
