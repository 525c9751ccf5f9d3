/- The reference's polygon. -/
import Derived.Test.YtbodidhggdggmaaOp2
import Derived.Test.YtbodidhggdggmaaOlY
namespace Go.Proofs.Ytbodidhggdggmaa
open Go.RowKit
theorem tmod_next2 {i n : Nat} (_ : i < n) : Int.tmod ((i : Int) + 1) (n : Int) = (((i + 1) % n : Nat) : Int) := by
  rw [Int.tmod_eq_emod_of_nonneg (by omega), Int.natCast_emod]
  rfl
/-- a contour that is made in a row of its own; the blocks of D are not touched -/
def PR (W : World) (B : Nat) (D : Nat → Prop) (v : Value) (cs : List Pt) : Prop := Rw W B v cs ∧ ∀ d, D d → d < W.heap.size ∧ v.ownBlock ≠ some d
theorem PR.below {W W' : World} {B : Nat} {D : Nat → Prop} {v : Value} {cs : List Pt} (h : PR W B D v cs) (hb : Below W.heap.size W W') : PR W' B D v cs :=
  ⟨h.1.below hb, fun d hd => ⟨Nat.lt_of_lt_of_le (h.2 d hd).1 hb.size, (h.2 d hd).2⟩⟩
theorem PR.wider {W : World} {B : Nat} {D D' : Nat → Prop} {v : Value} {cs : List Pt} (h : PR W B D v cs) (hD : ∀ d, D' d → D d) : PR W B D' v cs := ⟨h.1, fun d hd => h.2 d (hD d hd)⟩
theorem PR.fresh {W W' : World} {B b8 : Nat} {D : Nat → Prop} {v : Value} {cs : List Pt} (h : PR W B D v cs) (hb : Below W.heap.size W W') (h8 : W.heap.size ≤ b8) (h9 : b8 < W'.heap.size) : PR W' B (fun d => D d ∨ d = b8) v cs := by
  refine ⟨h.1.below hb, fun d hd => ?_⟩
  rcases hd with hd | rfl
  · exact (h.below hb).2 d hd
  · exact ⟨h9, fun e => by have := (h.1.1.lt _ e).2; omega⟩
theorem PR.push {W w' : World} {B : Nat} {D : Nat → Prop} {v v' : Value} {cs : List Pt} {p : Pt} (h : PR W B D v cs) (hrow : w'.ownsRow B 56 3 v' (cs.length + 1) (pcells cs ++ [.int .i64 p.1, .int .i64 p.2.1, .bool p.2.2])) (hg : W.grownBy w' v.ownBlock) (hob : v'.ownBlock = v.ownBlock ∨ v'.ownBlock = some W.heap.size) (i1 : I64 p.1) (i2 : I64 p.2.1) :
    PR w' B D v' (cs ++ [p]) ∧ Kp D W w' := by
  refine ⟨⟨⟨by rw [List.length_append, pcells_append]; exact hrow, fun q hq => ?_⟩, fun d hd => ⟨Nat.lt_of_lt_of_le (h.2 d hd).1 hg.size, fun e => ?_⟩⟩, hg.os, hg.tape, hg.output, hg.size, fun d hd => hg.block d (h.2 d hd).1 (fun e => (h.2 d hd).2 e.symm)⟩
  · rcases List.mem_append.1 hq with hq | hq
    · exact h.1.2 q hq
    · simp at hq; subst hq; exact ⟨i1, i2⟩
  · rcases hob with h0 | h0
    · exact (h.2 d hd).2 (h0.symm.trans e)
    · rw [e] at h0
      injection h0 with h0
      have := (h.2 d hd).1
      omega
set_option maxHeartbeats 8000000 in
set_option maxRecDepth 100000 in
theorem rpolygon_any (a : Option Addr) (n c : Nat) (l : List Pt) (w : World) (hl : Lst Enc.pt w (· < w.heap.size) a n l) (hn : n ≤ 250) :
    Calls Try.prog 58 #[.slice a n c] w fun e w' => ∃ v, e = .returned v ∧ Rw w' w.heap.size v (polyS l) ∧ Below w.heap.size w w' := by
  have hln : l.length = n := hl.1
  replace hl := hide hl; replace hln := hide hln
  go_enter Try.func58, Try.ntmps58
  go_wp2_with fail
  go_loopw [3, 4] (fun v3 v wr => ∃ i : Nat, i ≤ n ∧ v = .int .i64 (i : Int) ∧ Rw wr w.heap.size v3 ((List.range i).flatMap (segS l)) ∧ Below w.heap.size w wr) (fun _ v _ => (n - intOf v).toNat)
  case atStart => exact ⟨0, by omega, rfl, Rw.nil _ _, Below.refl _ _⟩
  case round =>
    obtain ⟨i, hi, rfl, hrw, hbw⟩ := hrel
    obtain ⟨V, rfl⟩ : ∃ V : World, V = wr := ⟨_, rfl⟩
    obtain ⟨P, hP⟩ : ∃ P, (List.range i).flatMap (segS l) = P := ⟨_, rfl⟩
    have hRl : P.length ≤ 4 * i := by rw [← hP]; exact poly_len l i
    have hz1 : (List.range (i + 1)).flatMap (segS l) = P ++ segS l i := by rw [← hP]; exact poly_next l i
    rw [hP] at hrw
    obtain ⟨va, vc, ev, _⟩ := hrw.lst
    obtain ⟨pl, hpl⟩ : ∃ pl, P.length = pl := ⟨_, rfl⟩
    rw [hpl] at ev
    subst ev
    replace hP := hide hP; replace hz1 := hide hz1
    have hBV := hbw.size
    by_cases hlt : i < n
    · have hlw := (unhide hl).under hbw
      obtain ⟨g, og, px, py, pz, rfl, _, hp, _, _, p0, p1, p2⟩ := lst_pt hlw hlt
      have hcon := ron_any (some ⟨g, og, none⟩) n c l i V hlw hlt
      have hpp := pAt_some hp
      have hpr : PR V w.heap.size (· < w.heap.size) (.slice va pl vc) P := ⟨hrw, fun d hd => ⟨by omega, fun e => by have := (hrw.1.lt _ e).1; omega⟩⟩
      have hPl : P.length ≤ 1000 := by omega
      have t1 : (i : Int) < (n : Int) := by omega
      clear hp hrw
      replace hpl := hide hpl; replace hpr := hide hpr; replace hbw := hide hbw; replace hpp := hide hpp; replace hlw := hide hlw
      by_cases hon : onS l i = true
      · rw [hon] at hcon
        have hseg : segS l i = [(wrap64 (32 * px), wrap64 (32 * py), true)] := by unfold segS; rw [if_pos hon, unhide hpp]
        replace hcon := hide hcon; replace hseg := hide hseg; replace hon := hide hon
        go_wp2_with fail
        refine (unhide hcon).mono ?_
        rintro e wz ⟨rfl, rfl⟩
        obtain ⟨V, rfl⟩ : ∃ V : World, V = wz := ⟨_, rfl⟩
        clear hcon
        go_wp2_with fail
        refine wp_region_frontG 15 (fun _ _ w' => Below V.heap.size V w') (fun wa wb => Below wa.heap.size wa wb)
          (fun ix v w' => match ix with
            | 0 => v = .slice va pl vc
            | 1 => v = .slice (some ⟨g, og, none⟩) n c
            | 2 => v = .int .i64 (i : Int)
            | 3 => v = .pointer (some ⟨g, og + i * 3, none⟩)
            | 4 => v = .pointer (some ⟨g, og + i * 3, none⟩)
            | 5 => v = .int .i64 px
            | 6 => v = .int .i64 (wrap64 (32 * px))
            | 7 => v = .slice (some ⟨g, og, none⟩) n c
            | 8 => v = .int .i64 (i : Int)
            | 9 => v = .pointer (some ⟨g, og + i * 3, none⟩)
            | 10 => v = .pointer (some ⟨g, og + i * 3 + 1, none⟩)
            | 11 => v = .int .i64 py
            | 12 => v = .int .i64 (wrap64 (32 * py))
            | 13 => v = .agg #[.int .i64 (wrap64 (32 * px)), .int .i64 (wrap64 (32 * py)), .bool true]
            | 14 => ∃ b, v = .slice (some ⟨b, 0, none⟩) 1 1 ∧ w'.heap[b]? = some (.cells #[.int .i64 (wrap64 (32 * px)), .int .i64 (wrap64 (32 * py)), .bool true] 56 (0, 0)) ∧ V.heap.size ≤ b
            | _ => True) (by rfl) (by kernel_rfl) ?_ ?_ ?_ ?_
        · exact (Below.refl _ _).drew
        · intro wa wb hR ix v hv
          match ix, hv with
          | 0, h => exact h
          | 1, h => exact h
          | 2, h => exact h
          | 3, h => exact h
          | 4, h => exact h
          | 5, h => exact h
          | 6, h => exact h
          | 7, h => exact h
          | 8, h => exact h
          | 9, h => exact h
          | 10, h => exact h
          | 11, h => exact h
          | 12, h => exact h
          | 13, h => exact h
          | 14, h => obtain ⟨b, h1, h2, h3⟩ := h; exact ⟨b, h1, (hR.block b (Array.getElem?_eq_some_iff.1 h2).1).trans h2, h3⟩
          | _ + 15, _ => trivial
        --BEGIN1
        · intro ix hix
          obtain rfl | rfl | rfl | rfl | rfl | rfl | rfl | rfl | rfl | rfl | rfl | rfl | rfl | rfl | rfl : ix = 0 ∨ ix = 1 ∨ ix = 2 ∨ ix = 3 ∨ ix = 4 ∨ ix = 5 ∨ ix = 6 ∨ ix = 7 ∨ ix = 8 ∨ ix = 9 ∨ ix = 10 ∨ ix = 11 ∨ ix = 12 ∨ ix = 13 ∨ ix = 14 := by omega
          · refine FrontStep.of [] _ rfl (by kernel_rfl) ?_
            intro vs LL wq hLL hC hf
            simp only [putL, List.foldl_nil]
            go_wp2_with fail
            first | exact Below.refl _ _ | exact ⟨Below.refl _ _, by omega⟩
          · refine FrontStep.of [] _ rfl (by kernel_rfl) ?_
            intro vs LL wq hLL hC hf
            simp only [putL, List.foldl_nil]
            go_wp2_with fail
            first | exact Below.refl _ _ | exact ⟨Below.refl _ _, by omega⟩
          · refine FrontStep.of [] _ rfl (by kernel_rfl) ?_
            intro vs LL wq hLL hC hf
            simp only [putL, List.foldl_nil]
            go_wp2_with fail
            first | exact Below.refl _ _ | exact ⟨Below.refl _ _, by omega⟩
          · refine FrontStep.of [1, 2] _ rfl (by kernel_rfl) ?_
            intro vs LL wq hLL hC hf
            simp only [putL, List.foldl_nil, List.foldl_cons, List.getElem?_cons_zero, List.getElem?_cons_succ]
            have e1 : vs 1 = _ := hf 1 (by simp)
            rw [e1]
            have e2 : vs 2 = _ := hf 2 (by simp)
            rw [e2]
            go_wp2_with fail
            first | exact Below.refl _ _ | exact ⟨Below.refl _ _, by omega⟩
          · refine FrontStep.of [3] _ rfl (by kernel_rfl) ?_
            intro vs LL wq hLL hC hf
            simp only [putL, List.foldl_nil, List.foldl_cons, List.getElem?_cons_zero, List.getElem?_cons_succ]
            have e3 : vs 3 = _ := hf 3 (by simp)
            rw [e3]
            go_wp2_with fail
            first | exact Below.refl _ _ | exact ⟨Below.refl _ _, by omega⟩
          · refine FrontStep.of [4] _ rfl (by kernel_rfl) ?_
            intro vs LL wq hLL hC hf
            simp only [putL, List.foldl_nil, List.foldl_cons, List.getElem?_cons_zero, List.getElem?_cons_succ]
            have e4 : vs 4 = _ := hf 4 (by simp)
            rw [e4]
            have hcq := cell_under p0 hC
            go_wp2_with fail
            first | exact Below.refl _ _ | exact ⟨Below.refl _ _, by omega⟩
          · refine FrontStep.of [5] _ rfl (by kernel_rfl) ?_
            intro vs LL wq hLL hC hf
            simp only [putL, List.foldl_nil, List.foldl_cons, List.getElem?_cons_zero, List.getElem?_cons_succ]
            have e5 : vs 5 = _ := hf 5 (by simp)
            rw [e5]
            go_wp2_with fail
            first | exact Below.refl _ _ | exact ⟨Below.refl _ _, by omega⟩
          · refine FrontStep.of [] _ rfl (by kernel_rfl) ?_
            intro vs LL wq hLL hC hf
            simp only [putL, List.foldl_nil]
            go_wp2_with fail
            first | exact Below.refl _ _ | exact ⟨Below.refl _ _, by omega⟩
          · refine FrontStep.of [] _ rfl (by kernel_rfl) ?_
            intro vs LL wq hLL hC hf
            simp only [putL, List.foldl_nil]
            go_wp2_with fail
            first | exact Below.refl _ _ | exact ⟨Below.refl _ _, by omega⟩
          · refine FrontStep.of [7, 8] _ rfl (by kernel_rfl) ?_
            intro vs LL wq hLL hC hf
            simp only [putL, List.foldl_nil, List.foldl_cons, List.getElem?_cons_zero, List.getElem?_cons_succ]
            have e7 : vs 7 = _ := hf 7 (by simp)
            rw [e7]
            have e8 : vs 8 = _ := hf 8 (by simp)
            rw [e8]
            go_wp2_with fail
            first | exact Below.refl _ _ | exact ⟨Below.refl _ _, by omega⟩
          · refine FrontStep.of [9] _ rfl (by kernel_rfl) ?_
            intro vs LL wq hLL hC hf
            simp only [putL, List.foldl_nil, List.foldl_cons, List.getElem?_cons_zero, List.getElem?_cons_succ]
            have e9 : vs 9 = _ := hf 9 (by simp)
            rw [e9]
            go_wp2_with fail
            first | exact Below.refl _ _ | exact ⟨Below.refl _ _, by omega⟩
          · refine FrontStep.of [10] _ rfl (by kernel_rfl) ?_
            intro vs LL wq hLL hC hf
            simp only [putL, List.foldl_nil, List.foldl_cons, List.getElem?_cons_zero, List.getElem?_cons_succ]
            have e10 : vs 10 = _ := hf 10 (by simp)
            rw [e10]
            have hcq := cell_under p1 hC
            go_wp2_with fail
            first | exact Below.refl _ _ | exact ⟨Below.refl _ _, by omega⟩
          · refine FrontStep.of [11] _ rfl (by kernel_rfl) ?_
            intro vs LL wq hLL hC hf
            simp only [putL, List.foldl_nil, List.foldl_cons, List.getElem?_cons_zero, List.getElem?_cons_succ]
            have e11 : vs 11 = _ := hf 11 (by simp)
            rw [e11]
            go_wp2_with fail
            first | exact Below.refl _ _ | exact ⟨Below.refl _ _, by omega⟩
          · refine FrontStep.of [6, 12] _ rfl (by kernel_rfl) ?_
            intro vs LL wq hLL hC hf
            simp only [putL, List.foldl_nil, List.foldl_cons, List.getElem?_cons_zero, List.getElem?_cons_succ]
            have e6 : vs 6 = _ := hf 6 (by simp)
            rw [e6]
            have e12 : vs 12 = _ := hf 12 (by simp)
            rw [e12]
            go_wp2_with fail
            first | exact Below.refl _ _ | exact ⟨Below.refl _ _, by omega⟩
          · refine FrontStep.of [13] _ rfl (by kernel_rfl) ?_
            intro vs LL wq hLL hC hf
            simp only [putL, List.foldl_nil, List.foldl_cons, List.getElem?_cons_zero, List.getElem?_cons_succ]
            have e13 : vs 13 = _ := hf 13 (by simp)
            rw [e13]
            go_wp2_with fail
            exact ⟨hC.alloc hC.size _, (Below.refl _ _).alloc (Nat.le_refl _) _, (Array.getElem?_eq_some_iff.1 (heap_alloc_new _ _)).2, hC.size⟩
        --END1
        · intro vs LL wq hLL hC hf
          have e0 : vs 0 = _ := hf 0 (by decide)
          obtain ⟨b35, e14, h35, _⟩ := hf 14 (by decide)
          rw [putSome_all]
          simp only [putL, List.range, List.range.loop, List.foldl_nil, List.foldl_cons, List.getElem?_cons_zero, List.getElem?_cons_succ, List.drop_succ_cons, List.drop_zero]
          rw [e0, e14]
          obtain ⟨wt, rfl⟩ : ∃ W : World, W = wq := ⟨_, rfl⟩
          have hprq := (unhide hpr).below hC
          have hszq : w.heap.size ≤ wt.heap.size := Nat.le_trans hBV hC.size
          have hbq := (unhide hbw).trans (hC.mono hBV)
          clear e0 e14 hf hLL hpr hbw
          have hown := hide hprq.1.1
          replace h35 := hide h35
          go_simp
          go_wp2_with (at_builtin; refine wpList_append_el Try.underlying54 info_pt rfl (by decide) (by decide) rfl _ _ rfl w.heap.size _ _ (pcells (P)) rfl (unhide hown) _ [.int .i64 (wrap64 (32 * px)), .int .i64 (wrap64 (32 * py)), .bool true] rfl (unhide h35) rfl ?c2 ?c4 hszq ?_)
          case c2 => (intro u hu; simp at hu; rcases hu with rfl | rfl | rfl <;> rfl)
          case c4 => exact hPl
          intro v' w5 hown5 hg5 hob5
          obtain ⟨hpr5, hkp5⟩ := hprq.push (p := (wrap64 (32 * px), wrap64 (32 * py), true)) hown5 hg5 hob5 (wrap_i64 _) (wrap_i64 _)
          rw [← unhide hseg, ← unhide hz1] at hpr5
          have hbz := hide (hbq.trans (hkp5.below (fun k hk => hk)))
          have hrw5 := hide hpr5.1
          clear hprq hown hown5 hg5 hob5 h35 hbq hkp5 hpr5 hC p0 p1 p2
          go_wp2_with fail
          go_roundw
          case rel => exact ⟨i + 1, by omega, by go_num, unhide hrw5, unhide hbz⟩
          case measure => simp [intOf]; omega
      · have hon : onS l i = false := by cases h : onS l i <;> simp_all
        rw [hon] at hcon
        obtain ⟨j, hj⟩ : ∃ j, i = j + 1 := ⟨i - 1, (by have : i ≠ 0 := (fun e => by rw [e] at hon; simp [onS] at hon); omega)⟩
        have hj1 : (i : Int) - 1 = (j : Int) := by omega
        obtain ⟨nx, hnx⟩ : ∃ x, (i + 1) % n = x := ⟨_, rfl⟩
        have hnxn : nx < n := by rw [← hnx]; exact Nat.mod_lt _ (by omega)
        have htm := tmod_next2 hlt
        rw [hnx] at htm
        obtain ⟨isq, hisq⟩ : ∃ b, onS l j = b := ⟨_, rfl⟩
        obtain ⟨isu, hisu⟩ : ∃ b, onS l nx = b := ⟨_, rfl⟩
        obtain ⟨⟨ex, ey⟩, hex⟩ : ∃ e, endS (pAt l i) (pAt l j) isq = e := ⟨_, rfl⟩
        obtain ⟨⟨fx, fy⟩, hfx⟩ : ∃ e, endS (pAt l i) (pAt l nx) isu = e := ⟨_, rfl⟩
        obtain ⟨cv, hcv⟩ : ∃ cv : Nat → Pt, (fun t => curveP (px, py, pz) (ex, ey) (fx, fy) (t + 1)) = cv := ⟨_, rfl⟩
        have hseg : segS l i = (List.range (if isu then 3 else 4)).map cv := by
          unfold segS
          rw [if_neg (by rw [hon]; decide), unhide hln, hnx, hisu, show i - 1 = j by omega, hisq, hex, hfx, unhide hpp, hcv]
        have hc1 := rend_any (some ⟨g, og, none⟩) n c l i j V (unhide hlw) hlt (by omega)
        rw [hisq, hex] at hc1
        simp only at hc1
        clear hon
        replace hcon := hide hcon; replace hseg := hide hseg; replace hisq := hide hisq; replace hex := hide hex; replace hcv := hide hcv; replace hnx := hide hnx; replace hj := hide hj; replace hc1 := hide hc1; replace hisu := hide hisu; replace hfx := hide hfx
        go_wp2_with fail
        refine (unhide hcon).mono ?_
        rintro e wz ⟨rfl, rfl⟩
        clear hcon
        obtain ⟨V, rfl⟩ : ∃ V : World, V = wz := ⟨_, rfl⟩
        go_wp2_with fail
        refine (unhide hc1).mono ?_
        rintro e w4 ⟨rfl, hb4⟩
        clear hc1 p0 p1 p2
        obtain ⟨b6, V5, hb6, hV5, n6, k6, s6⟩ := al1 w4 (.cells #[.int .i64 ex, .int .i64 ey, .bool false] 56)
        have kb5 := hb4.trans (k6.mono hb4.size)
        have hpr5 := (unhide hpr).fresh (b8 := b6) kb5 (by have := hb4.size; omega) (by omega)
        have hbw5 := (unhide hbw).trans (kb5.mono hBV)
        have hlw5 := (unhide hl).under hbw5
        have hc2 := rend_any (some ⟨g, og, none⟩) n c l i nx V5 hlw5 hlt hnxn
        rw [unhide hisu, unhide hfx] at hc2
        simp only at hc2
        clear hb4 k6 s6 kb5 hpr hbw hlw hlw5
        replace hc2 := hide hc2; replace hpr5 := hide hpr5; replace hbw5 := hide hbw5; replace n6 := hide n6; replace hV5 := hide hV5; replace hb6 := hide hb6
        go_wp2_with fail
        rw [unhide hV5]
        try rw [unhide hb6]
        refine (unhide hc2).mono ?_
        rintro e w6 ⟨rfl, hb6'⟩
        clear hc2 hb6 hV5
        obtain ⟨b7, V7, hb7, hV7, n7, k7, s7⟩ := al1 w6 (.cells #[.int .i64 fx, .int .i64 fy, .bool false] 56)
        have kb7 := hb6'.trans (k7.mono hb6'.size)
        have hpr7 := (unhide hpr5).fresh (b8 := b7) kb7 (by have := hb6'.size; omega) (by omega)
        have hbw7 := (unhide hbw5).trans (kb7.mono (unhide hbw5).size)
        have n6' := (kb7.block b6 (Array.getElem?_eq_some_iff.1 (unhide n6)).1).trans (unhide n6)
        have hc3 := ron_any (some ⟨g, og, none⟩) n c l nx V7 ((unhide hl).under hbw7) hnxn
        rw [unhide hisu] at hc3
        clear n6 hb6' k7 s7 kb7 hpr5 hbw5
        have n6 := hide n6'
        clear n6'
        replace hc3 := hide hc3; replace hpr7 := hide hpr7; replace hbw7 := hide hbw7; replace n7 := hide n7; replace hV7 := hide hV7; replace hb7 := hide hb7
        have hseg2 := unhide hseg
        clear hseg
        cases isu with
        | true =>
          have hseg3 : Hid (segS l i = (List.range 3).map cv) := hide (by rw [hseg2]; rfl)
          clear hseg2
          have hseg2 := hseg3
          clear hseg3
          go_wp2_with fail
          rw [unhide hV7]
          try rw [unhide hb7]
          refine (unhide hc3).mono ?_
          rintro e wz ⟨rfl, rfl⟩
          obtain ⟨V7, rfl⟩ : ∃ V : World, V = wz := ⟨_, rfl⟩
          clear hc3
          go_wp2_with fail
          clear hb7 hV7
          go_loopw [3, 9] (fun v3 v9 wi => ∃ T : Nat, 1 ≤ T ∧ T ≤ 3 + 1 ∧ v9 = .int .i64 (T : Int) ∧ PR wi w.heap.size (fun d => (d < w.heap.size ∨ d = b6) ∨ d = b7) v3 (P ++ (List.range (T - 1)).map cv) ∧ Kp (fun d => (d < w.heap.size ∨ d = b6) ∨ d = b7) V7 wi) (fun _ v _ => (10 - intOf v).toNat)
          case atStart => exact ⟨1, by omega, by omega, rfl, by simpa using unhide hpr7, ⟨rfl, rfl, rfl, Nat.le_refl _, fun _ _ => rfl⟩⟩
          case round =>
            clear hpr7
            obtain ⟨T, hT1, hTL, rfl, hprV, hkp⟩ := hrel
            obtain ⟨V, rfl⟩ : ∃ V : World, V = wr := ⟨_, rfl⟩
            have hbw := (unhide hbw7).trans (hkp.below (fun k hk => .inl (.inl hk)))
            have hBV := hbw.size
            obtain ⟨P2, hP2⟩ : ∃ P2, P ++ (List.range (T - 1)).map cv = P2 := ⟨_, rfl⟩
            have hP2l : P2.length = P.length + (T - 1) := by rw [← hP2, List.length_append, List.length_map, List.length_range]
            rw [hP2] at hprV
            obtain ⟨va, vc, ev, _⟩ := hprV.1.lst
            obtain ⟨pl2, hpl2⟩ : ∃ pl, P2.length = pl := ⟨_, rfl⟩
            rw [hpl2] at ev
            subst ev
            by_cases hlt4 : T ≤ 3
            · have hT4 : T ≤ 4 := by omega
              have t9 : (T : Int) ≤ 3 := by omega
              obtain ⟨g', og', px', py', pz', e1, _, hpi, _, _, q0, q1, q2⟩ := lst_pt ((unhide hl).under hbw) hlt
              cases e1
              have epp := (pAt_some hpi).symm.trans (unhide hpp)
              injection epp with ex1 ex2
              injection ex2 with ex2 ex3
              rw [ex1] at q0
              rw [ex2] at q1
              clear ex1 ex2
              have n6V := (hkp.block b6 (.inl (.inr rfl))).trans (unhide n6)
              have n7V := (hkp.block b7 (.inr rfl)).trans (unhide n7)
              have a0 : V.cell? ⟨b6, 0, none⟩ = some (.int .i64 ex) := (cell_of_row _ _ 0 _ _ _ n6V).trans rfl
              have a1 : V.cell? ⟨b6, 1, none⟩ = some (.int .i64 ey) := (cell_of_row _ _ 1 _ _ _ n6V).trans rfl
              have c0 : V.cell? ⟨b7, 0, none⟩ = some (.int .i64 fx) := (cell_of_row _ _ 0 _ _ _ n7V).trans rfl
              have c1 : V.cell? ⟨b7, 1, none⟩ = some (.int .i64 fy) := (cell_of_row _ _ 1 _ _ _ n7V).trans rfl
              have hcvT : cv (T - 1) = (atS ex px fx (T : Int), atS ey py fy (T : Int), true) := by
                have h := congrFun (unhide hcv) (T - 1)
                simp only [Nat.sub_add_cancel hT1] at h
                exact h.symm
              have hP2n : P2 ++ [cv (T - 1)] = P ++ (List.range (T + 1 - 1)).map cv := by
                rw [← hP2, List.append_assoc, Nat.add_sub_cancel]
                congr 1
                have e := List.range_succ (n := T - 1)
                rw [show (T - 1).succ = T by omega] at e
                rw [e, List.map_append]
                rfl
              have hPl : P2.length ≤ 1000 := by omega
              replace hP2l := hide hP2l
              clear n6V n7V hpi hP2 ex3
              replace hbw := hide hbw; replace hkp := hide hkp; replace hprV := hide hprV; replace hcvT := hide hcvT; replace hP2n := hide hP2n; replace hpl2 := hide hpl2
              have hpr := hprV
              go_wp2_with fail
              refine wp_region_frontG 25 (fun _ _ w' => Below V.heap.size V w') (fun wa wb => Below wa.heap.size wa wb)
                (fun ix v w' => match ix with
                  | 0 => v = .slice va pl2 vc
                  | 1 => v = .pointer (some ⟨b6, 0, none⟩)
                  | 2 => v = .int .i64 ex
                  | 3 => v = .slice (some ⟨g, og, none⟩) n c
                  | 4 => v = .int .i64 (i : Int)
                  | 5 => v = .pointer (some ⟨g, og + i * 3, none⟩)
                  | 6 => v = .pointer (some ⟨g, og + i * 3, none⟩)
                  | 7 => v = .int .i64 px
                  | 8 => v = .pointer (some ⟨b7, 0, none⟩)
                  | 9 => v = .int .i64 fx
                  | 10 => v = .int .i64 (T : Int)
                  | 11 => v = .int .i64 (atS ex px fx (T : Int))
                  | 12 => v = .pointer (some ⟨b6, 1, none⟩)
                  | 13 => v = .int .i64 ey
                  | 14 => v = .slice (some ⟨g, og, none⟩) n c
                  | 15 => v = .int .i64 (i : Int)
                  | 16 => v = .pointer (some ⟨g, og + i * 3, none⟩)
                  | 17 => v = .pointer (some ⟨g, og + i * 3 + 1, none⟩)
                  | 18 => v = .int .i64 py
                  | 19 => v = .pointer (some ⟨b7, 1, none⟩)
                  | 20 => v = .int .i64 fy
                  | 21 => v = .int .i64 (T : Int)
                  | 22 => v = .int .i64 (atS ey py fy (T : Int))
                  | 23 => v = .agg #[.int .i64 (atS ex px fx (T : Int)), .int .i64 (atS ey py fy (T : Int)), .bool true]
                  | 24 => ∃ b, v = .slice (some ⟨b, 0, none⟩) 1 1 ∧ w'.heap[b]? = some (.cells #[.int .i64 (atS ex px fx (T : Int)), .int .i64 (atS ey py fy (T : Int)), .bool true] 56 (0, 0)) ∧ V.heap.size ≤ b
                  | _ => True) (by rfl) (by kernel_rfl) ?_ ?_ ?_ ?_
              · exact (Below.refl _ _).drew
              · intro wa wb hR ix v hv
                match ix, hv with
                | 0, h => exact h
                | 1, h => exact h
                | 2, h => exact h
                | 3, h => exact h
                | 4, h => exact h
                | 5, h => exact h
                | 6, h => exact h
                | 7, h => exact h
                | 8, h => exact h
                | 9, h => exact h
                | 10, h => exact h
                | 11, h => exact h
                | 12, h => exact h
                | 13, h => exact h
                | 14, h => exact h
                | 15, h => exact h
                | 16, h => exact h
                | 17, h => exact h
                | 18, h => exact h
                | 19, h => exact h
                | 20, h => exact h
                | 21, h => exact h
                | 22, h => exact h
                | 23, h => exact h
                | 24, h => obtain ⟨b, h1, h2, h3⟩ := h; exact ⟨b, h1, (hR.block b (Array.getElem?_eq_some_iff.1 h2).1).trans h2, h3⟩
                | _ + 25, _ => trivial
              --BEGIN2
              · intro ix hix
                obtain rfl | rfl | rfl | rfl | rfl | rfl | rfl | rfl | rfl | rfl | rfl | rfl | rfl | rfl | rfl | rfl | rfl | rfl | rfl | rfl | rfl | rfl | rfl | rfl | rfl : ix = 0 ∨ ix = 1 ∨ ix = 2 ∨ ix = 3 ∨ ix = 4 ∨ ix = 5 ∨ ix = 6 ∨ ix = 7 ∨ ix = 8 ∨ ix = 9 ∨ ix = 10 ∨ ix = 11 ∨ ix = 12 ∨ ix = 13 ∨ ix = 14 ∨ ix = 15 ∨ ix = 16 ∨ ix = 17 ∨ ix = 18 ∨ ix = 19 ∨ ix = 20 ∨ ix = 21 ∨ ix = 22 ∨ ix = 23 ∨ ix = 24 := by omega
                · refine FrontStep.of [] _ rfl (by kernel_rfl) ?_
                  intro vs LL wq hLL hC hf
                  simp only [putL, List.foldl_nil]
                  go_wp2_with fail
                  first | exact Below.refl _ _ | exact ⟨Below.refl _ _, by omega⟩
                · refine FrontStep.of [] _ rfl (by kernel_rfl) ?_
                  intro vs LL wq hLL hC hf
                  simp only [putL, List.foldl_nil]
                  go_wp2_with fail
                  first | exact Below.refl _ _ | exact ⟨Below.refl _ _, by omega⟩
                · refine FrontStep.of [1] _ rfl (by kernel_rfl) ?_
                  intro vs LL wq hLL hC hf
                  simp only [putL, List.foldl_nil, List.foldl_cons, List.getElem?_cons_zero, List.getElem?_cons_succ]
                  have e1 : vs 1 = _ := hf 1 (by simp)
                  rw [e1]
                  have hcq := cell_under a0 hC
                  go_wp2_with fail
                  first | exact Below.refl _ _ | exact ⟨Below.refl _ _, by omega⟩
                · refine FrontStep.of [] _ rfl (by kernel_rfl) ?_
                  intro vs LL wq hLL hC hf
                  simp only [putL, List.foldl_nil]
                  go_wp2_with fail
                  first | exact Below.refl _ _ | exact ⟨Below.refl _ _, by omega⟩
                · refine FrontStep.of [] _ rfl (by kernel_rfl) ?_
                  intro vs LL wq hLL hC hf
                  simp only [putL, List.foldl_nil]
                  go_wp2_with fail
                  first | exact Below.refl _ _ | exact ⟨Below.refl _ _, by omega⟩
                · refine FrontStep.of [3, 4] _ rfl (by kernel_rfl) ?_
                  intro vs LL wq hLL hC hf
                  simp only [putL, List.foldl_nil, List.foldl_cons, List.getElem?_cons_zero, List.getElem?_cons_succ]
                  have e3 : vs 3 = _ := hf 3 (by simp)
                  rw [e3]
                  have e4 : vs 4 = _ := hf 4 (by simp)
                  rw [e4]
                  go_wp2_with fail
                  first | exact Below.refl _ _ | exact ⟨Below.refl _ _, by omega⟩
                · refine FrontStep.of [5] _ rfl (by kernel_rfl) ?_
                  intro vs LL wq hLL hC hf
                  simp only [putL, List.foldl_nil, List.foldl_cons, List.getElem?_cons_zero, List.getElem?_cons_succ]
                  have e5 : vs 5 = _ := hf 5 (by simp)
                  rw [e5]
                  go_wp2_with fail
                  first | exact Below.refl _ _ | exact ⟨Below.refl _ _, by omega⟩
                · refine FrontStep.of [6] _ rfl (by kernel_rfl) ?_
                  intro vs LL wq hLL hC hf
                  simp only [putL, List.foldl_nil, List.foldl_cons, List.getElem?_cons_zero, List.getElem?_cons_succ]
                  have e6 : vs 6 = _ := hf 6 (by simp)
                  rw [e6]
                  have hcq := cell_under q0 hC
                  go_wp2_with fail
                  first | exact Below.refl _ _ | exact ⟨Below.refl _ _, by omega⟩
                · refine FrontStep.of [] _ rfl (by kernel_rfl) ?_
                  intro vs LL wq hLL hC hf
                  simp only [putL, List.foldl_nil]
                  go_wp2_with fail
                  first | exact Below.refl _ _ | exact ⟨Below.refl _ _, by omega⟩
                · refine FrontStep.of [8] _ rfl (by kernel_rfl) ?_
                  intro vs LL wq hLL hC hf
                  simp only [putL, List.foldl_nil, List.foldl_cons, List.getElem?_cons_zero, List.getElem?_cons_succ]
                  have e8 : vs 8 = _ := hf 8 (by simp)
                  rw [e8]
                  have hcq := cell_under c0 hC
                  go_wp2_with fail
                  first | exact Below.refl _ _ | exact ⟨Below.refl _ _, by omega⟩
                · refine FrontStep.of [] _ rfl (by kernel_rfl) ?_
                  intro vs LL wq hLL hC hf
                  simp only [putL, List.foldl_nil]
                  go_wp2_with fail
                  first | exact Below.refl _ _ | exact ⟨Below.refl _ _, by omega⟩
                · refine FrontStep.of [2, 7, 9, 10] _ rfl (by kernel_rfl) ?_
                  intro vs LL wq hLL hC hf
                  simp only [putL, List.foldl_nil, List.foldl_cons, List.getElem?_cons_zero, List.getElem?_cons_succ]
                  have e2 : vs 2 = _ := hf 2 (by simp)
                  rw [e2]
                  have e7 : vs 7 = _ := hf 7 (by simp)
                  rw [e7]
                  have e9 : vs 9 = _ := hf 9 (by simp)
                  rw [e9]
                  have e10 : vs 10 = _ := hf 10 (by simp)
                  rw [e10]
                  have hcq := rat_any ex px fx T wq hT4
                  replace hcq := hide hcq
                  go_wp2_with fail
                  refine (unhide hcq).mono ?_
                  rintro e wz ⟨rfl, ew⟩
                  rw [ew]
                  clear hcq ew
                  go_wp2_with fail
                  first | exact ⟨hC, Below.refl _ _⟩ | exact hC | exact Below.refl _ _
                · refine FrontStep.of [] _ rfl (by kernel_rfl) ?_
                  intro vs LL wq hLL hC hf
                  simp only [putL, List.foldl_nil]
                  go_wp2_with fail
                  first | exact Below.refl _ _ | exact ⟨Below.refl _ _, by omega⟩
                · refine FrontStep.of [12] _ rfl (by kernel_rfl) ?_
                  intro vs LL wq hLL hC hf
                  simp only [putL, List.foldl_nil, List.foldl_cons, List.getElem?_cons_zero, List.getElem?_cons_succ]
                  have e12 : vs 12 = _ := hf 12 (by simp)
                  rw [e12]
                  have hcq := cell_under a1 hC
                  go_wp2_with fail
                  first | exact Below.refl _ _ | exact ⟨Below.refl _ _, by omega⟩
                · refine FrontStep.of [] _ rfl (by kernel_rfl) ?_
                  intro vs LL wq hLL hC hf
                  simp only [putL, List.foldl_nil]
                  go_wp2_with fail
                  first | exact Below.refl _ _ | exact ⟨Below.refl _ _, by omega⟩
                · refine FrontStep.of [] _ rfl (by kernel_rfl) ?_
                  intro vs LL wq hLL hC hf
                  simp only [putL, List.foldl_nil]
                  go_wp2_with fail
                  first | exact Below.refl _ _ | exact ⟨Below.refl _ _, by omega⟩
                · refine FrontStep.of [14, 15] _ rfl (by kernel_rfl) ?_
                  intro vs LL wq hLL hC hf
                  simp only [putL, List.foldl_nil, List.foldl_cons, List.getElem?_cons_zero, List.getElem?_cons_succ]
                  have e14 : vs 14 = _ := hf 14 (by simp)
                  rw [e14]
                  have e15 : vs 15 = _ := hf 15 (by simp)
                  rw [e15]
                  go_wp2_with fail
                  first | exact Below.refl _ _ | exact ⟨Below.refl _ _, by omega⟩
                · refine FrontStep.of [16] _ rfl (by kernel_rfl) ?_
                  intro vs LL wq hLL hC hf
                  simp only [putL, List.foldl_nil, List.foldl_cons, List.getElem?_cons_zero, List.getElem?_cons_succ]
                  have e16 : vs 16 = _ := hf 16 (by simp)
                  rw [e16]
                  go_wp2_with fail
                  first | exact Below.refl _ _ | exact ⟨Below.refl _ _, by omega⟩
                · refine FrontStep.of [17] _ rfl (by kernel_rfl) ?_
                  intro vs LL wq hLL hC hf
                  simp only [putL, List.foldl_nil, List.foldl_cons, List.getElem?_cons_zero, List.getElem?_cons_succ]
                  have e17 : vs 17 = _ := hf 17 (by simp)
                  rw [e17]
                  have hcq := cell_under q1 hC
                  go_wp2_with fail
                  first | exact Below.refl _ _ | exact ⟨Below.refl _ _, by omega⟩
                · refine FrontStep.of [] _ rfl (by kernel_rfl) ?_
                  intro vs LL wq hLL hC hf
                  simp only [putL, List.foldl_nil]
                  go_wp2_with fail
                  first | exact Below.refl _ _ | exact ⟨Below.refl _ _, by omega⟩
                · refine FrontStep.of [19] _ rfl (by kernel_rfl) ?_
                  intro vs LL wq hLL hC hf
                  simp only [putL, List.foldl_nil, List.foldl_cons, List.getElem?_cons_zero, List.getElem?_cons_succ]
                  have e19 : vs 19 = _ := hf 19 (by simp)
                  rw [e19]
                  have hcq := cell_under c1 hC
                  go_wp2_with fail
                  first | exact Below.refl _ _ | exact ⟨Below.refl _ _, by omega⟩
                · refine FrontStep.of [] _ rfl (by kernel_rfl) ?_
                  intro vs LL wq hLL hC hf
                  simp only [putL, List.foldl_nil]
                  go_wp2_with fail
                  first | exact Below.refl _ _ | exact ⟨Below.refl _ _, by omega⟩
                · refine FrontStep.of [11, 13, 18, 20, 21] _ rfl (by kernel_rfl) ?_
                  intro vs LL wq hLL hC hf
                  simp only [putL, List.foldl_nil, List.foldl_cons, List.getElem?_cons_zero, List.getElem?_cons_succ]
                  have e11 : vs 11 = _ := hf 11 (by simp)
                  rw [e11]
                  have e13 : vs 13 = _ := hf 13 (by simp)
                  rw [e13]
                  have e18 : vs 18 = _ := hf 18 (by simp)
                  rw [e18]
                  have e20 : vs 20 = _ := hf 20 (by simp)
                  rw [e20]
                  have e21 : vs 21 = _ := hf 21 (by simp)
                  rw [e21]
                  have hcq := rat_any ey py fy T wq hT4
                  replace hcq := hide hcq
                  go_wp2_with fail
                  refine (unhide hcq).mono ?_
                  rintro e wz ⟨rfl, ew⟩
                  rw [ew]
                  clear hcq ew
                  go_wp2_with fail
                  first | exact ⟨hC, Below.refl _ _⟩ | exact hC | exact Below.refl _ _
                · refine FrontStep.of [11, 22] _ rfl (by kernel_rfl) ?_
                  intro vs LL wq hLL hC hf
                  simp only [putL, List.foldl_nil, List.foldl_cons, List.getElem?_cons_zero, List.getElem?_cons_succ]
                  have e11 : vs 11 = _ := hf 11 (by simp)
                  rw [e11]
                  have e22 : vs 22 = _ := hf 22 (by simp)
                  rw [e22]
                  go_wp2_with fail
                  first | exact Below.refl _ _ | exact ⟨Below.refl _ _, by omega⟩
                · refine FrontStep.of [23] _ rfl (by kernel_rfl) ?_
                  intro vs LL wq hLL hC hf
                  simp only [putL, List.foldl_nil, List.foldl_cons, List.getElem?_cons_zero, List.getElem?_cons_succ]
                  have e23 : vs 23 = _ := hf 23 (by simp)
                  rw [e23]
                  go_wp2_with fail
                  exact ⟨hC.alloc hC.size _, (Below.refl _ _).alloc (Nat.le_refl _) _, (Array.getElem?_eq_some_iff.1 (heap_alloc_new _ _)).2, hC.size⟩
              --END2
              · intro vs LL wq hLL hC hf
                have e0 : vs 0 = _ := hf 0 (by decide)
                obtain ⟨b35, e24, h35, _⟩ := hf 24 (by decide)
                rw [putSome_all]
                simp only [putL, List.range, List.range.loop, List.foldl_nil, List.foldl_cons, List.getElem?_cons_zero, List.getElem?_cons_succ, List.drop_succ_cons, List.drop_zero]
                rw [e0, e24]
                obtain ⟨wt, rfl⟩ : ∃ W : World, W = wq := ⟨_, rfl⟩
                have hprq := (unhide hpr).below hC
                have hszq : w.heap.size ≤ wt.heap.size := Nat.le_trans hBV hC.size
                have hbq := (unhide hbw).trans (hC.mono hBV)
                clear e0 e24 hf hLL hpr hbw
                have hown := hide hprq.1.1
                replace h35 := hide h35
                go_simp
                go_wp2_with (at_builtin; refine wpList_append_el Try.underlying54 info_pt rfl (by decide) (by decide) rfl _ _ rfl w.heap.size _ _ (pcells (P2)) rfl (unhide hown) _ [.int .i64 (atS ex px fx (T : Int)), .int .i64 (atS ey py fy (T : Int)), .bool true] rfl (unhide h35) rfl ?c2 ?c4 hszq ?_)
                case c2 => (intro u hu; simp at hu; rcases hu with rfl | rfl | rfl <;> rfl)
                case c4 => exact hPl
                intro v' w5 hown5 hg5 hob5
                obtain ⟨hpr5, hkp5⟩ := hprq.push (p := (atS ex px fx (T : Int), atS ey py fy (T : Int), true)) hown5 hg5 hob5 (wrap_i64 _) (wrap_i64 _)
                rw [← unhide hcvT, unhide hP2n] at hpr5
                have hkz := hide ((unhide hkp).trans ((Kp.of hC (fun d hd => ((unhide hprV).2 d hd).1)).trans hkp5))
                replace hpr5 := hide hpr5
                clear hprq hown hown5 hg5 hob5 h35 hbq hkp5 hkp hC hprV a0 a1 c0 c1 q0 q1
                go_wp2_with fail
                go_roundw
                case rel => exact ⟨T + 1, by omega, by omega, by go_num, unhide hpr5, unhide hkz⟩
                case measure => simp [intOf]; omega
            · have hTe : T - 1 = 3 := by omega
              rw [hTe, ← unhide hseg2, ← unhide hz1] at hP2
              rw [← hP2] at hprV
              have hrw9 := hide hprV.1
              have t9 : ¬ (T : Int) ≤ 3 := by omega
              clear hprV hkp hP2 hTe hP2l hseg2
              replace hbw := hide hbw; replace hpl2 := hide hpl2
              go_wp2_with fail
              go_roundw
              case rel => exact ⟨i + 1, by omega, by go_num, unhide hrw9, unhide hbw⟩
              case measure => simp [intOf]; omega
        | false =>
          have hseg3 : Hid (segS l i = (List.range 4).map cv) := hide (by rw [hseg2]; rfl)
          clear hseg2
          have hseg2 := hseg3
          clear hseg3
          go_wp2_with fail
          rw [unhide hV7]
          try rw [unhide hb7]
          refine (unhide hc3).mono ?_
          rintro e wz ⟨rfl, rfl⟩
          obtain ⟨V7, rfl⟩ : ∃ V : World, V = wz := ⟨_, rfl⟩
          clear hc3
          go_wp2_with fail
          clear hb7 hV7
          go_loopw [3, 9] (fun v3 v9 wi => ∃ T : Nat, 1 ≤ T ∧ T ≤ 4 + 1 ∧ v9 = .int .i64 (T : Int) ∧ PR wi w.heap.size (fun d => (d < w.heap.size ∨ d = b6) ∨ d = b7) v3 (P ++ (List.range (T - 1)).map cv) ∧ Kp (fun d => (d < w.heap.size ∨ d = b6) ∨ d = b7) V7 wi) (fun _ v _ => (10 - intOf v).toNat)
          case atStart => exact ⟨1, by omega, by omega, rfl, by simpa using unhide hpr7, ⟨rfl, rfl, rfl, Nat.le_refl _, fun _ _ => rfl⟩⟩
          case round =>
            clear hpr7
            obtain ⟨T, hT1, hTL, rfl, hprV, hkp⟩ := hrel
            obtain ⟨V, rfl⟩ : ∃ V : World, V = wr := ⟨_, rfl⟩
            have hbw := (unhide hbw7).trans (hkp.below (fun k hk => .inl (.inl hk)))
            have hBV := hbw.size
            obtain ⟨P2, hP2⟩ : ∃ P2, P ++ (List.range (T - 1)).map cv = P2 := ⟨_, rfl⟩
            have hP2l : P2.length = P.length + (T - 1) := by rw [← hP2, List.length_append, List.length_map, List.length_range]
            rw [hP2] at hprV
            obtain ⟨va, vc, ev, _⟩ := hprV.1.lst
            obtain ⟨pl2, hpl2⟩ : ∃ pl, P2.length = pl := ⟨_, rfl⟩
            rw [hpl2] at ev
            subst ev
            by_cases hlt4 : T ≤ 4
            · have hT4 : T ≤ 4 := by omega
              have t9 : (T : Int) ≤ 4 := by omega
              obtain ⟨g', og', px', py', pz', e1, _, hpi, _, _, q0, q1, q2⟩ := lst_pt ((unhide hl).under hbw) hlt
              cases e1
              have epp := (pAt_some hpi).symm.trans (unhide hpp)
              injection epp with ex1 ex2
              injection ex2 with ex2 ex3
              rw [ex1] at q0
              rw [ex2] at q1
              clear ex1 ex2
              have n6V := (hkp.block b6 (.inl (.inr rfl))).trans (unhide n6)
              have n7V := (hkp.block b7 (.inr rfl)).trans (unhide n7)
              have a0 : V.cell? ⟨b6, 0, none⟩ = some (.int .i64 ex) := (cell_of_row _ _ 0 _ _ _ n6V).trans rfl
              have a1 : V.cell? ⟨b6, 1, none⟩ = some (.int .i64 ey) := (cell_of_row _ _ 1 _ _ _ n6V).trans rfl
              have c0 : V.cell? ⟨b7, 0, none⟩ = some (.int .i64 fx) := (cell_of_row _ _ 0 _ _ _ n7V).trans rfl
              have c1 : V.cell? ⟨b7, 1, none⟩ = some (.int .i64 fy) := (cell_of_row _ _ 1 _ _ _ n7V).trans rfl
              have hcvT : cv (T - 1) = (atS ex px fx (T : Int), atS ey py fy (T : Int), true) := by
                have h := congrFun (unhide hcv) (T - 1)
                simp only [Nat.sub_add_cancel hT1] at h
                exact h.symm
              have hP2n : P2 ++ [cv (T - 1)] = P ++ (List.range (T + 1 - 1)).map cv := by
                rw [← hP2, List.append_assoc, Nat.add_sub_cancel]
                congr 1
                have e := List.range_succ (n := T - 1)
                rw [show (T - 1).succ = T by omega] at e
                rw [e, List.map_append]
                rfl
              have hPl : P2.length ≤ 1000 := by omega
              replace hP2l := hide hP2l
              clear n6V n7V hpi hP2 ex3
              replace hbw := hide hbw; replace hkp := hide hkp; replace hprV := hide hprV; replace hcvT := hide hcvT; replace hP2n := hide hP2n; replace hpl2 := hide hpl2
              have hpr := hprV
              go_wp2_with fail
              refine wp_region_frontG 25 (fun _ _ w' => Below V.heap.size V w') (fun wa wb => Below wa.heap.size wa wb)
                (fun ix v w' => match ix with
                  | 0 => v = .slice va pl2 vc
                  | 1 => v = .pointer (some ⟨b6, 0, none⟩)
                  | 2 => v = .int .i64 ex
                  | 3 => v = .slice (some ⟨g, og, none⟩) n c
                  | 4 => v = .int .i64 (i : Int)
                  | 5 => v = .pointer (some ⟨g, og + i * 3, none⟩)
                  | 6 => v = .pointer (some ⟨g, og + i * 3, none⟩)
                  | 7 => v = .int .i64 px
                  | 8 => v = .pointer (some ⟨b7, 0, none⟩)
                  | 9 => v = .int .i64 fx
                  | 10 => v = .int .i64 (T : Int)
                  | 11 => v = .int .i64 (atS ex px fx (T : Int))
                  | 12 => v = .pointer (some ⟨b6, 1, none⟩)
                  | 13 => v = .int .i64 ey
                  | 14 => v = .slice (some ⟨g, og, none⟩) n c
                  | 15 => v = .int .i64 (i : Int)
                  | 16 => v = .pointer (some ⟨g, og + i * 3, none⟩)
                  | 17 => v = .pointer (some ⟨g, og + i * 3 + 1, none⟩)
                  | 18 => v = .int .i64 py
                  | 19 => v = .pointer (some ⟨b7, 1, none⟩)
                  | 20 => v = .int .i64 fy
                  | 21 => v = .int .i64 (T : Int)
                  | 22 => v = .int .i64 (atS ey py fy (T : Int))
                  | 23 => v = .agg #[.int .i64 (atS ex px fx (T : Int)), .int .i64 (atS ey py fy (T : Int)), .bool true]
                  | 24 => ∃ b, v = .slice (some ⟨b, 0, none⟩) 1 1 ∧ w'.heap[b]? = some (.cells #[.int .i64 (atS ex px fx (T : Int)), .int .i64 (atS ey py fy (T : Int)), .bool true] 56 (0, 0)) ∧ V.heap.size ≤ b
                  | _ => True) (by rfl) (by kernel_rfl) ?_ ?_ ?_ ?_
              · exact (Below.refl _ _).drew
              · intro wa wb hR ix v hv
                match ix, hv with
                | 0, h => exact h
                | 1, h => exact h
                | 2, h => exact h
                | 3, h => exact h
                | 4, h => exact h
                | 5, h => exact h
                | 6, h => exact h
                | 7, h => exact h
                | 8, h => exact h
                | 9, h => exact h
                | 10, h => exact h
                | 11, h => exact h
                | 12, h => exact h
                | 13, h => exact h
                | 14, h => exact h
                | 15, h => exact h
                | 16, h => exact h
                | 17, h => exact h
                | 18, h => exact h
                | 19, h => exact h
                | 20, h => exact h
                | 21, h => exact h
                | 22, h => exact h
                | 23, h => exact h
                | 24, h => obtain ⟨b, h1, h2, h3⟩ := h; exact ⟨b, h1, (hR.block b (Array.getElem?_eq_some_iff.1 h2).1).trans h2, h3⟩
                | _ + 25, _ => trivial
              --BEGIN3
              · intro ix hix
                obtain rfl | rfl | rfl | rfl | rfl | rfl | rfl | rfl | rfl | rfl | rfl | rfl | rfl | rfl | rfl | rfl | rfl | rfl | rfl | rfl | rfl | rfl | rfl | rfl | rfl : ix = 0 ∨ ix = 1 ∨ ix = 2 ∨ ix = 3 ∨ ix = 4 ∨ ix = 5 ∨ ix = 6 ∨ ix = 7 ∨ ix = 8 ∨ ix = 9 ∨ ix = 10 ∨ ix = 11 ∨ ix = 12 ∨ ix = 13 ∨ ix = 14 ∨ ix = 15 ∨ ix = 16 ∨ ix = 17 ∨ ix = 18 ∨ ix = 19 ∨ ix = 20 ∨ ix = 21 ∨ ix = 22 ∨ ix = 23 ∨ ix = 24 := by omega
                · refine FrontStep.of [] _ rfl (by kernel_rfl) ?_
                  intro vs LL wq hLL hC hf
                  simp only [putL, List.foldl_nil]
                  go_wp2_with fail
                  first | exact Below.refl _ _ | exact ⟨Below.refl _ _, by omega⟩
                · refine FrontStep.of [] _ rfl (by kernel_rfl) ?_
                  intro vs LL wq hLL hC hf
                  simp only [putL, List.foldl_nil]
                  go_wp2_with fail
                  first | exact Below.refl _ _ | exact ⟨Below.refl _ _, by omega⟩
                · refine FrontStep.of [1] _ rfl (by kernel_rfl) ?_
                  intro vs LL wq hLL hC hf
                  simp only [putL, List.foldl_nil, List.foldl_cons, List.getElem?_cons_zero, List.getElem?_cons_succ]
                  have e1 : vs 1 = _ := hf 1 (by simp)
                  rw [e1]
                  have hcq := cell_under a0 hC
                  go_wp2_with fail
                  first | exact Below.refl _ _ | exact ⟨Below.refl _ _, by omega⟩
                · refine FrontStep.of [] _ rfl (by kernel_rfl) ?_
                  intro vs LL wq hLL hC hf
                  simp only [putL, List.foldl_nil]
                  go_wp2_with fail
                  first | exact Below.refl _ _ | exact ⟨Below.refl _ _, by omega⟩
                · refine FrontStep.of [] _ rfl (by kernel_rfl) ?_
                  intro vs LL wq hLL hC hf
                  simp only [putL, List.foldl_nil]
                  go_wp2_with fail
                  first | exact Below.refl _ _ | exact ⟨Below.refl _ _, by omega⟩
                · refine FrontStep.of [3, 4] _ rfl (by kernel_rfl) ?_
                  intro vs LL wq hLL hC hf
                  simp only [putL, List.foldl_nil, List.foldl_cons, List.getElem?_cons_zero, List.getElem?_cons_succ]
                  have e3 : vs 3 = _ := hf 3 (by simp)
                  rw [e3]
                  have e4 : vs 4 = _ := hf 4 (by simp)
                  rw [e4]
                  go_wp2_with fail
                  first | exact Below.refl _ _ | exact ⟨Below.refl _ _, by omega⟩
                · refine FrontStep.of [5] _ rfl (by kernel_rfl) ?_
                  intro vs LL wq hLL hC hf
                  simp only [putL, List.foldl_nil, List.foldl_cons, List.getElem?_cons_zero, List.getElem?_cons_succ]
                  have e5 : vs 5 = _ := hf 5 (by simp)
                  rw [e5]
                  go_wp2_with fail
                  first | exact Below.refl _ _ | exact ⟨Below.refl _ _, by omega⟩
                · refine FrontStep.of [6] _ rfl (by kernel_rfl) ?_
                  intro vs LL wq hLL hC hf
                  simp only [putL, List.foldl_nil, List.foldl_cons, List.getElem?_cons_zero, List.getElem?_cons_succ]
                  have e6 : vs 6 = _ := hf 6 (by simp)
                  rw [e6]
                  have hcq := cell_under q0 hC
                  go_wp2_with fail
                  first | exact Below.refl _ _ | exact ⟨Below.refl _ _, by omega⟩
                · refine FrontStep.of [] _ rfl (by kernel_rfl) ?_
                  intro vs LL wq hLL hC hf
                  simp only [putL, List.foldl_nil]
                  go_wp2_with fail
                  first | exact Below.refl _ _ | exact ⟨Below.refl _ _, by omega⟩
                · refine FrontStep.of [8] _ rfl (by kernel_rfl) ?_
                  intro vs LL wq hLL hC hf
                  simp only [putL, List.foldl_nil, List.foldl_cons, List.getElem?_cons_zero, List.getElem?_cons_succ]
                  have e8 : vs 8 = _ := hf 8 (by simp)
                  rw [e8]
                  have hcq := cell_under c0 hC
                  go_wp2_with fail
                  first | exact Below.refl _ _ | exact ⟨Below.refl _ _, by omega⟩
                · refine FrontStep.of [] _ rfl (by kernel_rfl) ?_
                  intro vs LL wq hLL hC hf
                  simp only [putL, List.foldl_nil]
                  go_wp2_with fail
                  first | exact Below.refl _ _ | exact ⟨Below.refl _ _, by omega⟩
                · refine FrontStep.of [2, 7, 9, 10] _ rfl (by kernel_rfl) ?_
                  intro vs LL wq hLL hC hf
                  simp only [putL, List.foldl_nil, List.foldl_cons, List.getElem?_cons_zero, List.getElem?_cons_succ]
                  have e2 : vs 2 = _ := hf 2 (by simp)
                  rw [e2]
                  have e7 : vs 7 = _ := hf 7 (by simp)
                  rw [e7]
                  have e9 : vs 9 = _ := hf 9 (by simp)
                  rw [e9]
                  have e10 : vs 10 = _ := hf 10 (by simp)
                  rw [e10]
                  have hcq := rat_any ex px fx T wq hT4
                  replace hcq := hide hcq
                  go_wp2_with fail
                  refine (unhide hcq).mono ?_
                  rintro e wz ⟨rfl, ew⟩
                  rw [ew]
                  clear hcq ew
                  go_wp2_with fail
                  first | exact ⟨hC, Below.refl _ _⟩ | exact hC | exact Below.refl _ _
                · refine FrontStep.of [] _ rfl (by kernel_rfl) ?_
                  intro vs LL wq hLL hC hf
                  simp only [putL, List.foldl_nil]
                  go_wp2_with fail
                  first | exact Below.refl _ _ | exact ⟨Below.refl _ _, by omega⟩
                · refine FrontStep.of [12] _ rfl (by kernel_rfl) ?_
                  intro vs LL wq hLL hC hf
                  simp only [putL, List.foldl_nil, List.foldl_cons, List.getElem?_cons_zero, List.getElem?_cons_succ]
                  have e12 : vs 12 = _ := hf 12 (by simp)
                  rw [e12]
                  have hcq := cell_under a1 hC
                  go_wp2_with fail
                  first | exact Below.refl _ _ | exact ⟨Below.refl _ _, by omega⟩
                · refine FrontStep.of [] _ rfl (by kernel_rfl) ?_
                  intro vs LL wq hLL hC hf
                  simp only [putL, List.foldl_nil]
                  go_wp2_with fail
                  first | exact Below.refl _ _ | exact ⟨Below.refl _ _, by omega⟩
                · refine FrontStep.of [] _ rfl (by kernel_rfl) ?_
                  intro vs LL wq hLL hC hf
                  simp only [putL, List.foldl_nil]
                  go_wp2_with fail
                  first | exact Below.refl _ _ | exact ⟨Below.refl _ _, by omega⟩
                · refine FrontStep.of [14, 15] _ rfl (by kernel_rfl) ?_
                  intro vs LL wq hLL hC hf
                  simp only [putL, List.foldl_nil, List.foldl_cons, List.getElem?_cons_zero, List.getElem?_cons_succ]
                  have e14 : vs 14 = _ := hf 14 (by simp)
                  rw [e14]
                  have e15 : vs 15 = _ := hf 15 (by simp)
                  rw [e15]
                  go_wp2_with fail
                  first | exact Below.refl _ _ | exact ⟨Below.refl _ _, by omega⟩
                · refine FrontStep.of [16] _ rfl (by kernel_rfl) ?_
                  intro vs LL wq hLL hC hf
                  simp only [putL, List.foldl_nil, List.foldl_cons, List.getElem?_cons_zero, List.getElem?_cons_succ]
                  have e16 : vs 16 = _ := hf 16 (by simp)
                  rw [e16]
                  go_wp2_with fail
                  first | exact Below.refl _ _ | exact ⟨Below.refl _ _, by omega⟩
                · refine FrontStep.of [17] _ rfl (by kernel_rfl) ?_
                  intro vs LL wq hLL hC hf
                  simp only [putL, List.foldl_nil, List.foldl_cons, List.getElem?_cons_zero, List.getElem?_cons_succ]
                  have e17 : vs 17 = _ := hf 17 (by simp)
                  rw [e17]
                  have hcq := cell_under q1 hC
                  go_wp2_with fail
                  first | exact Below.refl _ _ | exact ⟨Below.refl _ _, by omega⟩
                · refine FrontStep.of [] _ rfl (by kernel_rfl) ?_
                  intro vs LL wq hLL hC hf
                  simp only [putL, List.foldl_nil]
                  go_wp2_with fail
                  first | exact Below.refl _ _ | exact ⟨Below.refl _ _, by omega⟩
                · refine FrontStep.of [19] _ rfl (by kernel_rfl) ?_
                  intro vs LL wq hLL hC hf
                  simp only [putL, List.foldl_nil, List.foldl_cons, List.getElem?_cons_zero, List.getElem?_cons_succ]
                  have e19 : vs 19 = _ := hf 19 (by simp)
                  rw [e19]
                  have hcq := cell_under c1 hC
                  go_wp2_with fail
                  first | exact Below.refl _ _ | exact ⟨Below.refl _ _, by omega⟩
                · refine FrontStep.of [] _ rfl (by kernel_rfl) ?_
                  intro vs LL wq hLL hC hf
                  simp only [putL, List.foldl_nil]
                  go_wp2_with fail
                  first | exact Below.refl _ _ | exact ⟨Below.refl _ _, by omega⟩
                · refine FrontStep.of [11, 13, 18, 20, 21] _ rfl (by kernel_rfl) ?_
                  intro vs LL wq hLL hC hf
                  simp only [putL, List.foldl_nil, List.foldl_cons, List.getElem?_cons_zero, List.getElem?_cons_succ]
                  have e11 : vs 11 = _ := hf 11 (by simp)
                  rw [e11]
                  have e13 : vs 13 = _ := hf 13 (by simp)
                  rw [e13]
                  have e18 : vs 18 = _ := hf 18 (by simp)
                  rw [e18]
                  have e20 : vs 20 = _ := hf 20 (by simp)
                  rw [e20]
                  have e21 : vs 21 = _ := hf 21 (by simp)
                  rw [e21]
                  have hcq := rat_any ey py fy T wq hT4
                  replace hcq := hide hcq
                  go_wp2_with fail
                  refine (unhide hcq).mono ?_
                  rintro e wz ⟨rfl, ew⟩
                  rw [ew]
                  clear hcq ew
                  go_wp2_with fail
                  first | exact ⟨hC, Below.refl _ _⟩ | exact hC | exact Below.refl _ _
                · refine FrontStep.of [11, 22] _ rfl (by kernel_rfl) ?_
                  intro vs LL wq hLL hC hf
                  simp only [putL, List.foldl_nil, List.foldl_cons, List.getElem?_cons_zero, List.getElem?_cons_succ]
                  have e11 : vs 11 = _ := hf 11 (by simp)
                  rw [e11]
                  have e22 : vs 22 = _ := hf 22 (by simp)
                  rw [e22]
                  go_wp2_with fail
                  first | exact Below.refl _ _ | exact ⟨Below.refl _ _, by omega⟩
                · refine FrontStep.of [23] _ rfl (by kernel_rfl) ?_
                  intro vs LL wq hLL hC hf
                  simp only [putL, List.foldl_nil, List.foldl_cons, List.getElem?_cons_zero, List.getElem?_cons_succ]
                  have e23 : vs 23 = _ := hf 23 (by simp)
                  rw [e23]
                  go_wp2_with fail
                  exact ⟨hC.alloc hC.size _, (Below.refl _ _).alloc (Nat.le_refl _) _, (Array.getElem?_eq_some_iff.1 (heap_alloc_new _ _)).2, hC.size⟩
              --END3
              · intro vs LL wq hLL hC hf
                have e0 : vs 0 = _ := hf 0 (by decide)
                obtain ⟨b35, e24, h35, _⟩ := hf 24 (by decide)
                rw [putSome_all]
                simp only [putL, List.range, List.range.loop, List.foldl_nil, List.foldl_cons, List.getElem?_cons_zero, List.getElem?_cons_succ, List.drop_succ_cons, List.drop_zero]
                rw [e0, e24]
                obtain ⟨wt, rfl⟩ : ∃ W : World, W = wq := ⟨_, rfl⟩
                have hprq := (unhide hpr).below hC
                have hszq : w.heap.size ≤ wt.heap.size := Nat.le_trans hBV hC.size
                have hbq := (unhide hbw).trans (hC.mono hBV)
                clear e0 e24 hf hLL hpr hbw
                have hown := hide hprq.1.1
                replace h35 := hide h35
                go_simp
                go_wp2_with (at_builtin; refine wpList_append_el Try.underlying54 info_pt rfl (by decide) (by decide) rfl _ _ rfl w.heap.size _ _ (pcells (P2)) rfl (unhide hown) _ [.int .i64 (atS ex px fx (T : Int)), .int .i64 (atS ey py fy (T : Int)), .bool true] rfl (unhide h35) rfl ?c2 ?c4 hszq ?_)
                case c2 => (intro u hu; simp at hu; rcases hu with rfl | rfl | rfl <;> rfl)
                case c4 => exact hPl
                intro v' w5 hown5 hg5 hob5
                obtain ⟨hpr5, hkp5⟩ := hprq.push (p := (atS ex px fx (T : Int), atS ey py fy (T : Int), true)) hown5 hg5 hob5 (wrap_i64 _) (wrap_i64 _)
                rw [← unhide hcvT, unhide hP2n] at hpr5
                have hkz := hide ((unhide hkp).trans ((Kp.of hC (fun d hd => ((unhide hprV).2 d hd).1)).trans hkp5))
                replace hpr5 := hide hpr5
                clear hprq hown hown5 hg5 hob5 h35 hbq hkp5 hkp hC hprV a0 a1 c0 c1 q0 q1
                go_wp2_with fail
                go_roundw
                case rel => exact ⟨T + 1, by omega, by omega, by go_num, unhide hpr5, unhide hkz⟩
                case measure => simp [intOf]; omega
            · have hTe : T - 1 = 4 := by omega
              rw [hTe, ← unhide hseg2, ← unhide hz1] at hP2
              rw [← hP2] at hprV
              have hrw9 := hide hprV.1
              have t9 : ¬ (T : Int) ≤ 4 := by omega
              clear hprV hkp hP2 hTe hP2l hseg2
              replace hbw := hide hbw; replace hpl2 := hide hpl2
              go_wp2_with fail
              go_roundw
              case rel => exact ⟨i + 1, by omega, by go_num, unhide hrw9, unhide hbw⟩
              case measure => simp [intOf]; omega
    · have hie : i = n := by omega
      subst hie
      replace hrw := hide hrw; replace hbw := hide hbw; replace hpl := hide hpl
      go_wp2_with fail
      go_ret
      exact ⟨_, rfl, by unfold polyS; rw [unhide hln, unhide hP]; exact unhide hrw, unhide hbw⟩
end Go.Proofs.Ytbodidhggdggmaa
