/- The reference's tents and Deltas. -/
import Derived.Test.YtbodidhggdggmaaOq0
import Derived.Test.YtbodidhggdggmaaOl1
import Derived.Test.YtbodidhggdggmaaFrontG
namespace Go.Proofs.Ytbodidhggdggmaa
open Go.RowKit
def tentC : Array Value := #[.int .i64 0, .int .i64 64, .int .i64 64, .int .i64 (-64), .int .i64 (-64), .int .i64 0, .int .i64 0, .int .i64 32, .int .i64 64, .int .i64 16, .int .i64 40, .int .i64 60, .int .i64 (-64), .int .i64 0, .int .i64 64, .int .i64 (-50), .int .i64 (-20), .int .i64 (-20)]
theorem tentC_at {r : Nat} (h : r < 6) : ∃ t ∈ tentL, tentC[r * 3]? = some (.int .i64 t.1) ∧ tentC[r * 3 + 1]? = some (.int .i64 t.2.1) ∧ tentC[r * 3 + 2]? = some (.int .i64 t.2.2) := by
  have : r = 0 ∨ r = 1 ∨ r = 2 ∨ r = 3 ∨ r = 4 ∨ r = 5 := by omega
  rcases this with rfl | rfl | rfl | rfl | rfl | rfl
  · exact ⟨(0, 64, 64), by simp [tentL], rfl, rfl, rfl⟩
  · exact ⟨(-64, -64, 0), by simp [tentL], rfl, rfl, rfl⟩
  · exact ⟨(0, 32, 64), by simp [tentL], rfl, rfl, rfl⟩
  · exact ⟨(16, 40, 60), by simp [tentL], rfl, rfl, rfl⟩
  · exact ⟨(-64, 0, 64), by simp [tentL], rfl, rfl, rfl⟩
  · exact ⟨(-50, -20, -20), by simp [tentL], rfl, rfl, rfl⟩
set_option maxHeartbeats 1000000 in
theorem tents_any (w : World) : Calls Try.prog 61 #[] w fun e w' => ∃ b, e = .returned (.slice (some ⟨b, 0, none⟩) 6 6) ∧ w.heap.size ≤ b ∧ w'.heap[b]? = some (.cells tentC 63 (0, 0)) ∧ Below w.heap.size w w' := by
  obtain ⟨b, V, hb, hV, n1, k1, s1⟩ := al1 w (.cells #[.int .i64 0, .int .i64 64, .int .i64 64, .int .i64 (-64), .int .i64 (-64), .int .i64 0, .int .i64 0, .int .i64 32, .int .i64 64, .int .i64 16, .int .i64 40, .int .i64 60, .int .i64 (-64), .int .i64 0, .int .i64 64, .int .i64 (-50), .int .i64 (-20), .int .i64 (-20)] 63)
  have hle : w.heap.size ≤ b := by omega
  clear s1
  replace n1 := hide n1; replace k1 := hide k1; replace hle := hide hle
  go_enter Try.func61, Try.ntmps61
  go_wp2_with fail
  go_ret
  exact ⟨_, rfl, unhide hle, unhide n1, unhide k1⟩
/-- a delta while it is made: the draw, the box, and its two rows -/
structure DS (wo W : World) (b28 b10 : Nat) (vr vm : Value) (rt : List Tent) (mv : List Mv) : Prop where
  bel : Below wo.heap.size wo W
  draw : DrawAt W b28 (· < wo.heap.size)
  box : W.heap[b10]? = some (.cells #[vr, vm] 48 (0, 0))
  rowR : W.ownsRow (b10 + 1) 63 3 vr rt.length (tcells rt)
  rowM : W.ownsRow (b10 + 1) 65 2 vm mv.length (mcells mv)
  lo1 : wo.heap.size ≤ b28
  lo2 : b28 < b10
section
variable {wo W W' : World} {b28 b10 : Nat} {vr vm : Value} {rt : List Tent} {mv : List Mv}
theorem DS.lt (h : DS wo W b28 b10 vr vm rt mv) : b10 < W.heap.size := (Array.getElem?_eq_some_iff.1 h.box).1
theorem DS.below (h : DS wo W b28 b10 vr vm rt mv) (hb : Below W.heap.size W W') : DS wo W' b28 b10 vr vm rt mv :=
  ⟨h.bel.trans (hb.mono h.bel.size), h.draw.same (hb.block _ h.draw.lt) (fun c hc => hb.block c (Nat.lt_of_lt_of_le hc h.bel.size)), (hb.block _ h.lt).trans h.box, own_blw h.rowR hb, own_blw h.rowM hb, h.lo1, h.lo2⟩
theorem DS.next (h : DS wo W b28 b10 vr vm rt mv) (hd : DrawAt W' b28 (· < wo.heap.size)) (hg : W.grownBy W' (some b28)) : DS wo W' b28 b10 vr vm rt mv := by
  have hlo1 := h.lo1
  have hlo2 := h.lo2
  have key : ∀ {T s n : Nat} {v : Value} {xs : List Value}, W.ownsRow (b10 + 1) T s v n xs → W'.ownsRow (b10 + 1) T s v n xs := fun hr => hr.kept hg (by
    rename_i v _
    cases hv : v.ownBlock with
    | none => exact .inl rfl
    | some g => exact .inr (fun e => by injection e with e; have := (hr.lt g hv).1; omega))
  exact ⟨h.bel.trans ⟨hg.os, hg.tape, hg.output, hg.size, fun b hb => hg.block b (Nat.lt_of_lt_of_le hb h.bel.size) (fun e => by injection e; omega)⟩, hd, (hg.block _ h.lt (fun e => by injection e; omega)).trans h.box, key h.rowR, key h.rowM, hlo1, hlo2⟩
theorem ds_row {T s n : Nat} {v : Value} {xs : List Value} (hr : W.ownsRow (b10 + 1) T s v n xs) : ∀ b, b < b10 + 1 → some b ≠ v.ownBlock := fun b hb e => by have := (hr.lt b e.symm).1; omega
/-- a row has grown, and the box is written -/
theorem DS.pushR (h : DS wo W b28 b10 vr vm rt mv) {v' : Value} {t : Tent} (hr : W'.ownsRow (b10 + 1) 63 3 v' (rt.length + 1) (tcells rt ++ [.int .i64 t.1, .int .i64 t.2.1, .int .i64 t.2.2])) (hg : W.grownBy W' vr.ownBlock) :
    W'.cell? ⟨b10, 0, none⟩ = some vr ∧ W'.frozen? ⟨b10, 0, none⟩ = false ∧ DS wo (W'.setCell ⟨b10, 0, none⟩ v') b28 b10 v' vm (rt ++ [t]) mv := by
  have hlo1 := h.lo1
  have hlo2 := h.lo2
  have hlt := h.lt
  have hne := ds_row (W := W) h.rowR
  have hbox := (hg.block b10 hlt (hne b10 (by omega))).trans h.box
  have hM := h.rowM.kept hg (own_ne h.rowM h.rowR (by decide))
  refine ⟨(cell_of_row _ _ 0 _ _ _ hbox).trans rfl, by simp [World.frozen?, hbox], ?_, ?_, heap_set hbox v', ?_, ownsRow_setCell_below hM (by show b10 < b10 + 1; omega) _, hlo1, hlo2⟩
  · exact (h.bel.trans ⟨hg.os, hg.tape, hg.output, hg.size, fun b hb => hg.block b (by have := h.bel.size; omega) (hne b (by omega))⟩).setCell (p := ⟨b10, 0, none⟩) (by show wo.heap.size ≤ b10; omega) _
  · exact (h.draw.same (hg.block _ h.draw.lt (hne _ (by omega))) (fun c hc => hg.block c (by have := h.bel.size; omega) (hne c (by omega)))).same (Below.heap_setCell _ _ _ _ (by show b28 ≠ b10; omega)) (fun c hc => Below.heap_setCell _ _ _ _ (by show c ≠ b10; omega))
  · have hr' : W'.ownsRow (b10 + 1) 63 3 v' (rt ++ [t]).length (tcells (rt ++ [t])) := by
      rw [List.length_append]
      unfold tcells at hr ⊢
      rw [List.flatMap_append]
      exact hr
    exact ownsRow_setCell_below hr' (by show b10 < b10 + 1; omega) _
theorem DS.pushM (h : DS wo W b28 b10 vr vm rt mv) {v' : Value} {m : Mv} (hr : W'.ownsRow (b10 + 1) 65 2 v' (mv.length + 1) (mcells mv ++ [.int .i64 m.1, .int .i64 m.2])) (hg : W.grownBy W' vm.ownBlock) :
    W'.cell? ⟨b10, 1, none⟩ = some vm ∧ W'.frozen? ⟨b10, 1, none⟩ = false ∧ DS wo (W'.setCell ⟨b10, 1, none⟩ v') b28 b10 vr v' rt (mv ++ [m]) := by
  have hlo1 := h.lo1
  have hlo2 := h.lo2
  have hlt := h.lt
  have hne := ds_row (W := W) h.rowM
  have hbox := (hg.block b10 hlt (hne b10 (by omega))).trans h.box
  have hR := h.rowR.kept hg (own_ne h.rowR h.rowM (by decide))
  refine ⟨(cell_of_row _ _ 1 _ _ _ hbox).trans rfl, by simp [World.frozen?, hbox], ?_, ?_, heap_set hbox v', ownsRow_setCell_below hR (by show b10 < b10 + 1; omega) _, ?_, hlo1, hlo2⟩
  · exact (h.bel.trans ⟨hg.os, hg.tape, hg.output, hg.size, fun b hb => hg.block b (by have := h.bel.size; omega) (hne b (by omega))⟩).setCell (p := ⟨b10, 1, none⟩) (by show wo.heap.size ≤ b10; omega) _
  · exact (h.draw.same (hg.block _ h.draw.lt (hne _ (by omega))) (fun c hc => hg.block c (by have := h.bel.size; omega) (hne c (by omega)))).same (Below.heap_setCell _ _ _ _ (by show b28 ≠ b10; omega)) (fun c hc => Below.heap_setCell _ _ _ _ (by show c ≠ b10; omega))
  · have hr' : W'.ownsRow (b10 + 1) 65 2 v' (mv ++ [m]).length (mcells (mv ++ [m])) := by
      rw [List.length_append]
      unfold mcells at hr ⊢
      rw [List.flatMap_append]
      exact hr
    exact ownsRow_setCell_below hr' (by show b10 < b10 + 1; omega) _
end
theorem info_move : (Try.prog.info? 65).map (fun i => (i.zero, i.size, i.bytes)) = some (some (.agg #[.int .i64 0, .int .i64 0]), 2, 16) := by kernel_rfl
theorem info_delta : (Try.prog.info? 48).map (fun i => (i.zero, i.size, i.bytes)) = some (some (.agg #[.slice none 0 0, .slice none 0 0]), 2, 48) := by kernel_rfl
def TS (b28 : Nat) (v : Value) (w' : World) : Prop := ∃ b, v = .slice (some ⟨b, 0, none⟩) 6 6 ∧ w'.heap[b]? = some (.cells tentC 63 (0, 0)) ∧ b28 < b
def TI (b28 : Nat) (v : Value) (w' : World) : Prop := ∃ b x, v = .pointer (some ⟨b, x * 3, none⟩) ∧ x < 6 ∧ w'.heap[b]? = some (.cells tentC 63 (0, 0)) ∧ b28 < b
def TV (v : Value) : Prop := ∃ t ∈ tentL, v = .agg #[.int .i64 t.1, .int .i64 t.2.1, .int .i64 t.2.2]
def TB (b28 : Nat) (v : Value) (w' : World) : Prop := ∃ b, ∃ t ∈ tentL, v = .slice (some ⟨b, 0, none⟩) 1 1 ∧ w'.heap[b]? = some (.cells #[.int .i64 t.1, .int .i64 t.2.1, .int .i64 t.2.2] 63 (0, 0)) ∧ b28 < b
def NX (m : Nat) (v : Value) : Prop := ∃ x : Nat, v = .int .i64 (x : Int) ∧ x < m
def MX (v : Value) : Prop := ∃ x : Int, v = .int .i64 x ∧ -8 ≤ x ∧ x ≤ 8
def MV (v : Value) : Prop := ∃ x y : Int, v = .agg #[.int .i64 x, .int .i64 y] ∧ (-8 ≤ x ∧ x ≤ 8) ∧ -8 ≤ y ∧ y ≤ 8
def MB (b28 : Nat) (v : Value) (w' : World) : Prop := ∃ b, ∃ x y : Int, v = .slice (some ⟨b, 0, none⟩) 1 1 ∧ w'.heap[b]? = some (.cells #[.int .i64 x, .int .i64 y] 65 (0, 0)) ∧ b28 < b ∧ (-8 ≤ x ∧ x ≤ 8) ∧ -8 ≤ y ∧ y ≤ 8
def DeltasPost (cnt axes : Nat) (w : World) (e : Ending) (w' : World) : Prop := ∃ v l, e = .returned v ∧ OD w' w.heap.size v l ∧ l.length ≤ 3 ∧ (∀ d ∈ l, GoodD cnt axes d) ∧ Below w.heap.size w w'
set_option maxHeartbeats 8000000 in
set_option maxRecDepth 100000 in
theorem deltas_any (oa : Option Addr) (on oc : Nat) (o : Ot) (la : Option Addr) (ln lc : Nat) (l : List (List Int)) (axes : Nat) (w : World) (ho : Lst Enc.ct w (· < w.heap.size) oa on o) (hs : Sml o) (hl : Lst (Enc.list Enc.int) w (· < w.heap.size) la ln l) (hnm : ln ≤ maxLen) (hax : axes ≤ 4) (hcn : o.flatten.length ≤ 100) :
    Calls Try.prog 43 #[.slice oa on oc, .slice la ln lc, .int .i64 (axes : Int)] w (DeltasPost o.flatten.length axes w) := by
  unfold maxLen at hnm
  obtain ⟨cnt, hcnt⟩ : ∃ c, o.flatten.length = c := ⟨_, rfl⟩
  rw [hcnt] at hcn ⊢
  have hcs : countS o = (cnt : Int) := by unfold countS; rw [hcnt]
  replace ho := hide ho; replace hs := hide hs; replace hl := hide hl; replace hcnt := hide hcnt; replace hcs := hide hcs
  go_enter Try.func43, Try.ntmps43
  go_wp2_with fail
  go_loopw [7, 8] (fun v7 v wr => ∃ (k : Nat) (os : List Dl), k ≤ ln ∧ k ≤ 3 ∧ v = .int .i64 (k : Int) ∧ OD wr w.heap.size v7 os ∧ os.length = k ∧ (∀ d ∈ os, GoodD cnt axes d) ∧ Below w.heap.size w wr) (fun _ v _ => (3 - intOf v).toNat)
  case atStart => exact ⟨0, [], by omega, by omega, rfl, OD.nil _ _, rfl, fun d h => by simp at h, Below.refl _ _⟩
  case round =>
    obtain ⟨k, os, hk, hk3, rfl, hoo, hok, hgo, hbw⟩ := hrel
    obtain ⟨wo, rfl⟩ : ∃ wo : World, wo = wr := ⟨_, rfl⟩
    obtain ⟨ao, co, ev, _⟩ := hoo.lst
    rw [hok] at ev
    subst ev
    by_cases hlt : k < ln ∧ k < 3
    · obtain ⟨hkn, hk3'⟩ := hlt
      obtain ⟨b, off, x, ax, nx, cx, rfl, hbb, hx, hnc, hcm, hlx, hc0⟩ := lst_list ((unhide hl).under hbw) hkn
      obtain ⟨b28, V, hb28, hV, n0, k0, s0⟩ := al1 wo (.cells #[.slice ax nx cx, .int .i64 0] 76)
      obtain ⟨b10, V2, hb10, hV2, n2, k2, s2⟩ := al1 V (.cells #[.slice none 0 0, .slice none 0 0] 48)
      have hlx' : Lst Enc.int V (· < wo.heap.size) ax nx x := hlx.below k0
      have hd0 : DrawAt V b28 (· < wo.heap.size) := ⟨ax, nx, cx, 0, x, n0, Nat.zero_le _, by omega, hlx', fun h => by omega⟩
      have hDS0 : DS wo V2 b28 b10 (.slice none 0 0) (.slice none 0 0) [] [] := ⟨k0.trans (k2.mono k0.size), hd0.same (k2.block _ (by omega)) (fun c hc => k2.block c (by omega)), n2, World.ownsRow_nil _ _ _ _, World.ownsRow_nil _ _ _ _, by omega, by omega⟩
      have t1 : decide ((k : Int) < (ln : Int)) = true := by simp; omega
      have t2 : decide ((k : Int) < 3) = true := by simp; omega
      have t3 : (k : Int) < (ln : Int) := by omega
      have t4 : (k : Int) < 3 := by omega
      clear n0 k0 s0 n2 k2 s2 hlx hlx' hx hbb hnc hcm hd0
      replace hDS0 := hide hDS0; replace hoo := hide hoo; replace hbw := hide hbw; replace hgo := hide hgo; replace hok := hide hok
      go_wp2_with fail
      clear hV hV2 hb28 hb10 hc0
      go_loopw [11] (fun v wi => ∃ (i : Nat) (rt : List Tent) (vr : Value), i ≤ axes ∧ v = .int .i64 (i : Int) ∧ rt.length = i ∧ (∀ t ∈ rt, t ∈ tentL) ∧ DS wo wi b28 b10 vr (.slice none 0 0) rt []) (fun v _ => (axes - intOf v).toNat)
      case atStart => exact ⟨0, [], _, by omega, rfl, rfl, fun t h => by simp at h, unhide hDS0⟩
      case round =>
        clear hDS0
        obtain ⟨i, rt, vr, hi, rfl, hrt, hgt, hDS⟩ := hrel
        obtain ⟨V, rfl⟩ : ∃ V : World, V = wr := ⟨_, rfl⟩
        obtain ⟨ra, rcp, ev⟩ := own_shape hDS.rowR
        subst ev
        by_cases hlti : i < axes
        · have t5 : (i : Int) < (axes : Int) := by omega
          replace hDS := hide hDS; replace hrt := hide hrt; replace hgt := hide hgt
          have hrt4 : rt.length ≤ 4 := by rw [unhide hrt]; omega
          go_wp2_with fail
          refine wp_region_frontG 8 (fun _ _ w' => DS wo w' b28 b10 (.slice ra rt.length rcp) (.slice none 0 0) rt []) (fun wa wb => wa.grownBy wb (some b28))
            (fun ix v w' => match ix with
              | 0 => v = .pointer (some ⟨b10, 0, none⟩)
              | 1 => v = .slice ra rt.length rcp
              | 2 => TS b28 v w'
              | 3 => v = .pointer (some ⟨b28, 0, none⟩)
              | 4 => NX 6 v
              | 5 => TI b28 v w'
              | 6 => TV v
              | 7 => TB b28 v w'
              | _ => True) (by rfl) (by kernel_rfl) ?_ ?_ ?_ ?_
          · exact (unhide hDS).below (Below.refl _ _).drew
          · intro wa wb hR ix v hv
            match ix, hv with
            | 0, h => exact h
            | 1, h => exact h
            | 2, h => obtain ⟨b, h1, h2, h3⟩ := h; exact ⟨b, h1, (hR.block b (Array.getElem?_eq_some_iff.1 h2).1 (fun e => by injection e; omega)).trans h2, h3⟩
            | 3, h => exact h
            | 4, h => exact h
            | 5, h => obtain ⟨b, x, h1, h0, h2, h3⟩ := h; exact ⟨b, x, h1, h0, (hR.block b (Array.getElem?_eq_some_iff.1 h2).1 (fun e => by injection e; omega)).trans h2, h3⟩
            | 6, h => exact h
            | 7, h => obtain ⟨b, t, ht, h1, h2, h3⟩ := h; exact ⟨b, t, ht, h1, (hR.block b (Array.getElem?_eq_some_iff.1 h2).1 (fun e => by injection e; omega)).trans h2, h3⟩
            | _ + 8, _ => trivial
          --BEGIN10
          · intro ix hix
            obtain rfl | rfl | rfl | rfl | rfl | rfl | rfl | rfl : ix = 0 ∨ ix = 1 ∨ ix = 2 ∨ ix = 3 ∨ ix = 4 ∨ ix = 5 ∨ ix = 6 ∨ ix = 7 := by omega
            · refine FrontStep.of [] _ rfl (by kernel_rfl) ?_
              intro vs LL wq hLL hC hf
              simp only [putL, List.foldl_nil]
              have hkC := hC
              have hkR : wq.grownBy wq (some b28) := grown_of_below (Below.refl _ _) _
              have hkP := trivial
              go_wp2_with fail
              all_goals first | exact ⟨hkC, hkR, rfl⟩ | exact ⟨hkC, hkR, hkP⟩ | exact ⟨hkR, hkP⟩ | exact ⟨hkC, hkR⟩ | exact ⟨hkC, hkP⟩ | exact hkC | exact hkR | exact hkP | (trace_state; fail)
            · refine FrontStep.of [0] _ rfl (by kernel_rfl) ?_
              intro vs LL wq hLL hC hf
              simp only [putL, List.foldl_nil, List.foldl_cons, List.getElem?_cons_zero]
              have e0 : vs 0 = _ := hf 0 (by simp)
              rw [e0]
              have hcq := (cell_of_row _ _ 0 _ _ _ hC.box).trans rfl
              have hkC := hC
              have hkR : wq.grownBy wq (some b28) := grown_of_below (Below.refl _ _) _
              have hkP := trivial
              go_wp2_with fail
              all_goals first | exact ⟨hkC, hkR, rfl⟩ | exact ⟨hkC, hkR, hkP⟩ | exact ⟨hkR, hkP⟩ | exact ⟨hkC, hkR⟩ | exact ⟨hkC, hkP⟩ | exact hkC | exact hkR | exact hkP | (trace_state; fail)
            · refine FrontStep.of [] _ rfl (by kernel_rfl) ?_
              intro vs LL wq hLL hC hf
              simp only [putL, List.foldl_nil]
              have hcq := tents_any wq
              replace hcq := hide hcq
              go_wp2_with fail
              refine (unhide hcq).mono ?_
              rintro e wz ⟨b0, rfl, hb0, hn0, hbz⟩
              clear hcq
              have hkC := hC.below hbz
              have hkR := grown_of_below hbz (some b28)
              have hb28 : b28 < b0 := by have := hC.lt; have := hC.lo2; omega
              have hkP : TS b28 (.slice (some ⟨b0, 0, none⟩) 6 6) wz := ⟨b0, rfl, hn0, hb28⟩
              clear hbz hb0
              go_wp2_with fail
              all_goals first | exact ⟨hkC, hkR, hkP⟩ | exact ⟨hkR, hkP⟩ | exact ⟨hkC, hkR⟩ | exact ⟨hkC, hkP⟩ | exact hkC | exact hkR | exact hkP | (trace_state; fail)
            · refine FrontStep.of [] _ rfl (by kernel_rfl) ?_
              intro vs LL wq hLL hC hf
              simp only [putL, List.foldl_nil]
              have hkC := hC
              have hkR : wq.grownBy wq (some b28) := grown_of_below (Below.refl _ _) _
              have hkP := trivial
              go_wp2_with fail
              all_goals first | exact ⟨hkC, hkR, rfl⟩ | exact ⟨hkC, hkR, hkP⟩ | exact ⟨hkR, hkP⟩ | exact ⟨hkC, hkR⟩ | exact ⟨hkC, hkP⟩ | exact hkC | exact hkR | exact hkP | (trace_state; fail)
            · refine FrontStep.of [2, 3] _ rfl (by kernel_rfl) ?_
              intro vs LL wq hLL hC hf
              simp only [putL, List.foldl_nil, List.foldl_cons, List.getElem?_cons_zero, List.getElem?_cons_succ]
              obtain ⟨ba, e36, ha, hba⟩ := hf 2 (by simp)
              rw [e36]
              have e3 : vs 3 = _ := hf 3 (by simp)
              rw [e3]
              have hcq := next_nat b28 (· < wo.heap.size) 6 wq hC.draw (by omega) (by omega)
              replace hcq := hide hcq
              go_wp2_with fail
              refine (unhide hcq).mono ?_
              rintro e wz ⟨x0, rfl, hx0, hd0, hkR, -⟩
              clear hcq
              have hkC := hC.next hd0 hkR
              have hkP : NX 6 (.int .i64 (x0 : Int)) := ⟨x0, rfl, hx0⟩
              clear hd0
              go_wp2_with fail
              all_goals first | exact ⟨hkC, hkR, hkP⟩ | exact ⟨hkR, hkP⟩ | exact ⟨hkC, hkR⟩ | exact ⟨hkC, hkP⟩ | exact hkC | exact hkR | exact hkP | (trace_state; fail)
            · refine FrontStep.of [2, 4] _ rfl (by kernel_rfl) ?_
              intro vs LL wq hLL hC hf
              simp only [putL, List.foldl_nil, List.foldl_cons, List.getElem?_cons_zero, List.getElem?_cons_succ]
              obtain ⟨ba, e36, ha, hba⟩ := hf 2 (by simp)
              rw [e36]
              obtain ⟨xx, e38, hxx⟩ := hf 4 (by simp)
              rw [e38]
              have hxi : (xx : Int) < 6 := by omega
              have hkC := hC
              have hkR : wq.grownBy wq (some b28) := grown_of_below (Below.refl _ _) _
              have hkP : TI b28 (.pointer (some ⟨ba, xx * 3, none⟩)) wq := ⟨ba, xx, rfl, hxx, ha, hba⟩
              go_wp2_with fail
              all_goals first | exact ⟨hkC, hkR, hkP⟩ | exact ⟨hkR, hkP⟩ | exact ⟨hkC, hkR⟩ | exact ⟨hkC, hkP⟩ | exact hkC | exact hkR | exact hkP | (trace_state; fail)
            · refine FrontStep.of [5] _ rfl (by kernel_rfl) ?_
              intro vs LL wq hLL hC hf
              simp only [putL, List.foldl_nil, List.foldl_cons, List.getElem?_cons_zero, List.getElem?_cons_succ]
              obtain ⟨bc, xc, e39, hxc, hc9, hbc⟩ := hf 5 (by simp)
              rw [e39]
              obtain ⟨tt, htt, z0, z1, z2⟩ := tentC_at hxc
              have hq0 := (cell_of_row _ _ (xc * 3) _ _ _ hc9).trans z0
              have hq1 := (cell_of_row _ _ (xc * 3 + 1) _ _ _ hc9).trans z1
              have hq2 := (cell_of_row _ _ (xc * 3 + 2) _ _ _ hc9).trans z2
              clear z0 z1 z2
              have hkC := hC
              have hkR : wq.grownBy wq (some b28) := grown_of_below (Below.refl _ _) _
              have hkP : TV (.agg #[.int .i64 tt.1, .int .i64 tt.2.1, .int .i64 tt.2.2]) := ⟨tt, htt, rfl⟩
              go_wp2_with fail
              all_goals first | exact ⟨hkC, hkR, hkP⟩ | exact ⟨hkR, hkP⟩ | exact ⟨hkC, hkR⟩ | exact ⟨hkC, hkP⟩ | exact hkC | exact hkR | exact hkP | (trace_state; fail)
            · refine FrontStep.of [6] _ rfl (by kernel_rfl) ?_
              intro vs LL wq hLL hC hf
              simp only [putL, List.foldl_nil, List.foldl_cons, List.getElem?_cons_zero, List.getElem?_cons_succ]
              obtain ⟨tt, htt, e40⟩ := hf 6 (by simp)
              rw [e40]
              have hz := heap_alloc_new wq (.cells #[.int .i64 tt.1, .int .i64 tt.2.1, .int .i64 tt.2.2] 63)
              have hkC := hC.below ((Below.refl _ _).alloc (Nat.le_refl _) (.cells #[.int .i64 tt.1, .int .i64 tt.2.1, .int .i64 tt.2.2] 63))
              have hkR : wq.grownBy (wq.alloc (.cells #[.int .i64 tt.1, .int .i64 tt.2.1, .int .i64 tt.2.2] 63)) (some b28) := grown_of_below ((Below.refl _ _).alloc (Nat.le_refl _) _) _
              have hlt : b28 < wq.heap.size := by have := hC.lt; have := hC.lo2; omega
              have hkP : TB b28 (.slice (some ⟨wq.heap.size, 0, none⟩) 1 1) (wq.alloc (.cells #[.int .i64 tt.1, .int .i64 tt.2.1, .int .i64 tt.2.2] 63)) := ⟨_, tt, htt, rfl, hz, hlt⟩
              replace hkC := hide hkC; replace hkR := hide hkR; replace hkP := hide hkP; replace hz := hide hz
              go_wp2_with fail
              first | exact ⟨unhide hkC, unhide hkR, unhide hkP⟩ | (trace_state; fail)
          --END10
          · intro vs LL wq hLL hC hf
            have e1 : vs 1 = _ := hf 1 (by decide)
            obtain ⟨bb, tt, htt, e7, h7, _⟩ := hf 7 (by decide)
            rw [putSome_all]
            simp only [putL, List.range, List.range.loop, List.foldl_nil, List.foldl_cons, List.getElem?_cons_zero, List.getElem?_cons_succ, List.drop_succ_cons, List.drop_zero]
            rw [e1, e7]
            clear e1 e7 hf hLL
            obtain ⟨wt, rfl⟩ : ∃ W : World, W = wq := ⟨_, rfl⟩
            have hrow := hide hC.rowR
            have hbs : b10 + 1 ≤ wt.heap.size := hC.lt
            replace h7 := hide h7
            have hCh := hide hC
            clear hC
            go_simp
            go_wp2_with (at_builtin; refine wpList_append_el Try.underlying45 info_tent rfl (by decide) (by decide) rfl _ _ rfl (b10 + 1) _ rt.length (tcells rt) rfl (unhide hrow) _ [.int .i64 tt.1, .int .i64 tt.2.1, .int .i64 tt.2.2] rfl (unhide h7) rfl ?c2 ?c4 hbs ?_)
            case c2 => (intro u hu; simp at hu; rcases hu with rfl | rfl | rfl <;> rfl)
            case c4 => omega
            intro v' w5 hown5 hg5 _
            obtain ⟨hz0, hz1, hz2⟩ := (unhide hCh).pushR hown5 hg5
            obtain ⟨av, cv, ev⟩ := own_shape hown5
            subst ev
            obtain ⟨V9, hV9⟩ : ∃ V9, w5.setCell ⟨b10, 0, none⟩ (.slice av (rt.length + 1) cv) = V9 := ⟨_, rfl⟩
            rw [hV9] at hz2
            clear hown5 hg5 hrow h7 hCh
            replace hz2 := hide hz2
            go_wp2_with fail
            go_roundw
            case rel =>
              refine ⟨i + 1, rt ++ [tt], _, by omega, by go_num, by rw [List.length_append, unhide hrt]; rfl, fun t ht => ?_, unhide hz2⟩
              rcases List.mem_append.1 ht with ht | ht
              · exact unhide hgt t ht
              · simp at ht; subst ht; exact htt
            case measure => simp [intOf]; omega
        · have hie : i = axes := by omega
          have t5 : ¬ (i : Int) < (axes : Int) := by omega
          obtain ⟨vr, hvr⟩ : ∃ vr, Value.slice ra rt.length rcp = vr := ⟨_, rfl⟩
          rw [hvr] at hDS
          replace hDS := hide hDS; replace hrt := hide hrt; replace hgt := hide hgt; replace hvr := hide hvr; replace hie := hide hie
          go_wp2_with fail
          go_loopw [12] (fun v wi => ∃ (j : Nat) (mv : List Mv) (vm : Value), j ≤ cnt ∧ v = .int .i64 (j : Int) ∧ mv.length = j ∧ (∀ m ∈ mv, -8 ≤ m.1 ∧ m.1 ≤ 8 ∧ -8 ≤ m.2 ∧ m.2 ≤ 8) ∧ DS wo wi b28 b10 vr vm rt mv) (fun v _ => (cnt - intOf v).toNat)
          case atStart => exact ⟨0, [], _, by omega, rfl, rfl, fun m h => by simp at h, unhide hDS⟩
          case round =>
            clear hDS
            obtain ⟨j, mv, vm, hj, rfl, hmv, hgm, hDS⟩ := hrel
            obtain ⟨V, rfl⟩ : ∃ V : World, V = wr := ⟨_, rfl⟩
            obtain ⟨xa, xcp, ev⟩ := own_shape hDS.rowM
            subst ev
            have hbV := (unhide hbw).trans (hDS.bel.mono (unhide hbw).size)
            have hc := rcount_any oa on oc o V ((unhide ho).under hbV) (unhide hs)
            rw [unhide hcs] at hc
            replace hDS := hide hDS; replace hmv := hide hmv; replace hgm := hide hgm; replace hc := hide hc
            clear hbV
            by_cases hltj : j < cnt
            · have t6 : (j : Int) < (cnt : Int) := by omega
              have hmv4 : mv.length ≤ 100 := by rw [unhide hmv]; omega
              go_wp2_with fail
              refine (unhide hc).mono ?_
              rintro e wz ⟨rfl, rfl⟩
              obtain ⟨V, rfl⟩ : ∃ V : World, V = wz := ⟨_, rfl⟩
              clear hc
              go_wp2_with fail
              refine wp_region_frontG 10 (fun _ _ w' => DS wo w' b28 b10 vr (.slice xa mv.length xcp) rt mv) (fun wa wb => wa.grownBy wb (some b28))
                (fun ix v w' => match ix with
                  | 0 => v = .pointer (some ⟨b10, 1, none⟩)
                  | 1 => v = .slice xa mv.length xcp
                  | 2 => v = .pointer (some ⟨b28, 0, none⟩)
                  | 3 => NX 17 v
                  | 4 => MX v
                  | 5 => v = .pointer (some ⟨b28, 0, none⟩)
                  | 6 => NX 17 v
                  | 7 => MX v
                  | 8 => MV v
                  | 9 => MB b28 v w'
                  | _ => True) (by rfl) (by kernel_rfl) ?_ ?_ ?_ ?_
              · exact (unhide hDS).below (Below.refl _ _).drew
              · intro wa wb hR ix v hv
                match ix, hv with
                | 0, h => exact h
                | 1, h => exact h
                | 2, h => exact h
                | 3, h => exact h
                | 4, h => exact h
                | 5, h => exact h
                | 6, h => exact h
                | 7, h => exact h
                | 8, h => exact h
                | 9, h => obtain ⟨b, x, y, h1, h2, h3⟩ := h; exact ⟨b, x, y, h1, (hR.block b (Array.getElem?_eq_some_iff.1 h2).1 (fun e => by injection e; omega)).trans h2, h3⟩
                | _ + 10, _ => trivial
              --BEGIN14
              · intro ix hix
                obtain rfl | rfl | rfl | rfl | rfl | rfl | rfl | rfl | rfl | rfl : ix = 0 ∨ ix = 1 ∨ ix = 2 ∨ ix = 3 ∨ ix = 4 ∨ ix = 5 ∨ ix = 6 ∨ ix = 7 ∨ ix = 8 ∨ ix = 9 := by omega
                · refine FrontStep.of [] _ rfl (by kernel_rfl) ?_
                  intro vs LL wq hLL hC hf
                  simp only [putL, List.foldl_nil]
                  have hkC := hC
                  have hkR : wq.grownBy wq (some b28) := grown_of_below (Below.refl _ _) _
                  have hkP := trivial
                  go_wp2_with fail
                  all_goals first | exact ⟨hkC, hkR, rfl⟩ | exact ⟨hkC, hkR, hkP⟩ | exact ⟨hkR, hkP⟩ | exact ⟨hkC, hkR⟩ | exact ⟨hkC, hkP⟩ | exact hkC | exact hkR | exact hkP | (trace_state; fail)
                · refine FrontStep.of [0] _ rfl (by kernel_rfl) ?_
                  intro vs LL wq hLL hC hf
                  simp only [putL, List.foldl_nil, List.foldl_cons, List.getElem?_cons_zero]
                  have e0 : vs 0 = _ := hf 0 (by simp)
                  rw [e0]
                  have hcq := (cell_of_row _ _ 1 _ _ _ hC.box).trans rfl
                  have hkC := hC
                  have hkR : wq.grownBy wq (some b28) := grown_of_below (Below.refl _ _) _
                  have hkP := trivial
                  go_wp2_with fail
                  all_goals first | exact ⟨hkC, hkR, rfl⟩ | exact ⟨hkC, hkR, hkP⟩ | exact ⟨hkR, hkP⟩ | exact ⟨hkC, hkR⟩ | exact ⟨hkC, hkP⟩ | exact hkC | exact hkR | exact hkP | (trace_state; fail)
                · refine FrontStep.of [] _ rfl (by kernel_rfl) ?_
                  intro vs LL wq hLL hC hf
                  simp only [putL, List.foldl_nil]
                  have hkC := hC
                  have hkR : wq.grownBy wq (some b28) := grown_of_below (Below.refl _ _) _
                  have hkP := trivial
                  go_wp2_with fail
                  all_goals first | exact ⟨hkC, hkR, rfl⟩ | exact ⟨hkC, hkR, hkP⟩ | exact ⟨hkR, hkP⟩ | exact ⟨hkC, hkR⟩ | exact ⟨hkC, hkP⟩ | exact hkC | exact hkR | exact hkP | (trace_state; fail)
                · refine FrontStep.of [2] _ rfl (by kernel_rfl) ?_
                  intro vs LL wq hLL hC hf
                  simp only [putL, List.foldl_nil, List.foldl_cons, List.getElem?_cons_zero, List.getElem?_cons_succ]
                  have e2 : vs 2 = _ := hf 2 (by simp)
                  rw [e2]
                  have hcq := next_nat b28 (· < wo.heap.size) 17 wq hC.draw (by omega) (by omega)
                  replace hcq := hide hcq
                  go_wp2_with fail
                  refine (unhide hcq).mono ?_
                  rintro e wz ⟨x0, rfl, hx0, hd0, hkR, -⟩
                  clear hcq
                  have hkC := hC.next hd0 hkR
                  have hkP : NX 17 (.int .i64 (x0 : Int)) := ⟨x0, rfl, hx0⟩
                  clear hd0
                  go_wp2_with fail
                  all_goals first | exact ⟨hkC, hkR, hkP⟩ | exact ⟨hkR, hkP⟩ | exact ⟨hkC, hkR⟩ | exact ⟨hkC, hkP⟩ | exact hkC | exact hkR | exact hkP | (trace_state; fail)
                · refine FrontStep.of [3] _ rfl (by kernel_rfl) ?_
                  intro vs LL wq hLL hC hf
                  simp only [putL, List.foldl_nil, List.foldl_cons, List.getElem?_cons_zero, List.getElem?_cons_succ]
                  obtain ⟨xx, e53, hxx⟩ := hf 3 (by simp)
                  rw [e53]
                  have hkC := hC
                  have hkR : wq.grownBy wq (some b28) := grown_of_below (Below.refl _ _) _
                  have hkP : MX (.int .i64 ((xx : Int) - 8)) := ⟨_, rfl, by omega, by omega⟩
                  go_wp2_with fail
                  all_goals first | exact ⟨hkC, hkR, hkP⟩ | exact ⟨hkR, hkP⟩ | exact ⟨hkC, hkR⟩ | exact ⟨hkC, hkP⟩ | exact hkC | exact hkR | exact hkP | (trace_state; fail)
                · refine FrontStep.of [] _ rfl (by kernel_rfl) ?_
                  intro vs LL wq hLL hC hf
                  simp only [putL, List.foldl_nil]
                  have hkC := hC
                  have hkR : wq.grownBy wq (some b28) := grown_of_below (Below.refl _ _) _
                  have hkP := trivial
                  go_wp2_with fail
                  all_goals first | exact ⟨hkC, hkR, rfl⟩ | exact ⟨hkC, hkR, hkP⟩ | exact ⟨hkR, hkP⟩ | exact ⟨hkC, hkR⟩ | exact ⟨hkC, hkP⟩ | exact hkC | exact hkR | exact hkP | (trace_state; fail)
                · refine FrontStep.of [3, 5] _ rfl (by kernel_rfl) ?_
                  intro vs LL wq hLL hC hf
                  simp only [putL, List.foldl_nil, List.foldl_cons, List.getElem?_cons_zero, List.getElem?_cons_succ]
                  obtain ⟨xx, e53, hxx⟩ := hf 3 (by simp)
                  rw [e53]
                  have e5 : vs 5 = _ := hf 5 (by simp)
                  rw [e5]
                  have hcq := next_nat b28 (· < wo.heap.size) 17 wq hC.draw (by omega) (by omega)
                  replace hcq := hide hcq
                  go_wp2_with fail
                  refine (unhide hcq).mono ?_
                  rintro e wz ⟨x0, rfl, hx0, hd0, hkR, -⟩
                  clear hcq
                  have hkC := hC.next hd0 hkR
                  have hkP : NX 17 (.int .i64 (x0 : Int)) := ⟨x0, rfl, hx0⟩
                  clear hd0
                  go_wp2_with fail
                  all_goals first | exact ⟨hkC, hkR, hkP⟩ | exact ⟨hkR, hkP⟩ | exact ⟨hkC, hkR⟩ | exact ⟨hkC, hkP⟩ | exact hkC | exact hkR | exact hkP | (trace_state; fail)
                · refine FrontStep.of [6] _ rfl (by kernel_rfl) ?_
                  intro vs LL wq hLL hC hf
                  simp only [putL, List.foldl_nil, List.foldl_cons, List.getElem?_cons_zero, List.getElem?_cons_succ]
                  obtain ⟨yy, e56, hyy⟩ := hf 6 (by simp)
                  rw [e56]
                  have hkC := hC
                  have hkR : wq.grownBy wq (some b28) := grown_of_below (Below.refl _ _) _
                  have hkP : MX (.int .i64 ((yy : Int) - 8)) := ⟨_, rfl, by omega, by omega⟩
                  go_wp2_with fail
                  all_goals first | exact ⟨hkC, hkR, hkP⟩ | exact ⟨hkR, hkP⟩ | exact ⟨hkC, hkR⟩ | exact ⟨hkC, hkP⟩ | exact hkC | exact hkR | exact hkP | (trace_state; fail)
                · refine FrontStep.of [4, 7] _ rfl (by kernel_rfl) ?_
                  intro vs LL wq hLL hC hf
                  simp only [putL, List.foldl_nil, List.foldl_cons, List.getElem?_cons_zero, List.getElem?_cons_succ]
                  obtain ⟨xa1, e54, hx1, hx2⟩ := hf 4 (by simp)
                  rw [e54]
                  obtain ⟨ya1, e57, hy1, hy2⟩ := hf 7 (by simp)
                  rw [e57]
                  have hkC := hC
                  have hkR : wq.grownBy wq (some b28) := grown_of_below (Below.refl _ _) _
                  have hkP : MV (.agg #[.int .i64 xa1, .int .i64 ya1]) := ⟨_, _, rfl, ⟨hx1, hx2⟩, hy1, hy2⟩
                  go_wp2_with fail
                  all_goals first | exact ⟨hkC, hkR, hkP⟩ | exact ⟨hkR, hkP⟩ | exact ⟨hkC, hkR⟩ | exact ⟨hkC, hkP⟩ | exact hkC | exact hkR | exact hkP | (trace_state; fail)
                · refine FrontStep.of [8] _ rfl (by kernel_rfl) ?_
                  intro vs LL wq hLL hC hf
                  simp only [putL, List.foldl_nil, List.foldl_cons, List.getElem?_cons_zero, List.getElem?_cons_succ]
                  obtain ⟨xz, yz, e58, hxz, hyz⟩ := hf 8 (by simp)
                  rw [e58]
                  have hz := heap_alloc_new wq (.cells #[.int .i64 xz, .int .i64 yz] 65)
                  have hkC := hC.below ((Below.refl _ _).alloc (Nat.le_refl _) (.cells #[.int .i64 xz, .int .i64 yz] 65))
                  have hkR : wq.grownBy (wq.alloc (.cells #[.int .i64 xz, .int .i64 yz] 65)) (some b28) := grown_of_below ((Below.refl _ _).alloc (Nat.le_refl _) _) _
                  have hlt : b28 < wq.heap.size := by have := hC.lt; have := hC.lo2; omega
                  have hkP : MB b28 (.slice (some ⟨wq.heap.size, 0, none⟩) 1 1) (wq.alloc (.cells #[.int .i64 xz, .int .i64 yz] 65)) := ⟨_, xz, yz, rfl, hz, hlt, hxz, hyz⟩
                  replace hkC := hide hkC; replace hkR := hide hkR; replace hkP := hide hkP; replace hz := hide hz
                  go_wp2_with fail
                  first | exact ⟨unhide hkC, unhide hkR, unhide hkP⟩ | (trace_state; fail)
              --END14
              · intro vs LL wq hLL hC hf
                have e1 : vs 1 = _ := hf 1 (by decide)
                obtain ⟨bb, xz, yz, e9, h9, _, hxz, hyz⟩ := hf 9 (by decide)
                rw [putSome_all]
                simp only [putL, List.range, List.range.loop, List.foldl_nil, List.foldl_cons, List.getElem?_cons_zero, List.getElem?_cons_succ, List.drop_succ_cons, List.drop_zero]
                rw [e1, e9]
                clear e1 e9 hf hLL
                obtain ⟨wt, rfl⟩ : ∃ W : World, W = wq := ⟨_, rfl⟩
                have hrow := hide hC.rowM
                have hbs : b10 + 1 ≤ wt.heap.size := hC.lt
                replace h9 := hide h9
                have hCh := hide hC
                clear hC
                go_simp
                go_wp2_with (at_builtin; refine wpList_append_el Try.underlying46 info_move rfl (by decide) (by decide) rfl _ _ rfl (b10 + 1) _ mv.length (mcells mv) rfl (unhide hrow) _ [.int .i64 xz, .int .i64 yz] rfl (unhide h9) rfl ?c2 ?c4 hbs ?_)
                case c2 => (intro u hu; simp at hu; rcases hu with rfl | rfl <;> rfl)
                case c4 => omega
                intro v' w5 hown5 hg5 _
                obtain ⟨hz0, hz1, hz2⟩ := (unhide hCh).pushM (m := (xz, yz)) hown5 hg5
                obtain ⟨av, cv, ev⟩ := own_shape hown5
                subst ev
                obtain ⟨V9, hV9⟩ : ∃ V9, w5.setCell ⟨b10, 1, none⟩ (.slice av (mv.length + 1) cv) = V9 := ⟨_, rfl⟩
                rw [hV9] at hz2
                clear hown5 hg5 hrow h9 hCh
                replace hz2 := hide hz2
                go_wp2_with fail
                go_roundw
                case rel =>
                  refine ⟨j + 1, mv ++ [(xz, yz)], _, by omega, by go_num, by rw [List.length_append, unhide hmv]; rfl, fun m hm => ?_, unhide hz2⟩
                  rcases List.mem_append.1 hm with hm | hm
                  · exact unhide hgm m hm
                  · simp at hm; subst hm; exact ⟨hxz.1, hxz.2, hyz.1, hyz.2⟩
                case measure => simp [intOf]; omega
            · have hje : j = cnt := by omega
              have t6 : ¬ (j : Int) < (cnt : Int) := by omega
              go_wp2_with fail
              refine (unhide hc).mono ?_
              rintro e wz ⟨rfl, rfl⟩
              obtain ⟨V, rfl⟩ : ∃ V : World, V = wz := ⟨_, rfl⟩
              clear hc
              have hD := unhide hDS
              have z0 : V.cell? ⟨b10, 0, none⟩ = some vr := (cell_of_row _ _ 0 _ _ _ hD.box).trans rfl
              have z1 : V.cell? ⟨b10, 1, none⟩ = some (.slice xa mv.length xcp) := (cell_of_row _ _ 1 _ _ _ hD.box).trans rfl
              obtain ⟨b64, V6, hb64, hV6, n64, k64, s64⟩ := al1 V (.cells #[vr, .slice xa mv.length xcp] 48)
              have hD6 := hD.below k64
              have hsz : w.heap.size ≤ wo.heap.size := (unhide hbw).size
              have hb10' : w.heap.size ≤ b10 + 1 := by have := hD.lo1; have := hD.lo2; omega
              obtain ⟨vs0, hrow0, hpush⟩ := (unhide hoo).push (d := (rt, mv)) hD6.bel (own_mono hD6.rowR hb10') (own_mono hD6.rowM hb10') (fun t ht => tentL_good t (unhide hgt t ht)) (fun m hm => by obtain ⟨q1, q2, q3, q4⟩ := unhide hgm m hm; exact ⟨⟨by omega, by omega⟩, ⟨by omega, by omega⟩⟩)
              rw [unhide hok] at hrow0
              have hbs : w.heap.size ≤ V6.heap.size := Nat.le_trans hsz hD6.bel.size
              have hb6 := (unhide hbw).trans (hD6.bel.mono hsz)
              have hgd : GoodD cnt axes (rt, mv) := ⟨by simp only; rw [unhide hrt, unhide hie], unhide hgt, by simp only; rw [unhide hmv, hje], unhide hgm⟩
              obtain ⟨ra', rcp', hvr'⟩ : ∃ a c, vr = .slice a rt.length c := ⟨ra, rcp, (unhide hvr).symm⟩
              subst hvr'
              clear hD hD6 k64 s64 hDS hje
              replace hrow0 := hide hrow0; replace hpush := hide hpush; replace hb6 := hide hb6; replace n64 := hide n64; replace hgd := hide hgd
              go_wp2_with (at_builtin; refine wpList_append_el Try.underlying41 info_delta rfl (by decide) (by decide) rfl _ _ rfl w.heap.size _ k vs0 rfl (unhide hrow0) _ [.slice ra' rt.length rcp', .slice xa mv.length xcp] rfl (unhide n64) rfl ?c2 ?c4 hbs ?_)
              case c2 => (intro u hu; simp at hu; rcases hu with rfl | rfl <;> rfl)
              case c4 => omega
              intro v' w9 hown9 hg9 _
              have hbz := hide (Below.grown (unhide hb6) hg9 hbs (fun g hg => ((unhide hrow0).lt g hg).1))
              have hpush2 := unhide hpush w9 v'
              rw [unhide hok] at hpush2
              have hOD := hide (hpush2 hown9 hg9)
              clear hpush2 hpush hown9 hg9 hrow0 hb6 n64 hV6 hb64 z0 z1 hoo hbw
              go_wp2_with fail
              go_roundw
              case rel =>
                refine ⟨k + 1, os ++ [(rt, mv)], by omega, by omega, by go_num, unhide hOD, by rw [List.length_append, unhide hok]; rfl, fun d hd => ?_, unhide hbz⟩
                rcases List.mem_append.1 hd with hd | hd
                · exact unhide hgo d hd
                · simp at hd; subst hd; exact unhide hgd
              case measure => simp [intOf]; omega
    · have hpost : DeltasPost cnt axes w (Ending.returned (Value.slice ao k co)) wo := ⟨_, os, rfl, hoo, by omega, hgo, hbw⟩
      have t1 : decide ((k : Int) < (ln : Int)) = true ∨ decide ((k : Int) < (ln : Int)) = false := by cases decide ((k : Int) < (ln : Int)) <;> simp
      clear hoo hgo hbw hok
      replace hpost := hide hpost
      by_cases hkn : k < ln
      · have t2 : decide ((k : Int) < 3) = false := by simp; omega
        have t3 : decide ((k : Int) < (ln : Int)) = true := by simp; omega
        have t4 : (k : Int) < (ln : Int) := by omega
        have t5 : ¬ (k : Int) < 3 := by omega
        go_wp2_with fail
        go_ret
        exact unhide hpost
      · have t3 : decide ((k : Int) < (ln : Int)) = false := by simp; omega
        have t4 : ¬ (k : Int) < (ln : Int) := by omega
        go_wp2_with fail
        go_ret
        exact unhide hpost
end Go.Proofs.Ytbodidhggdggmaa
