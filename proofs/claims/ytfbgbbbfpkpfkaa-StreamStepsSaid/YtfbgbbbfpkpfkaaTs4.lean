/- Merged: XTs1 XTs2 XTs3 XTs4 -/
import Derived.Test.YtfbgbbbfpkpfkaaTr14
-- @@XTs1
/- The reference's streams: Window, join. -/
namespace Go.Proofs.Ytfbgbbbfpkpfkaa
open Go.RowKit
theorem own_lstB {w : World} {base n : Nat} {v : Value} {l : List Int} (h : w.ownsRow base 3 1 v n (vints l)) (hl : ∀ x ∈ l, I64 x) : ∃ a c, v = .slice a l.length c ∧ l.length ≤ c ∧ c ≤ maxLen ∧ Lst Enc.int w (fun b => base ≤ b ∧ b < w.heap.size) a l.length l := by
  have hn : n = l.length := by have := h.1; rw [vints_len] at this; omega
  subst hn
  have h0 := h
  rcases h.2 with ⟨rfl, h0'⟩ | ⟨g, cap, cur, rfl, hb, hg, hnc, hcm, _⟩
  · have : l = [] := List.eq_nil_of_length_eq_zero h0'
    subst this
    exact ⟨none, 0, rfl, Nat.le_refl _, Nat.zero_le _, Lst.nil _ _ _ _⟩
  · have h1 := (lst_own h0 hl).1
    refine ⟨_, cap, rfl, hnc, hcm, rfl, fun hpos => ?_⟩
    obtain ⟨b, off, he, _, hc⟩ := h1.2 hpos
    have hbg : b = g := by injection he with he; injection he with he _; exact he.symm
    exact ⟨b, off, he, by rw [hbg]; exact ⟨hb, (Array.getElem?_eq_some_iff.1 hg).1⟩, hc⟩
set_option maxRecDepth 100000 in
set_option maxHeartbeats 4000000 in
theorem rwindow_any (a : Option Addr) (n c : Nat) (x : List Sub) (w : World) (hx : Lst Enc.sub w (· < w.heap.size) a n x) (hsm : Small x) :
    Calls Try.prog 18 #[.agg #[.slice a n c]] w fun e w' => e = .returned (.int .i64 (winS x : Nat)) ∧ Below w.heap.size w w' := by
  have h1 := hx.1
  have hn : n ≤ 1000 := by rw [← h1]; exact hsm.1
  obtain ⟨b1, V1, hb1, hV1, st⟩ := (St.start w).new (Obj.cells #[.slice a n c] 37)
  have k1 := hide (st.get 0 rfl)
  have hz := st.below
  have hx1 := hide (hx.under hz)
  clear st hx
  replace h1 := hide h1; replace hz := hide hz
  go_enter Try.func18, Try.ntmps18
  go_wp2_with fail
  clear hV1 hb1
  go_loopw [3, 4] (fun m v wr => ∃ k : Nat, k ≤ n ∧ v = .int .i64 (k : Int) ∧ m = .int .i64 (winS (x.take k) : Nat) ∧ Below V1.heap.size V1 wr) (fun _ v _ => (n - intOf v).toNat)
  case atStart => exact ⟨0, by omega, rfl, rfl, Below.refl _ _⟩
  case round =>
    obtain ⟨k, hk, rfl, rfl, hbw⟩ := hrel
    obtain ⟨wo, rfl⟩ : ∃ W : World, W = wr := ⟨_, rfl⟩
    have cb := blk_cell ((hbw.block b1 (Array.getElem?_eq_some_iff.1 (unhide k1)).1).trans (unhide k1))
    by_cases hlt : k < n
    · obtain ⟨b, off, s, a1, n1, c1, a2, n2, c2, a3, n3, c3, rfl, hb, hs, ⟨_, _, g1⟩, ⟨_, _, g2⟩, ⟨_, _, g3⟩, hto, d0, d1, d2, d3⟩ := lst_sub ((unhide hx1).under hbw) hlt
      have hss := hsm.2 s (List.mem_of_getElem? hs)
      have l2 := g2.1
      have l3 := g3.1
      have hw := winS_take_succ hs
      have hwb : winS (x.take k) ≤ 2000 := winS_le ⟨by rw [List.length_take]; have := hsm.1; omega, fun s hs => hsm.2 s (List.mem_of_mem_take hs)⟩
      rw [l2, l3] at hw
      clear g1 g2 g3
      obtain ⟨m, hm⟩ : ∃ m, winS (x.take k) = m := ⟨_, rfl⟩
      rw [hm] at hw hwb ⊢
      have e1 : IntKind.i64.wrap ((n2 : Int) + (n3 : Int)) = ((n2 + n3 : Nat) : Int) := by rw [IntWalk.i64_in _ (by omega)]; omega
      have e2 : wrap64 ((n2 : Int) + (n3 : Int)) = ((n2 + n3 : Nat) : Int) := by rw [IntWalk.wrap64_in _ (by omega)]; omega
      obtain ⟨p, hp⟩ : ∃ p, n2 + n3 = p := ⟨_, rfl⟩
      rw [hp] at hw e1 e2
      have hp2 : p ≤ 2000 := by omega
      have t0 : (k : Int) < (n : Int) := by omega
      clear hm hto hp l2 l3 hss hs d0 d3
      replace hbw := hide hbw; replace hw := hide hw
      by_cases hmp : m < p
      · have t1 : (m : Int) < (p : Int) := by omega
        have t2 : ¬ (p : Int) < (m : Int) := by omega
        have hmx : max m p = p := by omega
        have hmi : max (m : Int) (p : Int) = (p : Int) := by omega
        replace hmx := hide hmx
        go_wp2_with fail
        go_quiet (fail)
        go_wp2_with fail
        go_roundw
        case rel => exact ⟨k + 1, by omega, by go_num, by rw [unhide hw, unhide hmx], blw_drewN (unhide hbw) _⟩
        case measure => simp [intOf]; omega
      · have t1 : ¬ (m : Int) < (p : Int) := by omega
        have hmx : max m p = m := by omega
        have hmi : max (m : Int) (p : Int) = (m : Int) := by omega
        replace hmx := hide hmx
        go_wp2_with fail
        go_quiet (fail)
        go_wp2_with fail
        go_roundw
        case rel => exact ⟨k + 1, by omega, by go_num, by rw [unhide hw, unhide hmx], blw_drewN (unhide hbw) _⟩
        case measure => simp [intOf]; omega
    · have hfin : x.take k = x := List.take_of_length_le (by rw [unhide h1]; omega)
      rw [hfin]
      have t0 : ¬ (k : Int) < (n : Int) := by omega
      have hbz := hide ((unhide hz).trans (hbw.mono (unhide hz).size))
      clear hbw
      go_wp2_with fail
      go_ret
      exact ⟨rfl, unhide hbz⟩
set_option maxHeartbeats 2000000 in
theorem join_any (a1 : Option Addr) (n1 c1 : Nat) (l1 : List Int) (a2 : Option Addr) (n2 c2 : Nat) (l2 : List Int) (w : World) (h1 : Lst Enc.int w (· < w.heap.size) a1 n1 l1) (h2 : Lst Enc.int w (· < w.heap.size) a2 n2 l2) (hn1 : n1 ≤ 400000) (hn2 : n2 ≤ 400000) :
    Calls Try.prog 57 #[.slice a1 n1 c1, .slice a2 n2 c2] w fun e w' => ∃ a c, e = .returned (.slice a (n1 + n2) c) ∧ n1 + n2 ≤ c ∧ c ≤ maxLen ∧ Lst Enc.int w' (fun b => w.heap.size ≤ b ∧ b < w'.heap.size) a (n1 + n2) (l1 ++ l2) ∧ Below w.heap.size w w' := by
  have e1 := h1.1
  have e2 := h2.1
  have i1 := h1.i64
  have i2 := h2.i64
  have hrow0 := own_lit (base := w.heap.size) (s := 1) (n := 0) (heap_alloc_new w (Obj.cells #[] 3)) (Nat.le_refl _) (by decide) rfl
  have hb0 : Below w.heap.size w (w.alloc (Obj.cells #[] 3)) := (Below.refl _ _).alloc (Nat.le_refl _) _
  have hcA := h1.below hb0
  replace hcA := hide hcA; replace hrow0 := hide hrow0; replace hb0 := hide hb0; replace h1 := hide h1; replace h2 := hide h2; replace e1 := hide e1; replace e2 := hide e2; replace i1 := hide i1; replace i2 := hide i2
  go_enter Try.func57, Try.ntmps57
  go_wp2_with (at_builtin; refine wpList_append_ints rfl _ _ rfl w.heap.size _ _ _ rfl (unhide hrow0) _ _ _ _ _ rfl (unhide hcA) ?d1 (unhide hb0).size ?_)
  case d1 => omega
  intro v1 w9 hrow1 hg9
  have hb9 : Below w.heap.size w w9 := Below.grown (unhide hb0) hg9 (unhide hb0).size (fun g e => ((unhide hrow0).lt g e).1)
  try simp only [List.nil_append, Nat.zero_add] at hrow1
  have hXA := (unhide h2).below hb9
  clear hrow0 hcA hb0 hg9
  replace hrow1 := hide hrow1; replace hb9 := hide hb9; replace hXA := hide hXA
  go_wp2_with (at_builtin; refine wpList_append_ints rfl _ _ rfl w.heap.size _ _ _ rfl (unhide hrow1) _ _ _ _ _ rfl (unhide hXA) ?d3 (unhide hb9).size ?_)
  case d3 => omega
  intro v2 wa hrow2 hg2
  have hba : Below w.heap.size w wa := Below.grown (unhide hb9) hg2 (unhide hb9).size (fun g e => ((unhide hrow1).lt g e).1)
  rw [show vints l1 ++ vints l2 = vints (l1 ++ l2) by simp [vints]] at hrow2
  obtain ⟨a, c, hv, hac, hcm, hl⟩ := own_lstB hrow2 (fun x hx => (List.mem_append.1 hx).elim (unhide i1 x) (unhide i2 x))
  rw [List.length_append, unhide e1, unhide e2] at hv hac hl
  subst hv
  clear hrow1 hXA hrow2 hg2 hb9
  replace hl := hide hl; replace hba := hide hba
  go_wp2_with fail
  go_ret
  first | exact ⟨hac, hcm, unhide hl, unhide hba⟩ | exact ⟨_, _, ⟨rfl, rfl⟩, hac, hcm, unhide hl, unhide hba⟩ | exact ⟨_, _, rfl, hac, hcm, unhide hl, unhide hba⟩
end Go.Proofs.Ytfbgbbbfpkpfkaa
-- @@XTs2
/- The reference's streams: a part of a list, what decide leaves. -/
namespace Go.Proofs.Ytfbgbbbfpkpfkaa
open Go.RowKit
/-- a list from an element on -/
theorem lst_drop {w : World} {S : Nat → Prop} {a : Option Addr} {n c k : Nat} {l : List Int} (h : Lst Enc.int w S a n l) (hk : k ≤ n) (hc : n ≤ c) : Lst Enc.int w S (if c = k then a else a.map (·.add k)) (n - k) (l.drop k) := by
  have h1 := h.1
  refine ⟨by rw [List.length_drop, h1], fun hpos => ?_⟩
  obtain ⟨b, off, rfl, hb, hx⟩ := h.2 (by omega)
  rw [if_neg (by omega)]
  refine ⟨b, off + k, by rw [Option.map_some, Addr.add_lit], hb, fun i x hi => ?_⟩
  rw [List.getElem?_drop] at hi
  obtain ⟨us, hr, hu⟩ := hx (k + i) x hi
  refine ⟨us, hr, fun j u hj => ?_⟩
  have := hu j u hj
  rw [show off + k + i * Enc.int.n + j = off + (k + i) * Enc.int.n + j by show off + k + i * 1 + j = off + (k + i) * 1 + j; omega]
  exact this
theorem heap_set_ne {w : World} {b o c : Nat} {u : Value} (h : c ≠ b) : (w.setCell ⟨b, o, none⟩ u).heap[c]? = w.heap[c]? := by
  rcases Nat.lt_or_ge c w.heap.size with hb | hb
  · exact (grown_set (w := w) b o u).block c hb (fun e => h (by injection e))
  · rw [Array.getElem?_eq_none hb, Array.getElem?_eq_none (by rw [World.size_setCell]; exact hb)]
/-- what decide hands back -/
def DecP (w : World) (S : Nat → Prop) (x : List Sub) (s : Stg) (e : Ending) (w' : World) : Prop :=
  ∃ a3 n3 c3 a4 n4 c4, e = .returned (.tuple #[.int .i64 (decO x s), .agg #[.slice a3 n3 c3, .slice a4 n4 c4]]) ∧ (n3 ≤ c3 ∧ c3 ≤ maxLen ∧ Lst Enc.int w' (fun b => w.heap.size ≤ b ∧ b < w'.heap.size) a3 n3 (decS x s).1) ∧ (n4 ≤ c4 ∧ c4 ≤ maxLen ∧ Lst Enc.int w' S a4 n4 (decS x s).2) ∧ Below w.heap.size w w'
set_option maxRecDepth 100000 in
set_option maxHeartbeats 8000000 in
theorem rdecide_any (xa : Option Addr) (xn xc : Nat) (x : List Sub) (a1 : Option Addr) (n1 c1 : Nat) (a2 : Option Addr) (n2 c2 : Nat) (s : Stg) (S : Nat → Prop) (w : World) (hx : Lst Enc.sub w (· < w.heap.size) xa xn x) (hsm : Small x)
    (h1 : Lst Enc.int w (· < w.heap.size) a1 n1 s.1) (h2 : Lst Enc.int w S a2 n2 s.2) (hS : ∀ b, S b → b < w.heap.size) (q2 : n2 ≤ c2) (q3 : c2 ≤ maxLen) (hn1 : n1 ≤ 300000) (hn2 : n2 ≤ 300000) (h0 : 1 ≤ n2) :
    Calls Try.prog 46 #[.agg #[.slice xa xn xc], .agg #[.slice a1 n1 c1, .slice a2 n2 c2]] w (DecP w S x s) := by
  have l1 := h1.1
  have l2 := h2.1
  have hxl := hx.1
  have hxn : xn ≤ 1000 := by rw [← hxl]; exact hsm.1
  have h2w := h2.wide hS
  obtain ⟨g2, o2, y0, ha2, _, hy0, _, cy⟩ := lst_int h2w (k := 0) (by omega)
  obtain ⟨b2, V2, hb2, hV2, st⟩ := (St.start w).new (Obj.cells #[.slice xa xn xc] 37)
  obtain ⟨b3, V3, hb3, hV3, st⟩ := st.new (Obj.cells #[.slice a1 n1 c1, .slice a2 n2 c2] 33)
  obtain ⟨b5, V5, hb5, hV5, st⟩ := st.new (Obj.cells #[nilS, nilS] 33)
  have hc3 : b2 + 1 = b3 := by rw [← hb3, ← hV2, World.size_alloc, hb2]
  have hc5 : b3 + 1 = b5 := by rw [← hb5, ← hV3, World.size_alloc, hb3]
  have k2 := hide (st.get 2 rfl)
  have k3 := hide (st.get 1 rfl)
  have k5 := hide (st.get 0 rfl)
  have hz := st.below
  have hw5 : w.heap.size ≤ b5 := by rw [← hb2] at hc3; omega
  have cy5 := cell_under cy hz
  have hx5 := hide (hx.under hz)
  have h15 := hide (h1.under hz)
  have h25 := hide (h2w.under hz)
  have h2s : Lst Enc.int V5 S a2 n2 s.2 := h2.same (fun b hb => hz.block b (hS b hb))
  have hS5 : ∀ b, S b → b < V5.heap.size := fun b hb => Nat.lt_of_lt_of_le (hS b hb) hz.size
  obtain ⟨K, hK⟩ : ∃ K, matchS x (s.1 ++ s.2) (n1 : Int) = K := ⟨_, rfl⟩
  clear st hx h1 h2 h2w cy
  replace hz := hide hz; replace ha2 := hide ha2; replace cy5 := hide cy5; replace hw5 := hide hw5; replace l1 := hide l1; replace l2 := hide l2; replace hxl := hide hxl; replace hy0 := hide hy0; replace hb2 := hide hb2; replace hV2 := hide hV2; replace hb3 := hide hb3; replace hV3 := hide hV3; replace hb5 := hide hb5; replace hV5 := hide hV5; replace hc3 := hide hc3; replace hc5 := hide hc5; replace h2s := hide h2s; replace hS5 := hide hS5; replace hK := hide hK; replace hsm := hide hsm; replace hS := hide hS
  go_enter Try.func46, Try.ntmps46
  go_upto_region 1 with fail
  try rw [unhide hb2]
  try rw [unhide hc3]
  try rw [unhide hc5]
  rw [unhide hV2, unhide hV3, unhide hV5]
  clear hV2 hV3 hV5 hb2 hb3 hb5 hc3 hc5
  have d2 := blk_cell (unhide k2)
  have d3 : V5.cell? ⟨b3, 0, none⟩ = some (.slice a1 n1 c1) := (cell_of_row _ _ 0 _ _ _ (unhide k3)).trans rfl
  have d4 : V5.cell? ⟨b3, 1, none⟩ = some (.slice a2 n2 c2) := (cell_of_row _ _ 1 _ _ _ (unhide k3)).trans rfl
  refine wp_region_frontG 10 (fun _ _ w' => Below V5.heap.size V5 w') (fun wa wb => Below wa.heap.size wa wb)
    (fun ix v w' => match ix with
      | 0 => v = .agg #[.slice xa xn xc]
      | 1 => v = .pointer (some ⟨b3, 0, none⟩)
      | 2 => v = .slice a1 n1 c1
      | 3 => v = .pointer (some ⟨b3, 1, none⟩)
      | 4 => v = .slice a2 n2 c2
      | 5 => ∃ a c, v = .slice a (n1 + n2) c ∧ Lst Enc.int w' (· < w'.heap.size) a (n1 + n2) (s.1 ++ s.2)
      | 6 => v = .pointer (some ⟨b3, 0, none⟩)
      | 7 => v = .slice a1 n1 c1
      | 8 => v = .int .i64 (n1 : Int)
      | 9 => v = .int .i64 K
      | _ => True) (by rfl) (by kernel_rfl) ?_ ?_ ?_ ?_
  · exact (Below.refl _ _).drew
  · intro wa wb hR ix v hv
    match ix, hv with
    | 0, h => exact h
    | 1, h => exact h
    | 2, h => exact h
    | 3, h => exact h
    | 4, h => exact h
    | 5, h => obtain ⟨a, c, h1, h2⟩ := h; exact ⟨a, c, h1, h2.under hR⟩
    | 6, h => exact h
    | 7, h => exact h
    | 8, h => exact h
    | 9, h => exact h
    | _ + 10, _ => trivial
  · intro ix hix
    obtain rfl | rfl | rfl | rfl | rfl | rfl | rfl | rfl | rfl | rfl : ix = 0 ∨ ix = 1 ∨ ix = 2 ∨ ix = 3 ∨ ix = 4 ∨ ix = 5 ∨ ix = 6 ∨ ix = 7 ∨ ix = 8 ∨ ix = 9 := by omega
    · refine FrontStep.of [] _ rfl (by kernel_rfl) ?_
      intro vs LL wq hLL hC hf
      simp only [putL, List.foldl_nil]
      have g0 := cell_under d2 hC
      go_wp2_with fail
      first | exact Below.refl _ _ | exact ⟨Below.refl _ _, by omega⟩
    · refine FrontStep.of [] _ rfl (by kernel_rfl) ?_
      intro vs LL wq hLL hC hf
      simp only [putL, List.foldl_nil]
      go_wp2_with fail
      first | exact Below.refl _ _ | exact ⟨Below.refl _ _, by omega⟩
    · refine FrontStep.of [1] _ rfl (by kernel_rfl) ?_
      intro vs LL wq hLL hC hf
      simp only [putL, List.foldl_nil, List.foldl_cons, List.getElem?_cons_zero, List.getElem?_cons_succ]
      have e1 : vs 1 = _ := hf 1 (by simp)
      rw [e1]
      have g0 := cell_under d3 hC
      go_wp2_with fail
      first | exact Below.refl _ _ | exact ⟨Below.refl _ _, by omega⟩
    · refine FrontStep.of [] _ rfl (by kernel_rfl) ?_
      intro vs LL wq hLL hC hf
      simp only [putL, List.foldl_nil]
      go_wp2_with fail
      first | exact Below.refl _ _ | exact ⟨Below.refl _ _, by omega⟩
    · refine FrontStep.of [3] _ rfl (by kernel_rfl) ?_
      intro vs LL wq hLL hC hf
      simp only [putL, List.foldl_nil, List.foldl_cons, List.getElem?_cons_zero, List.getElem?_cons_succ]
      have e3 : vs 3 = _ := hf 3 (by simp)
      rw [e3]
      have g0 := cell_under d4 hC
      go_wp2_with fail
      first | exact Below.refl _ _ | exact ⟨Below.refl _ _, by omega⟩
    · refine FrontStep.of [2, 4] _ rfl (by kernel_rfl) ?_
      intro vs LL wq hLL hC hf
      simp only [putL, List.foldl_nil, List.foldl_cons, List.getElem?_cons_zero, List.getElem?_cons_succ]
      have e2 : vs 2 = _ := hf 2 (by simp)
      rw [e2]
      have e4 : vs 4 = _ := hf 4 (by simp)
      rw [e4]
      have hj := hide (join_any a1 n1 c1 s.1 a2 n2 c2 s.2 wq ((unhide h15).under hC) ((unhide h25).under hC) (by omega) (by omega))
      go_wp2_with fail
      refine (unhide hj).mono ?_
      rintro e wz ⟨a0, c0, rfl, _, _, hl0, hbz⟩
      clear hj
      have hl1 := hl0.wide (S' := fun b => b < wz.heap.size) (fun b hb => hb.2)
      replace hl1 := hide hl1; replace hbz := hide hbz; clear hl0
      go_wp2_with fail
      first | exact ⟨hC.trans ((unhide hbz).mono hC.size), unhide hbz, a0, c0, rfl, unhide hl1⟩ | exact ⟨hC.trans ((unhide hbz).mono hC.size), unhide hbz, a0, c0, ⟨rfl, rfl⟩, unhide hl1⟩ | exact ⟨hC.trans ((unhide hbz).mono hC.size), unhide hbz, unhide hl1⟩ | trace_state
    · refine FrontStep.of [] _ rfl (by kernel_rfl) ?_
      intro vs LL wq hLL hC hf
      simp only [putL, List.foldl_nil]
      go_wp2_with fail
      first | exact Below.refl _ _ | exact ⟨Below.refl _ _, by omega⟩
    · refine FrontStep.of [6] _ rfl (by kernel_rfl) ?_
      intro vs LL wq hLL hC hf
      simp only [putL, List.foldl_nil, List.foldl_cons, List.getElem?_cons_zero, List.getElem?_cons_succ]
      have e6 : vs 6 = _ := hf 6 (by simp)
      rw [e6]
      have g0 := cell_under d3 hC
      go_wp2_with fail
      first | exact Below.refl _ _ | exact ⟨Below.refl _ _, by omega⟩
    · refine FrontStep.of [7] _ rfl (by kernel_rfl) ?_
      intro vs LL wq hLL hC hf
      simp only [putL, List.foldl_nil, List.foldl_cons, List.getElem?_cons_zero, List.getElem?_cons_succ]
      have e7 : vs 7 = _ := hf 7 (by simp)
      rw [e7]
      go_wp2_with fail
      first | exact Below.refl _ _ | exact ⟨Below.refl _ _, by omega⟩
    · refine FrontStep.of [0, 5, 8] _ rfl (by kernel_rfl) ?_
      intro vs LL wq hLL hC hf
      simp only [putL, List.foldl_nil, List.foldl_cons, List.getElem?_cons_zero, List.getElem?_cons_succ]
      have e0 : vs 0 = _ := hf 0 (by simp)
      rw [e0]
      obtain ⟨a15, c15, e15, h15'⟩ := hf 5 (by simp)
      rw [e15]
      have e8 : vs 8 = _ := hf 8 (by simp)
      rw [e8]
      have hm := hide (rmatch_any xa xn xc x a15 (n1 + n2) c15 (s.1 ++ s.2) (n1 : Int) wq ((unhide hx5).under hC) h15' (unhide hsm) (by omega))
      rw [unhide hK] at hm
      go_wp2_with fail
      refine (unhide hm).mono ?_
      rintro e wz ⟨rfl, hbz⟩
      clear hm h15'
      replace hbz := hide hbz
      go_wp2_with fail
      first | exact ⟨hC.trans ((unhide hbz).mono hC.size), unhide hbz⟩ | exact hC.trans ((unhide hbz).mono hC.size) | trace_state
  · intro vs LL wq hLL hC hf
    have e9 : vs 9 = _ := hf 9 (by omega)
    rw [putSome_all]
    simp only [putL, List.range, List.range.loop, List.foldl_nil, List.foldl_cons, List.getElem?_cons_zero, List.getElem?_cons_succ, List.drop_succ_cons, List.drop_zero]
    rw [e9]
    clear e9 hf hLL
    obtain ⟨w6, rfl⟩ : ∃ W : World, W = wq := ⟨_, rfl⟩
    have hw6 := hide hC
    clear hC d2 d3 d4
    go_simp
    have d2 := cell_under (blk_cell (unhide k2)) (unhide hw6)
    have d4c : w6.cell? ⟨b3, 1, none⟩ = some (.slice (some ⟨g2, o2, none⟩) n2 c2) := by rw [← unhide ha2]; exact cell_under ((cell_of_row _ _ 1 _ _ _ (unhide k3)).trans rfl) (unhide hw6)
    have cy6 : w6.cell? ⟨g2, o2, none⟩ = some (.int .i64 y0) := cell_under (unhide cy5) (unhide hw6)
    have i4 : (0 : Int) < (n2 : Int) := by omega
    obtain ⟨O, hO⟩ : ∃ O, decO x s = O := ⟨_, rfl⟩
    obtain ⟨N, hN⟩ : ∃ N, decN x s = N := ⟨_, rfl⟩
    have hKd : decK x s = K := by unfold decK; rw [unhide l1]; exact unhide hK
    have hNp : 1 ≤ N ∧ N ≤ n2 := by have := decN_bd x s (by rw [unhide l2]; exact h0); rw [hN, unhide l2] at this; exact this
    replace hO := hide hO; replace hN := hide hN; replace hKd := hide hKd; replace hNp := hide hNp
    go_upto_if 25 with fail
    go_cut [7, 8] (fun v7 v8 wr => v7 = .int .i64 O ∧ v8 = .int .i64 (N : Int) ∧ Below V5.heap.size V5 wr)
    case first =>
      by_cases hK0 : 0 ≤ K
      · rcases matchS_inv (x := x) (g := s.1 ++ s.2) (i := (n1 : Int)) with hm | ⟨kk, sb, hm, hxs, _, _, _⟩
        · rw [unhide hK] at hm
          omega
        rw [unhide hK] at hm
        subst hm
        have hlx := hide ((unhide hx5).under (unhide hw6))
        obtain ⟨gx, ox, sb', aB, nB, cB, af, nf, cf, aA, nA, cA, rfl, _, hxs', _, ⟨_, _, pF⟩, _, hti, d0, d1, _, d3⟩ := lst_sub (k := kk) (unhide hlx) (by rw [← (unhide hlx).1]; exact (List.getElem?_eq_some_iff.1 hxs).1)
        rw [hxs] at hxs'
        injection hxs' with hxs'
        subst hxs'
        have hkx : kk < xn := by rw [← (unhide hlx).1]; exact (List.getElem?_eq_some_iff.1 hxs).1
        have hfl : sb.2.1.length = nf := pF.1
        have hO1 : sb.2.2.2 = O := by rw [← unhide hO]; unfold decO; rw [unhide hKd, if_pos hK0]; unfold toS; rw [Int.toNat_natCast, hxs]
        have hN1 : max 1 (min nf n2) = N := by rw [← unhide hN]; unfold decN; rw [unhide hKd, if_pos hK0, unhide l2]; unfold fromL; rw [Int.toNat_natCast, hxs]; simp only [hfl]
        obtain ⟨mn, hmn0⟩ : ∃ m, min nf n2 = m := ⟨_, rfl⟩
        have hmn : Hid (((n2 : Int) < (nf : Int) ∧ mn = n2) ∨ (¬ (n2 : Int) < (nf : Int) ∧ mn = nf)) := hide (by omega)
        have hmx : Hid (((1 : Int) < (mn : Int) ∧ N = mn) ∨ (¬ (1 : Int) < (mn : Int) ∧ N = 1)) := hide (by omega)
        have j1 : (0 : Int) ≤ (kk : Int) := by omega
        have j2 : (kk : Int) < (xn : Int) := by omega
        have hnf : nf ≤ 1000 := by rw [← hfl]; exact ((unhide hsm).2 sb (List.mem_of_getElem? hxs)).2.1
        rw [hO1] at d3
        have d4 : w6.cell? ⟨b3, 1, none⟩ = some (.slice a2 n2 c2) := cell_under ((cell_of_row _ _ 1 _ _ _ (unhide k3)).trans rfl) (unhide hw6)
        clear hlx pF hti hkx hfl hxs hK0 hmn0 d0 d4c
        replace hO1 := hide hO1; replace hN1 := hide hN1
        go_upto_region 5 with fail
        refine wp_region_frontG 12 (fun _ _ w' => Below w6.heap.size w6 w') (fun wa wb => Below wa.heap.size wa wb)
          (fun ix v w' => match ix with
            | 0 => v = .pointer (some ⟨b2, 0, none⟩)
            | 1 => v = .slice (some ⟨gx, ox, none⟩) xn xc
            | 2 => v = .int .i64 (kk : Int)
            | 3 => v = .pointer (some ⟨gx, ox + kk * 4, none⟩)
            | 4 => v = .pointer (some ⟨gx, ox + kk * 4 + 1, none⟩)
            | 5 => v = .slice af nf cf
            | 6 => v = .int .i64 (nf : Int)
            | 7 => v = .pointer (some ⟨b3, 1, none⟩)
            | 8 => v = .slice a2 n2 c2
            | 9 => v = .int .i64 (n2 : Int)
            | 10 => v = .int .i64 (mn : Int)
            | 11 => v = .int .i64 (N : Int)
            | _ => True) (by rfl) (by kernel_rfl) ?_ ?_ ?_ ?_
        · exact (Below.refl _ _).drew
        · intro wa wb hR ix v hv
          match ix, hv with
          | 0, h => exact h
          | 1, h => exact h
          | 2, h => exact h
          | 3, h => exact h
          | 4, h => exact h
          | 5, h => exact h
          | 6, h => exact h
          | 7, h => exact h
          | 8, h => exact h
          | 9, h => exact h
          | 10, h => exact h
          | 11, h => exact h
          | _ + 12, _ => trivial
        · intro ix hix
          obtain rfl | rfl | rfl | rfl | rfl | rfl | rfl | rfl | rfl | rfl | rfl | rfl : ix = 0 ∨ ix = 1 ∨ ix = 2 ∨ ix = 3 ∨ ix = 4 ∨ ix = 5 ∨ ix = 6 ∨ ix = 7 ∨ ix = 8 ∨ ix = 9 ∨ ix = 10 ∨ ix = 11 := by omega
          · refine FrontStep.of [] _ rfl (by kernel_rfl) ?_
            intro vs LL wq hLL hC hf
            simp only [putL, List.foldl_nil]
            go_wp2_with fail
            first | exact Below.refl _ _ | exact ⟨Below.refl _ _, by omega⟩
          · refine FrontStep.of [0] _ rfl (by kernel_rfl) ?_
            intro vs LL wq hLL hC hf
            simp only [putL, List.foldl_nil, List.foldl_cons, List.getElem?_cons_zero]
            have e0 : vs 0 = _ := hf 0 (by simp)
            rw [e0]
            have g0 := cell_under d2 hC
            go_wp2_with fail
            first | exact Below.refl _ _ | exact ⟨Below.refl _ _, by omega⟩
          · refine FrontStep.of [] _ rfl (by kernel_rfl) ?_
            intro vs LL wq hLL hC hf
            simp only [putL, List.foldl_nil]
            go_wp2_with fail
            first | exact Below.refl _ _ | exact ⟨Below.refl _ _, by omega⟩
          · refine FrontStep.of [1, 2] _ rfl (by kernel_rfl) ?_
            intro vs LL wq hLL hC hf
            simp only [putL, List.foldl_nil, List.foldl_cons, List.getElem?_cons_zero, List.getElem?_cons_succ]
            have e1 : vs 1 = _ := hf 1 (by simp)
            rw [e1]
            have e2 : vs 2 = _ := hf 2 (by simp)
            rw [e2]
            go_wp2_with fail
            first | exact Below.refl _ _ | exact ⟨Below.refl _ _, by omega⟩
          · refine FrontStep.of [3] _ rfl (by kernel_rfl) ?_
            intro vs LL wq hLL hC hf
            simp only [putL, List.foldl_nil, List.foldl_cons, List.getElem?_cons_zero, List.getElem?_cons_succ]
            have e3 : vs 3 = _ := hf 3 (by simp)
            rw [e3]
            go_wp2_with fail
            first | exact Below.refl _ _ | exact ⟨Below.refl _ _, by omega⟩
          · refine FrontStep.of [4] _ rfl (by kernel_rfl) ?_
            intro vs LL wq hLL hC hf
            simp only [putL, List.foldl_nil, List.foldl_cons, List.getElem?_cons_zero, List.getElem?_cons_succ]
            have e4 : vs 4 = _ := hf 4 (by simp)
            rw [e4]
            have g0 := cell_under d1 hC
            go_wp2_with fail
            first | exact Below.refl _ _ | exact ⟨Below.refl _ _, by omega⟩
          · refine FrontStep.of [5] _ rfl (by kernel_rfl) ?_
            intro vs LL wq hLL hC hf
            simp only [putL, List.foldl_nil, List.foldl_cons, List.getElem?_cons_zero, List.getElem?_cons_succ]
            have e5 : vs 5 = _ := hf 5 (by simp)
            rw [e5]
            go_wp2_with fail
            first | exact Below.refl _ _ | exact ⟨Below.refl _ _, by omega⟩
          · refine FrontStep.of [] _ rfl (by kernel_rfl) ?_
            intro vs LL wq hLL hC hf
            simp only [putL, List.foldl_nil]
            go_wp2_with fail
            first | exact Below.refl _ _ | exact ⟨Below.refl _ _, by omega⟩
          · refine FrontStep.of [7] _ rfl (by kernel_rfl) ?_
            intro vs LL wq hLL hC hf
            simp only [putL, List.foldl_nil, List.foldl_cons, List.getElem?_cons_zero, List.getElem?_cons_succ]
            have e7 : vs 7 = _ := hf 7 (by simp)
            rw [e7]
            have g0 := cell_under d4 hC
            go_wp2_with fail
            first | exact Below.refl _ _ | exact ⟨Below.refl _ _, by omega⟩
          · refine FrontStep.of [8] _ rfl (by kernel_rfl) ?_
            intro vs LL wq hLL hC hf
            simp only [putL, List.foldl_nil, List.foldl_cons, List.getElem?_cons_zero, List.getElem?_cons_succ]
            have e8 : vs 8 = _ := hf 8 (by simp)
            rw [e8]
            go_wp2_with fail
            first | exact Below.refl _ _ | exact ⟨Below.refl _ _, by omega⟩
          · refine FrontStep.of [6, 9] _ rfl (by kernel_rfl) ?_
            intro vs LL wq hLL hC hf
            simp only [putL, List.foldl_nil, List.foldl_cons, List.getElem?_cons_zero, List.getElem?_cons_succ]
            have e6 : vs 6 = _ := hf 6 (by simp)
            rw [e6]
            have e9 : vs 9 = _ := hf 9 (by simp)
            rw [e9]
            rcases unhide hmn with ⟨hq, hz⟩ | ⟨hq, hz⟩
            · have hz0 := hz
              clear hz
              go_wp2_with fail
              first | exact Below.refl _ _ | exact hC | exact ⟨hC, Below.refl _ _⟩ | exact ⟨hC, Below.refl _ _, by omega⟩ | exact ⟨Below.refl _ _, by omega⟩ | trace_state
            · have hz0 := hz
              clear hz
              go_wp2_with fail
              first | exact Below.refl _ _ | exact hC | exact ⟨hC, Below.refl _ _⟩ | exact ⟨hC, Below.refl _ _, by omega⟩ | exact ⟨Below.refl _ _, by omega⟩ | trace_state
          · refine FrontStep.of [10] _ rfl (by kernel_rfl) ?_
            intro vs LL wq hLL hC hf
            simp only [putL, List.foldl_nil, List.foldl_cons, List.getElem?_cons_zero, List.getElem?_cons_succ]
            have e10 : vs 10 = _ := hf 10 (by simp)
            rw [e10]
            rcases unhide hmx with ⟨hq, hz⟩ | ⟨hq, hz⟩
            · have hz0 := hz
              clear hz
              go_wp2_with fail
              first | exact Below.refl _ _ | exact hC | exact ⟨hC, Below.refl _ _⟩ | exact ⟨hC, Below.refl _ _, by omega⟩ | exact ⟨Below.refl _ _, by omega⟩ | trace_state
            · have hz0 := hz
              clear hz
              go_wp2_with fail
              first | exact Below.refl _ _ | exact hC | exact ⟨hC, Below.refl _ _⟩ | exact ⟨hC, Below.refl _ _, by omega⟩ | exact ⟨Below.refl _ _, by omega⟩ | trace_state
        · intro vs LL wq hLL hC hf
          have e11 : vs 11 = _ := hf 11 (by omega)
          rw [putSome_all]
          simp only [putL, List.range, List.range.loop, List.foldl_nil, List.foldl_cons, List.getElem?_cons_zero, List.getElem?_cons_succ, List.drop_succ_cons, List.drop_zero]
          rw [e11]
          have hw7 := hide ((unhide hw6).trans (hC.mono (unhide hw6).size))
          clear e11 hf hLL hC
          go_simp
          go_wp2_with fail
          go_meet
          exact ⟨by first | rfl | rw [unhide hO1], by first | rfl | rw [unhide hN1], unhide hw7⟩
      · have t1 : ¬ (0 : Int) ≤ K := hK0
        have hO1 : y0 = O := by rw [← unhide hO]; unfold decO; rw [unhide hKd, if_neg hK0, getD_some (unhide hy0)]
        have hN1 : 1 = N := by rw [← unhide hN]; unfold decN; rw [unhide hKd, if_neg hK0]
        replace hO1 := hide hO1; replace hN1 := hide hN1
        go_wp2_with fail
        go_meet
        exact ⟨by rw [unhide hO1], by rw [← unhide hN1]; rfl, unhide hw6⟩
    case rest =>
      obtain ⟨rfl, rfl, hw7⟩ := hcut
      obtain ⟨w7, rfl⟩ : ∃ W : World, W = wc := ⟨_, rfl⟩
      have d3 : w7.cell? ⟨b3, 0, none⟩ = some (.slice a1 n1 c1) := cell_under ((cell_of_row _ _ 0 _ _ _ (unhide k3)).trans rfl) hw7
      have d4 : w7.cell? ⟨b3, 1, none⟩ = some (.slice a2 n2 c2) := cell_under ((cell_of_row _ _ 1 _ _ _ (unhide k3)).trans rfl) hw7
      have h17 := hide ((unhide h15).under hw7)
      have h27 := hide (((unhide h25).under hw7).take (k := N) (unhide hNp).2)
      have h2s7 := hide ((unhide h2s).same (fun b hb => hw7.block b (unhide hS5 b hb)))
      have hS7 : Hid (∀ b, S b → b < w7.heap.size) := hide (fun b hb => Nat.lt_of_lt_of_le (unhide hS5 b hb) hw7.size)
      have hzs : Hid (V5.heap.size ≤ w7.heap.size) := hide hw7.size
      have k57 := hide (kept' hw7 (unhide k5))
      have hw7 := hide hw7
      have hNb := unhide hNp
      have j1 : (0 : Int) ≤ (N : Int) := by omega
      have j2 : (N : Int) ≤ (c2 : Int) := by omega
      have j3 : (N : Int) ≤ (n2 : Int) := by omega
      clear hw6 d2 d4c cy6
      go_upto_region 6 with fail
      refine wp_region_frontG 7 (fun _ _ w' => Below w7.heap.size w7 w') (fun wa wb => Below wa.heap.size wa wb)
        (fun ix v w' => match ix with
          | 0 => v = .pointer (some ⟨b3, 0, none⟩)
          | 1 => v = .slice a1 n1 c1
          | 2 => v = .pointer (some ⟨b3, 1, none⟩)
          | 3 => v = .slice a2 n2 c2
          | 4 => v = .int .i64 (N : Int)
          | 5 => v = .slice a2 N c2
          | 6 => ∃ a c, v = .slice a (n1 + N) c ∧ n1 + N ≤ c ∧ c ≤ maxLen ∧ Lst Enc.int w' (fun b => V5.heap.size ≤ b ∧ b < w'.heap.size) a (n1 + N) (s.1 ++ s.2.take N)
          | _ => True) (by rfl) (by kernel_rfl) ?_ ?_ ?_ ?_
      · exact (Below.refl _ _).drew
      · intro wa wb hR ix v hv
        match ix, hv with
        | 0, h => exact h
        | 1, h => exact h
        | 2, h => exact h
        | 3, h => exact h
        | 4, h => exact h
        | 5, h => exact h
        | 6, h => obtain ⟨a, c, h1, h3, h4, h2⟩ := h; exact ⟨a, c, h1, h3, h4, (h2.same (fun b hb => hR.block b hb.2)).wide (fun b hb => ⟨hb.1, Nat.lt_of_lt_of_le hb.2 hR.size⟩)⟩
        | _ + 7, _ => trivial
      · intro ix hix
        obtain rfl | rfl | rfl | rfl | rfl | rfl | rfl : ix = 0 ∨ ix = 1 ∨ ix = 2 ∨ ix = 3 ∨ ix = 4 ∨ ix = 5 ∨ ix = 6 := by omega
        · refine FrontStep.of [] _ rfl (by kernel_rfl) ?_
          intro vs LL wq hLL hC hf
          simp only [putL, List.foldl_nil]
          go_wp2_with fail
          first | exact Below.refl _ _ | exact ⟨Below.refl _ _, by omega⟩
        · refine FrontStep.of [0] _ rfl (by kernel_rfl) ?_
          intro vs LL wq hLL hC hf
          simp only [putL, List.foldl_nil, List.foldl_cons, List.getElem?_cons_zero]
          have e0 : vs 0 = _ := hf 0 (by simp)
          rw [e0]
          have g0 := cell_under d3 hC
          go_wp2_with fail
          first | exact Below.refl _ _ | exact ⟨Below.refl _ _, by omega⟩
        · refine FrontStep.of [] _ rfl (by kernel_rfl) ?_
          intro vs LL wq hLL hC hf
          simp only [putL, List.foldl_nil]
          go_wp2_with fail
          first | exact Below.refl _ _ | exact ⟨Below.refl _ _, by omega⟩
        · refine FrontStep.of [2] _ rfl (by kernel_rfl) ?_
          intro vs LL wq hLL hC hf
          simp only [putL, List.foldl_nil, List.foldl_cons, List.getElem?_cons_zero, List.getElem?_cons_succ]
          have e2 : vs 2 = _ := hf 2 (by simp)
          rw [e2]
          have g0 := cell_under d4 hC
          go_wp2_with fail
          first | exact Below.refl _ _ | exact ⟨Below.refl _ _, by omega⟩
        · refine FrontStep.of [] _ rfl (by kernel_rfl) ?_
          intro vs LL wq hLL hC hf
          simp only [putL, List.foldl_nil]
          go_wp2_with fail
          first | exact Below.refl _ _ | exact ⟨Below.refl _ _, by omega⟩
        · refine FrontStep.of [3, 4] _ rfl (by kernel_rfl) ?_
          intro vs LL wq hLL hC hf
          simp only [putL, List.foldl_nil, List.foldl_cons, List.getElem?_cons_zero, List.getElem?_cons_succ]
          have e3 : vs 3 = _ := hf 3 (by simp)
          rw [e3]
          have e4 : vs 4 = _ := hf 4 (by simp)
          rw [e4]
          go_wp2_with fail
          first | exact Below.refl _ _ | exact ⟨Below.refl _ _, by omega⟩
        · refine FrontStep.of [1, 5] _ rfl (by kernel_rfl) ?_
          intro vs LL wq hLL hC hf
          simp only [putL, List.foldl_nil, List.foldl_cons, List.getElem?_cons_zero, List.getElem?_cons_succ]
          have e1 : vs 1 = _ := hf 1 (by simp)
          rw [e1]
          have e5 : vs 5 = _ := hf 5 (by simp)
          rw [e5]
          have hj := hide (join_any a1 n1 c1 s.1 a2 N c2 (s.2.take N) wq ((unhide h17).under hC) ((unhide h27).under hC) (by omega) (by omega))
          go_wp2_with fail
          refine (unhide hj).mono ?_
          rintro e wz ⟨a0, c0, rfl, hq1, hq2, hl0, hbz⟩
          clear hj
          have hsz := Nat.le_trans (unhide hzs) hC.size
          have hl1 := hl0.wide (S' := fun b => V5.heap.size ≤ b ∧ b < wz.heap.size) (fun b hb => ⟨Nat.le_trans hsz hb.1, hb.2⟩)
          replace hl1 := hide hl1; replace hbz := hide hbz; clear hl0
          go_wp2_with fail
          first | exact ⟨hC.trans ((unhide hbz).mono hC.size), unhide hbz, a0, c0, rfl, hq1, hq2, unhide hl1⟩ | exact ⟨hC.trans ((unhide hbz).mono hC.size), unhide hbz, a0, c0, ⟨rfl, rfl⟩, hq1, hq2, unhide hl1⟩ | exact ⟨hC.trans ((unhide hbz).mono hC.size), unhide hbz, hq1, hq2, unhide hl1⟩ | trace_state
      · intro vs LL wq hLL hC hf
        obtain ⟨a9, c9, e9, hq1, hq2, hl9⟩ := hf 6 (by omega)
        rw [putSome_all]
        simp only [putL, List.range, List.range.loop, List.foldl_nil, List.foldl_cons, List.getElem?_cons_zero, List.getElem?_cons_succ, List.drop_succ_cons, List.drop_zero]
        rw [e9]
        have hw8 := hide ((unhide hw7).trans (hC.mono (unhide hw7).size))
        have d4q := cell_under d4 hC
        have h28 := (unhide h2s7).same (fun b hb => hC.block b (unhide hS7 b hb))
        obtain ⟨w8, rfl⟩ : ∃ W : World, W = wq := ⟨_, rfl⟩
        have hs8 := hC.size
        have k58 := kept' hC (unhide k57)
        clear e9 hf hLL hC d3 d4 h2s7 k57 h17 h27
        obtain ⟨L, hL⟩ : ∃ L, n1 + N = L := ⟨_, rfl⟩
        rw [hL] at hq1 hl9 ⊢
        obtain ⟨M, hMM⟩ : ∃ M, L - 2 = M := ⟨_, rfl⟩
        have hM : Hid (((0 : Int) < (L : Int) - 2 ∧ (M : Int) = (L : Int) - 2) ∨ (¬ (0 : Int) < (L : Int) - 2 ∧ M = 0)) := hide (by omega)
        have hML : M ≤ L := by omega
        have hLb : L ≤ 600000 := by omega
        have hlM := lst_drop (k := M) hl9 hML hq1
        have h2N := lst_drop (k := N) h28 hNb.2 q2
        obtain ⟨aM, j7⟩ : ∃ a, (if c9 = M then a9 else a9.map (·.add M)) = a := ⟨_, rfl⟩
        obtain ⟨aN, j8⟩ : ∃ a, (if c2 = N then a2 else a2.map (·.add N)) = a := ⟨_, rfl⟩
        rw [j7] at hlM
        rw [j8] at h2N
        have i5 : (M : Int) ≤ (L : Int) := by omega
        have i6 : IntKind.i64.wrap ((L : Int) - 2) = (L : Int) - 2 := IntWalk.i64_in _ (by omega)
        have i7 : wrap64 ((L : Int) - 2) = (L : Int) - 2 := IntWalk.wrap64_in _ (by omega)
        have hl2 : (decS x s).1 = (s.1 ++ s.2.take N).drop M := by unfold decS last2; rw [unhide hN, List.length_append, List.length_take, unhide l1, unhide l2, Nat.min_eq_left hNb.2, hL, hMM]
        have hl3 : (decS x s).2 = s.2.drop N := by unfold decS; rw [unhide hN]
        clear hl9 h28 hMM
        replace hlM := hide hlM; replace h28 := hide h2N; replace k58 := hide k58; replace hl2 := hide hl2; replace hl3 := hide hl3
        clear h2N
        replace hL := hide hL
        go_simp
        go_upto_region 7 with fail
        refine wp_region_frontG 13 (fun _ _ w' => Below w8.heap.size w8 w') (fun wa wb => Below wa.heap.size wa wb)
          (fun ix v w' => match ix with
            | 0 => v = .int .i64 O
            | 1 => v = .slice a9 L c9
            | 2 => v = .slice a9 L c9
            | 3 => v = .int .i64 (L : Int)
            | 4 => v = .int .i64 ((L : Int) - 2)
            | 5 => v = .int .i64 (M : Int)
            | 6 => v = .slice aM (L - M) (c9 - M)
            | 7 => v = .pointer (some ⟨b3, 1, none⟩)
            | 8 => v = .slice a2 n2 c2
            | 9 => v = .int .i64 (N : Int)
            | 10 => v = .slice aN (n2 - N) (c2 - N)
            | 11 => v = .agg #[.slice aM (L - M) (c9 - M), .slice aN (n2 - N) (c2 - N)]
            | 12 => v = .int .i64 O
            | _ => True) (by rfl) (by kernel_rfl) ?_ ?_ ?_ ?_
        · exact (Below.refl _ _).drew
        · intro wa wb hR ix v hv
          match ix, hv with
          | 0, h => exact h
          | 1, h => exact h
          | 2, h => exact h
          | 3, h => exact h
          | 4, h => exact h
          | 5, h => exact h
          | 6, h => exact h
          | 7, h => exact h
          | 8, h => exact h
          | 9, h => exact h
          | 10, h => exact h
          | 11, h => exact h
          | 12, h => exact h
          | _ + 13, _ => trivial
        · intro ix hix
          obtain rfl | rfl | rfl | rfl | rfl | rfl | rfl | rfl | rfl | rfl | rfl | rfl | rfl : ix = 0 ∨ ix = 1 ∨ ix = 2 ∨ ix = 3 ∨ ix = 4 ∨ ix = 5 ∨ ix = 6 ∨ ix = 7 ∨ ix = 8 ∨ ix = 9 ∨ ix = 10 ∨ ix = 11 ∨ ix = 12 := by omega
          · refine FrontStep.of [] _ rfl (by kernel_rfl) ?_
            intro vs LL wq hLL hC hf
            simp only [putL, List.foldl_nil]
            go_wp2_with fail
            first | exact Below.refl _ _ | exact ⟨Below.refl _ _, by omega⟩
          · refine FrontStep.of [] _ rfl (by kernel_rfl) ?_
            intro vs LL wq hLL hC hf
            simp only [putL, List.foldl_nil]
            go_wp2_with fail
            first | exact Below.refl _ _ | exact ⟨Below.refl _ _, by omega⟩
          · refine FrontStep.of [] _ rfl (by kernel_rfl) ?_
            intro vs LL wq hLL hC hf
            simp only [putL, List.foldl_nil]
            go_wp2_with fail
            first | exact Below.refl _ _ | exact ⟨Below.refl _ _, by omega⟩
          · refine FrontStep.of [2] _ rfl (by kernel_rfl) ?_
            intro vs LL wq hLL hC hf
            simp only [putL, List.foldl_nil, List.foldl_cons, List.getElem?_cons_zero, List.getElem?_cons_succ]
            have e2 : vs 2 = _ := hf 2 (by simp)
            rw [e2]
            go_wp2_with fail
            first | exact Below.refl _ _ | exact ⟨Below.refl _ _, by omega⟩
          · refine FrontStep.of [3] _ rfl (by kernel_rfl) ?_
            intro vs LL wq hLL hC hf
            simp only [putL, List.foldl_nil, List.foldl_cons, List.getElem?_cons_zero, List.getElem?_cons_succ]
            have e3 : vs 3 = _ := hf 3 (by simp)
            rw [e3]
            go_wp2_with fail
            first | exact Below.refl _ _ | exact ⟨Below.refl _ _, by omega⟩
          · refine FrontStep.of [4] _ rfl (by kernel_rfl) ?_
            intro vs LL wq hLL hC hf
            simp only [putL, List.foldl_nil, List.foldl_cons, List.getElem?_cons_zero, List.getElem?_cons_succ]
            have e4 : vs 4 = _ := hf 4 (by simp)
            rw [e4]
            rcases unhide hM with ⟨hq, hz⟩ | ⟨hq, hz⟩
            · have hz0 := hz
              clear hz
              go_wp2_with fail
              first | exact Below.refl _ _ | exact hC | exact ⟨hC, Below.refl _ _⟩ | exact ⟨hC, Below.refl _ _, by omega⟩ | exact ⟨Below.refl _ _, by omega⟩ | trace_state
            · have hz0 := hz
              clear hz
              go_wp2_with fail
              first | exact Below.refl _ _ | exact hC | exact ⟨hC, Below.refl _ _⟩ | exact ⟨hC, Below.refl _ _, by omega⟩ | exact ⟨Below.refl _ _, by omega⟩ | trace_state
          · refine FrontStep.of [1, 5] _ rfl (by kernel_rfl) ?_
            intro vs LL wq hLL hC hf
            simp only [putL, List.foldl_nil, List.foldl_cons, List.getElem?_cons_zero, List.getElem?_cons_succ]
            have e1 : vs 1 = _ := hf 1 (by simp)
            rw [e1]
            have e5 : vs 5 = _ := hf 5 (by simp)
            rw [e5]
            go_wp2_with fail
            first | exact Below.refl _ _ | exact ⟨Below.refl _ _, by omega⟩
          · refine FrontStep.of [] _ rfl (by kernel_rfl) ?_
            intro vs LL wq hLL hC hf
            simp only [putL, List.foldl_nil]
            go_wp2_with fail
            first | exact Below.refl _ _ | exact ⟨Below.refl _ _, by omega⟩
          · refine FrontStep.of [7] _ rfl (by kernel_rfl) ?_
            intro vs LL wq hLL hC hf
            simp only [putL, List.foldl_nil, List.foldl_cons, List.getElem?_cons_zero, List.getElem?_cons_succ]
            have e7 : vs 7 = _ := hf 7 (by simp)
            rw [e7]
            have g0 := cell_under d4q hC
            go_wp2_with fail
            first | exact Below.refl _ _ | exact ⟨Below.refl _ _, by omega⟩
          · refine FrontStep.of [] _ rfl (by kernel_rfl) ?_
            intro vs LL wq hLL hC hf
            simp only [putL, List.foldl_nil]
            go_wp2_with fail
            first | exact Below.refl _ _ | exact ⟨Below.refl _ _, by omega⟩
          · refine FrontStep.of [8, 9] _ rfl (by kernel_rfl) ?_
            intro vs LL wq hLL hC hf
            simp only [putL, List.foldl_nil, List.foldl_cons, List.getElem?_cons_zero, List.getElem?_cons_succ]
            have e8 : vs 8 = _ := hf 8 (by simp)
            rw [e8]
            have e9 : vs 9 = _ := hf 9 (by simp)
            rw [e9]
            go_wp2_with fail
            first | exact Below.refl _ _ | exact ⟨Below.refl _ _, by omega⟩
          · refine FrontStep.of [6, 10] _ rfl (by kernel_rfl) ?_
            intro vs LL wq hLL hC hf
            simp only [putL, List.foldl_nil, List.foldl_cons, List.getElem?_cons_zero, List.getElem?_cons_succ]
            have e6 : vs 6 = _ := hf 6 (by simp)
            rw [e6]
            have e10 : vs 10 = _ := hf 10 (by simp)
            rw [e10]
            go_wp2_with fail
            first | exact Below.refl _ _ | exact ⟨Below.refl _ _, by omega⟩
          · refine FrontStep.of [0] _ rfl (by kernel_rfl) ?_
            intro vs LL wq hLL hC hf
            simp only [putL, List.foldl_nil, List.foldl_cons, List.getElem?_cons_zero]
            have e0 : vs 0 = _ := hf 0 (by simp)
            rw [e0]
            go_wp2_with fail
            first | exact Below.refl _ _ | exact ⟨Below.refl _ _, by omega⟩
        · intro vs LL wq hLL hC hf
          have e12 : vs 12 = _ := hf 12 (by omega)
          have e11 : vs 11 = _ := hf 11 (by omega)
          rw [putSome_all]
          simp only [putL, List.range, List.range.loop, List.foldl_nil, List.foldl_cons, List.getElem?_cons_zero, List.getElem?_cons_succ, List.drop_succ_cons, List.drop_zero]
          rw [e11, e12]
          have hw9 := (unhide hw8).trans (hC.mono (unhide hw8).size)
          have hl10 := (unhide hlM).same (fun b hb => hC.block b hb.2)
          have h29 := (unhide h28).same (fun b hb => hC.block b (Nat.lt_of_lt_of_le (unhide hS7 b hb) hs8))
          have k59 := kept' hC (unhide k58)
          clear e12 e11 hf hLL d4q hlM h28 k58
          obtain ⟨z0, z1, z2, z3⟩ := cells2 k59
          obtain ⟨U, hU⟩ : ∃ U, Value.slice aM (L - M) (c9 - M) = U := ⟨_, rfl⟩
          obtain ⟨T, hT⟩ : ∃ T, Value.slice aN (n2 - N) (c2 - N) = T := ⟨_, rfl⟩
          have z4 : (wq.setCell ⟨b5, 0, none⟩ U).cell? ⟨b5, 1, none⟩ = some nilS := (cell_of_row _ _ 1 _ _ _ (heap_set (off := 0) k59 U)).trans rfl
          have z5 : (wq.setCell ⟨b5, 0, none⟩ U).frozen? ⟨b5, 1, none⟩ = false := by simp [World.frozen?, heap_set (off := 0) k59 U]
          have hr6 := set2 k59 U T
          have hbq := (unhide hz).trans (hw9.mono (unhide hz).size)
          have hb6 := (hbq.setCell (p := ⟨b5, 0, none⟩) (unhide hw5) U).setCell (p := ⟨b5, 1, none⟩) (unhide hw5) T
          have hsz : ((wq.setCell ⟨b5, 0, none⟩ U).setCell ⟨b5, 1, none⟩ T).heap.size = wq.heap.size := by rw [World.size_setCell, World.size_setCell]
          have hset : ∀ b, b ≠ b5 → ((wq.setCell ⟨b5, 0, none⟩ U).setCell ⟨b5, 1, none⟩ T).heap[b]? = wq.heap[b]? := fun b hb => (heap_set_ne hb).trans (heap_set_ne hb)
          have hb5 := (Array.getElem?_eq_some_iff.1 (unhide k5)).1
          have hz' := (unhide hz).size
          have hlf : Lst Enc.int ((wq.setCell ⟨b5, 0, none⟩ U).setCell ⟨b5, 1, none⟩ T) (fun b => w.heap.size ≤ b ∧ b < ((wq.setCell ⟨b5, 0, none⟩ U).setCell ⟨b5, 1, none⟩ T).heap.size) aM (L - M) (decS x s).1 := by rw [unhide hl2, hsz]; exact ((hl10.same (fun b hb => hset b (by omega))).wide (fun b hb => ⟨Nat.le_trans hz' hb.1, Nat.lt_of_lt_of_le hb.2 hC.size⟩))
          have hlg : Lst Enc.int ((wq.setCell ⟨b5, 0, none⟩ U).setCell ⟨b5, 1, none⟩ T) S aN (n2 - N) (decS x s).2 := by rw [unhide hl3]; exact h29.same (fun b hb => hset b (by have := unhide hS b hb; have := unhide hw5; omega))
          obtain ⟨W6, hW6⟩ : ∃ W, (wq.setCell ⟨b5, 0, none⟩ U).setCell ⟨b5, 1, none⟩ T = W := ⟨_, rfl⟩
          rw [hW6] at hr6 hb6 hlf hlg
          clear hl10 h29 hw9 hset hsz hbq hb5 hz' hC k59
          replace hW6 := hide hW6; replace hb6 := hide hb6; replace hlf := hide hlf; replace hlg := hide hlg; replace hU := hide hU; replace hT := hide hT
          have r0 : W6.cell? ⟨b5, 0, none⟩ = some U := (cells2 hr6).1
          have r1 : W6.cell? ⟨b5, 1, none⟩ = some T := (cells2 hr6).2.1
          rw [← unhide hU] at z4 z5 r0
          rw [← unhide hT] at r1
          rw [← unhide hU, ← unhide hT] at hW6
          go_simp
          go_wp2_with fail
          rw [unhide hW6]
          refine bodyPost_ret (v := .tuple #[.int .i64 O, .agg #[.slice aM (L - M) (c9 - M), .slice aN (n2 - N) (c2 - N)]]) (by simp [results, Try.results46, go_sem, r0, r1]) rfl ?_
          exact ⟨aM, _, _, aN, _, _, by rw [unhide hO], ⟨by omega, by omega, unhide hlf⟩, ⟨by omega, by omega, unhide hlg⟩, unhide hb6⟩
end Go.Proofs.Ytfbgbbbfpkpfkaa
-- @@XTs3
/- The reference's streams: a state in memory. -/
namespace Go.Proofs.Ytfbgbbbfpkpfkaa
open Go.RowKit
/-- the cells of one stage -/
def RC (w : World) (S : Nat → Prop) (vs : List Value) (k : Nat) (s : Stg) : Prop :=
  ∃ a1 n1 c1 a2 n2 c2, vs[k * 2]? = some (.slice a1 n1 c1) ∧ vs[k * 2 + 1]? = some (.slice a2 n2 c2) ∧ (n1 ≤ c1 ∧ c1 ≤ maxLen ∧ Lst Enc.int w S a1 n1 s.1) ∧ (n2 ≤ c2 ∧ c2 ≤ maxLen ∧ Lst Enc.int w S a2 n2 s.2)
theorem RC.same {w w' : World} {S S' : Nat → Prop} {vs : List Value} {k : Nat} {s : Stg} (h : RC w S vs k s) (hk : ∀ b, S b → w'.heap[b]? = w.heap[b]?) (hS : ∀ b, S b → S' b) : RC w' S' vs k s := by
  obtain ⟨a1, n1, c1, a2, n2, c2, e1, e2, ⟨p1, p2, p3⟩, ⟨q1, q2, q3⟩⟩ := h
  exact ⟨a1, n1, c1, a2, n2, c2, e1, e2, ⟨p1, p2, (p3.same hk).wide hS⟩, ⟨q1, q2, (q3.same hk).wide hS⟩⟩
/-- a state: a row of stages of its own -/
def RS (w : World) (B : Nat) (v : Value) (S : Nat → Prop) (n : Nat) (sts : List Stg) : Prop :=
  sts.length = n ∧ ∃ vs, w.ownsRow B 33 2 v n vs ∧ ∀ k s, sts[k]? = some s → RC w S vs k s
theorem RS.same {w w' : World} {B n : Nat} {v : Value} {S S' : Nat → Prop} {sts : List Stg} (h : RS w B v S n sts) (hv : ∀ b, v.ownBlock = some b → w'.heap[b]? = w.heap[b]?) (hk : ∀ b, S b → w'.heap[b]? = w.heap[b]?) (hS : ∀ b, S b → S' b) : RS w' B v S' n sts := by
  obtain ⟨h1, vs, h2, h3⟩ := h
  exact ⟨h1, vs, own_same h2 hv, fun k s hs => (h3 k s hs).same hk hS⟩
theorem set_other {vs : List Value} {i j : Nat} {u : Value} (h : i ≠ j) : (vs.set i u)[j]? = vs[j]? := List.getElem?_set_ne h
theorem RS.stage {w : World} {B n c : Nat} {a : Option Addr} {S : Nat → Prop} {pre ss : List Stg} {s : Stg} (h : RS w B (.slice a n c) S n (pre ++ s :: ss)) : ∃ g a1 n1 c1 a2 n2 c2, a = some ⟨g, 0, none⟩ ∧ B ≤ g ∧ g < w.heap.size ∧ pre.length < n ∧
    w.cell? ⟨g, pre.length * 2, none⟩ = some (.slice a1 n1 c1) ∧ w.cell? ⟨g, pre.length * 2 + 1, none⟩ = some (.slice a2 n2 c2) ∧ (n1 ≤ c1 ∧ c1 ≤ maxLen ∧ Lst Enc.int w S a1 n1 s.1) ∧ (n2 ≤ c2 ∧ c2 ≤ maxLen ∧ Lst Enc.int w S a2 n2 s.2) := by
  obtain ⟨h1, vs, h2, h3⟩ := h
  have hn : pre.length < n := by rw [← h1, List.length_append, List.length_cons]; omega
  have hg : ∃ g, a = some ⟨g, 0, none⟩ := by
    rcases h2.2 with ⟨e, h0⟩ | ⟨g, cap, cur, e, _⟩
    · omega
    · injection e with e1 _ _
      exact ⟨g, e1⟩
  obtain ⟨g, rfl⟩ := hg
  obtain ⟨a1, n1, c1, a2, n2, c2, e1, e2, p, q⟩ := h3 pre.length s (by simp)
  have hl := h2.lt g rfl
  exact ⟨g, a1, n1, c1, a2, n2, c2, rfl, hl.1, hl.2, hn, by rw [h2.cellAt _ (by omega)]; exact e1, by rw [h2.cellAt _ (by omega)]; exact e2, p, q⟩
theorem mid_get {pre ss : List Stg} {s t x : Stg} {k : Nat} (h : (pre ++ t :: ss)[k]? = some x) : (k = pre.length ∧ x = t) ∨ (k ≠ pre.length ∧ (pre ++ s :: ss)[k]? = some x) := by
  rcases Nat.lt_trichotomy k pre.length with hk | hk | hk
  · rw [List.getElem?_append_left hk] at h
    exact .inr ⟨by omega, by rw [List.getElem?_append_left hk]; exact h⟩
  · subst hk
    rw [List.getElem?_append_right (Nat.le_refl _), Nat.sub_self] at h
    exact .inl ⟨rfl, (Option.some.inj h).symm⟩
  · obtain ⟨d, rfl⟩ : ∃ d, k = pre.length + (d + 1) := ⟨k - pre.length - 1, by omega⟩
    refine .inr ⟨by omega, ?_⟩
    rw [List.getElem?_append_right (by omega), Nat.add_sub_cancel_left] at h ⊢
    exact h
/-- the second list of a stage is written -/
theorem RS.setW {w : World} {B n c g : Nat} {S : Nat → Prop} {pre ss : List Stg} {s : Stg} (h : RS w B (.slice (some ⟨g, 0, none⟩) n c) S n (pre ++ s :: ss)) (hg : ¬ S g) {a : Option Addr} {m q : Nat} {l : List Int} (h1 : m ≤ q) (h2 : q ≤ maxLen) (hl : Lst Enc.int w S a m l) :
    w.frozen? ⟨g, pre.length * 2 + 1, none⟩ = false ∧ RS (w.setCell ⟨g, pre.length * 2 + 1, none⟩ (.slice a m q)) B (.slice (some ⟨g, 0, none⟩) n c) S n (pre ++ (s.1, l) :: ss) ∧ w.grownBy (w.setCell ⟨g, pre.length * 2 + 1, none⟩ (.slice a m q)) (some g) := by
  obtain ⟨e0, vs, e1, e2⟩ := h
  obtain ⟨r1, r2⟩ := e1.stored (pre.length * 2 + 1) (.slice a m q)
  have hsame : ∀ b, S b → (w.setCell ⟨g, pre.length * 2 + 1, none⟩ (.slice a m q)).heap[b]? = w.heap[b]? := fun b hb => heap_set_ne (fun e => hg (e ▸ hb))
  have hvl := e1.1
  rw [List.length_append, List.length_cons] at e0
  refine ⟨e1.frozenAt _, ⟨by rw [List.length_append, List.length_cons]; exact e0, _, r1, fun k x hx => ?_⟩, r2⟩
  rcases mid_get (s := s) hx with ⟨rfl, rfl⟩ | ⟨hne, hx⟩
  · obtain ⟨a1, n1, c1, a2, n2, c2, f1, f2, ⟨p1, p2, p3⟩, _⟩ := e2 pre.length s (by simp)
    exact ⟨a1, n1, c1, a, m, q, by rw [set_other (by omega)]; exact f1, by rw [List.getElem?_set_self (by omega)], ⟨p1, p2, p3.same hsame⟩, ⟨h1, h2, hl.same hsame⟩⟩
  · obtain ⟨a1, n1, c1, a2, n2, c2, f1, f2, ⟨p1, p2, p3⟩, ⟨q1, q2, q3⟩⟩ := e2 k x hx
    exact ⟨a1, n1, c1, a2, n2, c2, by rw [set_other (by omega)]; exact f1, by rw [set_other (by omega)]; exact f2, ⟨p1, p2, p3.same hsame⟩, ⟨q1, q2, q3.same hsame⟩⟩
/-- the first one is -/
theorem RS.setB {w : World} {B n c g : Nat} {S : Nat → Prop} {pre ss : List Stg} {s : Stg} (h : RS w B (.slice (some ⟨g, 0, none⟩) n c) S n (pre ++ s :: ss)) (hg : ¬ S g) {a : Option Addr} {m q : Nat} {l : List Int} (h1 : m ≤ q) (h2 : q ≤ maxLen) (hl : Lst Enc.int w S a m l) :
    w.frozen? ⟨g, pre.length * 2, none⟩ = false ∧ RS (w.setCell ⟨g, pre.length * 2, none⟩ (.slice a m q)) B (.slice (some ⟨g, 0, none⟩) n c) S n (pre ++ (l, s.2) :: ss) ∧ w.grownBy (w.setCell ⟨g, pre.length * 2, none⟩ (.slice a m q)) (some g) := by
  obtain ⟨e0, vs, e1, e2⟩ := h
  obtain ⟨r1, r2⟩ := e1.stored (pre.length * 2) (.slice a m q)
  have hsame : ∀ b, S b → (w.setCell ⟨g, pre.length * 2, none⟩ (.slice a m q)).heap[b]? = w.heap[b]? := fun b hb => heap_set_ne (fun e => hg (e ▸ hb))
  have hvl := e1.1
  rw [List.length_append, List.length_cons] at e0
  refine ⟨e1.frozenAt _, ⟨by rw [List.length_append, List.length_cons]; exact e0, _, r1, fun k x hx => ?_⟩, r2⟩
  rcases mid_get (s := s) hx with ⟨rfl, rfl⟩ | ⟨hne, hx⟩
  · obtain ⟨a1, n1, c1, a2, n2, c2, f1, f2, _, ⟨q1, q2, q3⟩⟩ := e2 pre.length s (by simp)
    exact ⟨a, m, q, a2, n2, c2, by rw [List.getElem?_set_self (by omega)], by rw [set_other (by omega)]; exact f2, ⟨h1, h2, hl.same hsame⟩, ⟨q1, q2, q3.same hsame⟩⟩
  · obtain ⟨a1, n1, c1, a2, n2, c2, f1, f2, ⟨p1, p2, p3⟩, ⟨q1, q2, q3⟩⟩ := e2 k x hx
    exact ⟨a1, n1, c1, a2, n2, c2, by rw [set_other (by omega)]; exact f1, by rw [set_other (by omega)]; exact f2, ⟨p1, p2, p3.same hsame⟩, ⟨q1, q2, q3.same hsame⟩⟩
/-- what take hands back -/
def TakeP (w : World) (B : Nat) (v : Value) (S : Nat → Prop) (n : Nat) (pre : List Stg) (r : List Stg × List Int) (e : Ending) (w' : World) : Prop :=
  ∃ a c, e = .returned (.tuple #[.agg #[v], .slice a r.2.length c]) ∧ r.2.length ≤ c ∧ c ≤ maxLen ∧ RS w' B v (fun b => S b ∨ (w.heap.size ≤ b ∧ b < w'.heap.size)) n (pre ++ r.1) ∧ Lst Enc.int w' (fun b => w.heap.size ≤ b ∧ b < w'.heap.size) a r.2.length r.2 ∧ w.grownBy w' v.ownBlock
/-- take, in its loop -/
structure TkI (w wr : World) (B : Nat) (v vo : Value) (S : Nat → Prop) (n b5 b8 : Nat) (sts : List Stg) (done : List Int) : Prop where
  rs : RS wr B v (fun b => (S b ∨ (w.heap.size ≤ b ∧ vo.ownBlock ≠ some b)) ∧ b < wr.heap.size) n sts
  out : wr.ownsRow w.heap.size 3 1 vo done.length (vints done)
  num : AllI done
  box5 : wr.heap[b5]? = some (.cells #[v] 29 (0, 0))
  box8 : b8 = b5 ∨ wr.heap[b8]? = some (.cells #[.slice none 0 0] 29 (0, 0))
  h5 : v.ownBlock ≠ some b5
  h8 : v.ownBlock ≠ some b8
  g : w.grownBy wr v.ownBlock
  vlt : ∀ b, v.ownBlock = some b → b < w.heap.size
  hS : ∀ b, S b → b < w.heap.size ∧ v.ownBlock ≠ some b
section
variable {w wr wz : World} {B n b5 b8 : Nat} {v vo vo' : Value} {S : Nat → Prop} {pre tt sts sts' : List Stg} {t : Stg} {done more : List Int}
theorem TkI.foot (h : TkI w wr B v vo S n b5 b8 sts done) : ∀ b, ((S b ∨ (w.heap.size ≤ b ∧ vo.ownBlock ≠ some b)) ∧ b < wr.heap.size) → b < wr.heap.size ∧ v.ownBlock ≠ some b := fun b hb =>
  ⟨hb.2, fun e => by
    rcases hb.1 with hs | hs
    · exact (h.hS b hs).2 e
    · have := h.vlt b e; omega⟩
theorem TkI.blk (h : TkI w wr B v vo S n b5 b8 sts done) {b : Nat} (hb : w.heap.size ≤ b) : v.ownBlock ≠ some b := fun e => by have := h.vlt b e; omega
/-- new blocks, and the row: what is not the results' row stays -/
theorem TkI.next (h : TkI w wr B v vo S n b5 b8 sts done) (hg : wr.grownBy wz v.ownBlock) (hr : RS wz B v (fun b => ((S b ∨ (w.heap.size ≤ b ∧ vo.ownBlock ≠ some b)) ∧ b < wr.heap.size) ∨ (wr.heap.size ≤ b ∧ b < wz.heap.size)) n sts') :
    TkI w wz B v vo S n b5 b8 sts' done := by
  refine ⟨hr.same (fun _ _ => rfl) (fun _ _ => rfl) (fun b hb => ?_), ?_, h.num, ?_, ?_, h.h5, h.h8, grown_trans h.g hg, h.vlt, h.hS⟩
  · have hs := hg.size
    rcases hb with hb | hb
    · exact ⟨hb.1, by omega⟩
    · refine ⟨.inr ⟨by have := h.g.size; omega, fun e => ?_⟩, hb.2⟩
      have := (h.out.lt b e).2
      omega
  · exact own_same h.out (fun b hb => hg.block b (h.out.lt b hb).2 (fun e => h.blk (h.out.lt b hb).1 e.symm))
  · exact (hg.block b5 (Array.getElem?_eq_some_iff.1 h.box5).1 (fun e => h.h5 e.symm)).trans h.box5
  · exact h.box8.imp id (fun k8 => (hg.block b8 (Array.getElem?_eq_some_iff.1 k8).1 (fun e => h.h8 e.symm)).trans k8)
theorem TkI.under (h : TkI w wr B v vo S n b5 b8 sts done) (hb : Below wr.heap.size wr wz) : TkI w wz B v vo S n b5 b8 sts done := by
  refine h.next (grown_of_below hb _) (h.rs.same (fun b hv => hb.block b ?_) (fun b hs => hb.block b hs.2) (fun b hs => .inl hs))
  have := h.vlt b hv
  have := h.g.size
  omega
theorem TkI.take (h : TkI w wr B v vo S n b5 b8 sts done) {r : List Stg × List Int} {e : Ending} (hr : TakeP wr B v (fun b => (S b ∨ (w.heap.size ≤ b ∧ vo.ownBlock ≠ some b)) ∧ b < wr.heap.size) n pre r e wz) :
    ∃ a c, e = .returned (.tuple #[.agg #[v], .slice a r.2.length c]) ∧ r.2.length ≤ c ∧ c ≤ maxLen ∧ Lst Enc.int wz (fun b => wr.heap.size ≤ b ∧ b < wz.heap.size) a r.2.length r.2 ∧ TkI w wz B v vo S n b5 b8 (pre ++ r.1) done := by
  obtain ⟨a, c, h1, h2, h3, h4, h5, h6⟩ := hr
  exact ⟨a, c, h1, h2, h3, h5, h.next h6 h4⟩
/-- the results grow -/
theorem TkI.app (h : TkI w wr B v vo S n b5 b8 sts done) (hrow : wz.ownsRow w.heap.size 3 1 vo' (done ++ more).length (vints (done ++ more))) (hg : wr.grownBy wz vo.ownBlock) (hb : vo'.ownBlock = vo.ownBlock ∨ vo'.ownBlock = some wr.heap.size) (hm : AllI more) : TkI w wz B v vo' S n b5 b8 sts (done ++ more) := by
  have hs := hg.size
  have hlo : ∀ g, vo.ownBlock = some g → w.heap.size ≤ g := fun g e => (h.out.lt g e).1
  refine ⟨h.rs.same (fun b hv => hg.block b (by have := h.vlt b hv; have := h.g.size; omega) (fun e => by have := h.vlt b hv; have := hlo b e.symm; omega)) (fun b hs' => hg.block b hs'.2 (fun e => ?_)) (fun b hs' => ⟨?_, by have := hs'.2; omega⟩), hrow, fun y hy => (List.mem_append.1 hy).elim (h.num y) (hm y), ?_, ?_, h.h5, h.h8, grown_own h.g hg hlo, h.vlt, h.hS⟩
  · rcases hs'.1 with hs' | hs'
    · have := (h.hS b hs').1; have := hlo b e.symm; omega
    · exact hs'.2 e.symm
  · rcases hs'.1 with hs1 | hs1
    · exact .inl hs1
    · refine .inr ⟨hs1.1, ?_⟩
      rcases hb with e | e
      · rw [e]; exact hs1.2
      · rw [e]; intro e2; injection e2 with e2; have := hs'.2; omega
  · exact (hg.block b5 (Array.getElem?_eq_some_iff.1 h.box5).1 (fun e => own_ne_blk h.out h.box5 (by decide) e.symm)).trans h.box5
  · exact h.box8.imp id (fun k8 => (hg.block b8 (Array.getElem?_eq_some_iff.1 k8).1 (fun e => own_ne_blk h.out k8 (by decide) e.symm)).trans k8)
theorem TkI.start (h : RS w B v S n sts) (hb : Below w.heap.size w wr) (h5 : wr.heap[b5]? = some (.cells #[v] 29 (0, 0))) (h8 : b8 = b5 ∨ wr.heap[b8]? = some (.cells #[.slice none 0 0] 29 (0, 0))) (l5 : v.ownBlock ≠ some b5) (l8 : v.ownBlock ≠ some b8) (hS : ∀ b, S b → b < w.heap.size ∧ v.ownBlock ≠ some b) :
    TkI w wr B v (.slice none 0 0) S n b5 b8 sts [] := by
  have hvl : ∀ b, v.ownBlock = some b → b < w.heap.size := fun b e => by
    obtain ⟨_, vs, h2, _⟩ := h
    exact (h2.lt b e).2
  exact ⟨h.same (fun b e => hb.block b (hvl b e)) (fun b e => hb.block b (hS b e).1) (fun b e => ⟨.inl e, Nat.lt_of_lt_of_le (hS b e).1 hb.size⟩), World.ownsRow_nil _ _ _ _, fun y hy => (by cases hy), h5, h8, l5, l8, grown_of_below hb _, hvl, hS⟩
theorem TkI.setW {g c : Nat} (h : TkI w wr B (.slice (some ⟨g, 0, none⟩) n c) vo S n b5 b8 (pre ++ t :: tt) done) {a : Option Addr} {m q : Nat} {l : List Int} (h1 : m ≤ q) (h2 : q ≤ maxLen) (hl : Lst Enc.int wr (fun b => (S b ∨ (w.heap.size ≤ b ∧ vo.ownBlock ≠ some b)) ∧ b < wr.heap.size) a m l) :
    wr.frozen? ⟨g, pre.length * 2 + 1, none⟩ = false ∧ TkI w (wr.setCell ⟨g, pre.length * 2 + 1, none⟩ (.slice a m q)) B (.slice (some ⟨g, 0, none⟩) n c) vo S n b5 b8 (pre ++ (t.1, l) :: tt) done := by
  obtain ⟨r1, r2, r3⟩ := h.rs.setW (fun e => (h.foot g e).2 rfl) h1 h2 hl
  exact ⟨r1, h.next r3 (r2.same (fun _ _ => rfl) (fun _ _ => rfl) (fun b hb => .inl hb))⟩
theorem TkI.setB {g c : Nat} (h : TkI w wr B (.slice (some ⟨g, 0, none⟩) n c) vo S n b5 b8 (pre ++ t :: tt) done) {a : Option Addr} {m q : Nat} {l : List Int} (h1 : m ≤ q) (h2 : q ≤ maxLen) (hl : Lst Enc.int wr (fun b => (S b ∨ (w.heap.size ≤ b ∧ vo.ownBlock ≠ some b)) ∧ b < wr.heap.size) a m l) :
    wr.frozen? ⟨g, pre.length * 2, none⟩ = false ∧ TkI w (wr.setCell ⟨g, pre.length * 2, none⟩ (.slice a m q)) B (.slice (some ⟨g, 0, none⟩) n c) vo S n b5 b8 (pre ++ (l, t.2) :: tt) done := by
  obtain ⟨r1, r2, r3⟩ := h.rs.setB (fun e => (h.foot g e).2 rfl) h1 h2 hl
  exact ⟨r1, h.next r3 (r2.same (fun _ _ => rfl) (fun _ _ => rfl) (fun b hb => .inl hb))⟩
/-- both are -/
theorem TkI.set2 {g c : Nat} (h : TkI w wr B (.slice (some ⟨g, 0, none⟩) n c) vo S n b5 b8 (pre ++ t :: tt) done) {a1 a2 : Option Addr} {n1 q1 n2 q2 : Nat} {l1 l2 : List Int} (p1 : n1 ≤ q1) (p2 : q1 ≤ maxLen) (p3 : n2 ≤ q2) (p4 : q2 ≤ maxLen) (h1 : Lst Enc.int wr (fun b => (S b ∨ (w.heap.size ≤ b ∧ vo.ownBlock ≠ some b)) ∧ b < wr.heap.size) a1 n1 l1) (h2 : Lst Enc.int wr (fun b => (S b ∨ (w.heap.size ≤ b ∧ vo.ownBlock ≠ some b)) ∧ b < wr.heap.size) a2 n2 l2) :
    TkI w ((wr.setCell ⟨g, pre.length * 2, none⟩ (.slice a1 n1 q1)).setCell ⟨g, pre.length * 2 + 1, none⟩ (.slice a2 n2 q2)) B (.slice (some ⟨g, 0, none⟩) n c) vo S n b5 b8 (pre ++ (l1, l2) :: tt) done := by
  have k := (h.setB p1 p2 h1).2
  refine (k.setW (l := l2) p3 p4 ((h2.same (fun b hb => heap_set_ne (fun e => (h.foot b hb).2 (by rw [e]; rfl)))).wide (fun b hb => ⟨hb.1, by rw [World.size_setCell]; exact hb.2⟩))).2
end
/-- what a cell holds is stored again -/
theorem set_again {w : World} {b T : Nat} {v : Value} (h : w.heap[b]? = some (.cells #[v] T (0, 0))) : Below w.heap.size w (w.setCell ⟨b, 0, none⟩ v) := by
  have hg := grown_set (w := w) b 0 v
  refine ⟨hg.os, hg.tape, hg.output, hg.size, fun c hc => ?_⟩
  by_cases he : c = b
  · subst he
    rw [heap_set h v, h]
    rfl
  · exact heap_set_ne he
end Go.Proofs.Ytfbgbbbfpkpfkaa
-- @@XTs4
/- The reference's streams: take. -/
namespace Go.Proofs.Ytfbgbbbfpkpfkaa
open Go.RowKit
/-- take, from a stage on -/
def TakeOK (la : Option Addr) (ln lc : Nat) (l : List (List Sub)) (k : Nat) : Prop :=
  ∀ (B : Nat) (va : Option Addr) (vc : Nat) (S : Nat → Prop) (pre ss : List Stg) (g : Int) (w : World), RS w B (.slice va ln vc) S ln (pre ++ ss) → pre.length = k → (∀ b, S b → b < w.heap.size ∧ (Value.slice va ln vc).ownBlock ≠ some b) → Lst Enc.lk w (fun b => b < w.heap.size ∧ (Value.slice va ln vc).ownBlock ≠ some b) la ln l →
    I64 g → tot (pre ++ ss) [] + 1 ≤ 200000 → (∀ s ∈ pre ++ ss, s.1.length ≤ 300000) → (∀ s ∈ pre ++ ss, AllI s.1 ∧ AllI s.2) →
    Calls Try.prog 38 #[.slice la ln lc, .agg #[.slice va ln vc], .int .i64 (k : Int), .int .i64 g] w (TakeP w B (.slice va ln vc) S ln pre (feedS (l.drop k) ss g))
set_option maxRecDepth 100000 in
set_option maxHeartbeats 4000000 in
theorem take_last (la : Option Addr) (ln lc : Nat) (l : List (List Sub)) (_ : ln ≤ 1000000) (hl : l.length = ln) : TakeOK la ln lc l ln := by
  intro B va vc S pre ss g w h hp hS _ hg _ _ _
  have hd : l.drop ln = [] := by rw [← hl]; exact List.drop_length
  have hs0 : ss = [] := by
    have := h.1
    rw [List.length_append, hp] at this
    exact List.eq_nil_of_length_eq_zero (by omega)
  subst hs0
  rw [hd]
  have hfe : feedS [] [] g = ([], [g]) := rfl
  rw [hfe]
  obtain ⟨b5, V5, hb5, hV5, st⟩ := (St.start w).new (Obj.cells #[.slice va ln vc] 29)
  obtain ⟨b8, V8, hb8, hV8, st⟩ := st.new (Obj.cells #[.slice none 0 0] 29)
  obtain ⟨b21, V9, hb21, hV9, st⟩ := st.new (Obj.cells #[.int .i64 g] 3)
  have hc8 : b5 + 1 = b8 := by rw [← hb8, ← hV5, World.size_alloc, hb5]
  have hc9 : b8 + 1 = b21 := by rw [← hb21, ← hV8, World.size_alloc, hb8]
  have k5 := st.get 2 rfl
  have k8 := st.get 1 rfl
  have d5 : V8.cell? ⟨b5, 0, none⟩ = some (.slice va ln vc) := by
    have h1 := (World.block_lt_of_cell? V9 ⟨b5, 0, none⟩ (blk_cell k5))
    have h2 := heap_alloc_old V8 (Obj.cells #[.int .i64 g] 3) (show b5 < V8.heap.size by rw [hb21]; omega)
    rw [hV9, k5] at h2
    exact blk_cell h2.symm
  have k21 := hide (st.get 0 rfl)
  have hz := st.below
  have l8 : w.heap.size ≤ b8 := by omega
  have hz2 := hide (hz.setCell (p := ⟨b8, 0, none⟩) l8 (.slice va ln vc))
  have r8 := hide (heap_set (off := 0) k8 (.slice va ln vc))
  have r21 : (V9.setCell ⟨b8, 0, none⟩ (.slice va ln vc)).heap[b21]? = some (.cells #[.int .i64 g] 3 (0, 0)) := (heap_set_ne (by omega)).trans (unhide k21)
  have d8 := blk_cell k8
  have f8 : V9.frozen? ⟨b8, 0, none⟩ = false := by simp [World.frozen?, k8]
  have l21 : Hid (w.heap.size ≤ b21) := hide (by omega)
  obtain ⟨WZ, hWZ⟩ : ∃ W, V9.setCell ⟨b8, 0, none⟩ (.slice va ln vc) = W := ⟨_, rfl⟩
  rw [hWZ] at hz2 r8 r21
  clear st hz k5 k8 k21 l8
  replace h := hide h; replace hS := hide hS; replace hg := hide hg; replace r21 := hide r21; replace hWZ := hide hWZ
  replace hb5 := hide hb5; replace hV5 := hide hV5; replace hb8 := hide hb8; replace hV8 := hide hV8; replace hb21 := hide hb21; replace hV9 := hide hV9; replace hc8 := hide hc8; replace hc9 := hide hc9; replace hp := hide hp; replace hl := hide hl; replace hd := hide hd; replace hfe := hide hfe
  go_enter Try.func38, Try.ntmps38
  go_upto_region 2 with fail
  try rw [unhide hb5]
  try rw [unhide hc8]
  rw [unhide hV5, unhide hV8]
  clear hV5 hV8 hb5 hc8 hb8
  have hV9 := unhide hV9
  have hb21 := unhide hb21
  have hWZ := unhide hWZ
  go_wp2_with fail
  have r0 := blk_cell (unhide r8)
  refine bodyPost_ret (v := .tuple #[.agg #[.slice va ln vc], .slice (some ⟨b21, 0, none⟩) 1 1]) (by simp [results, Try.results38, go_sem, r0]) rfl ?_
  have hz3 := unhide hz2
  have hvl : ∀ b, (Value.slice va ln vc).ownBlock = some b → b < w.heap.size := fun b e => by
    obtain ⟨_, vs, h2, _⟩ := unhide h
    exact (h2.lt b e).2
  have hlt := (Array.getElem?_eq_some_iff.1 (unhide r21)).1
  refine ⟨some ⟨b21, 0, none⟩, 1, rfl, Nat.le_refl _, by decide, (unhide h).same (fun b e => hz3.block b (hvl b e)) (fun b e => hz3.block b (unhide hS b e).1) (fun b e => .inl e), lst_ints (T := 3) (by simpa using unhide r21) (fun y hy => ?_) ⟨unhide l21, hlt⟩, grown_of_below hz3 _⟩
  simp at hy
  rw [hy]
  exact unhide hg
end Go.Proofs.Ytfbgbbbfpkpfkaa
