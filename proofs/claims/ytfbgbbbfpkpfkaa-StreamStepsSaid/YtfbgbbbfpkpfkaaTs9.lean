/- Merged: XTs5 XTs6 XTs7 XTs8 XTs9 -/
import Derived.Test.YtfbgbbbfpkpfkaaTs4
import Derived.Test.YtfbgbbbfpkpfkaaTrA
-- @@XTs5
/- The reference's streams: take, a stage. -/
namespace Go.Proofs.Ytfbgbbbfpkpfkaa
open Go.RowKit
/-- the stage that decide leaves -/
def DecV (w w' : World) (S : Nat → Prop) (l1 l2 : List Int) (u : Value) : Prop :=
  ∃ a3 n3 c3 a4 n4 c4, u = .agg #[.slice a3 n3 c3, .slice a4 n4 c4] ∧ (n3 ≤ c3 ∧ c3 ≤ maxLen ∧ Lst Enc.int w' (fun b => w.heap.size ≤ b ∧ b < w'.heap.size) a3 n3 l1) ∧ (n4 ≤ c4 ∧ c4 ≤ maxLen ∧ Lst Enc.int w' (fun b => S b ∧ b < w'.heap.size) a4 n4 l2)
theorem DecV.under {w wa wb : World} {S : Nat → Prop} {l1 l2 : List Int} {u : Value} (h : DecV w wa S l1 l2 u) (hb : Below wa.heap.size wa wb) : DecV w wb S l1 l2 u := by
  obtain ⟨a3, n3, c3, a4, n4, c4, h1, ⟨p1, p2, p3⟩, ⟨q1, q2, q3⟩⟩ := h
  exact ⟨a3, n3, c3, a4, n4, c4, h1, ⟨p1, p2, (p3.same (fun b hb' => hb.block b hb'.2)).wide (fun b hb' => ⟨hb'.1, Nat.lt_of_lt_of_le hb'.2 hb.size⟩)⟩, ⟨q1, q2, (q3.same (fun b hb' => hb.block b hb'.2)).wide (fun b hb' => ⟨hb'.1, Nat.lt_of_lt_of_le hb'.2 hb.size⟩)⟩⟩
theorem DecP.val {w0 w w' : World} {S : Nat → Prop} {x : List Sub} {s : Stg} {e : Ending} (h : DecP w S x s e w') (h0 : w0.heap.size ≤ w.heap.size) (hS : ∀ b, S b → b < w.heap.size) : ∃ u, e = .returned (.tuple #[.int .i64 (decO x s), u]) ∧ DecV w0 w' S (decS x s).1 (decS x s).2 u ∧ Below w.heap.size w w' := by
  obtain ⟨a3, n3, c3, a4, n4, c4, h1, ⟨p1, p2, p3⟩, ⟨q1, q2, q3⟩, h4⟩ := h
  exact ⟨_, h1, ⟨a3, n3, c3, a4, n4, c4, rfl, ⟨p1, p2, p3.wide (fun b hb => ⟨Nat.le_trans h0 hb.1, hb.2⟩)⟩, ⟨q1, q2, q3.wide (fun b hb => ⟨hb, Nat.lt_of_lt_of_le (hS b hb) h4.size⟩)⟩⟩, h4⟩
/-- numbers do not lie in a block that holds none -/
theorem lst_ne {w : World} {S : Nat → Prop} {a : Option Addr} {n b : Nat} {l : List Int} (h : Lst Enc.int w S a n l) (hne : ∀ o x, w.cell? ⟨b, o, none⟩ ≠ some (.int .i64 x)) : Lst Enc.int w (fun c => S c ∧ c ≠ b) a n l := by
  refine ⟨h.1, fun hpos => ?_⟩
  obtain ⟨c, off, rfl, hS, hx⟩ := h.2 hpos
  refine ⟨c, off, rfl, ⟨hS, fun e => ?_⟩, fun i y hi => ?_⟩
  · have hl := h.1
    obtain ⟨us, hr, hu⟩ := hx 0 (l[0]'(by omega)) (List.getElem?_eq_getElem _)
    obtain ⟨rfl, _⟩ := hr
    have := hu 0 _ rfl
    rw [e] at this
    exact hne _ _ this
  · obtain ⟨us, hr, hu⟩ := hx i y hi
    exact ⟨us, hr, hu⟩
theorem RS.ne {w : World} {B n b : Nat} {v : Value} {S : Nat → Prop} {sts : List Stg} (h : RS w B v S n sts) (hne : ∀ o x, w.cell? ⟨b, o, none⟩ ≠ some (.int .i64 x)) : RS w B v (fun c => S c ∧ c ≠ b) n sts := by
  obtain ⟨h1, vs, h2, h3⟩ := h
  refine ⟨h1, vs, h2, fun k s hs => ?_⟩
  obtain ⟨a1, n1, c1, a2, n2, c2, e1, e2, ⟨p1, p2, p3⟩, ⟨q1, q2, q3⟩⟩ := h3 k s hs
  exact ⟨a1, n1, c1, a2, n2, c2, e1, e2, ⟨p1, p2, lst_ne p3 hne⟩, ⟨q1, q2, lst_ne q3 hne⟩⟩
theorem no_int1 {w : World} {b T : Nat} {a : Option Addr} {n c : Nat} (h : w.heap[b]? = some (.cells #[.slice a n c] T (0, 0))) : ∀ o x, w.cell? ⟨b, o, none⟩ ≠ some (.int .i64 x) := by
  intro o x e
  rw [cell_of_row w b _ _ _ _ h] at e
  have := List.mem_of_getElem? (by simpa using e : [Value.slice a n c][o]? = some (.int .i64 x))
  simp at this
theorem no_int2 {w : World} {b T : Nat} {a1 a2 : Option Addr} {n1 c1 n2 c2 : Nat} (h : w.heap[b]? = some (.cells #[.slice a1 n1 c1, .slice a2 n2 c2] T (0, 0))) : ∀ o x, w.cell? ⟨b, o, none⟩ ≠ some (.int .i64 x) := by
  intro o x e
  rw [cell_of_row w b _ _ _ _ h] at e
  have := List.mem_of_getElem? (by simpa using e : [Value.slice a1 n1 c1, Value.slice a2 n2 c2][o]? = some (.int .i64 x))
  simp at this
set_option maxRecDepth 100000 in
set_option maxHeartbeats 8000000 in
theorem take_step (la : Option Addr) (ln lc : Nat) (l : List (List Sub)) (hln : ln ≤ 1000000) (hsm : ∀ x ∈ l, Small x) (hto : ∀ x ∈ l, ToI x) (k : Nat) (hk : k < ln) (hrec : TakeOK la ln lc l (k + 1)) : TakeOK la ln lc l k := by
  intro B va vc S pre ss0 g w h hp hS hl hg ht hb hnum
  obtain ⟨gl, ol, x, xa, xn, xc, rfl, hgl, hx, hxc1, hxc2, hLx, cl⟩ := lst_list hl hk
  have hdrop : l.drop k = x :: l.drop (k + 1) := by
    obtain ⟨h1, h2⟩ := List.getElem?_eq_some_iff.1 hx
    rw [List.drop_eq_getElem_cons h1, h2]
  rw [hdrop]
  have hll := hl.1
  have hlen := h.1
  rw [List.length_append, hp] at hlen
  cases ss0 with
  | nil => simp at hlen; omega
  | cons s ss =>
  have hs' : ss.length = (l.drop (k + 1)).length := by rw [List.length_cons] at hlen; rw [List.length_drop]; omega
  have hsx := hsm x (List.mem_of_getElem? hx)
  have htx := hto x (List.mem_of_getElem? hx)
  obtain ⟨R, hR⟩ : ∃ R, loopS (winS x) x (feedS (l.drop (k + 1))) (s.2.length + 1) (s.1, s.2 ++ [g]) ss = R := ⟨_, rfl⟩
  have hfe : feedS (x :: l.drop (k + 1)) (s :: ss) g = (R.1.1 :: R.1.2, R.2) := by rw [← hR]; rfl
  rw [hfe]
  clear hfe hdrop hlen
  obtain ⟨g0, a1, n1, c1, a2, n2, c2, rfl, hBg, hgw, hkn, e1, e2, ⟨p1, p2, p3⟩, ⟨q1, q2, q3⟩⟩ := h.stage
  obtain ⟨b5, V5, hb5, hV5, st⟩ := (St.start w).new (Obj.cells #[.slice (some ⟨g0, 0, none⟩) ln vc] 29)
  obtain ⟨b8, V8, hb8, hV8, st⟩ := st.new (Obj.cells #[.slice none 0 0] 29)
  have hc8 : b5 + 1 = b8 := by rw [← hb8, ← hV5, World.size_alloc, hb5]
  have hne85 : b8 ≠ b5 := by omega
  have hl88 : w.heap.size ≤ b8 := by omega
  have k5 := st.get 1 rfl
  have k8 := st.get 0 rfl
  have hz := st.below
  have hI := TkI.start h hz k5 (.inr k8) (fun e => by have e : g0 = b5 := Option.some.inj e; omega) (fun e => by have e : g0 = b8 := Option.some.inj e; omega) hS
  rw [hp] at e1 e2
  have d2 := cell_under e2 hz
  have d5 := blk_cell k5
  have l2 := q3.1
  have h28 := hide ((q3.wide (fun b hb => (hS b hb).1)).under hz)
  have hsz8 : Hid (w.heap.size ≤ V8.heap.size) := hide hz.size
  have t0 : ((k : Int) == (ln : Int)) = false := by simp; omega
  have i1 : (0 : Int) ≤ (k : Int) := by omega
  have i2 : (k : Int) < (ln : Int) := by omega
  have hn2 : n2 ≤ 200000 := by rw [← l2]; rw [tot_app, tot_cons] at ht; omega
  clear st hz k5 k8 e1 e2 p1 p2 p3 q3 h
  replace hI := hide hI; replace hS := hide hS; replace hl := hide hl; replace hg := hide hg; replace ht := hide ht; replace hb := hide hb; replace hnum := hide hnum; replace hgl := hide hgl; replace hx := hide hx; replace hLx := hide hLx; replace cl := hide cl; replace hll := hide hll; replace hs' := hide hs'; replace hsx := hide hsx; replace htx := hide htx; replace hR := hide hR; replace hb5 := hide hb5; replace hV5 := hide hV5; replace hb8 := hide hb8; replace hV8 := hide hV8; replace hc8 := hide hc8; replace hrec := hide hrec; replace hp := hide hp; replace l2 := hide l2; replace hsm := hide hsm; replace hto := hide hto
  go_enter Try.func38, Try.ntmps38
  go_upto_region 4 with fail
  try rw [unhide hb5]
  try rw [unhide hc8]
  rw [unhide hV5, unhide hV8]
  clear hV5 hV8 hb5 hb8 hc8 t0
  refine wp_region_frontG 14 (fun _ _ w' => Below V8.heap.size V8 w') (fun wa wb => Below wa.heap.size wa wb)
    (fun ix v w' => match ix with
      | 0 => v = .pointer (some ⟨b5, 0, none⟩)
      | 1 => v = .slice (some ⟨g0, 0, none⟩) ln vc
      | 2 => v = .int .i64 (k : Int)
      | 3 => v = .pointer (some ⟨b5, 0, none⟩)
      | 4 => v = .slice (some ⟨g0, 0, none⟩) ln vc
      | 5 => v = .int .i64 (k : Int)
      | 6 => v = .pointer (some ⟨g0, k * 2, none⟩)
      | 7 => v = .pointer (some ⟨g0, k * 2 + 1, none⟩)
      | 8 => v = .slice a2 n2 c2
      | 9 => v = .int .i64 g
      | 10 => ∃ b, v = .slice (some ⟨b, 0, none⟩) 1 1 ∧ V8.heap.size ≤ b ∧ w'.heap[b]? = some (.cells #[.int .i64 g] 3 (0, 0))
      | 11 => ∃ a c, v = .slice a (n2 + 1) c ∧ n2 + 1 ≤ c ∧ c ≤ maxLen ∧ Lst Enc.int w' (fun b => V8.heap.size ≤ b ∧ b < w'.heap.size) a (n2 + 1) (s.2 ++ [g])
      | 12 => v = .pointer (some ⟨g0, k * 2, none⟩)
      | 13 => v = .pointer (some ⟨g0, k * 2 + 1, none⟩)
      | _ => True) (by rfl) (by kernel_rfl) ?_ ?_ ?_ ?_
  · exact (Below.refl _ _).drew
  · intro wa wb hR ix v hv
    match ix, hv with
    | 0, h => exact h
    | 1, h => exact h
    | 2, h => exact h
    | 3, h => exact h
    | 4, h => exact h
    | 5, h => exact h
    | 6, h => exact h
    | 7, h => exact h
    | 8, h => exact h
    | 9, h => exact h
    | 10, h => obtain ⟨b, h1, h3, h2⟩ := h; exact ⟨b, h1, h3, kept' hR h2⟩
    | 11, h => obtain ⟨a, c, h1, h3, h4, h2⟩ := h; exact ⟨a, c, h1, h3, h4, (h2.same (fun b hb => hR.block b hb.2)).wide (fun b hb => ⟨hb.1, Nat.lt_of_lt_of_le hb.2 hR.size⟩)⟩
    | 12, h => exact h
    | 13, h => exact h
    | _ + 14, _ => trivial
  · intro ix hix
    obtain rfl | rfl | rfl | rfl | rfl | rfl | rfl | rfl | rfl | rfl | rfl | rfl | rfl | rfl : ix = 0 ∨ ix = 1 ∨ ix = 2 ∨ ix = 3 ∨ ix = 4 ∨ ix = 5 ∨ ix = 6 ∨ ix = 7 ∨ ix = 8 ∨ ix = 9 ∨ ix = 10 ∨ ix = 11 ∨ ix = 12 ∨ ix = 13 := by omega
    · refine FrontStep.of [] _ rfl (by kernel_rfl) ?_
      intro vs LL wq hLL hC hf
      simp only [putL, List.foldl_nil]
      go_wp2_with fail
      first | exact Below.refl _ _ | exact hC | exact ⟨hC, Below.refl _ _⟩ | exact ⟨hC, Below.refl _ _, by omega⟩ | exact ⟨Below.refl _ _, by omega⟩ | trace_state
    · refine FrontStep.of [0] _ rfl (by kernel_rfl) ?_
      intro vs LL wq hLL hC hf
      simp only [putL, List.foldl_nil, List.foldl_cons, List.getElem?_cons_zero]
      have e0 : vs 0 = _ := hf 0 (by simp)
      rw [e0]
      have g0c := cell_under d5 hC
      go_wp2_with fail
      first | exact Below.refl _ _ | exact hC | exact ⟨hC, Below.refl _ _⟩ | exact ⟨hC, Below.refl _ _, by omega⟩ | exact ⟨Below.refl _ _, by omega⟩ | trace_state
    · refine FrontStep.of [] _ rfl (by kernel_rfl) ?_
      intro vs LL wq hLL hC hf
      simp only [putL, List.foldl_nil]
      go_wp2_with fail
      first | exact Below.refl _ _ | exact hC | exact ⟨hC, Below.refl _ _⟩ | exact ⟨hC, Below.refl _ _, by omega⟩ | exact ⟨Below.refl _ _, by omega⟩ | trace_state
    · refine FrontStep.of [] _ rfl (by kernel_rfl) ?_
      intro vs LL wq hLL hC hf
      simp only [putL, List.foldl_nil]
      go_wp2_with fail
      first | exact Below.refl _ _ | exact hC | exact ⟨hC, Below.refl _ _⟩ | exact ⟨hC, Below.refl _ _, by omega⟩ | exact ⟨Below.refl _ _, by omega⟩ | trace_state
    · refine FrontStep.of [3] _ rfl (by kernel_rfl) ?_
      intro vs LL wq hLL hC hf
      simp only [putL, List.foldl_nil, List.foldl_cons, List.getElem?_cons_zero, List.getElem?_cons_succ]
      have e3 : vs 3 = _ := hf 3 (by simp)
      rw [e3]
      have g0c := cell_under d5 hC
      go_wp2_with fail
      first | exact Below.refl _ _ | exact hC | exact ⟨hC, Below.refl _ _⟩ | exact ⟨hC, Below.refl _ _, by omega⟩ | exact ⟨Below.refl _ _, by omega⟩ | trace_state
    · refine FrontStep.of [] _ rfl (by kernel_rfl) ?_
      intro vs LL wq hLL hC hf
      simp only [putL, List.foldl_nil]
      go_wp2_with fail
      first | exact Below.refl _ _ | exact hC | exact ⟨hC, Below.refl _ _⟩ | exact ⟨hC, Below.refl _ _, by omega⟩ | exact ⟨Below.refl _ _, by omega⟩ | trace_state
    · refine FrontStep.of [4, 5] _ rfl (by kernel_rfl) ?_
      intro vs LL wq hLL hC hf
      simp only [putL, List.foldl_nil, List.foldl_cons, List.getElem?_cons_zero, List.getElem?_cons_succ]
      have e4 : vs 4 = _ := hf 4 (by simp)
      rw [e4]
      have e5 : vs 5 = _ := hf 5 (by simp)
      rw [e5]
      go_wp2_with fail
      first | exact Below.refl _ _ | exact hC | exact ⟨hC, Below.refl _ _⟩ | exact ⟨hC, Below.refl _ _, by omega⟩ | exact ⟨Below.refl _ _, by omega⟩ | trace_state
    · refine FrontStep.of [6] _ rfl (by kernel_rfl) ?_
      intro vs LL wq hLL hC hf
      simp only [putL, List.foldl_nil, List.foldl_cons, List.getElem?_cons_zero, List.getElem?_cons_succ]
      have e6 : vs 6 = _ := hf 6 (by simp)
      rw [e6]
      go_wp2_with fail
      first | exact Below.refl _ _ | exact hC | exact ⟨hC, Below.refl _ _⟩ | exact ⟨hC, Below.refl _ _, by omega⟩ | exact ⟨Below.refl _ _, by omega⟩ | trace_state
    · refine FrontStep.of [7] _ rfl (by kernel_rfl) ?_
      intro vs LL wq hLL hC hf
      simp only [putL, List.foldl_nil, List.foldl_cons, List.getElem?_cons_zero, List.getElem?_cons_succ]
      have e7 : vs 7 = _ := hf 7 (by simp)
      rw [e7]
      have g0c := cell_under d2 hC
      go_wp2_with fail
      first | exact Below.refl _ _ | exact hC | exact ⟨hC, Below.refl _ _⟩ | exact ⟨hC, Below.refl _ _, by omega⟩ | exact ⟨Below.refl _ _, by omega⟩ | trace_state
    · refine FrontStep.of [] _ rfl (by kernel_rfl) ?_
      intro vs LL wq hLL hC hf
      simp only [putL, List.foldl_nil]
      go_wp2_with fail
      first | exact Below.refl _ _ | exact hC | exact ⟨hC, Below.refl _ _⟩ | exact ⟨hC, Below.refl _ _, by omega⟩ | exact ⟨Below.refl _ _, by omega⟩ | trace_state
    · refine FrontStep.of [9] _ rfl (by kernel_rfl) ?_
      intro vs LL wq hLL hC hf
      simp only [putL, List.foldl_nil, List.foldl_cons, List.getElem?_cons_zero, List.getElem?_cons_succ]
      have e9 : vs 9 = _ := hf 9 (by simp)
      rw [e9]
      have hn0 := heap_alloc_new wq (Obj.cells #[.int .i64 g] 3)
      have hb0 := (Below.refl wq.heap.size wq).alloc (Nat.le_refl _) (Obj.cells #[.int .i64 g] 3)
      go_wp2_with fail
      first | exact ⟨hC.trans (hb0.mono hC.size), hb0, _, rfl, hC.size, hn0⟩ | exact ⟨hC.trans (hb0.mono hC.size), hb0, hC.size, hn0⟩ | exact ⟨hC.trans (hb0.mono hC.size), hb0, hC.size, (Array.getElem?_eq_some_iff.1 hn0).2⟩ | exact ⟨hC.trans (hb0.mono hC.size), hC.size, (Array.getElem?_eq_some_iff.1 hn0).2⟩ | trace_state
    · refine FrontStep.of [8, 10] _ rfl (by kernel_rfl) ?_
      intro vs LL wq hLL hC hf
      simp only [putL, List.foldl_nil, List.foldl_cons, List.getElem?_cons_zero, List.getElem?_cons_succ]
      have e8 : vs 8 = _ := hf 8 (by simp)
      rw [e8]
      obtain ⟨b32, e32, hge32, hr32⟩ := hf 10 (by simp)
      rw [e32]
      have hlg : Lst Enc.int wq (· < wq.heap.size) (some ⟨b32, 0, none⟩) 1 [g] := lst_ints (T := 3) (by simpa using hr32) (fun y hy => by simp at hy; rw [hy]; exact unhide hg) (Array.getElem?_eq_some_iff.1 hr32).1
      have hj := hide (join_any a2 n2 c2 s.2 (some ⟨b32, 0, none⟩) 1 1 [g] wq ((unhide h28).under hC) hlg (by omega) (by omega))
      clear hlg
      go_wp2_with fail
      refine (unhide hj).mono ?_
      rintro e wz ⟨a0, c0, rfl, hq1, hq2, hl0, hbz⟩
      clear hj
      have hl1 := hl0.wide (S' := fun b => V8.heap.size ≤ b ∧ b < wz.heap.size) (fun b hb => ⟨Nat.le_trans hC.size hb.1, hb.2⟩)
      replace hl1 := hide hl1; replace hbz := hide hbz; clear hl0
      go_wp2_with fail
      first | exact ⟨hC.trans ((unhide hbz).mono hC.size), unhide hbz, a0, c0, rfl, hq1, hq2, unhide hl1⟩ | exact ⟨hC.trans ((unhide hbz).mono hC.size), unhide hbz, a0, c0, ⟨rfl, rfl⟩, hq1, hq2, unhide hl1⟩ | exact ⟨hC.trans ((unhide hbz).mono hC.size), unhide hbz, hq1, hq2, unhide hl1⟩ | trace_state
    · refine FrontStep.of [0, 1, 2, 3, 4, 5, 6, 7, 8, 9, 10, 11] _ rfl (by kernel_rfl) ?_
      intro vs LL wq hLL hC hf
      simp only [putL, List.foldl_nil, List.foldl_cons, List.getElem?_cons_zero, List.getElem?_cons_succ]
      have e0 : vs 0 = _ := hf 0 (by simp)
      rw [e0]
      have e1 : vs 1 = _ := hf 1 (by simp)
      rw [e1]
      have e2 : vs 2 = _ := hf 2 (by simp)
      rw [e2]
      have e3 : vs 3 = _ := hf 3 (by simp)
      rw [e3]
      have e4 : vs 4 = _ := hf 4 (by simp)
      rw [e4]
      have e5 : vs 5 = _ := hf 5 (by simp)
      rw [e5]
      have e6 : vs 6 = _ := hf 6 (by simp)
      rw [e6]
      have e7 : vs 7 = _ := hf 7 (by simp)
      rw [e7]
      have e8 : vs 8 = _ := hf 8 (by simp)
      rw [e8]
      have e9 : vs 9 = _ := hf 9 (by simp)
      rw [e9]
      obtain ⟨b32, e32, hge32, hr32⟩ := hf 10 (by simp)
      rw [e32]
      obtain ⟨a33, c33, e33, hq331, hq332, hl33⟩ := hf 11 (by simp)
      rw [e33]
      go_wp2_with fail
      first | exact Below.refl _ _ | exact hC | exact ⟨hC, Below.refl _ _⟩ | exact ⟨hC, Below.refl _ _, by omega⟩ | exact ⟨Below.refl _ _, by omega⟩ | trace_state
    · refine FrontStep.of [0, 1, 2, 3, 4, 5, 6, 7, 8, 9, 10, 11, 12] _ rfl (by kernel_rfl) ?_
      intro vs LL wq hLL hC hf
      simp only [putL, List.foldl_nil, List.foldl_cons, List.getElem?_cons_zero, List.getElem?_cons_succ]
      have e0 : vs 0 = _ := hf 0 (by simp)
      rw [e0]
      have e1 : vs 1 = _ := hf 1 (by simp)
      rw [e1]
      have e2 : vs 2 = _ := hf 2 (by simp)
      rw [e2]
      have e3 : vs 3 = _ := hf 3 (by simp)
      rw [e3]
      have e4 : vs 4 = _ := hf 4 (by simp)
      rw [e4]
      have e5 : vs 5 = _ := hf 5 (by simp)
      rw [e5]
      have e6 : vs 6 = _ := hf 6 (by simp)
      rw [e6]
      have e7 : vs 7 = _ := hf 7 (by simp)
      rw [e7]
      have e8 : vs 8 = _ := hf 8 (by simp)
      rw [e8]
      have e9 : vs 9 = _ := hf 9 (by simp)
      rw [e9]
      obtain ⟨b32, e32, hge32, hr32⟩ := hf 10 (by simp)
      rw [e32]
      obtain ⟨a33, c33, e33, hq331, hq332, hl33⟩ := hf 11 (by simp)
      rw [e33]
      have e12 : vs 12 = _ := hf 12 (by simp)
      rw [e12]
      go_wp2_with fail
      first | exact Below.refl _ _ | exact hC | exact ⟨hC, Below.refl _ _⟩ | exact ⟨hC, Below.refl _ _, by omega⟩ | exact ⟨Below.refl _ _, by omega⟩ | trace_state
  · intro vs LL wq hLL hC hf
    obtain ⟨a9, c9, e11, hq1, hq2, hl9⟩ := hf 11 (by omega)
    have e13 : vs 13 = _ := hf 13 (by omega)
    rw [putSome_all]
    simp only [putL, List.range, List.range.loop, List.foldl_nil, List.foldl_cons, List.getElem?_cons_zero, List.getElem?_cons_succ, List.drop_succ_cons, List.drop_zero]
    rw [e11, e13]
    have hIq := (unhide hI).under hC
    have hsl := unhide hsz8
    have hl9w := hl9.wide (S' := fun b => (S b ∨ (w.heap.size ≤ b ∧ (Value.slice none 0 0).ownBlock ≠ some b)) ∧ b < wq.heap.size) (fun b hb => ⟨.inr ⟨Nat.le_trans hsl hb.1, fun e => by cases e⟩, hb.2⟩)
    obtain ⟨z1, hI4⟩ := hIq.setW hq1 hq2 hl9w
    obtain ⟨g1, _, _, _, x2, y2, z2, hgg, _, _, _, _, z0, _, _⟩ := hIq.rs.stage
    injection hgg with hgg
    injection hgg with hgg
    subst hgg
    rw [unhide hp] at z0 z1 hI4
    obtain ⟨W4, hW4⟩ : ∃ W, wq.setCell ⟨g0, k * 2 + 1, none⟩ (.slice a9 (n2 + 1) c9) = W := ⟨_, rfl⟩
    rw [hW4] at hI4
    clear e11 e13 hf hLL hC hIq hl9 hl9w d2 d5 hI h28 hsl hsz8
    replace hI4 := hide hI4; replace hW4 := hide hW4
    have htot0 : Hid (tot (pre ++ (s.1, s.2 ++ [g]) :: ss) [] ≤ 200000) := hide (by have := unhide ht; rw [tot_app, tot_cons] at this ⊢; simp only [List.length_append, List.length_cons, List.length_nil]; omega)
    have hb0 : Hid (∀ t ∈ pre ++ (s.1, s.2 ++ [g]) :: ss, t.1.length ≤ 300000) := hide (fun t ht => by
      rcases List.mem_append.1 ht with ht | ht
      · exact unhide hb t (by simp [ht])
      · rcases List.mem_cons.1 ht with rfl | ht
        · exact unhide hb s (by simp)
        · exact unhide hb t (by simp [ht]))
    have hnum0 : Hid (∀ t ∈ pre ++ (s.1, s.2 ++ [g]) :: ss, AllI t.1 ∧ AllI t.2) := hide (fun t ht => by
      rcases List.mem_append.1 ht with ht | ht
      · exact unhide hnum t (by simp [ht])
      · rcases List.mem_cons.1 ht with rfl | ht
        · refine ⟨(unhide hnum s (by simp)).1, fun y hy => ?_⟩
          rcases List.mem_append.1 hy with hy | hy
          · exact (unhide hnum s (by simp)).2 y hy
          · simp at hy; rw [hy]; exact unhide hg
        · exact unhide hnum t (by simp [ht]))
    go_simp
    go_wp2_with fail
    rw [unhide hW4]
    clear z0 z1 hW4 ht hb hnum hg
    go_loopg [10] (s.2.length + 1) (fun q vo wr => ∃ (t : Stg) (tt : List Stg) (done : List Int), t.2.length ≤ q ∧ tt.length = ss.length ∧ R.1 = (loopS (winS x) x (feedS (l.drop (k + 1))) q t tt).1 ∧ R.2 = done ++ (loopS (winS x) x (feedS (l.drop (k + 1))) q t tt).2 ∧ TkI w wr B (.slice (some ⟨g0, 0, none⟩) ln vc) vo S ln b5 b8 (pre ++ t :: tt) done ∧ tot (pre ++ t :: tt) done ≤ 200000 ∧ (∀ s ∈ pre ++ t :: tt, s.1.length ≤ 300000) ∧ (∀ s ∈ pre ++ t :: tt, AllI s.1 ∧ AllI s.2))
    case atStart => exact ⟨(s.1, s.2 ++ [g]), ss, [], by simp, rfl, by rw [unhide hR], by rw [unhide hR]; rfl, unhide hI4, unhide htot0, unhide hb0, unhide hnum0⟩
    case round =>
      clear hI4 htot0 hb0 hnum0
      obtain ⟨t, tt, done, hq, htt, hr1, hr2, hIo, htot, hbb, hnn⟩ := hrel
      obtain ⟨wo, rfl⟩ : ∃ W : World, W = wr := ⟨_, rfl⟩
      obtain ⟨vo, rfl⟩ : ∃ v : Value, v = u10 := ⟨_, rfl⟩
      have d5 := blk_cell hIo.box5
      have clo : wo.cell? ⟨gl, ol + k, none⟩ = some (.slice xa xn xc) := hIo.g.cell (unhide cl) (fun e => (unhide hgl).2 e.symm)
      have hLo : Lst Enc.sub wo (fun b => b < wo.heap.size) xa xn x := ((unhide hLx).same (fun b hb => hIo.g.block b hb.1 (fun e => hb.2 e.symm))).wide (fun b hb => Nat.lt_of_lt_of_le hb.1 hIo.g.size)
      obtain ⟨g1, a4, n4, c4, a5, nt, c5, hgg, _, _, _, f1, f2, ⟨_, _, L1⟩, ⟨hq51, hq52, L2⟩⟩ := hIo.rs.stage
      injection hgg with hgg
      injection hgg with hgg
      subst hgg
      rw [unhide hp] at f1 f2
      have hn4l := L1.1
      have hntl0 := L2.1
      have hn4 : n4 ≤ 300000 := by rw [← hn4l]; exact hbb t (by simp)
      have hntl : nt ≤ 300000 := by rw [← hntl0]; rw [tot_app, tot_cons] at htot; omega
      rw [hntl0] at hq
      have L1 := hide (L1.wide (S' := fun b => b < wo.heap.size) (fun b hb => hb.2))
      have hwp := winS_pos x
      have hwl := winS_le (unhide hsx)
      obtain ⟨M, hM⟩ : ∃ M, winS x = M := ⟨_, rfl⟩
      rw [hM] at hwp hwl hr1 hr2
      have hstep : Hid (M ≤ nt → ∃ q', gk = q' + 1 ∧ R.1 = (loopS M x (feedS (l.drop (k + 1))) q' (decS x t) (feedS (l.drop (k + 1)) tt (decO x t)).1).1 ∧ R.2 = done ++ ((feedS (l.drop (k + 1)) tt (decO x t)).2 ++ (loopS M x (feedS (l.drop (k + 1))) q' (decS x t) (feedS (l.drop (k + 1)) tt (decO x t)).1).2)) := hide (fun hgo => by
        refine ⟨gk - 1, by omega, ?_, ?_⟩
        · rw [hr1, show gk = gk - 1 + 1 by omega, loopS, if_pos (by rw [hntl0]; exact hgo)]
          rfl
        · rw [hr2, show gk = gk - 1 + 1 by omega, loopS, if_pos (by rw [hntl0]; exact hgo)]
          rfl)
      have hend : Hid (¬ M ≤ nt → R.1 = (t, tt) ∧ R.2 = done) := hide (fun hgo => by
        have hfin : loopS M x (feedS (l.drop (k + 1))) gk t tt = ((t, tt), []) := by
          cases gk with
          | zero => rfl
          | succ q => rw [loopS, if_neg (by rw [hntl0]; exact hgo)]
        rw [hr1, hr2, hfin, List.append_nil]
        exact ⟨rfl, rfl⟩)
      clear hr1 hr2
      obtain ⟨cnd, hcnd⟩ : ∃ b, decide (M ≤ nt) = b := ⟨_, rfl⟩
      replace hIo := hide hIo; replace htot := hide htot; replace hbb := hide hbb; replace hnn := hide hnn; replace hLo := hide hLo; replace L2 := hide L2; replace hM := hide hM; replace hcnd := hide hcnd; replace htt := hide htt; replace hq51 := hide hq51; replace hq52 := hide hq52; replace hn4l := hide hn4l; replace hntl0 := hide hntl0
      go_upto_region 5 with fail
      refine wp_region_frontG 13 (fun _ _ w' => Below wo.heap.size wo w') (fun wa wb => Below wa.heap.size wa wb)
        (fun ix v w' => match ix with
          | 0 => v = .pointer (some ⟨b5, 0, none⟩)
          | 1 => v = .slice (some ⟨g0, 0, none⟩) ln vc
          | 2 => v = .int .i64 (k : Int)
          | 3 => v = .pointer (some ⟨g0, k * 2, none⟩)
          | 4 => v = .pointer (some ⟨g0, k * 2 + 1, none⟩)
          | 5 => v = .slice a5 nt c5
          | 6 => v = .int .i64 (nt : Int)
          | 7 => v = .slice (some ⟨gl, ol, none⟩) ln lc
          | 8 => v = .int .i64 (k : Int)
          | 9 => v = .pointer (some ⟨gl, ol + k, none⟩)
          | 10 => v = .agg #[.slice xa xn xc]
          | 11 => v = .int .i64 (M : Int)
          | 12 => v = .bool cnd
          | _ => True) (by rfl) (by kernel_rfl) ?_ ?_ ?_ ?_
      · exact (Below.refl _ _).drew
      · intro wa wb hR ix v hv
        match ix, hv with
        | 0, h => exact h
        | 1, h => exact h
        | 2, h => exact h
        | 3, h => exact h
        | 4, h => exact h
        | 5, h => exact h
        | 6, h => exact h
        | 7, h => exact h
        | 8, h => exact h
        | 9, h => exact h
        | 10, h => exact h
        | 11, h => exact h
        | 12, h => exact h
        | _ + 13, _ => trivial
      · intro ix hix
        obtain rfl | rfl | rfl | rfl | rfl | rfl | rfl | rfl | rfl | rfl | rfl | rfl | rfl : ix = 0 ∨ ix = 1 ∨ ix = 2 ∨ ix = 3 ∨ ix = 4 ∨ ix = 5 ∨ ix = 6 ∨ ix = 7 ∨ ix = 8 ∨ ix = 9 ∨ ix = 10 ∨ ix = 11 ∨ ix = 12 := by omega
        · refine FrontStep.of [] _ rfl (by kernel_rfl) ?_
          intro vs LL wq hLL hC hf
          simp only [putL, List.foldl_nil]
          go_wp2_with fail
          first | exact Below.refl _ _ | exact hC | exact ⟨hC, Below.refl _ _⟩ | exact ⟨hC, Below.refl _ _, by omega⟩ | exact ⟨Below.refl _ _, by omega⟩ | trace_state
        · refine FrontStep.of [0] _ rfl (by kernel_rfl) ?_
          intro vs LL wq hLL hC hf
          simp only [putL, List.foldl_nil, List.foldl_cons, List.getElem?_cons_zero]
          have e0 : vs 0 = _ := hf 0 (by simp)
          rw [e0]
          have g0c := cell_under d5 hC
          go_wp2_with fail
          first | exact Below.refl _ _ | exact hC | exact ⟨hC, Below.refl _ _⟩ | exact ⟨hC, Below.refl _ _, by omega⟩ | exact ⟨Below.refl _ _, by omega⟩ | trace_state
        · refine FrontStep.of [] _ rfl (by kernel_rfl) ?_
          intro vs LL wq hLL hC hf
          simp only [putL, List.foldl_nil]
          go_wp2_with fail
          first | exact Below.refl _ _ | exact hC | exact ⟨hC, Below.refl _ _⟩ | exact ⟨hC, Below.refl _ _, by omega⟩ | exact ⟨Below.refl _ _, by omega⟩ | trace_state
        · refine FrontStep.of [1, 2] _ rfl (by kernel_rfl) ?_
          intro vs LL wq hLL hC hf
          simp only [putL, List.foldl_nil, List.foldl_cons, List.getElem?_cons_zero, List.getElem?_cons_succ]
          have e1 : vs 1 = _ := hf 1 (by simp)
          rw [e1]
          have e2 : vs 2 = _ := hf 2 (by simp)
          rw [e2]
          go_wp2_with fail
          first | exact Below.refl _ _ | exact hC | exact ⟨hC, Below.refl _ _⟩ | exact ⟨hC, Below.refl _ _, by omega⟩ | exact ⟨Below.refl _ _, by omega⟩ | trace_state
        · refine FrontStep.of [3] _ rfl (by kernel_rfl) ?_
          intro vs LL wq hLL hC hf
          simp only [putL, List.foldl_nil, List.foldl_cons, List.getElem?_cons_zero, List.getElem?_cons_succ]
          have e3 : vs 3 = _ := hf 3 (by simp)
          rw [e3]
          go_wp2_with fail
          first | exact Below.refl _ _ | exact hC | exact ⟨hC, Below.refl _ _⟩ | exact ⟨hC, Below.refl _ _, by omega⟩ | exact ⟨Below.refl _ _, by omega⟩ | trace_state
        · refine FrontStep.of [4] _ rfl (by kernel_rfl) ?_
          intro vs LL wq hLL hC hf
          simp only [putL, List.foldl_nil, List.foldl_cons, List.getElem?_cons_zero, List.getElem?_cons_succ]
          have e4 : vs 4 = _ := hf 4 (by simp)
          rw [e4]
          have g0c := cell_under f2 hC
          go_wp2_with fail
          first | exact Below.refl _ _ | exact hC | exact ⟨hC, Below.refl _ _⟩ | exact ⟨hC, Below.refl _ _, by omega⟩ | exact ⟨Below.refl _ _, by omega⟩ | trace_state
        · refine FrontStep.of [5] _ rfl (by kernel_rfl) ?_
          intro vs LL wq hLL hC hf
          simp only [putL, List.foldl_nil, List.foldl_cons, List.getElem?_cons_zero, List.getElem?_cons_succ]
          have e5 : vs 5 = _ := hf 5 (by simp)
          rw [e5]
          go_wp2_with fail
          first | exact Below.refl _ _ | exact hC | exact ⟨hC, Below.refl _ _⟩ | exact ⟨hC, Below.refl _ _, by omega⟩ | exact ⟨Below.refl _ _, by omega⟩ | trace_state
        · refine FrontStep.of [] _ rfl (by kernel_rfl) ?_
          intro vs LL wq hLL hC hf
          simp only [putL, List.foldl_nil]
          go_wp2_with fail
          first | exact Below.refl _ _ | exact hC | exact ⟨hC, Below.refl _ _⟩ | exact ⟨hC, Below.refl _ _, by omega⟩ | exact ⟨Below.refl _ _, by omega⟩ | trace_state
        · refine FrontStep.of [] _ rfl (by kernel_rfl) ?_
          intro vs LL wq hLL hC hf
          simp only [putL, List.foldl_nil]
          go_wp2_with fail
          first | exact Below.refl _ _ | exact hC | exact ⟨hC, Below.refl _ _⟩ | exact ⟨hC, Below.refl _ _, by omega⟩ | exact ⟨Below.refl _ _, by omega⟩ | trace_state
        · refine FrontStep.of [7, 8] _ rfl (by kernel_rfl) ?_
          intro vs LL wq hLL hC hf
          simp only [putL, List.foldl_nil, List.foldl_cons, List.getElem?_cons_zero, List.getElem?_cons_succ]
          have e7 : vs 7 = _ := hf 7 (by simp)
          rw [e7]
          have e8 : vs 8 = _ := hf 8 (by simp)
          rw [e8]
          go_wp2_with fail
          first | exact Below.refl _ _ | exact hC | exact ⟨hC, Below.refl _ _⟩ | exact ⟨hC, Below.refl _ _, by omega⟩ | exact ⟨Below.refl _ _, by omega⟩ | trace_state
        · refine FrontStep.of [9] _ rfl (by kernel_rfl) ?_
          intro vs LL wq hLL hC hf
          simp only [putL, List.foldl_nil, List.foldl_cons, List.getElem?_cons_zero, List.getElem?_cons_succ]
          have e9 : vs 9 = _ := hf 9 (by simp)
          rw [e9]
          have g0c := cell_under clo hC
          go_wp2_with fail
          first | exact Below.refl _ _ | exact hC | exact ⟨hC, Below.refl _ _⟩ | exact ⟨hC, Below.refl _ _, by omega⟩ | exact ⟨Below.refl _ _, by omega⟩ | trace_state
        · refine FrontStep.of [10] _ rfl (by kernel_rfl) ?_
          intro vs LL wq hLL hC hf
          simp only [putL, List.foldl_nil, List.foldl_cons, List.getElem?_cons_zero, List.getElem?_cons_succ]
          have e10 : vs 10 = _ := hf 10 (by simp)
          rw [e10]
          have hw := hide (rwindow_any xa xn xc x wq ((unhide hLo).under hC) (unhide hsx))
          rw [unhide hM] at hw
          go_wp2_with fail
          refine (unhide hw).mono ?_
          rintro e wz ⟨rfl, hbz⟩
          clear hw
          replace hbz := hide hbz
          go_wp2_with fail
          first | exact ⟨hC.trans ((unhide hbz).mono hC.size), unhide hbz⟩ | exact hC.trans ((unhide hbz).mono hC.size) | trace_state
        · refine FrontStep.of [6, 11] _ rfl (by kernel_rfl) ?_
          intro vs LL wq hLL hC hf
          simp only [putL, List.foldl_nil, List.foldl_cons, List.getElem?_cons_zero, List.getElem?_cons_succ]
          have e6 : vs 6 = _ := hf 6 (by simp)
          rw [e6]
          have e11 : vs 11 = _ := hf 11 (by simp)
          rw [e11]
          go_wp2_with fail
          first | exact unhide hcnd | exact ⟨Below.refl _ _, unhide hcnd⟩ | exact ⟨hC, Below.refl _ _, unhide hcnd⟩ | trace_state
      · intro vs LL wq hLL hC hf
        have e12 : vs 12 = _ := hf 12 (by omega)
        rw [putSome_all]
        simp only [putL, List.range, List.range.loop, List.foldl_nil, List.foldl_cons, List.getElem?_cons_zero, List.getElem?_cons_succ, List.drop_succ_cons, List.drop_zero]
        rw [e12]
        have hI5 := hide ((unhide hIo).under hC)
        have hL5 := hide ((unhide hLo).under hC)
        have d5 := cell_under d5 hC
        have f1 := cell_under f1 hC
        have f2 := cell_under f2 hC
        have clo := cell_under clo hC
        have hsz5 := hC.size
        have L1w := hide ((unhide L1).under hC)
        have L2w := hide ((unhide L2).same (fun b hb => hC.block b hb.2))
        have L2w := hide ((unhide L2w).wide (S' := fun b => (S b ∨ (w.heap.size ≤ b ∧ vo.ownBlock ≠ some b)) ∧ b < wq.heap.size) (fun b hb => ⟨hb.1, Nat.lt_of_lt_of_le hb.2 hsz5⟩))
        clear e12 hf hLL hC hIo hLo L1 L2 hsz5
        obtain ⟨w5, rfl⟩ : ∃ W : World, W = wq := ⟨_, rfl⟩
        go_simp
        cases cnd with
        | false =>
          have hne : ¬ M ≤ nt := of_decide_eq_false (unhide hcnd)
          obtain ⟨hR1, hR2⟩ := unhide hend hne
          have hJ := unhide hI5
          have hJ8 := hJ.box8.resolve_left hne85
          have f8 := blk_cell hJ8
          have f9 : w5.frozen? ⟨b8, 0, none⟩ = false := by simp [World.frozen?, hJ8]
          have r8 := heap_set (off := 0) hJ8 (.slice (some ⟨g0, 0, none⟩) ln vc)
          have hrow : (w5.setCell ⟨b8, 0, none⟩ (.slice (some ⟨g0, 0, none⟩) ln vc)).ownsRow w.heap.size 3 1 vo done.length (vints done) := own_same hJ.out (fun b e => heap_set_ne (fun h => own_ne_blk hJ.out hJ8 (by decide) (h ▸ e)))
          have hgs := grown_set (w := w5) b8 0 (.slice (some ⟨g0, 0, none⟩) ln vc)
          have hgw := grown_own hJ.g hgs (fun g e => by injection e with e; rw [← e]; exact hl88)
          have hsz := World.size_setCell w5 ⟨b8, 0, none⟩ (.slice (some ⟨g0, 0, none⟩) ln vc)
          have hrs := (hJ.rs.ne (no_int1 hJ8)).same (w' := w5.setCell ⟨b8, 0, none⟩ (.slice (some ⟨g0, 0, none⟩) ln vc)) (S' := fun b => S b ∨ (w.heap.size ≤ b ∧ b < (w5.setCell ⟨b8, 0, none⟩ (.slice (some ⟨g0, 0, none⟩) ln vc)).heap.size)) (fun b e => heap_set_ne (fun h => hJ.h8 (h ▸ e))) (fun b hb => heap_set_ne hb.2) (fun b hb => by
            rcases hb.1.1 with h1 | h1
            · exact .inl h1
            · exact .inr ⟨h1.1, by rw [hsz]; exact hb.1.2⟩)
          obtain ⟨ao, co, hvo, hac, hcm, hlo⟩ := own_lstB hrow hJ.num
          obtain ⟨WZ, hWZ⟩ : ∃ W, w5.setCell ⟨b8, 0, none⟩ (.slice (some ⟨g0, 0, none⟩) ln vc) = W := ⟨_, rfl⟩
          rw [hWZ] at hrow hgw hrs hlo r8
          have r0 : WZ.cell? ⟨b8, 0, none⟩ = some (.slice (some ⟨g0, 0, none⟩) ln vc) := (cell_of_row _ _ 0 _ _ _ r8).trans rfl
          clear hJ hJ8 hI5 hrow hgs hsz hL5 f1 f2 clo L1w L2w htot hbb hnn hstep hend hcnd hne
          replace hrs := hide hrs; replace hlo := hide hlo; replace hgw := hide hgw; replace hR1 := hide hR1; replace hR2 := hide hR2; replace hac := hide hac; replace hcm := hide hcm; replace hvo := hide hvo
          go_wp2_with fail
          rw [unhide hvo]
          refine bodyPost_ret (v := .tuple #[.agg #[.slice (some ⟨g0, 0, none⟩) ln vc], .slice ao done.length co]) (by simp [results, Try.results38, go_sem, r0]) rfl ?_
          rw [unhide hR1, unhide hR2]
          exact ⟨ao, co, rfl, unhide hac, unhide hcm, unhide hrs, unhide hlo, unhide hgw⟩
        | true =>
          have hgo : M ≤ nt := of_decide_eq_true (unhide hcnd)
          have ht1 : 1 ≤ nt := by omega
          obtain ⟨q', hq', hR1, hR2⟩ := unhide hstep hgo
          replace hR1 := hide hR1; replace hR2 := hide hR2; replace hq' := hide hq'
          clear hstep hend hcnd
          obtain ⟨O, hO⟩ : ∃ O, decO x t = O := ⟨_, rfl⟩
          obtain ⟨FT, hFT⟩ : ∃ F : Nat → Prop, (fun b => (S b ∨ (w.heap.size ≤ b ∧ vo.ownBlock ≠ some b)) ∧ b < w5.heap.size) = F := ⟨_, rfl⟩
          have hFl : Hid (∀ b, FT b → b < w5.heap.size) := hide (fun b hb => by rw [← hFT] at hb; exact hb.2)
          have L2w := hide (show Lst Enc.int w5 FT a5 nt t.2 by rw [← hFT]; exact unhide L2w)
          replace hO := hide hO; replace hFT := hide hFT
          go_upto_region 6 with fail
          refine wp_region_frontG 15 (fun _ _ w' => Below w5.heap.size w5 w') (fun wa wb => Below wa.heap.size wa wb)
            (fun ix v w' => match ix with
              | 0 => v = .slice (some ⟨gl, ol, none⟩) ln lc
              | 1 => v = .int .i64 (k : Int)
              | 2 => v = .pointer (some ⟨gl, ol + k, none⟩)
              | 3 => v = .agg #[.slice xa xn xc]
              | 4 => v = .pointer (some ⟨b5, 0, none⟩)
              | 5 => v = .slice (some ⟨g0, 0, none⟩) ln vc
              | 6 => v = .int .i64 (k : Int)
              | 7 => v = .pointer (some ⟨g0, k * 2, none⟩)
              | 8 => v = .agg #[.slice a4 n4 c4, .slice a5 nt c5]
              | 9 => ∃ u, v = .tuple #[.int .i64 O, u] ∧ DecV w5 w' FT (decS x t).1 (decS x t).2 u
              | 10 => ∃ u, v = .tuple #[.int .i64 O, u] ∧ DecV w5 w' FT (decS x t).1 (decS x t).2 u
              | 11 => v = .int .i64 O
              | 12 => DecV w5 w' FT (decS x t).1 (decS x t).2 v
              | 13 => ∃ b, v = .pointer (some ⟨b, 0, none⟩) ∧ w5.heap.size ≤ b ∧ w'.heap[b]? = some (.cells #[nilS, nilS] 33 (0, 0))
              | 14 => v = .int .i64 O
              | _ => True) (by rfl) (by kernel_rfl) ?_ ?_ ?_ ?_
          · exact (Below.refl _ _).drew
          · intro wa wb hR ix v hv
            match ix, hv with
            | 0, h => exact h
            | 1, h => exact h
            | 2, h => exact h
            | 3, h => exact h
            | 4, h => exact h
            | 5, h => exact h
            | 6, h => exact h
            | 7, h => exact h
            | 8, h => exact h
            | 9, h => obtain ⟨u, h1, h2⟩ := h; exact ⟨u, h1, h2.under hR⟩
            | 10, h => obtain ⟨u, h1, h2⟩ := h; exact ⟨u, h1, h2.under hR⟩
            | 11, h => exact h
            | 12, h => exact h.under hR
            | 13, h => obtain ⟨b, h1, h3, h2⟩ := h; exact ⟨b, h1, h3, kept' hR h2⟩
            | 14, h => exact h
            | _ + 15, _ => trivial
          · intro ix hix
            obtain rfl | rfl | rfl | rfl | rfl | rfl | rfl | rfl | rfl | rfl | rfl | rfl | rfl | rfl | rfl : ix = 0 ∨ ix = 1 ∨ ix = 2 ∨ ix = 3 ∨ ix = 4 ∨ ix = 5 ∨ ix = 6 ∨ ix = 7 ∨ ix = 8 ∨ ix = 9 ∨ ix = 10 ∨ ix = 11 ∨ ix = 12 ∨ ix = 13 ∨ ix = 14 := by omega
            · refine FrontStep.of [] _ rfl (by kernel_rfl) ?_
              intro vs LL wq hLL hC hf
              simp only [putL, List.foldl_nil]
              go_wp2_with fail
              first | exact Below.refl _ _ | exact hC | exact ⟨hC, Below.refl _ _⟩ | exact ⟨hC, Below.refl _ _, by omega⟩ | exact ⟨Below.refl _ _, by omega⟩ | trace_state
            · refine FrontStep.of [] _ rfl (by kernel_rfl) ?_
              intro vs LL wq hLL hC hf
              simp only [putL, List.foldl_nil]
              go_wp2_with fail
              first | exact Below.refl _ _ | exact hC | exact ⟨hC, Below.refl _ _⟩ | exact ⟨hC, Below.refl _ _, by omega⟩ | exact ⟨Below.refl _ _, by omega⟩ | trace_state
            · refine FrontStep.of [0, 1] _ rfl (by kernel_rfl) ?_
              intro vs LL wq hLL hC hf
              simp only [putL, List.foldl_nil, List.foldl_cons, List.getElem?_cons_zero, List.getElem?_cons_succ]
              have e0 : vs 0 = _ := hf 0 (by simp)
              rw [e0]
              have e1 : vs 1 = _ := hf 1 (by simp)
              rw [e1]
              go_wp2_with fail
              first | exact Below.refl _ _ | exact hC | exact ⟨hC, Below.refl _ _⟩ | exact ⟨hC, Below.refl _ _, by omega⟩ | exact ⟨Below.refl _ _, by omega⟩ | trace_state
            · refine FrontStep.of [2] _ rfl (by kernel_rfl) ?_
              intro vs LL wq hLL hC hf
              simp only [putL, List.foldl_nil, List.foldl_cons, List.getElem?_cons_zero, List.getElem?_cons_succ]
              have e2 : vs 2 = _ := hf 2 (by simp)
              rw [e2]
              have g0c := cell_under clo hC
              go_wp2_with fail
              first | exact Below.refl _ _ | exact hC | exact ⟨hC, Below.refl _ _⟩ | exact ⟨hC, Below.refl _ _, by omega⟩ | exact ⟨Below.refl _ _, by omega⟩ | trace_state
            · refine FrontStep.of [] _ rfl (by kernel_rfl) ?_
              intro vs LL wq hLL hC hf
              simp only [putL, List.foldl_nil]
              go_wp2_with fail
              first | exact Below.refl _ _ | exact hC | exact ⟨hC, Below.refl _ _⟩ | exact ⟨hC, Below.refl _ _, by omega⟩ | exact ⟨Below.refl _ _, by omega⟩ | trace_state
            · refine FrontStep.of [4] _ rfl (by kernel_rfl) ?_
              intro vs LL wq hLL hC hf
              simp only [putL, List.foldl_nil, List.foldl_cons, List.getElem?_cons_zero, List.getElem?_cons_succ]
              have e4 : vs 4 = _ := hf 4 (by simp)
              rw [e4]
              have g0c := cell_under d5 hC
              go_wp2_with fail
              first | exact Below.refl _ _ | exact hC | exact ⟨hC, Below.refl _ _⟩ | exact ⟨hC, Below.refl _ _, by omega⟩ | exact ⟨Below.refl _ _, by omega⟩ | trace_state
            · refine FrontStep.of [] _ rfl (by kernel_rfl) ?_
              intro vs LL wq hLL hC hf
              simp only [putL, List.foldl_nil]
              go_wp2_with fail
              first | exact Below.refl _ _ | exact hC | exact ⟨hC, Below.refl _ _⟩ | exact ⟨hC, Below.refl _ _, by omega⟩ | exact ⟨Below.refl _ _, by omega⟩ | trace_state
            · refine FrontStep.of [5, 6] _ rfl (by kernel_rfl) ?_
              intro vs LL wq hLL hC hf
              simp only [putL, List.foldl_nil, List.foldl_cons, List.getElem?_cons_zero, List.getElem?_cons_succ]
              have e5 : vs 5 = _ := hf 5 (by simp)
              rw [e5]
              have e6 : vs 6 = _ := hf 6 (by simp)
              rw [e6]
              go_wp2_with fail
              first | exact Below.refl _ _ | exact hC | exact ⟨hC, Below.refl _ _⟩ | exact ⟨hC, Below.refl _ _, by omega⟩ | exact ⟨Below.refl _ _, by omega⟩ | trace_state
            · refine FrontStep.of [7] _ rfl (by kernel_rfl) ?_
              intro vs LL wq hLL hC hf
              simp only [putL, List.foldl_nil, List.foldl_cons, List.getElem?_cons_zero, List.getElem?_cons_succ]
              have e7 : vs 7 = _ := hf 7 (by simp)
              rw [e7]
              have g0c := cell_under f1 hC
              have g1c := cell_under f2 hC
              go_wp2_with fail
              first | exact Below.refl _ _ | exact hC | exact ⟨hC, Below.refl _ _⟩ | exact ⟨hC, Below.refl _ _, by omega⟩ | exact ⟨Below.refl _ _, by omega⟩ | trace_state
            · refine FrontStep.of [3, 8] _ rfl (by kernel_rfl) ?_
              intro vs LL wq hLL hC hf
              simp only [putL, List.foldl_nil, List.foldl_cons, List.getElem?_cons_zero, List.getElem?_cons_succ]
              have e3 : vs 3 = _ := hf 3 (by simp)
              rw [e3]
              have e8 : vs 8 = _ := hf 8 (by simp)
              rw [e8]
              have hd := hide (rdecide_any xa xn xc x a4 n4 c4 a5 nt c5 t FT wq ((unhide hL5).under hC) (unhide hsx) ((unhide L1w).under hC) ((unhide L2w).same (fun b hb => hC.block b (unhide hFl b hb))) (fun b hb => Nat.lt_of_lt_of_le (unhide hFl b hb) hC.size) (unhide hq51) (unhide hq52) hn4 hntl ht1)
              go_wp2_with fail
              refine (unhide hd).mono ?_
              intro e wz hdz
              clear hd
              obtain ⟨u, rfl, hdv, hbz⟩ := hdz.val (w0 := w5) hC.size (fun b hb => Nat.lt_of_lt_of_le (unhide hFl b hb) hC.size)
              rw [unhide hO]
              clear hdz
              replace hdv := hide hdv; replace hbz := hide hbz
              go_wp2_with fail
              first | exact ⟨hC.trans ((unhide hbz).mono hC.size), unhide hbz, u, rfl, unhide hdv⟩ | exact ⟨hC.trans ((unhide hbz).mono hC.size), unhide hbz, u, ⟨rfl, rfl⟩, unhide hdv⟩ | exact ⟨hC.trans ((unhide hbz).mono hC.size), unhide hbz, unhide hdv⟩ | trace_state
            · refine FrontStep.of [9] _ rfl (by kernel_rfl) ?_
              intro vs LL wq hLL hC hf
              simp only [putL, List.foldl_nil, List.foldl_cons, List.getElem?_cons_zero, List.getElem?_cons_succ]
              obtain ⟨u59, e59, h59⟩ := hf 9 (by simp)
              rw [e59]
              go_wp2_with fail
              first | exact Below.refl _ _ | exact ⟨hC, Below.refl _ _, _, ⟨rfl, rfl⟩, h59⟩ | exact ⟨hC, Below.refl _ _, _, rfl, h59⟩ | exact ⟨Below.refl _ _, _, ⟨rfl, rfl⟩, h59⟩ | exact ⟨Below.refl _ _, _, rfl, h59⟩ | exact ⟨hC, Below.refl _ _, h59⟩ | exact ⟨Below.refl _ _, h59⟩ | trace_state
            · refine FrontStep.of [10] _ rfl (by kernel_rfl) ?_
              intro vs LL wq hLL hC hf
              simp only [putL, List.foldl_nil, List.foldl_cons, List.getElem?_cons_zero, List.getElem?_cons_succ]
              obtain ⟨u49, e49, h49⟩ := hf 10 (by simp)
              rw [e49]
              go_wp2_with fail
              first | exact Below.refl _ _ | exact hC | exact ⟨hC, Below.refl _ _⟩ | exact ⟨hC, Below.refl _ _, by omega⟩ | exact ⟨Below.refl _ _, by omega⟩ | trace_state
            · refine FrontStep.of [10] _ rfl (by kernel_rfl) ?_
              intro vs LL wq hLL hC hf
              simp only [putL, List.foldl_nil, List.foldl_cons, List.getElem?_cons_zero, List.getElem?_cons_succ]
              obtain ⟨u49, e49, h49⟩ := hf 10 (by simp)
              rw [e49]
              go_wp2_with fail
              first | exact Below.refl _ _ | exact ⟨hC, Below.refl _ _, _, ⟨rfl, rfl⟩, h49⟩ | exact ⟨hC, Below.refl _ _, _, rfl, h49⟩ | exact ⟨Below.refl _ _, _, ⟨rfl, rfl⟩, h49⟩ | exact ⟨Below.refl _ _, _, rfl, h49⟩ | exact ⟨hC, Below.refl _ _, h49⟩ | exact ⟨Below.refl _ _, h49⟩ | trace_state
            · refine FrontStep.of [] _ rfl (by kernel_rfl) ?_
              intro vs LL wq hLL hC hf
              simp only [putL, List.foldl_nil]
              have hn0 := heap_alloc_new wq (Obj.cells #[nilS, nilS] 33)
              have hb0 := (Below.refl wq.heap.size wq).alloc (Nat.le_refl _) (Obj.cells #[nilS, nilS] 33)
              go_wp2_with fail
              first | exact ⟨hC.trans (hb0.mono hC.size), hb0, _, rfl, hC.size, hn0⟩ | exact ⟨hC.trans (hb0.mono hC.size), hb0, hC.size, hn0⟩ | exact ⟨hC.trans (hb0.mono hC.size), hb0, hC.size, (Array.getElem?_eq_some_iff.1 hn0).2⟩ | exact ⟨hC.trans (hb0.mono hC.size), hC.size, (Array.getElem?_eq_some_iff.1 hn0).2⟩ | trace_state
            · refine FrontStep.of [0, 1, 2, 3, 4, 5, 6, 7, 8, 9, 10, 11, 13] _ rfl (by kernel_rfl) ?_
              intro vs LL wq hLL hC hf
              simp only [putL, List.foldl_nil, List.foldl_cons, List.getElem?_cons_zero, List.getElem?_cons_succ]
              have e0 : vs 0 = _ := hf 0 (by simp)
              rw [e0]
              have e1 : vs 1 = _ := hf 1 (by simp)
              rw [e1]
              have e2 : vs 2 = _ := hf 2 (by simp)
              rw [e2]
              have e3 : vs 3 = _ := hf 3 (by simp)
              rw [e3]
              have e4 : vs 4 = _ := hf 4 (by simp)
              rw [e4]
              have e5 : vs 5 = _ := hf 5 (by simp)
              rw [e5]
              have e6 : vs 6 = _ := hf 6 (by simp)
              rw [e6]
              have e7 : vs 7 = _ := hf 7 (by simp)
              rw [e7]
              have e8 : vs 8 = _ := hf 8 (by simp)
              rw [e8]
              obtain ⟨u59, e59, h59⟩ := hf 9 (by simp)
              rw [e59]
              obtain ⟨u49, e49, h49⟩ := hf 10 (by simp)
              rw [e49]
              have e11 : vs 11 = _ := hf 11 (by simp)
              rw [e11]
              obtain ⟨b12, e12, hge12, hr12⟩ := hf 13 (by simp)
              rw [e12]
              go_wp2_with fail
              first | exact Below.refl _ _ | exact hC | exact ⟨hC, Below.refl _ _⟩ | exact ⟨hC, Below.refl _ _, by omega⟩ | exact ⟨Below.refl _ _, by omega⟩ | trace_state
          · intro vs LL wq hLL hC hf
            have e14 : vs 14 = _ := hf 14 (by omega)
            obtain ⟨b12, e13, hge12, hr12⟩ := hf 13 (by omega)
            obtain ⟨a6, n6, c6, a7, n7, c7, e12, ⟨P1, P2, P3⟩, ⟨Q1, Q2, Q3⟩⟩ := hf 12 (by omega)
            rw [putSome_all]
            simp only [putL, List.range, List.range.loop, List.foldl_nil, List.foldl_cons, List.getElem?_cons_zero, List.getElem?_cons_succ, List.drop_succ_cons, List.drop_zero]
            rw [e12, e13, e14]
            obtain ⟨z0, z1, z2, z3⟩ := cells2 hr12
            have z4 : (wq.setCell ⟨b12, 0, none⟩ (.slice a6 n6 c6)).cell? ⟨b12, 1, none⟩ = some nilS := (cell_of_row _ _ 1 _ _ _ (heap_set (off := 0) hr12 (.slice a6 n6 c6))).trans rfl
            have z5 : (wq.setCell ⟨b12, 0, none⟩ (.slice a6 n6 c6)).frozen? ⟨b12, 1, none⟩ = false := by simp [World.frozen?, heap_set (off := 0) hr12 (.slice a6 n6 c6)]
            have hr6 := set2 hr12 (.slice a6 n6 c6) (.slice a7 n7 c7)
            have hb6 := (hC.setCell (p := ⟨b12, 0, none⟩) hge12 (.slice a6 n6 c6)).setCell (p := ⟨b12, 1, none⟩) hge12 (.slice a7 n7 c7)
            have hsz6 : ((wq.setCell ⟨b12, 0, none⟩ (.slice a6 n6 c6)).setCell ⟨b12, 1, none⟩ (.slice a7 n7 c7)).heap.size = wq.heap.size := by rw [World.size_setCell, World.size_setCell]
            have hset : ∀ b, b ≠ b12 → ((wq.setCell ⟨b12, 0, none⟩ (.slice a6 n6 c6)).setCell ⟨b12, 1, none⟩ (.slice a7 n7 c7)).heap[b]? = wq.heap[b]? := fun b hb => (heap_set_ne hb).trans (heap_set_ne hb)
            have hni := no_int2 hr12
            have P4 := (lst_ne P3 hni).same (fun b hb => hset b hb.2)
            have Q4 := (lst_ne Q3 hni).same (fun b hb => hset b hb.2)
            obtain ⟨W6, hW6⟩ : ∃ W, (wq.setCell ⟨b12, 0, none⟩ (.slice a6 n6 c6)).setCell ⟨b12, 1, none⟩ (.slice a7 n7 c7) = W := ⟨_, rfl⟩
            rw [hW6] at hr6 hb6 hsz6 P4 Q4
            have hI6 := (unhide hI5).under hb6
            have hs56 := hb6.size
            have hs5w := (unhide hI5).g.size
            have hFt := unhide hFT
            have P5 := P4.wide (S' := fun b => (S b ∨ (w.heap.size ≤ b ∧ vo.ownBlock ≠ some b)) ∧ b < W6.heap.size) (fun b hb => ⟨.inr ⟨by have := hb.1.1; omega, fun e => by have := ((unhide hI5).out.lt b e).2; have := hb.1.1; omega⟩, by have := hb.1.2; omega⟩)
            have Q5 := Q4.wide (S' := fun b => (S b ∨ (w.heap.size ≤ b ∧ vo.ownBlock ≠ some b)) ∧ b < W6.heap.size) (fun b hb => by
              have h1 := hb.1.1
              rw [← hFt] at h1
              exact ⟨h1.1, by omega⟩)
            clear hf hLL hC e12 e13 e14 hr12 hni hset hsz6 P3 Q3 P4 Q4 hI5 hFt hs56 hs5w d5 f1 f2 clo L1w L2w hL5 hFT hFl
            replace hI6 := hide hI6; replace hr6 := hide hr6; replace P5 := hide P5; replace Q5 := hide Q5; replace hW6 := hide hW6; replace P1 := hide P1; replace P2 := hide P2; replace Q1 := hide Q1; replace Q2 := hide Q2; replace hb6 := hide hb6
            go_simp
            go_upto_region 7 with fail
            rw [unhide hW6]
            clear z0 z1 z2 z3 z4 z5 hW6
            obtain ⟨g1, y1, y2, y3, y4, y5, y6, hgg, _, _, _, z1, z2, _, _⟩ := (unhide hI6).rs.stage
            have hgg2 : g1 = g0 := by injection hgg with h; injection h with h; exact h.symm
            rw [hgg2] at z1 z2
            have z3 := ((unhide hI6).setB (unhide P1) (unhide P2) (unhide P5)).1
            have hIB := ((unhide hI6).setB (unhide P1) (unhide P2) (unhide P5)).2
            obtain ⟨g3, y7, y8, y9, ya, yb, yc, hgg3, _, _, _, _, z4, _, _⟩ := hIB.rs.stage
            have hgg4 : g3 = g0 := by injection hgg3 with h; injection h with h; exact h.symm
            rw [hgg4] at z4
            have z5 := ((unhide hI6).setW (unhide Q1) (unhide Q2) (unhide Q5)).1
            have z6 : (W6.setCell ⟨g0, pre.length * 2, none⟩ (.slice a6 n6 c6)).frozen? ⟨g0, pre.length * 2 + 1, none⟩ = false := by rw [World.frozen?_setCell]; exact z5
            have hI7 := (unhide hI6).set2 (unhide P1) (unhide P2) (unhide Q1) (unhide Q2) (unhide P5) (unhide Q5)
            have d5 := blk_cell (unhide hI6).box5
            obtain ⟨m0, m1, _, _⟩ := cells2 (unhide hr6)
            rw [unhide hp] at z1 z2 z3 z4 z6 hI7
            obtain ⟨W7, hW7⟩ : ∃ W, (W6.setCell ⟨g0, k * 2, none⟩ (.slice a6 n6 c6)).setCell ⟨g0, k * 2 + 1, none⟩ (.slice a7 n7 c7) = W := ⟨_, rfl⟩
            rw [hW7] at hI7
            have d57 := blk_cell hI7.box5
            have w1 : IntKind.i64.wrap ((k : Int) + 1) = ((k + 1 : Nat) : Int) := by rw [IntWalk.i64_in _ (by omega)]; omega
            have w2 : wrap64 ((k : Int) + 1) = ((k + 1 : Nat) : Int) := by rw [IntWalk.wrap64_in _ (by omega)]; omega
            clear hIB hI6 P1 P2 P5 Q1 Q2 Q5 z5 hr6 hgg hgg2 hgg3 hgg4 hb6 hge12
            replace hI7 := hide hI7; replace hW7 := hide hW7
            go_upto_region 8 with fail
            rw [unhide hW7]
            clear hW7 z1 z2 z3 z4 z6 m0 m1 d5
            have hdb := decN_bd x t (by rw [unhide hntl0]; exact ht1)
            have hdw := decS_wait x t
            rw [unhide hntl0] at hdw hdb
            have hdl : tt.length = (l.drop (k + 1)).length := by rw [unhide htt, unhide hs']
            have hnt1 : tot (pre ++ decS x t :: tt) [] + 1 ≤ 200000 ∧ tot (pre ++ decS x t :: tt) done + 1 ≤ 200000 := by
              have h1 := unhide htot
              rw [tot_app, tot_cons, unhide hntl0] at h1
              rw [tot_app, tot_cons, tot_app, tot_cons, hdw]
              rw [show tot tt done = tot tt [] + done.length from by simp [tot]] at *
              omega
            have hnb : ∀ t' ∈ pre ++ decS x t :: tt, t'.1.length ≤ 300000 := fun t' ht' => by
              rcases List.mem_append.1 ht' with ht' | ht'
              · exact unhide hbb t' (by simp [ht'])
              · rcases List.mem_cons.1 ht' with rfl | ht'
                · exact Nat.le_trans (last2_len _) (by omega)
                · exact unhide hbb t' (by simp [ht'])
            have htn := unhide hnn t (by simp)
            have hnm : ∀ t' ∈ pre ++ decS x t :: tt, AllI t'.1 ∧ AllI t'.2 := fun t' ht' => by
              rcases List.mem_append.1 ht' with ht' | ht'
              · exact unhide hnn t' (by simp [ht'])
              · rcases List.mem_cons.1 ht' with rfl | ht'
                · exact decS_i64 htn.1 htn.2
                · exact unhide hnn t' (by simp [ht'])
            have hOi : I64 O := by rw [← unhide hO]; exact decO_i64 (unhide htx) htn.2
            have hft := feedS_tot (l.drop (k + 1)) tt O hdl
            have hfl := feedS_len (l.drop (k + 1)) tt O hdl
            have hfb := feedS_back (l.drop (k + 1)) tt O 300000 (by omega) hdl (fun t' ht' => hnb t' (by simp [ht']))
            have hfn := feedS_i64 (l.drop (k + 1)) tt O (fun y hy => unhide hto y (List.mem_of_mem_drop hy)) (fun t' ht' => hnm t' (by simp [ht'])) hOi
            have hlk : Lst Enc.lk W7 (fun b => b < W7.heap.size ∧ (Value.slice (some ⟨g0, 0, none⟩) ln vc).ownBlock ≠ some b) (some ⟨gl, ol, none⟩) ln l := ((unhide hl).same (fun b hb => (unhide hI7).g.block b hb.1 (fun e => hb.2 e.symm))).wide (fun b hb => ⟨Nat.lt_of_lt_of_le hb.1 (unhide hI7).g.size, hb.2⟩)
            have hrc := unhide hrec B (some ⟨g0, 0, none⟩) vc (fun b => (S b ∨ (w.heap.size ≤ b ∧ vo.ownBlock ≠ some b)) ∧ b < W7.heap.size) (pre ++ [decS x t]) tt O W7 (by rw [List.append_assoc]; exact (unhide hI7).rs) (by rw [List.length_append, unhide hp]; rfl) (unhide hI7).foot hlk hOi (by rw [List.append_assoc]; exact hnt1.1) (by rw [List.append_assoc]; exact hnb) (by rw [List.append_assoc]; exact hnm)
            obtain ⟨rr, hrr⟩ : ∃ r, feedS (l.drop (k + 1)) tt O = r := ⟨_, rfl⟩
            have hR1' := unhide hR1
            have hR2' := unhide hR2
            rw [unhide hO, hrr] at hR1' hR2'
            rw [hrr] at hrc hft hfl hfb hfn
            have hnt2 : tot (pre ++ decS x t :: rr.1) (done ++ rr.2) ≤ 200000 := by
              have h1 := hnt1.2
              rw [tot_app, tot_cons] at h1 ⊢
              rw [tot_out]
              rw [show tot tt done = tot tt [] + done.length from by simp [tot]] at h1
              rw [show tot rr.1 done = tot rr.1 [] + done.length from by simp [tot]]
              rw [show tot rr.1 rr.2 = tot rr.1 [] + rr.2.length from by simp [tot]] at hft
              omega
            have hbb2 : ∀ t' ∈ pre ++ decS x t :: rr.1, t'.1.length ≤ 300000 := fun t' ht' => by
              rcases List.mem_append.1 ht' with ht' | ht'
              · exact hnb t' (by simp [ht'])
              · rcases List.mem_cons.1 ht' with rfl | ht'
                · exact hnb _ (by simp)
                · exact hfb t' ht'
            have hnn2 : ∀ t' ∈ pre ++ decS x t :: rr.1, AllI t'.1 ∧ AllI t'.2 := fun t' ht' => by
              rcases List.mem_append.1 ht' with ht' | ht'
              · exact hnm t' (by simp [ht'])
              · rcases List.mem_cons.1 ht' with rfl | ht'
                · exact hnm _ (by simp)
                · exact hfn.1 t' ht'
            have hq3 : (decS x t).2.length ≤ q' := by have := unhide hq'; rw [hdw]; omega
            have hrl2 : rr.1.length = ss.length := by rw [hfl, ← unhide hs']
            have hfi := hfn.2
            have hdn : done.length ≤ 200000 := by have h1 := hnt1.2; rw [tot_app, tot_cons] at h1; rw [show tot tt done = tot tt [] + done.length from by simp [tot]] at h1; omega
            have hrn : rr.2.length ≤ 200000 := by rw [tot_app, tot_cons, tot_out] at hnt2; omega
            clear hdb hdw hdl hnt1 hnb hnm hOi hft hfl hfb hfn hlk hR1 hR2 htn htot hbb hnn
            replace hrc := hide hrc; replace hnt2 := hide hnt2; replace hbb2 := hide hbb2; replace hnn2 := hide hnn2; replace hq3 := hide hq3; replace hrl2 := hide hrl2; replace hfi := hide hfi; replace hR1 := hide hR1'; replace hR2 := hide hR2'; replace hdn := hide hdn; replace hrn := hide hrn; replace hrr := hide hrr
            clear hR1' hR2'
            go_wp2_with fail
            refine (unhide hrc).mono ?_
            intro e wz hz
            obtain ⟨ar, cr, rfl, hr1, hr2, hrl, hI8⟩ := (unhide hI7).take hz
            rw [List.append_assoc] at hI8
            obtain ⟨m, hm⟩ : ∃ m, rr.2.length = m := ⟨_, rfl⟩
            rw [hm] at hrl hr1 ⊢
            clear hrc hz hI7 d57
            obtain ⟨b13, V13, hb13, hV13, st⟩ := (St.start wz).new (Obj.cells #[.slice none 0 0] 29)
            have k13 := st.get 0 rfl
            have hz13 := st.below
            have hl13 : wz.heap.size ≤ b13 := by omega
            have f0 := blk_cell k13
            have f1 : V13.frozen? ⟨b13, 0, none⟩ = false := by simp [World.frozen?, k13]
            obtain ⟨W13, hW13⟩ : ∃ W, V13.setCell ⟨b13, 0, none⟩ (.slice (some ⟨g0, 0, none⟩) ln vc) = W := ⟨_, rfl⟩
            have k13' := heap_set (off := 0) k13 (.slice (some ⟨g0, 0, none⟩) ln vc)
            have hz14 := hz13.setCell (p := ⟨b13, 0, none⟩) hl13 (.slice (some ⟨g0, 0, none⟩) ln vc)
            rw [hW13] at k13' hz14
            have f2 : W13.cell? ⟨b13, 0, none⟩ = some (.slice (some ⟨g0, 0, none⟩) ln vc) := (cell_of_row _ _ 0 _ _ _ k13').trans rfl
            have hI13 := hI8.under hz14
            have f3 := blk_cell hI13.box5
            have f4 : W13.frozen? ⟨b5, 0, none⟩ = false := by simp [World.frozen?, hI13.box5]
            have hag := set_again hI13.box5
            obtain ⟨W14, hW14⟩ : ∃ W, W13.setCell ⟨b5, 0, none⟩ (.slice (some ⟨g0, 0, none⟩) ln vc) = W := ⟨_, rfl⟩
            rw [hW14] at hag
            have hI14 := hI13.under hag
            have hrl14 := (hrl.same (fun b hb => (hz14.trans (hag.mono hz14.size)).block b hb.2))
            have hs14 := hI14.g.size
            clear st k13 hz13 hl13 k13' hz14 hI13 hag hI8 hrl
            replace hI14 := hide hI14; replace hrl14 := hide hrl14; replace hs14 := hide hs14; replace hr1 := hide hr1; replace hr2 := hide hr2; replace hm := hide hm
            have hout := hide (unhide hI14).out
            go_wp2_with (at_builtin; refine wpList_append_ints2 rfl _ _ rfl w.heap.size vo done.length done rfl (unhide hout) _ ar m cr rr.2 rfl (unhide hrl14) ?d1 (unhide hs14) ?_)
            case d1 => have := unhide hdn; have := unhide hrn; have := unhide hm; omega
            intro v' wq hrow' hg' hown'
            have hI15 := (unhide hI14).app (more := rr.2) (by rw [List.length_append, unhide hm]; exact hrow') hg' hown' (unhide hfi)
            clear hI14 hrl14 hout hrow' hg' hown' hs14 hV13 hb13 hW13 hW14 f0 f1 f2 f3 f4
            replace hI15 := hide hI15
            go_wp2_with fail
            go_roundg q'
            case rel => exact ⟨decS x t, rr.1, done ++ rr.2, unhide hq3, unhide hrl2, by rw [unhide hM]; exact unhide hR1, by rw [unhide hM, unhide hR2, List.append_assoc], unhide hI15, unhide hnt2, unhide hbb2, unhide hnn2⟩
            case measure => have := unhide hq'; omega
end Go.Proofs.Ytfbgbbbfpkpfkaa
-- @@XTs6
/- The reference's streams: take as a whole; a row of stages that grows; Start. -/
namespace Go.Proofs.Ytfbgbbbfpkpfkaa
open Go.RowKit
theorem take_any (la : Option Addr) (ln lc : Nat) (l : List (List Sub)) (hln : ln ≤ 1000000) (hll : l.length = ln) (hsm : ∀ x ∈ l, Small x) (hto : ∀ x ∈ l, ToI x) : ∀ (j k : Nat), k + j = ln → TakeOK la ln lc l k := by
  intro j
  induction j with
  | zero => intro k hk; have : k = ln := by omega
            subst this; exact take_last la k lc l hln hll
  | succ j ih => intro k hk; exact take_step la ln lc l hln hsm hto k (by omega) (ih (k + 1) (by omega))
theorem RS.base {w : World} {B B' n : Nat} {v : Value} {S : Nat → Prop} {sts : List Stg} (h : RS w B v S n sts) (hB : B' ≤ B) : RS w B' v S n sts := by
  obtain ⟨h1, vs, h2, h3⟩ := h
  refine ⟨h1, vs, ⟨h2.1, ?_⟩, h3⟩
  rcases h2.2 with hn | ⟨g, cap, cur, e, hb, rest⟩
  · exact .inl hn
  · exact .inr ⟨g, cap, cur, e, Nat.le_trans hB hb, rest⟩
theorem RS.lst {w : World} {B n c : Nat} {a : Option Addr} {S T : Nat → Prop} {sts : List Stg} (h : RS w B (.slice a n c) S n sts) (hS : ∀ b, S b → T b) (hT : ∀ b, (Value.slice a n c).ownBlock = some b → B ≤ b → b < w.heap.size → T b) : n ≤ c ∧ c ≤ maxLen ∧ Lst Enc.stg w T a n sts := by
  obtain ⟨h1, vs, h2, h3⟩ := h
  rcases h2.2 with ⟨e, h0⟩ | ⟨g, cap, cur, e, hb, hg, hn, hc, _⟩
  · injection e with e1 e2 e3
    subst e1; subst e3
    have : sts = [] := List.eq_nil_of_length_eq_zero (by omega)
    subst this; subst h0
    exact ⟨Nat.le_refl _, Nat.zero_le _, Lst.nil _ _ _ _⟩
  · injection e with e1 e2 e3
    subst e1; subst e3
    refine ⟨hn, hc, h1, fun hpos => ⟨g, 0, rfl, hT g rfl hb (Array.getElem?_eq_some_iff.1 hg).1, fun i s hs => ?_⟩⟩
    obtain ⟨a1, n1, c1, a2, n2, c2, e1, e2, ⟨p1, p2, p3⟩, ⟨q1, q2, q3⟩⟩ := h3 i s hs
    have hi : i < n := by rw [← h1]; exact (List.getElem?_eq_some_iff.1 hs).1
    refine ⟨[.slice a1 n1 c1, .slice a2 n2 c2], ⟨[.slice a1 n1 c1], [.slice a2 n2 c2], rfl, ⟨a1, n1, c1, rfl, p1, p2, p3.wide hS⟩, ⟨a2, n2, c2, rfl, q1, q2, q3.wide hS⟩⟩, fun j u hj => ?_⟩
    rw [show 0 + i * Enc.stg.n + j = i * 2 + j by show 0 + i * 2 + j = _; omega]
    match j, hj with
    | 0, hj => injection hj with hj; subst hj; rw [Nat.add_zero, h2.cellAt _ (by omega)]; exact e1
    | 1, hj => injection hj with hj; subst hj; rw [h2.cellAt _ (by omega)]; exact e2
    | _ + 2, hj => cases hj
/-- a row of stages in a box, that grows -/
structure CqI (F : Nat → Prop) (w wr : World) (b3 : Nat) (vo : Value) (sts : List Stg) : Prop where
  bel : Below w.heap.size w wr
  box : wr.heap[b3]? = some (.cells #[vo] 29 (0, 0))
  lo : w.heap.size ≤ b3
  hF : ∀ b, F b → b < w.heap.size
  rs : RS wr w.heap.size vo (fun b => (F b ∨ (w.heap.size ≤ b ∧ vo.ownBlock ≠ some b ∧ b ≠ b3)) ∧ b < wr.heap.size) sts.length sts
section
variable {F : Nat → Prop} {w wr wz wa : World} {b3 : Nat} {vo v' : Value} {sts : List Stg} {s : Stg}
theorem CqI.under (h : CqI F w wr b3 vo sts) (hb : Below wr.heap.size wr wz) : CqI F w wz b3 vo sts := by
  refine ⟨h.bel.trans (hb.mono h.bel.size), kept' hb h.box, h.lo, h.hF, h.rs.same (fun b e => ?_) (fun b hs => hb.block b hs.2) (fun b hs => ⟨hs.1, Nat.lt_of_lt_of_le hs.2 hb.size⟩)⟩
  obtain ⟨_, vs, h2, _⟩ := h.rs
  exact hb.block b (h2.lt b e).2
theorem CqI.start (hb : Below w.heap.size w wr) (hx : wr.heap[b3]? = some (.cells #[.slice none 0 0] 29 (0, 0))) (hl : w.heap.size ≤ b3) (hF : ∀ b, F b → b < w.heap.size) : CqI F w wr b3 (.slice none 0 0) [] :=
  ⟨hb, hx, hl, hF, rfl, [], World.ownsRow_nil _ _ _ _, fun k s hs => by cases hs⟩
theorem CqI.push (h : CqI F w wr b3 vo sts) {vs : List Value} {a1 a2 : Option Addr} {n1 c1 n2 c2 : Nat} (hown : wr.ownsRow w.heap.size 33 2 vo sts.length vs)
    (hc : ∀ k s, sts[k]? = some s → RC wr (fun b => (F b ∨ (w.heap.size ≤ b ∧ vo.ownBlock ≠ some b ∧ b ≠ b3)) ∧ b < wr.heap.size) vs k s) (hrow : wa.ownsRow w.heap.size 33 2 v' (sts.length + 1) (vs ++ [.slice a1 n1 c1, .slice a2 n2 c2])) (hg : wr.grownBy wa vo.ownBlock) (hb : v'.ownBlock = vo.ownBlock ∨ v'.ownBlock = some wr.heap.size)
    (p1 : n1 ≤ c1) (p2 : c1 ≤ maxLen) (L1 : Lst Enc.int wr (fun b => (F b ∨ (w.heap.size ≤ b ∧ vo.ownBlock ≠ some b ∧ b ≠ b3)) ∧ b < wr.heap.size) a1 n1 s.1) (q1 : n2 ≤ c2) (q2 : c2 ≤ maxLen) (L2 : Lst Enc.int wr (fun b => (F b ∨ (w.heap.size ≤ b ∧ vo.ownBlock ≠ some b ∧ b ≠ b3)) ∧ b < wr.heap.size) a2 n2 s.2) :
    wa.cell? ⟨b3, 0, none⟩ = some vo ∧ wa.frozen? ⟨b3, 0, none⟩ = false ∧ CqI F w (wa.setCell ⟨b3, 0, none⟩ v') b3 v' (sts ++ [s]) := by
  have hne := own_ne_blk hown h.box (by decide)
  have hbx : wa.heap[b3]? = some (.cells #[vo] 29 (0, 0)) := (hg.block b3 (Array.getElem?_eq_some_iff.1 h.box).1 (fun e => hne e.symm)).trans h.box
  have hgs := grown_set (w := wa) b3 0 v'
  have hlo : ∀ g, vo.ownBlock = some g → w.heap.size ≤ g := fun g e => (hown.lt g e).1
  have hst : ∀ b, ((F b ∨ (w.heap.size ≤ b ∧ vo.ownBlock ≠ some b ∧ b ≠ b3)) ∧ b < wr.heap.size) → (wa.setCell ⟨b3, 0, none⟩ v').heap[b]? = wr.heap[b]? := fun b hs => by
    refine (heap_set_ne (fun e => ?_)).trans (hg.block b hs.2 (fun e => ?_))
    · rcases hs.1 with h1 | h1
      · have := h.lo; have := h.hF b h1; omega
      · exact h1.2.2 e
    · rcases hs.1 with h1 | h1
      · have := hlo b e.symm; have := h.hF b h1; omega
      · exact h1.2.1 e.symm
  have hsz : (wa.setCell ⟨b3, 0, none⟩ v').heap.size = wa.heap.size := World.size_setCell ..
  have hw : ∀ b, ((F b ∨ (w.heap.size ≤ b ∧ vo.ownBlock ≠ some b ∧ b ≠ b3)) ∧ b < wr.heap.size) → (F b ∨ (w.heap.size ≤ b ∧ v'.ownBlock ≠ some b ∧ b ≠ b3)) ∧ b < (wa.setCell ⟨b3, 0, none⟩ v').heap.size := fun b hs => by
    refine ⟨hs.1.imp id (fun h1 => ⟨h1.1, ?_, h1.2.2⟩), by rw [hsz]; exact Nat.lt_of_lt_of_le hs.2 hg.size⟩
    rcases hb with e | e
    · rw [e]; exact h1.2.1
    · rw [e]; intro e2; injection e2 with e2; have := hs.2; omega
  have hvl := hown.1
  refine ⟨blk_cell hbx, by simp [World.frozen?, hbx], ?_, (heap_set hbx v').trans rfl, h.lo, h.hF, List.length_append.symm ▸ rfl, vs ++ [.slice a1 n1 c1, .slice a2 n2 c2], ?_, fun k x hx => ?_⟩
  · refine h.bel.trans ⟨hgs.os.trans hg.os, hgs.tape.trans hg.tape, hgs.output.trans hg.output, Nat.le_trans hg.size hgs.size, fun b hbb => ?_⟩
    exact (heap_set_ne (by have := h.lo; omega)).trans (hg.block b (Nat.lt_of_lt_of_le hbb h.bel.size) (fun e => by have := hlo b e.symm; omega))
  · rw [List.length_append]
    exact own_same hrow (fun b e => heap_set_ne (fun e2 => own_ne_blk hrow hbx (by decide) (e2 ▸ e)))
  · have hk : k < sts.length ∨ k = sts.length := by have := (List.getElem?_eq_some_iff.1 hx).1; rw [List.length_append] at this; simp at this; omega
    rcases hk with hk | rfl
    · rw [List.getElem?_append_left hk] at hx
      obtain ⟨a3, n3, c3, a4, n4, c4, e1, e2, r⟩ := hc k x hx
      exact RC.same (w := wr) (S := _) ⟨a3, n3, c3, a4, n4, c4, by rw [List.getElem?_append_left (by omega)]; exact e1, by rw [List.getElem?_append_left (by omega)]; exact e2, r⟩ hst hw
    · rw [List.getElem?_append_right (Nat.le_refl _), Nat.sub_self] at hx
      injection hx with hx
      subst hx
      exact RC.same (w := wr) ⟨a1, n1, c1, a2, n2, c2, by rw [List.getElem?_append_right (by omega), show sts.length * 2 - vs.length = 0 by omega]; rfl, by rw [List.getElem?_append_right (by omega), show sts.length * 2 + 1 - vs.length = 1 by omega]; rfl, ⟨p1, p2, L1⟩, ⟨q1, q2, L2⟩⟩ hst hw
/-- the row is handed back in another box -/
theorem CqI.done (h : CqI F w wr b3 vo sts) {b2 : Nat} {w0 : World} (h2 : wr.heap[b2]? = some (.cells #[.slice none 0 0] 29 (0, 0))) (hw : Below w0.heap.size w0 w) (hb2 : w0.heap.size ≤ b2) :
    (wr.setCell ⟨b2, 0, none⟩ vo).heap[b2]? = some (.cells #[vo] 29 (0, 0)) ∧ Below w0.heap.size w0 (wr.setCell ⟨b2, 0, none⟩ vo) ∧ RS (wr.setCell ⟨b2, 0, none⟩ vo) w0.heap.size vo (fun b => (F b ∨ w0.heap.size ≤ b) ∧ b < (wr.setCell ⟨b2, 0, none⟩ vo).heap.size ∧ vo.ownBlock ≠ some b) sts.length sts := by
  have hsz : (wr.setCell ⟨b2, 0, none⟩ vo).heap.size = wr.heap.size := World.size_setCell ..
  have hb : Below w0.heap.size w0 wr := hw.trans (h.bel.mono hw.size)
  refine ⟨by rw [heap_set h2 vo]; rfl, hb.setCell (p := ⟨b2, 0, none⟩) hb2 vo, ((h.rs.ne (no_int1 h2)).same (fun b e => ?_) (fun b hs => heap_set_ne hs.2) (fun b hs => ⟨hs.1.1.imp id (fun h1 => Nat.le_trans hw.size h1.1), by rw [hsz]; exact hs.1.2, fun e => ?_⟩)).base hw.size⟩
  · refine heap_set_ne (fun e2 => ?_)
    obtain ⟨_, vs, h3, _⟩ := h.rs
    exact own_ne_blk h3 h2 (by decide) (e2 ▸ e)
  · obtain ⟨_, vs, h3, _⟩ := h.rs
    have := (h3.lt b e).1
    rcases hs.1.1 with h1 | h1
    · have := h.hF b h1; omega
    · exact h1.2.1 e
end
end Go.Proofs.Ytfbgbbbfpkpfkaa
-- @@XTs7
/- The reference's streams: copied, Start, Feed. -/
namespace Go.Proofs.Ytfbgbbbfpkpfkaa
open Go.RowKit
/-- a row of one stage -/
def BV (w w' : World) (l1 l2 : List Int) (v : Value) : Prop :=
  ∃ b a3 n3 c3 a4 n4 c4, v = .slice (some ⟨b, 0, none⟩) 1 1 ∧ w'.heap[b]? = some (.cells #[.slice a3 n3 c3, .slice a4 n4 c4] 33 (0, 0)) ∧ (n3 ≤ c3 ∧ c3 ≤ maxLen ∧ Lst Enc.int w' (fun b => w.heap.size ≤ b ∧ b < w'.heap.size) a3 n3 l1) ∧ (n4 ≤ c4 ∧ c4 ≤ maxLen ∧ Lst Enc.int w' (fun b => w.heap.size ≤ b ∧ b < w'.heap.size) a4 n4 l2)
theorem BV.under {w wa wb : World} {l1 l2 : List Int} {u : Value} (h : BV w wa l1 l2 u) (hb : Below wa.heap.size wa wb) : BV w wb l1 l2 u := by
  obtain ⟨b, a3, n3, c3, a4, n4, c4, h1, h2, ⟨p1, p2, p3⟩, ⟨q1, q2, q3⟩⟩ := h
  exact ⟨b, a3, n3, c3, a4, n4, c4, h1, kept' hb h2, ⟨p1, p2, (p3.same (fun b hb' => hb.block b hb'.2)).wide (fun b hb' => ⟨hb'.1, Nat.lt_of_lt_of_le hb'.2 hb.size⟩)⟩, ⟨q1, q2, (q3.same (fun b hb' => hb.block b hb'.2)).wide (fun b hb' => ⟨hb'.1, Nat.lt_of_lt_of_le hb'.2 hb.size⟩)⟩⟩
theorem BV.of {w wa wb : World} {a3 a4 : Option Addr} {n3 c3 n4 c4 b : Nat} {l1 l2 : List Int} (h : DecV w wa (fun b => w.heap.size ≤ b) l1 l2 (.agg #[.slice a3 n3 c3, .slice a4 n4 c4])) (hb : Below wa.heap.size wa wb) (hr : wb.heap[b]? = some (.cells #[.slice a3 n3 c3, .slice a4 n4 c4] 33 (0, 0))) : BV w wb l1 l2 (.slice (some ⟨b, 0, none⟩) 1 1) := by
  obtain ⟨y1, y2, y3, y4, y5, y6, e, p, q⟩ := h.under hb
  injection e with e
  injection e with e
  injection e with e1 e
  injection e with e2 _
  injection e1 with e3 e4 e5
  injection e2 with e6 e7 e8
  subst e3; subst e4; subst e5; subst e6; subst e7; subst e8
  exact ⟨b, _, _, _, _, _, _, rfl, hr, p, q⟩
/-- a list that is handed back, in new blocks -/
def JV (w w' : World) (n : Nat) (l : List Int) (v : Value) : Prop := ∃ a c, v = .slice a n c ∧ n ≤ c ∧ c ≤ maxLen ∧ Lst Enc.int w' (fun b => w.heap.size ≤ b ∧ b < w'.heap.size) a n l
theorem JV.under {w wa wb : World} {n : Nat} {l : List Int} {u : Value} (h : JV w wa n l u) (hb : Below wa.heap.size wa wb) : JV w wb n l u := by
  obtain ⟨a, c, h1, h2, h3, h4⟩ := h
  exact ⟨a, c, h1, h2, h3, (h4.same (fun b hb' => hb.block b hb'.2)).wide (fun b hb' => ⟨hb'.1, Nat.lt_of_lt_of_le hb'.2 hb.size⟩)⟩
theorem join_nil (a1 : Option Addr) (n1 c1 : Nat) (l1 : List Int) (w0 w : World) (h0 : w0.heap.size ≤ w.heap.size) (h1 : Lst Enc.int w (· < w.heap.size) a1 n1 l1) (hn1 : n1 ≤ 400000) :
    Calls Try.prog 57 #[.slice a1 n1 c1, .slice none 0 0] w fun e w' => ∃ v, e = .returned v ∧ JV w0 w' n1 l1 v ∧ Below w.heap.size w w' := by
  refine (join_any a1 n1 c1 l1 none 0 0 [] w h1 (Lst.nil _ _ _ _) hn1 (by omega)).mono fun e w' ⟨a, c, h1, h2, h3, h4, h5⟩ => ⟨_, h1, ⟨a, c, rfl, h2, h3, ?_⟩, h5⟩
  rw [List.append_nil] at h4
  exact h4.wide (fun b hb => ⟨Nat.le_trans h0 hb.1, hb.2⟩)
set_option maxRecDepth 100000 in
set_option maxHeartbeats 8000000 in
theorem rcopied_any (sa : Option Addr) (n sc : Nat) (sts : List Stg) (w : World) (hs : Lst Enc.stg w (fun b => b < w.heap.size) sa n sts) (hn : n ≤ 1000) (hbd : ∀ s ∈ sts, s.1.length ≤ 300000 ∧ s.2.length ≤ 300000) :
    Calls Try.prog 39 #[.agg #[.slice sa n sc]] w fun e w' => ∃ va vc, e = .returned (.agg #[.slice va n vc]) ∧ RS w' w.heap.size (.slice va n vc) (fun b => w.heap.size ≤ b ∧ b < w'.heap.size ∧ (Value.slice va n vc).ownBlock ≠ some b) n sts ∧ Below w.heap.size w w' := by
  have hsl := hs.1
  obtain ⟨b1, V1, hb1, hV1, st⟩ := (St.start w).new (Obj.cells #[.slice sa n sc] 29)
  obtain ⟨b2, V2, hb2, hV2, st⟩ := st.new (Obj.cells #[.slice none 0 0] 29)
  have hc2 : b1 + 1 = b2 := by rw [← hb2, ← hV1, World.size_alloc, hb1]
  have k1 := hide (st.get 1 rfl)
  have k2 := hide (st.get 0 rfl)
  have hz := hide st.below
  have hs2 := hide (hs.under st.below)
  obtain ⟨b3, V3, hb3, hV3, st3⟩ := (St.start V2).new (Obj.cells #[.slice none 0 0] 29)
  have hc3 : b2 + 1 = b3 := by rw [← hb3, ← hV2, World.size_alloc, hb2]
  have hq0 := hide (CqI.start (F := fun _ => False) st3.below (st3.get 0 rfl) (by omega) (fun _ e => e.elim))
  have hl2 : Hid (w.heap.size ≤ b2) := hide (by omega)
  clear st st3 hs
  replace hsl := hide hsl; replace hb1 := hide hb1; replace hV1 := hide hV1; replace hb2 := hide hb2; replace hV2 := hide hV2; replace hb3 := hide hb3; replace hV3 := hide hV3; replace hc2 := hide hc2; replace hc3 := hide hc3; replace hbd := hide hbd
  go_enter Try.func39, Try.ntmps39
  go_upto_region 2 with fail
  try rw [unhide hb1]
  try rw [unhide hc2]
  rw [unhide hV1, unhide hV2]
  try rw [unhide hb3]
  try rw [unhide hc3]
  rw [unhide hV3]
  clear hV1 hV2 hV3 hb1 hb2 hc2 hc3
  go_wp2_with fail
  go_loopw [4] (fun v wr => ∃ (k : Nat) (vo : Value), k ≤ n ∧ v = .int .i64 (k : Int) ∧ CqI (fun _ => False) V2 wr b3 vo (sts.take k)) (fun v _ => (n - intOf v).toNat)
  case atStart => exact ⟨0, _, by omega, rfl, unhide hq0⟩
  case round =>
    clear hq0
    obtain ⟨k, vo, hk, rfl, hq⟩ := hrel
    obtain ⟨wo, rfl⟩ : ∃ W : World, W = wr := ⟨_, rfl⟩
    have d1 := blk_cell (kept' hq.bel (unhide k1))
    have d3 := blk_cell hq.box
    by_cases hlt : k < n
    · obtain ⟨g, off, s, a1, n1, c1, a2, n2, c2, rfl, _, hx, ⟨_, _, p1⟩, ⟨_, _, p2⟩, e1, e2⟩ := lst_stg ((unhide hs2).under hq.bel) hlt
      obtain ⟨hx1, hx2⟩ := unhide hbd s (List.mem_of_getElem? hx)
      have g1 := p1.1
      have g2 := p2.1
      have i1 : (0 : Int) ≤ (k : Int) := by omega
      have i2 : (k : Int) < (n : Int) := by omega
      have hm1 : n1 ≤ 300000 := by omega
      have hm2 : n2 ≤ 300000 := by omega
      have hkl : (sts.take k).length = k := by rw [List.length_take, unhide hsl]; omega
      clear hx1 hx2 g1 g2
      replace hq := hide hq; replace p1 := hide p1; replace p2 := hide p2; replace hx := hide hx; replace hkl := hide hkl
      go_upto_region 5 with fail
      refine wp_region_frontG 18 (fun _ _ w' => Below wo.heap.size wo w') (fun wa wb => Below wa.heap.size wa wb)
        (fun ix v w' => match ix with
          | 0 => v = .pointer (some ⟨b3, 0, none⟩)
          | 1 => v = vo
          | 2 => v = .pointer (some ⟨b1, 0, none⟩)
          | 3 => v = .slice (some ⟨g, off, none⟩) n sc
          | 4 => v = .int .i64 (k : Int)
          | 5 => v = .pointer (some ⟨g, off + k * 2, none⟩)
          | 6 => v = .pointer (some ⟨g, off + k * 2, none⟩)
          | 7 => v = .slice a1 n1 c1
          | 8 => JV wo w' n1 s.1 v
          | 9 => v = .pointer (some ⟨b1, 0, none⟩)
          | 10 => v = .slice (some ⟨g, off, none⟩) n sc
          | 11 => v = .int .i64 (k : Int)
          | 12 => v = .pointer (some ⟨g, off + k * 2, none⟩)
          | 13 => v = .pointer (some ⟨g, off + k * 2 + 1, none⟩)
          | 14 => v = .slice a2 n2 c2
          | 15 => JV wo w' n2 s.2 v
          | 16 => DecV wo w' (fun b => wo.heap.size ≤ b) s.1 s.2 v
          | 17 => BV wo w' s.1 s.2 v
          | _ => True) (by rfl) (by kernel_rfl) ?_ ?_ ?_ ?_
      · exact (Below.refl _ _).drew
      · intro wa wb hR ix v hv
        match ix, hv with
        | 0, h => exact h
        | 1, h => exact h
        | 2, h => exact h
        | 3, h => exact h
        | 4, h => exact h
        | 5, h => exact h
        | 6, h => exact h
        | 7, h => exact h
        | 8, h => exact h.under hR
        | 9, h => exact h
        | 10, h => exact h
        | 11, h => exact h
        | 12, h => exact h
        | 13, h => exact h
        | 14, h => exact h
        | 15, h => exact h.under hR
        | 16, h => exact h.under hR
        | 17, h => exact h.under hR
        | _ + 18, _ => trivial
      · intro ix hix
        obtain rfl | rfl | rfl | rfl | rfl | rfl | rfl | rfl | rfl | rfl | rfl | rfl | rfl | rfl | rfl | rfl | rfl | rfl : ix = 0 ∨ ix = 1 ∨ ix = 2 ∨ ix = 3 ∨ ix = 4 ∨ ix = 5 ∨ ix = 6 ∨ ix = 7 ∨ ix = 8 ∨ ix = 9 ∨ ix = 10 ∨ ix = 11 ∨ ix = 12 ∨ ix = 13 ∨ ix = 14 ∨ ix = 15 ∨ ix = 16 ∨ ix = 17 := by omega
        · refine FrontStep.of [] _ rfl (by kernel_rfl) ?_
          intro vs LL wq hLL hC hf
          simp only [putL, List.foldl_nil]
          go_wp2_with fail
          first | exact Below.refl _ _ | exact hC | exact ⟨hC, Below.refl _ _⟩ | exact ⟨hC, Below.refl _ _, by omega⟩ | exact ⟨Below.refl _ _, by omega⟩ | trace_state
        · refine FrontStep.of [0] _ rfl (by kernel_rfl) ?_
          intro vs LL wq hLL hC hf
          simp only [putL, List.foldl_nil, List.foldl_cons, List.getElem?_cons_zero]
          have e0 : vs 0 = _ := hf 0 (by simp)
          rw [e0]
          have g0c0 := cell_under d3 hC
          go_wp2_with fail
          first | exact Below.refl _ _ | exact hC | exact ⟨hC, Below.refl _ _⟩ | exact ⟨hC, Below.refl _ _, by omega⟩ | exact ⟨Below.refl _ _, by omega⟩ | trace_state
        · refine FrontStep.of [] _ rfl (by kernel_rfl) ?_
          intro vs LL wq hLL hC hf
          simp only [putL, List.foldl_nil]
          go_wp2_with fail
          first | exact Below.refl _ _ | exact hC | exact ⟨hC, Below.refl _ _⟩ | exact ⟨hC, Below.refl _ _, by omega⟩ | exact ⟨Below.refl _ _, by omega⟩ | trace_state
        · refine FrontStep.of [2] _ rfl (by kernel_rfl) ?_
          intro vs LL wq hLL hC hf
          simp only [putL, List.foldl_nil, List.foldl_cons, List.getElem?_cons_zero, List.getElem?_cons_succ]
          have e2 : vs 2 = _ := hf 2 (by simp)
          rw [e2]
          have g0c0 := cell_under d1 hC
          go_wp2_with fail
          first | exact Below.refl _ _ | exact hC | exact ⟨hC, Below.refl _ _⟩ | exact ⟨hC, Below.refl _ _, by omega⟩ | exact ⟨Below.refl _ _, by omega⟩ | trace_state
        · refine FrontStep.of [] _ rfl (by kernel_rfl) ?_
          intro vs LL wq hLL hC hf
          simp only [putL, List.foldl_nil]
          go_wp2_with fail
          first | exact Below.refl _ _ | exact hC | exact ⟨hC, Below.refl _ _⟩ | exact ⟨hC, Below.refl _ _, by omega⟩ | exact ⟨Below.refl _ _, by omega⟩ | trace_state
        · refine FrontStep.of [3, 4] _ rfl (by kernel_rfl) ?_
          intro vs LL wq hLL hC hf
          simp only [putL, List.foldl_nil, List.foldl_cons, List.getElem?_cons_zero, List.getElem?_cons_succ]
          have e3 : vs 3 = _ := hf 3 (by simp)
          rw [e3]
          have e4 : vs 4 = _ := hf 4 (by simp)
          rw [e4]
          go_wp2_with fail
          first | exact Below.refl _ _ | exact hC | exact ⟨hC, Below.refl _ _⟩ | exact ⟨hC, Below.refl _ _, by omega⟩ | exact ⟨Below.refl _ _, by omega⟩ | trace_state
        · refine FrontStep.of [5] _ rfl (by kernel_rfl) ?_
          intro vs LL wq hLL hC hf
          simp only [putL, List.foldl_nil, List.foldl_cons, List.getElem?_cons_zero, List.getElem?_cons_succ]
          have e5 : vs 5 = _ := hf 5 (by simp)
          rw [e5]
          go_wp2_with fail
          first | exact Below.refl _ _ | exact hC | exact ⟨hC, Below.refl _ _⟩ | exact ⟨hC, Below.refl _ _, by omega⟩ | exact ⟨Below.refl _ _, by omega⟩ | trace_state
        · refine FrontStep.of [6] _ rfl (by kernel_rfl) ?_
          intro vs LL wq hLL hC hf
          simp only [putL, List.foldl_nil, List.foldl_cons, List.getElem?_cons_zero, List.getElem?_cons_succ]
          have e6 : vs 6 = _ := hf 6 (by simp)
          rw [e6]
          have g0c0 := cell_under e1 hC
          go_wp2_with fail
          first | exact Below.refl _ _ | exact hC | exact ⟨hC, Below.refl _ _⟩ | exact ⟨hC, Below.refl _ _, by omega⟩ | exact ⟨Below.refl _ _, by omega⟩ | trace_state
        · refine FrontStep.of [7] _ rfl (by kernel_rfl) ?_
          intro vs LL wq hLL hC hf
          simp only [putL, List.foldl_nil, List.foldl_cons, List.getElem?_cons_zero, List.getElem?_cons_succ]
          have e7 : vs 7 = _ := hf 7 (by simp)
          rw [e7]
          have hj := hide (join_nil a1 n1 c1 s.1 wo wq hC.size ((unhide p1).under hC) (by omega))
          go_wp2_with fail
          refine (unhide hj).mono ?_
          rintro e wz ⟨u, rfl, hu, hbz⟩
          clear hj
          replace hu := hide hu; replace hbz := hide hbz
          go_wp2_with fail
          first | exact ⟨hC.trans ((unhide hbz).mono hC.size), unhide hbz, unhide hu⟩ | exact ⟨hC.trans ((unhide hbz).mono hC.size), unhide hbz, u, rfl, unhide hu⟩ | trace_state
        · refine FrontStep.of [] _ rfl (by kernel_rfl) ?_
          intro vs LL wq hLL hC hf
          simp only [putL, List.foldl_nil]
          go_wp2_with fail
          first | exact Below.refl _ _ | exact hC | exact ⟨hC, Below.refl _ _⟩ | exact ⟨hC, Below.refl _ _, by omega⟩ | exact ⟨Below.refl _ _, by omega⟩ | trace_state
        · refine FrontStep.of [9] _ rfl (by kernel_rfl) ?_
          intro vs LL wq hLL hC hf
          simp only [putL, List.foldl_nil, List.foldl_cons, List.getElem?_cons_zero, List.getElem?_cons_succ]
          have e9 : vs 9 = _ := hf 9 (by simp)
          rw [e9]
          have g0c0 := cell_under d1 hC
          go_wp2_with fail
          first | exact Below.refl _ _ | exact hC | exact ⟨hC, Below.refl _ _⟩ | exact ⟨hC, Below.refl _ _, by omega⟩ | exact ⟨Below.refl _ _, by omega⟩ | trace_state
        · refine FrontStep.of [] _ rfl (by kernel_rfl) ?_
          intro vs LL wq hLL hC hf
          simp only [putL, List.foldl_nil]
          go_wp2_with fail
          first | exact Below.refl _ _ | exact hC | exact ⟨hC, Below.refl _ _⟩ | exact ⟨hC, Below.refl _ _, by omega⟩ | exact ⟨Below.refl _ _, by omega⟩ | trace_state
        · refine FrontStep.of [10, 11] _ rfl (by kernel_rfl) ?_
          intro vs LL wq hLL hC hf
          simp only [putL, List.foldl_nil, List.foldl_cons, List.getElem?_cons_zero, List.getElem?_cons_succ]
          have e10 : vs 10 = _ := hf 10 (by simp)
          rw [e10]
          have e11 : vs 11 = _ := hf 11 (by simp)
          rw [e11]
          go_wp2_with fail
          first | exact Below.refl _ _ | exact hC | exact ⟨hC, Below.refl _ _⟩ | exact ⟨hC, Below.refl _ _, by omega⟩ | exact ⟨Below.refl _ _, by omega⟩ | trace_state
        · refine FrontStep.of [12] _ rfl (by kernel_rfl) ?_
          intro vs LL wq hLL hC hf
          simp only [putL, List.foldl_nil, List.foldl_cons, List.getElem?_cons_zero, List.getElem?_cons_succ]
          have e12 : vs 12 = _ := hf 12 (by simp)
          rw [e12]
          go_wp2_with fail
          first | exact Below.refl _ _ | exact hC | exact ⟨hC, Below.refl _ _⟩ | exact ⟨hC, Below.refl _ _, by omega⟩ | exact ⟨Below.refl _ _, by omega⟩ | trace_state
        · refine FrontStep.of [13] _ rfl (by kernel_rfl) ?_
          intro vs LL wq hLL hC hf
          simp only [putL, List.foldl_nil, List.foldl_cons, List.getElem?_cons_zero, List.getElem?_cons_succ]
          have e13 : vs 13 = _ := hf 13 (by simp)
          rw [e13]
          have g0c0 := cell_under e2 hC
          go_wp2_with fail
          first | exact Below.refl _ _ | exact hC | exact ⟨hC, Below.refl _ _⟩ | exact ⟨hC, Below.refl _ _, by omega⟩ | exact ⟨Below.refl _ _, by omega⟩ | trace_state
        · refine FrontStep.of [8, 14] _ rfl (by kernel_rfl) ?_
          intro vs LL wq hLL hC hf
          simp only [putL, List.foldl_nil, List.foldl_cons, List.getElem?_cons_zero, List.getElem?_cons_succ]
          have e8 := hf 8 (by simp)
          have e14 : vs 14 = _ := hf 14 (by simp)
          rw [e14]
          have hj := hide (join_nil a2 n2 c2 s.2 wo wq hC.size ((unhide p2).under hC) (by omega))
          go_wp2_with fail
          refine (unhide hj).mono ?_
          rintro e wz ⟨u, rfl, hu, hbz⟩
          clear hj
          replace hu := hide hu; replace hbz := hide hbz
          go_wp2_with fail
          first | exact ⟨hC.trans ((unhide hbz).mono hC.size), unhide hbz, unhide hu⟩ | exact ⟨hC.trans ((unhide hbz).mono hC.size), unhide hbz, u, rfl, unhide hu⟩ | trace_state
        · refine FrontStep.of [8, 15] _ rfl (by kernel_rfl) ?_
          intro vs LL wq hLL hC hf
          simp only [putL, List.foldl_nil, List.foldl_cons, List.getElem?_cons_zero, List.getElem?_cons_succ]
          have e8 := hf 8 (by simp)
          have e15 := hf 15 (by simp)
          obtain ⟨a3, c3, q3, p31, p32, p33⟩ := e8
          obtain ⟨a4, c4, q4, p41, p42, p43⟩ := e15
          rw [q3, q4]
          have hdv : DecV wo wq (fun b => wo.heap.size ≤ b) s.1 s.2 (.agg #[.slice a3 n1 c3, .slice a4 n2 c4]) := ⟨a3, n1, c3, a4, n2, c4, rfl, ⟨p31, p32, p33⟩, ⟨p41, p42, p43⟩⟩
          clear p33 p43
          replace hdv := hide hdv
          go_wp2_with fail
          first | exact ⟨hC, Below.refl _ _, unhide hdv⟩ | exact ⟨Below.refl _ _, unhide hdv⟩ | trace_state
        · refine FrontStep.of [16] _ rfl (by kernel_rfl) ?_
          intro vs LL wq hLL hC hf
          simp only [putL, List.foldl_nil, List.foldl_cons, List.getElem?_cons_zero, List.getElem?_cons_succ]
          have e16 := hf 16 (by simp)
          have hdv := e16
          obtain ⟨a3, n3, c3, a4, n4, c4, q5, _, _⟩ := hdv
          rw [q5] at e16
          rw [q5]
          have hn0 := heap_alloc_new wq (Obj.cells #[.slice a3 n3 c3, .slice a4 n4 c4] 33)
          have hb0 := (Below.refl wq.heap.size wq).alloc (Nat.le_refl _) (Obj.cells #[.slice a3 n3 c3, .slice a4 n4 c4] 33)
          have hbv := hide (BV.of e16 hb0 hn0)
          have hfin := hide (hC.trans (hb0.mono hC.size))
          replace hb0 := hide hb0
          clear e16 q5 hn0
          go_wp2_with fail
          first | exact ⟨unhide hfin, unhide hb0, unhide hbv⟩ | exact ⟨unhide hb0, unhide hbv⟩ | trace_state
      · intro vs LL wq hLL hC hf
        obtain ⟨b, a3, n3, c3, a4, n4, c4, e17, hb29, ⟨p1', p2', p3'⟩, ⟨q1', q2', q3'⟩⟩ := hf 17 (by omega)
        have e1 : vs 1 = _ := hf 1 (by omega)
        rw [putSome_all]
        simp only [putL, List.range, List.range.loop, List.foldl_nil, List.foldl_cons, List.getElem?_cons_zero, List.getElem?_cons_succ, List.drop_succ_cons, List.drop_zero]
        rw [e17, e1]
        have hq' := (unhide hq).under hC
        have hlo := (unhide hq).lo
        have hbs := (unhide hq).bel.size
        have h3l := (Array.getElem?_eq_some_iff.1 (unhide hq).box).1
        obtain ⟨_, xs0, hown0, _⟩ := (unhide hq).rs
        obtain ⟨_, xs, hown, hcc⟩ := hq'.rs
        have hft : ∀ b, (wo.heap.size ≤ b ∧ b < wq.heap.size) → (False ∨ (V2.heap.size ≤ b ∧ vo.ownBlock ≠ some b ∧ b ≠ b3)) ∧ b < wq.heap.size := fun b hb => ⟨.inr ⟨by omega, fun e => by have := (hown0.lt b e).2; omega, by omega⟩, hb.2⟩
        have P3 := p3'.wide hft
        have Q3 := q3'.wide hft
        have hszq : V2.heap.size ≤ wq.heap.size := Nat.le_trans hbs hC.size
        clear hf hLL hC e17 e1 hown0 hft p3' q3' d1 d3 hlo hbs h3l hq
        rw [unhide hkl] at hown
        replace hown := hide hown; replace hcc := hide hcc; replace hb29 := hide hb29; replace P3 := hide P3; replace Q3 := hide Q3; replace hq' := hide hq'; replace hszq := hide hszq
        go_simp
        go_wp2_with (at_builtin; refine wpList_append_el Try.underlying27 info_stage rfl (by decide) (by decide) rfl _ _ rfl V2.heap.size _ k xs rfl (unhide hown) b [.slice a3 n3 c3, .slice a4 n4 c4] rfl (unhide hb29) rfl ?aa ?ab (unhide hszq) ?_)
        case aa => first | exact ⟨rfl, rfl⟩ | (intro u hu; simp at hu; rcases hu with rfl | rfl <;> rfl)
        case ab => omega
        intro v' wz hrow hgr hown'
        obtain ⟨a', c', rfl⟩ := own_shape hrow
        obtain ⟨r1, r2, hq2⟩ := (unhide hq').push (s := s) (by rw [unhide hkl]; exact unhide hown) (unhide hcc) (by rw [unhide hkl]; exact hrow) hgr hown' p1' p2' (unhide P3) q1' q2' (unhide Q3)
        rw [take_snoc (unhide hx)] at hq2
        clear hrow hgr hown' hq' hown hcc hb29 P3 Q3
        replace hq2 := hide hq2
        go_wp2_with fail
        go_roundw
        case rel => exact ⟨k + 1, _, by omega, by go_num, unhide hq2⟩
        case measure => simp [intOf]; omega
    · obtain ⟨va, vc, hvo⟩ : ∃ a c, vo = .slice a k c := by
        obtain ⟨_, vs, h, _⟩ := hq.rs
        obtain ⟨a, c, h⟩ := own_shape h
        rw [List.length_take, unhide hsl] at h
        exact ⟨a, c, by rw [h, show min k n = k by omega]⟩
      have hkn : k = n := by omega
      have hsn : sts.take k = sts := List.take_of_length_le (by rw [unhide hsl]; omega)
      rw [hsn, hvo, hkn] at hq
      rw [hvo, hkn] at d3
      have i2 : ¬ (k : Int) < (n : Int) := by omega
      have hk2 := kept' hq.bel (unhide k2)
      have f2 := blk_cell hk2
      have f3 : wo.frozen? ⟨b2, 0, none⟩ = false := by simp [World.frozen?, hk2]
      obtain ⟨r1, r2, r3⟩ := hq.done hk2 (unhide hz) (unhide hl2)
      obtain ⟨W, hW⟩ : ∃ W, wo.setCell ⟨b2, 0, none⟩ (.slice va n vc) = W := ⟨_, rfl⟩
      rw [hW] at r1 r2 r3
      rw [unhide hsl] at r3
      have r3 := r3.same (fun _ _ => rfl) (fun _ _ => rfl) (S' := fun b => w.heap.size ≤ b ∧ b < W.heap.size ∧ (Value.slice va n vc).ownBlock ≠ some b) (fun b hb => ⟨hb.1.elim (fun e => e.elim) id, hb.2⟩)
      have r0 := blk_cell r1
      clear hq hk2 hvo hkn hsn r1
      replace r2 := hide r2; replace r3 := hide r3
      go_wp2_with fail
      refine bodyPost_ret (v := .agg #[.slice va n vc]) (by simp [results, Try.results39, go_sem, r0]) rfl ?_
      exact ⟨va, vc, rfl, unhide r3, unhide r2⟩
end Go.Proofs.Ytfbgbbbfpkpfkaa
-- @@XTs8
/- The reference's streams: Start, Feed. -/
namespace Go.Proofs.Ytfbgbbbfpkpfkaa
open Go.RowKit
set_option maxRecDepth 100000 in
set_option maxHeartbeats 4000000 in
theorem rstart_any (la : Option Addr) (ln lc : Nat) (w : World) (hn : ln ≤ 1000) :
    Calls Try.prog 26 #[.slice la ln lc] w fun e w' => ∃ a c, e = .returned (.agg #[.slice a ln c]) ∧ Lst Enc.stg w' (fun b => b < w'.heap.size) a ln (List.replicate ln ([], [])) ∧ Below w.heap.size w w' := by
  obtain ⟨b2, V2, hb2, hV2, st⟩ := (St.start w).new (Obj.cells #[.slice none 0 0] 29)
  have k2 := hide (st.get 0 rfl)
  have hz := hide st.below
  obtain ⟨b3, V3, hb3, hV3, st3⟩ := (St.start V2).new (Obj.cells #[.slice none 0 0] 29)
  have hc3 : b2 + 1 = b3 := by rw [← hb3, ← hV2, World.size_alloc, hb2]
  have hq0 := hide (CqI.start (F := fun _ => False) st3.below (st3.get 0 rfl) (by omega) (fun _ e => e.elim))
  have hl2 : Hid (w.heap.size ≤ b2) := hide (by omega)
  clear st st3
  replace hb2 := hide hb2; replace hV2 := hide hV2; replace hb3 := hide hb3; replace hV3 := hide hV3; replace hc3 := hide hc3
  go_enter Try.func26, Try.ntmps26
  go_upto_region 2 with fail
  try rw [unhide hb2]
  try rw [unhide hc3]
  rw [unhide hV2]
  try rw [unhide hb3]
  try rw [unhide hc3]
  rw [unhide hV3]
  clear hV2 hV3 hb2 hb3 hc3
  go_wp2_with fail
  go_loopw [4] (fun v wr => ∃ (k : Nat) (vo : Value), k ≤ ln ∧ v = .int .i64 (k : Int) ∧ CqI (fun _ => False) V2 wr b3 vo (List.replicate k ([], []))) (fun v _ => (ln - intOf v).toNat)
  case atStart => exact ⟨0, _, by omega, rfl, unhide hq0⟩
  case round =>
    clear hq0
    obtain ⟨k, vo, hk, rfl, hq⟩ := hrel
    obtain ⟨wo, rfl⟩ : ∃ W : World, W = wr := ⟨_, rfl⟩
    have d3 := blk_cell hq.box
    obtain ⟨va, vc, hvo⟩ : ∃ a c, vo = .slice a k c := by
      obtain ⟨_, vs, h, _⟩ := hq.rs
      obtain ⟨a, c, h⟩ := own_shape h
      rw [List.length_replicate] at h
      exact ⟨a, c, h⟩
    subst hvo
    by_cases hlt : k < ln
    · have i2 : (k : Int) < (ln : Int) := by omega
      obtain ⟨b14, V14, hb14, hV14, st⟩ := (St.start wo).new (Obj.cells #[nilS, nilS] 33)
      have hq' := hq.under st.below
      have hb29 := st.get 0 rfl
      obtain ⟨_, xs, hown, hcc⟩ := hq'.rs
      have hszq := hq'.bel.size
      have hkl : (List.replicate k (([], []) : Stg)).length = k := List.length_replicate ..
      rw [hkl] at hown
      clear st hq
      replace hq' := hide hq'; replace hb29 := hide hb29; replace hown := hide hown; replace hcc := hide hcc; replace hszq := hide hszq; replace hkl := hide hkl
      go_wp2_with (at_builtin; refine wpList_append_el Try.underlying27 info_stage rfl (by decide) (by decide) rfl _ _ rfl V2.heap.size _ k xs rfl (unhide hown) b14 [nilS, nilS] rfl (unhide hb29) rfl ?aa ?ab (unhide hszq) ?_)
      case aa => first | rfl | exact ⟨rfl, rfl⟩ | (intro u hu; simp at hu; rw [hu]; rfl)
      case ab => omega
      intro v' wz hrow hgr hown'
      obtain ⟨a', c', rfl⟩ := own_shape hrow
      obtain ⟨r1, r2, hq2⟩ := (unhide hq').push (s := ([], [])) (by rw [unhide hkl]; exact unhide hown) (unhide hcc) (by rw [unhide hkl]; exact hrow) hgr hown' (Nat.le_refl _) (Nat.zero_le _) (Lst.nil _ _ _ _) (Nat.le_refl _) (Nat.zero_le _) (Lst.nil _ _ _ _)
      rw [show List.replicate k (([], []) : Stg) ++ [([], [])] = List.replicate (k + 1) ([], []) from (List.replicate_succ' ..).symm] at hq2
      clear hrow hgr hown' hq' hown hcc hb29 hV14 hb14
      replace hq2 := hide hq2
      go_wp2_with fail
      go_roundw
      case rel => exact ⟨k + 1, _, by omega, by go_num, unhide hq2⟩
      case measure => simp [intOf]; omega
    · have hkn : k = ln := by omega
      have i2 : ¬ (k : Int) < (ln : Int) := by omega
      rw [hkn] at hq d3
      have hk2 := kept' hq.bel (unhide k2)
      have f2 := blk_cell hk2
      have f3 : wo.frozen? ⟨b2, 0, none⟩ = false := by simp [World.frozen?, hk2]
      obtain ⟨r1, r2, r3⟩ := hq.done hk2 (unhide hz) (unhide hl2)
      obtain ⟨W, hW⟩ : ∃ W, wo.setCell ⟨b2, 0, none⟩ (.slice va ln vc) = W := ⟨_, rfl⟩
      rw [hW] at r1 r2 r3
      rw [List.length_replicate] at r3
      obtain ⟨_, _, r4⟩ := r3.lst (T := fun b => b < W.heap.size) (fun b hb => hb.2.1) (fun b _ _ hb => hb)
      have r0 := blk_cell r1
      clear hq hk2 hkn r1 r3
      replace r2 := hide r2; replace r4 := hide r4
      go_wp2_with fail
      refine bodyPost_ret (v := .agg #[.slice va ln vc]) (by simp [results, Try.results26, go_sem, r0]) rfl ?_
      exact ⟨va, ⟨vc, rfl⟩, unhide r4, unhide r2⟩
/-- what Feed answers for any state -/
def feedX (l : List (List Sub)) (ss : List Stg) (g : Int) : List Stg × List Int := if ss.length = l.length then feedS l ss g else ([], [])
def endX (l : List (List Sub)) (ss : List Stg) : List Int := if ss.length = l.length then endS l ss else []
/-- what Feed hands back -/
def FeedP (w : World) (r : List Stg × List Int) (e : Ending) (w' : World) : Prop :=
  ∃ a c a' c', e = .returned (.tuple #[.agg #[.slice a r.1.length c], .slice a' r.2.length c']) ∧ Lst Enc.stg w' (fun b => w.heap.size ≤ b ∧ b < w'.heap.size) a r.1.length r.1 ∧ Lst Enc.int w' (fun b => w.heap.size ≤ b ∧ b < w'.heap.size) a' r.2.length r.2 ∧ Below w.heap.size w w'
set_option maxRecDepth 100000 in
set_option maxHeartbeats 4000000 in
theorem rfeed_any (la : Option Addr) (ln lc : Nat) (l : List (List Sub)) (sa : Option Addr) (n sc : Nat) (sts : List Stg) (g : Int) (w : World) (hll : Lst Enc.lk w (fun b => b < w.heap.size) la ln l) (hsm : ∀ x ∈ l, Small x) (hto : ∀ x ∈ l, ToI x) (hs : Lst Enc.stg w (fun b => b < w.heap.size) sa n sts) (hn : ln ≤ 1000) (hg : I64 g)
    (hbd : ∀ s ∈ sts, s.1.length ≤ 300000) (ht : tot sts [] + 1 ≤ 200000) :
    Calls Try.prog 21 #[.slice la ln lc, .agg #[.slice sa n sc], .int .i64 g] w (FeedP w (feedX l sts g)) := by
  have e1 := hll.1
  have e2 := hs.1
  have hnum := lst_stg_i64 hs
  have hbd2 : ∀ s ∈ sts, s.1.length ≤ 300000 ∧ s.2.length ≤ 300000 := fun s hs => ⟨hbd s hs, by have := tot_mem hs []; simp only [List.length_nil] at this; omega⟩
  obtain ⟨b4, V4, hb4, hV4, st⟩ := (St.start w).new (Obj.cells #[.slice sa n sc] 29)
  obtain ⟨b6, V6, hb6, hV6, st⟩ := st.new (Obj.cells #[.slice none 0 0] 29)
  have hc6 : b4 + 1 = b6 := by rw [← hb6, ← hV4, World.size_alloc, hb4]
  have k4 := hide (st.get 1 rfl)
  have k6 := hide (st.get 0 rfl)
  have hz := hide st.below
  have hll6 := hide (hll.under st.below)
  have hs6 := hide (hs.under st.below)
  have hl6 : Hid (w.heap.size ≤ b6) := hide (by omega)
  clear st hll hs
  replace hb4 := hide hb4; replace hV4 := hide hV4; replace hb6 := hide hb6; replace hV6 := hide hV6; replace hc6 := hide hc6; replace hsm := hide hsm; replace hto := hide hto; replace hg := hide hg; replace hbd := hide hbd; replace hbd2 := hide hbd2; replace hnum := hide hnum; replace ht := hide ht; replace e1 := hide e1; replace e2 := hide e2
  go_enter Try.func21, Try.ntmps21
  go_upto_region 1 with fail
  try rw [unhide hb4]
  try rw [unhide hc6]
  rw [unhide hV4, unhide hV6]
  clear hV4 hV6 hb4 hb6 hc6
  have d4 := blk_cell (unhide k4)
  by_cases hne : n = ln
  · subst hne
    have hX : feedX l sts g = feedS l sts g := by unfold feedX; rw [if_pos (by rw [unhide e1, unhide e2])]
    replace hX := hide hX
    have t1 : ((n : Int) != (n : Int)) = false := by simp
    have hcp := hide (rcopied_any sa n sc sts V6 (unhide hs6) hn (unhide hbd2))
    go_wp2_with fail
    refine (unhide hcp).mono ?_
    rintro e w1 ⟨va, vc, rfl, hrs, hb1⟩
    clear hcp d4
    have hlk : Lst Enc.lk w1 (fun b => b < w1.heap.size ∧ (Value.slice va n vc).ownBlock ≠ some b) la n l := ((unhide hll6).same (fun b hb => hb1.block b hb)).wide (fun b hb => ⟨Nat.lt_of_lt_of_le hb hb1.size, fun e => by
      obtain ⟨_, vs, h2, _⟩ := hrs
      have := (h2.lt b e).1
      omega⟩)
    have htk := take_any la n lc l (by omega) (unhide e1) (unhide hsm) (unhide hto) n 0 (by omega) V6.heap.size va vc _ [] sts g w1 hrs rfl (fun b hb => ⟨hb.2.1, hb.2.2⟩) hlk (unhide hg) (unhide ht) (unhide hbd) (unhide hnum)
    rw [List.drop_zero] at htk
    have hfl := feedS_len l sts g (by rw [unhide e1, unhide e2])
    obtain ⟨rr, hrr⟩ : ∃ r, feedS l sts g = r := ⟨_, rfl⟩
    rw [hrr] at htk hfl
    have hlo : Hid (∀ b, (Value.slice va n vc).ownBlock = some b → V6.heap.size ≤ b) := hide (fun b e => by obtain ⟨_, vs, h2, _⟩ := hrs; exact (h2.lt b e).1)
    have hbv := hide hb1
    replace htk := hide htk; replace hfl := hide hfl; replace hrr := hide hrr
    clear hrs hlk hb1
    go_wp2_with fail
    refine (unhide htk).mono ?_
    rintro e w2 ⟨ar, cr, rfl, _, _, hr3, hrl, hgr⟩
    rw [List.nil_append] at hr3
    have hb2 : Below V6.heap.size V6 w2 := (unhide hbv).trans ⟨hgr.os, hgr.tape, hgr.output, hgr.size, fun b hb => hgr.block b (by have := (unhide hbv).size; omega) (fun e => by have := unhide hlo b e.symm; omega)⟩
    have hk6 := kept' hb2 (unhide k6)
    have f2 := blk_cell hk6
    have f3 : w2.frozen? ⟨b6, 0, none⟩ = false := by simp [World.frozen?, hk6]
    have hsz : (w2.setCell ⟨b6, 0, none⟩ (.slice va n vc)).heap.size = w2.heap.size := World.size_setCell ..
    have hown : (Value.slice va n vc).ownBlock ≠ some b6 := fun e => by have := unhide hlo b6 e; have := (Array.getElem?_eq_some_iff.1 (unhide k6)).1; omega
    have hrs2 := (hr3.ne (no_int1 hk6)).same (w' := w2.setCell ⟨b6, 0, none⟩ (.slice va n vc)) (S' := fun b => w.heap.size ≤ b ∧ b < (w2.setCell ⟨b6, 0, none⟩ (.slice va n vc)).heap.size) (fun b e => heap_set_ne (fun e2 => hown (e2 ▸ e))) (fun b hb => heap_set_ne hb.2) (fun b hb => by
      rw [hsz]
      have h0 := (unhide hz).size
      have h2 := (unhide hbv).size
      rcases hb.1 with h1 | h1
      · exact ⟨Nat.le_trans h0 h1.1, Nat.lt_of_lt_of_le h1.2.1 hgr.size⟩
      · exact ⟨by omega, h1.2⟩)
    have hrl2 := ((lst_ne hrl (no_int1 hk6)).same (w' := w2.setCell ⟨b6, 0, none⟩ (.slice va n vc)) (fun b hb => heap_set_ne hb.2)).wide (S' := fun b => w.heap.size ≤ b ∧ b < (w2.setCell ⟨b6, 0, none⟩ (.slice va n vc)).heap.size) (fun b hb => ⟨by have := (unhide hz).size; have := (unhide hbv).size; have := hb.1.1; omega, by rw [hsz]; exact hb.1.2⟩)
    have hb3 := ((unhide hz).trans (hb2.mono (unhide hz).size)).setCell (p := ⟨b6, 0, none⟩) (unhide hl6) (.slice va n vc)
    have r0 := blk_cell (heap_set (off := 0) hk6 (.slice va n vc))
    obtain ⟨W, hW⟩ : ∃ W, w2.setCell ⟨b6, 0, none⟩ (.slice va n vc) = W := ⟨_, rfl⟩
    rw [hW] at hrs2 hrl2 hb3 r0
    obtain ⟨_, _, hst⟩ := hrs2.lst (T := fun b => w.heap.size ≤ b ∧ b < W.heap.size) (fun b hb => hb) (fun b _ h1 h2 => ⟨by have := (unhide hz).size; omega, h2⟩)
    obtain ⟨m, hm⟩ : ∃ m, rr.2.length = m := ⟨_, rfl⟩
    rw [hm] at hrl2
    rw [hm]
    clear hr3 hrl hgr hb2 hk6 hsz hown hrs2 htk hbv
    replace hst := hide hst; replace hrl2 := hide hrl2; replace hb3 := hide hb3; replace hm := hide hm
    go_wp2_with fail
    refine bodyPost_ret (v := .tuple #[.agg #[.slice va n vc], .slice ar m cr]) (by simp [results, Try.results21, go_sem, r0]) rfl ?_
    have hfl' : rr.1.length = n := by rw [unhide hfl, unhide e1]
    rw [unhide hX, unhide hrr]
    refine ⟨va, vc, ar, cr, by rw [hfl', unhide hm], by rw [hfl']; exact unhide hst, by rw [unhide hm]; exact unhide hrl2, unhide hb3⟩
  · have hX : feedX l sts g = ([], []) := by unfold feedX; rw [if_neg (by rw [unhide e1, unhide e2]; exact hne)]
    replace hX := hide hX
    have t1 : ((n : Int) != (ln : Int)) = true := by simp; omega
    have f2 := blk_cell (unhide k6)
    have f3 : V6.frozen? ⟨b6, 0, none⟩ = false := by simp [World.frozen?, unhide k6]
    have r0 := blk_cell (heap_set (off := 0) (unhide k6) (.slice none 0 0))
    have hb3 := hide ((unhide hz).setCell (p := ⟨b6, 0, none⟩) (unhide hl6) (.slice none 0 0))
    go_wp2_with fail
    refine bodyPost_ret (v := .tuple #[.agg #[.slice none 0 0], .slice none 0 0]) (by simp [results, Try.results21, go_sem, r0]) rfl ?_
    rw [unhide hX]
    exact ⟨none, 0, none, 0, rfl, Lst.nil _ _ _ _, Lst.nil _ _ _ _, unhide hb3⟩
end Go.Proofs.Ytfbgbbbfpkpfkaa
-- @@XTs9
/- The reference's streams: End. -/
namespace Go.Proofs.Ytfbgbbbfpkpfkaa
open Go.RowKit
theorem cons_at {α : Type} {l : List α} {k : Nat} {x : α} (h : l[k]? = some x) : l.drop k = x :: l.drop (k + 1) := by
  obtain ⟨h1, h2⟩ := List.getElem?_eq_some_iff.1 h
  rw [List.drop_eq_getElem_cons h1, h2]
/-- what End hands back -/
def EndP (w : World) (r : List Int) (e : Ending) (w' : World) : Prop :=
  ∃ a c, e = .returned (.slice a r.length c) ∧ Lst Enc.int w' (fun b => b < w'.heap.size) a r.length r ∧ r.length ≤ 200000 ∧ Below w.heap.size w w'
set_option maxRecDepth 100000 in
set_option maxHeartbeats 8000000 in
theorem rend_any (la : Option Addr) (ln lc : Nat) (l : List (List Sub)) (sa : Option Addr) (n sc : Nat) (sts : List Stg) (w0 : World) (hll0 : Lst Enc.lk w0 (fun b => b < w0.heap.size) la ln l) (hsm : ∀ x ∈ l, Small x) (hto : ∀ x ∈ l, ToI x) (hs : Lst Enc.stg w0 (fun b => b < w0.heap.size) sa n sts) (hn : ln ≤ 1000)
    (hbd : ∀ s ∈ sts, s.1.length ≤ 300000) (ht : tot sts [] ≤ 200000) :
    Calls Try.prog 25 #[.slice la ln lc, .agg #[.slice sa n sc]] w0 (EndP w0 (endX l sts)) := by
  have e1 := hll0.1
  have e2 := hs.1
  have hnum := lst_stg_i64 hs
  have hbd2 : ∀ s ∈ sts, s.1.length ≤ 300000 ∧ s.2.length ≤ 300000 := fun s hs => ⟨hbd s hs, by have := tot_mem hs []; simp only [List.length_nil] at this; omega⟩
  obtain ⟨b3, V3, hb3, hV3, st⟩ := (St.start w0).new (Obj.cells #[.slice sa n sc] 29)
  have k3 := hide (st.get 0 rfl)
  have hz := hide st.below
  have hll3 := hide (hll0.same (w' := V3) (fun b hb => st.below.block b hb))
  have hs3 := hide (hs.under st.below)
  have hl3 : Hid (w0.heap.size ≤ b3) := hide (by omega)
  clear st hll0 hs
  replace hb3 := hide hb3; replace hV3 := hide hV3; replace hsm := hide hsm; replace hto := hide hto; replace hbd := hide hbd; replace hbd2 := hide hbd2; replace hnum := hide hnum; replace ht := hide ht; replace e1 := hide e1; replace e2 := hide e2
  go_enter Try.func25, Try.ntmps25
  go_upto_region 1 with fail
  try rw [unhide hb3]
  rw [unhide hV3]
  clear hV3 hb3
  have d3 := blk_cell (unhide k3)
  by_cases hne : n = ln
  · subst hne
    have hX : endX l sts = endS l sts := by unfold endX; rw [if_pos (by rw [unhide e1, unhide e2])]
    replace hX := hide hX
    have t1 : ((n : Int) != (n : Int)) = false := by simp
    have hcp := hide (rcopied_any sa n sc sts V3 (unhide hs3) hn (unhide hbd2))
    go_wp2_with fail
    refine (unhide hcp).mono ?_
    rintro e w1 ⟨va, vc, rfl, hrs, hb1⟩
    clear hcp d3
    have hk3 := kept' hb1 (unhide k3)
    have hvB : ∀ b, (Value.slice va n vc).ownBlock = some b → V3.heap.size ≤ b ∧ b < w1.heap.size := fun b e => by
      obtain ⟨_, vs, h2, _⟩ := hrs
      exact h2.lt b e
    have hb3l := (Array.getElem?_eq_some_iff.1 (unhide k3)).1
    have hown : (Value.slice va n vc).ownBlock ≠ some b3 := fun e => by have := hvB b3 e; omega
    have d3 := blk_cell hk3
    have f3 : w1.frozen? ⟨b3, 0, none⟩ = false := by simp [World.frozen?, hk3]
    have hsz : (w1.setCell ⟨b3, 0, none⟩ (.slice va n vc)).heap.size = w1.heap.size := World.size_setCell ..
    have hrs2 := (hrs.ne (no_int1 hk3)).same (w' := w1.setCell ⟨b3, 0, none⟩ (.slice va n vc)) (S' := fun b => b < (w1.setCell ⟨b3, 0, none⟩ (.slice va n vc)).heap.size ∧ (Value.slice va n vc).ownBlock ≠ some b) (fun b e => heap_set_ne (fun e2 => hown (e2 ▸ e))) (fun b hb => heap_set_ne hb.2) (fun b hb => ⟨by rw [hsz]; exact hb.1.2.1, hb.1.2.2⟩)
    have hk3' : (w1.setCell ⟨b3, 0, none⟩ (.slice va n vc)).heap[b3]? = some (.cells #[.slice va n vc] 29 (0, 0)) := (heap_set hk3 _).trans rfl
    have hbz := ((unhide hz).trans (hb1.mono (unhide hz).size)).setCell (p := ⟨b3, 0, none⟩) (unhide hl3) (.slice va n vc)
    have hlk0 : Lst Enc.lk (w1.setCell ⟨b3, 0, none⟩ (.slice va n vc)) (fun b => b < (w1.setCell ⟨b3, 0, none⟩ (.slice va n vc)).heap.size ∧ (Value.slice va n vc).ownBlock ≠ some b) la n l := ((unhide hll3).same (fun b hb => (heap_set_ne (by have := unhide hl3; omega)).trans (hb1.block b (by have := (unhide hz).size; omega)))).wide (fun b hb => ⟨by rw [hsz]; have := (unhide hz).size; have := hb1.size; omega, fun e => by have := hvB b e; have := (unhide hz).size; omega⟩)
    have hvl : ∀ b, (Value.slice va n vc).ownBlock = some b → w0.heap.size ≤ b := fun b e => by have := hvB b e; have := (unhide hz).size; omega
    obtain ⟨w, hw⟩ : ∃ W, w1.setCell ⟨b3, 0, none⟩ (.slice va n vc) = W := ⟨_, rfl⟩
    rw [hw] at hrs2 hk3' hbz hlk0
    have hI := TkI.start hrs2 (Below.refl _ _) hk3' (.inl rfl) hown hown (fun b hb => hb)
    obtain ⟨E, hE⟩ : ∃ E, endS l sts = E := ⟨_, rfl⟩
    obtain ⟨S, hSd⟩ : ∃ S : Nat → Prop, (fun b => b < w.heap.size ∧ (Value.slice va n vc).ownBlock ≠ some b) = S := ⟨_, rfl⟩
    rw [hSd] at hI
    clear hSd
    have hll := unhide e1
    have hlen := unhide e2
    clear hrs hb1 hk3 hvB hb3l hsz hrs2 hk3' hll3 hs3 k3 hz
    replace hw := hide hw; replace hI := hide hI; replace hbz := hide hbz; replace hl := hide hlk0; replace hvl := hide hvl; replace hown := hide hown; replace hll := hide hll; replace hE := hide hE; replace hlen := hide hlen
    clear hlk0
    go_upto_region 4 with fail
    rw [unhide hw]
    clear hw d3 f3
    go_wp2_with fail
    go_loopw [5, 6] (fun vo v wr => ∃ (k : Nat) (pre ss : List Stg) (done : List Int), k ≤ n ∧ v = .int .i64 (k : Int) ∧ pre.length = k ∧ ss.length = (l.drop k).length ∧ E = done ++ endS (l.drop k) ss ∧ TkI w wr V3.heap.size (.slice va n vc) vo S n b3 b3 (pre ++ ss) done ∧ tot (pre ++ ss) done ≤ 200000 ∧ (∀ s ∈ pre ++ ss, s.1.length ≤ 300000) ∧ (∀ s ∈ pre ++ ss, AllI s.1 ∧ AllI s.2)) (fun _ v _ => (n - intOf v).toNat)
    case atStart => exact ⟨0, [], sts, [], by omega, rfl, rfl, by rw [List.drop_zero, unhide hll, unhide hlen], by rw [List.drop_zero, List.nil_append, unhide hE], unhide hI, unhide ht, unhide hbd, unhide hnum⟩
    case round =>
      clear hI
      obtain ⟨k, pre, ss0, done0, hk, rfl, hp, hsl, hEq, hI0, htot0, hbb0, hnn0⟩ := hrel
      obtain ⟨wq0, rfl⟩ : ∃ W : World, W = wr := ⟨_, rfl⟩
      obtain ⟨vo0, rfl⟩ : ∃ v : Value, v = u5 := ⟨_, rfl⟩
      by_cases hlt : k < n
      · obtain ⟨gl, ol, x, xa, xn, xc, rfl, hgl, hx, hxc1, hxc2, hLx, cl⟩ := lst_list (unhide hl) hlt
        rw [cons_at hx] at hEq hsl
        cases ss0 with
        | nil => simp at hsl
        | cons s ss =>
        have hs' : ss.length = (l.drop (k + 1)).length := by simpa using hsl
        have hsx := unhide hsm x (List.mem_of_getElem? hx)
        have htx := unhide hto x (List.mem_of_getElem? hx)
        obtain ⟨g0, y1, y2, y3, y4, y5, y6, rfl, _, _, hkn, _⟩ := hI0.rs.stage
        have i1 : (0 : Int) ≤ (k : Int) := by omega
        have i2 : (k : Int) < (n : Int) := by omega
        have hE1 : E = done0 ++ ((loopS 1 x (feedS (l.drop (k + 1))) s.2.length s ss).2 ++ endS (l.drop (k + 1)) (loopS 1 x (feedS (l.drop (k + 1))) s.2.length s ss).1.2) := hEq
        have hrec := take_any (some ⟨gl, ol, none⟩) n lc l (by omega) (unhide hll) (unhide hsm) (unhide hto) (n - (k + 1)) (k + 1) (by omega)
        clear hEq hsl
        replace hrec := hide hrec; replace hE1 := hide hE1; replace hI0 := hide hI0; replace htot0 := hide htot0; replace hbb0 := hide hbb0; replace hnn0 := hide hnn0; replace hLx := hide hLx; replace cl := hide cl; replace hgl := hide hgl; replace hx := hide hx; replace hsx := hide hsx; replace htx := hide htx; replace hs' := hide hs'; replace hp := hide hp
        go_wp2_with fail
        go_loopg [5] s.2.length (fun q vo wr => ∃ (t : Stg) (tt : List Stg) (done : List Int), t.2.length ≤ q ∧ tt.length = ss.length ∧ E = done ++ ((loopS 1 x (feedS (l.drop (k + 1))) q t tt).2 ++ endS (l.drop (k + 1)) (loopS 1 x (feedS (l.drop (k + 1))) q t tt).1.2) ∧ TkI w wr V3.heap.size (.slice (some ⟨g0, 0, none⟩) n vc) vo S n b3 b3 (pre ++ t :: tt) done ∧ tot (pre ++ t :: tt) done ≤ 200000 ∧ (∀ s ∈ pre ++ t :: tt, s.1.length ≤ 300000) ∧ (∀ s ∈ pre ++ t :: tt, AllI s.1 ∧ AllI s.2))
        case atStart => exact ⟨s, ss, done0, Nat.le_refl _, rfl, unhide hE1, unhide hI0, unhide htot0, unhide hbb0, unhide hnn0⟩
        case round =>
          clear hI0 htot0 hbb0 hnn0 hE1
          obtain ⟨t, tt, done, hq, htt, hEq, hIo, htot, hbb, hnn⟩ := hrel
          obtain ⟨w5, rfl⟩ : ∃ W : World, W = wr := ⟨_, rfl⟩
          obtain ⟨vo, rfl⟩ : ∃ v : Value, v = u5 := ⟨_, rfl⟩
          have d5 := blk_cell hIo.box5
          have clo : w5.cell? ⟨gl, ol + k, none⟩ = some (.slice xa xn xc) := hIo.g.cell (unhide cl) (fun e => (unhide hgl).2 e.symm)
          have hLo : Lst Enc.sub w5 (fun b => b < w5.heap.size) xa xn x := ((unhide hLx).same (fun b hb => hIo.g.block b hb.1 (fun e => hb.2 e.symm))).wide (fun b hb => Nat.lt_of_lt_of_le hb.1 hIo.g.size)
          obtain ⟨g1, a4, n4, c4, a5, nt, c5, hgg, _, _, _, f1, f2, ⟨_, _, L1⟩, ⟨hq51, hq52, L2⟩⟩ := hIo.rs.stage
          have hgg2 : g1 = g0 := by injection hgg with h; injection h with h; exact h.symm
          rw [hgg2] at f1 f2
          clear hgg hgg2
          rw [unhide hp] at f1 f2
          have hn4l := L1.1
          have hntl0 := L2.1
          have hn4 : n4 ≤ 300000 := by rw [← hn4l]; exact hbb t (by simp)
          have hntl : nt ≤ 300000 := by rw [← hntl0]; rw [tot_app, tot_cons] at htot; omega
          rw [hntl0] at hq
          have L1w := hide (L1.wide (S' := fun b => b < w5.heap.size) (fun b hb => hb.2))
          by_cases hgo : 1 ≤ nt
          · have ht1 : 1 ≤ nt := hgo
            obtain ⟨q', hq', hE3⟩ : ∃ q', gk = q' + 1 ∧ E = done ++ (((feedS (l.drop (k + 1)) tt (decO x t)).2 ++ (loopS 1 x (feedS (l.drop (k + 1))) q' (decS x t) (feedS (l.drop (k + 1)) tt (decO x t)).1).2) ++ endS (l.drop (k + 1)) (loopS 1 x (feedS (l.drop (k + 1))) q' (decS x t) (feedS (l.drop (k + 1)) tt (decO x t)).1).1.2) := by
              refine ⟨gk - 1, by omega, ?_⟩
              have hs1 : loopS 1 x (feedS (l.drop (k + 1))) gk t tt = ((loopS 1 x (feedS (l.drop (k + 1))) (gk - 1) (decS x t) (feedS (l.drop (k + 1)) tt (decO x t)).1).1, (feedS (l.drop (k + 1)) tt (decO x t)).2 ++ (loopS 1 x (feedS (l.drop (k + 1))) (gk - 1) (decS x t) (feedS (l.drop (k + 1)) tt (decO x t)).1).2) := by
                have hgk : gk = gk - 1 + 1 := by omega
                rw [hgk, loopS, if_pos (by rw [hntl0]; exact hgo)]
                rfl
              rw [hs1] at hEq
              exact hEq
            have t3 : (0 : Int) < (nt : Int) := by omega
            obtain ⟨O, hO⟩ : ∃ O, decO x t = O := ⟨_, rfl⟩
            obtain ⟨FT, hFT⟩ : ∃ F : Nat → Prop, (fun b => (S b ∨ (w.heap.size ≤ b ∧ vo.ownBlock ≠ some b)) ∧ b < w5.heap.size) = F := ⟨_, rfl⟩
            have hFl : Hid (∀ b, FT b → b < w5.heap.size) := hide (fun b hb => by rw [← hFT] at hb; exact hb.2)
            have L2w := hide (show Lst Enc.int w5 FT a5 nt t.2 by rw [← hFT]; exact L2)
            have hI5 := hide hIo
            have hL5 := hide hLo
            clear hEq hIo hLo L1 L2
            replace hO := hide hO; replace hFT := hide hFT; replace hE3 := hide hE3; replace hq' := hide hq'; replace htot := hide htot; replace hbb := hide hbb; replace hnn := hide hnn; replace htt := hide htt; replace hq51 := hide hq51; replace hq52 := hide hq52; replace hn4l := hide hn4l; replace hntl0 := hide hntl0
            go_upto_region 9 with fail
            refine wp_region_frontG 15 (fun _ _ w' => Below w5.heap.size w5 w') (fun wa wb => Below wa.heap.size wa wb)
              (fun ix v w' => match ix with
                | 0 => v = .slice (some ⟨gl, ol, none⟩) n lc
                | 1 => v = .int .i64 (k : Int)
                | 2 => v = .pointer (some ⟨gl, ol + k, none⟩)
                | 3 => v = .agg #[.slice xa xn xc]
                | 4 => v = .pointer (some ⟨b3, 0, none⟩)
                | 5 => v = .slice (some ⟨g0, 0, none⟩) n vc
                | 6 => v = .int .i64 (k : Int)
                | 7 => v = .pointer (some ⟨g0, k * 2, none⟩)
                | 8 => v = .agg #[.slice a4 n4 c4, .slice a5 nt c5]
                | 9 => ∃ u, v = .tuple #[.int .i64 O, u] ∧ DecV w5 w' FT (decS x t).1 (decS x t).2 u
                | 10 => ∃ u, v = .tuple #[.int .i64 O, u] ∧ DecV w5 w' FT (decS x t).1 (decS x t).2 u
                | 11 => v = .int .i64 O
                | 12 => DecV w5 w' FT (decS x t).1 (decS x t).2 v
                | 13 => ∃ b, v = .pointer (some ⟨b, 0, none⟩) ∧ w5.heap.size ≤ b ∧ w'.heap[b]? = some (.cells #[nilS, nilS] 33 (0, 0))
                | 14 => v = .int .i64 O
                | _ => True) (by rfl) (by kernel_rfl) ?_ ?_ ?_ ?_
            · exact (Below.refl _ _).drew
            · intro wa wb hR ix v hv
              match ix, hv with
              | 0, h => exact h
              | 1, h => exact h
              | 2, h => exact h
              | 3, h => exact h
              | 4, h => exact h
              | 5, h => exact h
              | 6, h => exact h
              | 7, h => exact h
              | 8, h => exact h
              | 9, h => obtain ⟨u, h1, h2⟩ := h; exact ⟨u, h1, h2.under hR⟩
              | 10, h => obtain ⟨u, h1, h2⟩ := h; exact ⟨u, h1, h2.under hR⟩
              | 11, h => exact h
              | 12, h => exact h.under hR
              | 13, h => obtain ⟨b, h1, h3, h2⟩ := h; exact ⟨b, h1, h3, kept' hR h2⟩
              | 14, h => exact h
              | _ + 15, _ => trivial
            · intro ix hix
              obtain rfl | rfl | rfl | rfl | rfl | rfl | rfl | rfl | rfl | rfl | rfl | rfl | rfl | rfl | rfl : ix = 0 ∨ ix = 1 ∨ ix = 2 ∨ ix = 3 ∨ ix = 4 ∨ ix = 5 ∨ ix = 6 ∨ ix = 7 ∨ ix = 8 ∨ ix = 9 ∨ ix = 10 ∨ ix = 11 ∨ ix = 12 ∨ ix = 13 ∨ ix = 14 := by omega
              · refine FrontStep.of [] _ rfl (by kernel_rfl) ?_
                intro vs LL wq hLL hC hf
                simp only [putL, List.foldl_nil]
                go_wp2_with fail
                first | exact Below.refl _ _ | exact hC | exact ⟨hC, Below.refl _ _⟩ | exact ⟨hC, Below.refl _ _, by omega⟩ | exact ⟨Below.refl _ _, by omega⟩ | trace_state
              · refine FrontStep.of [] _ rfl (by kernel_rfl) ?_
                intro vs LL wq hLL hC hf
                simp only [putL, List.foldl_nil]
                go_wp2_with fail
                first | exact Below.refl _ _ | exact hC | exact ⟨hC, Below.refl _ _⟩ | exact ⟨hC, Below.refl _ _, by omega⟩ | exact ⟨Below.refl _ _, by omega⟩ | trace_state
              · refine FrontStep.of [0, 1] _ rfl (by kernel_rfl) ?_
                intro vs LL wq hLL hC hf
                simp only [putL, List.foldl_nil, List.foldl_cons, List.getElem?_cons_zero, List.getElem?_cons_succ]
                have e0 : vs 0 = _ := hf 0 (by simp)
                rw [e0]
                have e1 : vs 1 = _ := hf 1 (by simp)
                rw [e1]
                go_wp2_with fail
                first | exact Below.refl _ _ | exact hC | exact ⟨hC, Below.refl _ _⟩ | exact ⟨hC, Below.refl _ _, by omega⟩ | exact ⟨Below.refl _ _, by omega⟩ | trace_state
              · refine FrontStep.of [2] _ rfl (by kernel_rfl) ?_
                intro vs LL wq hLL hC hf
                simp only [putL, List.foldl_nil, List.foldl_cons, List.getElem?_cons_zero, List.getElem?_cons_succ]
                have e2 : vs 2 = _ := hf 2 (by simp)
                rw [e2]
                have g0c := cell_under clo hC
                go_wp2_with fail
                first | exact Below.refl _ _ | exact hC | exact ⟨hC, Below.refl _ _⟩ | exact ⟨hC, Below.refl _ _, by omega⟩ | exact ⟨Below.refl _ _, by omega⟩ | trace_state
              · refine FrontStep.of [] _ rfl (by kernel_rfl) ?_
                intro vs LL wq hLL hC hf
                simp only [putL, List.foldl_nil]
                go_wp2_with fail
                first | exact Below.refl _ _ | exact hC | exact ⟨hC, Below.refl _ _⟩ | exact ⟨hC, Below.refl _ _, by omega⟩ | exact ⟨Below.refl _ _, by omega⟩ | trace_state
              · refine FrontStep.of [4] _ rfl (by kernel_rfl) ?_
                intro vs LL wq hLL hC hf
                simp only [putL, List.foldl_nil, List.foldl_cons, List.getElem?_cons_zero, List.getElem?_cons_succ]
                have e4 : vs 4 = _ := hf 4 (by simp)
                rw [e4]
                have g0c := cell_under d5 hC
                go_wp2_with fail
                first | exact Below.refl _ _ | exact hC | exact ⟨hC, Below.refl _ _⟩ | exact ⟨hC, Below.refl _ _, by omega⟩ | exact ⟨Below.refl _ _, by omega⟩ | trace_state
              · refine FrontStep.of [] _ rfl (by kernel_rfl) ?_
                intro vs LL wq hLL hC hf
                simp only [putL, List.foldl_nil]
                go_wp2_with fail
                first | exact Below.refl _ _ | exact hC | exact ⟨hC, Below.refl _ _⟩ | exact ⟨hC, Below.refl _ _, by omega⟩ | exact ⟨Below.refl _ _, by omega⟩ | trace_state
              · refine FrontStep.of [5, 6] _ rfl (by kernel_rfl) ?_
                intro vs LL wq hLL hC hf
                simp only [putL, List.foldl_nil, List.foldl_cons, List.getElem?_cons_zero, List.getElem?_cons_succ]
                have e5 : vs 5 = _ := hf 5 (by simp)
                rw [e5]
                have e6 : vs 6 = _ := hf 6 (by simp)
                rw [e6]
                go_wp2_with fail
                first | exact Below.refl _ _ | exact hC | exact ⟨hC, Below.refl _ _⟩ | exact ⟨hC, Below.refl _ _, by omega⟩ | exact ⟨Below.refl _ _, by omega⟩ | trace_state
              · refine FrontStep.of [7] _ rfl (by kernel_rfl) ?_
                intro vs LL wq hLL hC hf
                simp only [putL, List.foldl_nil, List.foldl_cons, List.getElem?_cons_zero, List.getElem?_cons_succ]
                have e7 : vs 7 = _ := hf 7 (by simp)
                rw [e7]
                have g0c := cell_under f1 hC
                have g1c := cell_under f2 hC
                go_wp2_with fail
                first | exact Below.refl _ _ | exact hC | exact ⟨hC, Below.refl _ _⟩ | exact ⟨hC, Below.refl _ _, by omega⟩ | exact ⟨Below.refl _ _, by omega⟩ | trace_state
              · refine FrontStep.of [3, 8] _ rfl (by kernel_rfl) ?_
                intro vs LL wq hLL hC hf
                simp only [putL, List.foldl_nil, List.foldl_cons, List.getElem?_cons_zero, List.getElem?_cons_succ]
                have e3 : vs 3 = _ := hf 3 (by simp)
                rw [e3]
                have e8 : vs 8 = _ := hf 8 (by simp)
                rw [e8]
                have hd := hide (rdecide_any xa xn xc x a4 n4 c4 a5 nt c5 t FT wq ((unhide hL5).under hC) (unhide hsx) ((unhide L1w).under hC) ((unhide L2w).same (fun b hb => hC.block b (unhide hFl b hb))) (fun b hb => Nat.lt_of_lt_of_le (unhide hFl b hb) hC.size) (unhide hq51) (unhide hq52) hn4 hntl ht1)
                go_wp2_with fail
                refine (unhide hd).mono ?_
                intro e wz hdz
                clear hd
                obtain ⟨u, rfl, hdv, hbz⟩ := hdz.val (w0 := w5) hC.size (fun b hb => Nat.lt_of_lt_of_le (unhide hFl b hb) hC.size)
                rw [unhide hO]
                clear hdz
                replace hdv := hide hdv; replace hbz := hide hbz
                go_wp2_with fail
                first | exact ⟨hC.trans ((unhide hbz).mono hC.size), unhide hbz, u, rfl, unhide hdv⟩ | exact ⟨hC.trans ((unhide hbz).mono hC.size), unhide hbz, u, ⟨rfl, rfl⟩, unhide hdv⟩ | exact ⟨hC.trans ((unhide hbz).mono hC.size), unhide hbz, unhide hdv⟩ | trace_state
              · refine FrontStep.of [9] _ rfl (by kernel_rfl) ?_
                intro vs LL wq hLL hC hf
                simp only [putL, List.foldl_nil, List.foldl_cons, List.getElem?_cons_zero, List.getElem?_cons_succ]
                obtain ⟨u43, e43, h43⟩ := hf 9 (by simp)
                rw [e43]
                go_wp2_with fail
                first | exact Below.refl _ _ | exact ⟨hC, Below.refl _ _, _, ⟨rfl, rfl⟩, h43⟩ | exact ⟨hC, Below.refl _ _, _, rfl, h43⟩ | exact ⟨Below.refl _ _, _, ⟨rfl, rfl⟩, h43⟩ | exact ⟨Below.refl _ _, _, rfl, h43⟩ | exact ⟨hC, Below.refl _ _, h43⟩ | exact ⟨Below.refl _ _, h43⟩ | trace_state
              · refine FrontStep.of [10] _ rfl (by kernel_rfl) ?_
                intro vs LL wq hLL hC hf
                simp only [putL, List.foldl_nil, List.foldl_cons, List.getElem?_cons_zero, List.getElem?_cons_succ]
                obtain ⟨u33, e33, h33⟩ := hf 10 (by simp)
                rw [e33]
                go_wp2_with fail
                first | exact Below.refl _ _ | exact hC | exact ⟨hC, Below.refl _ _⟩ | exact ⟨hC, Below.refl _ _, by omega⟩ | exact ⟨Below.refl _ _, by omega⟩ | trace_state
              · refine FrontStep.of [10] _ rfl (by kernel_rfl) ?_
                intro vs LL wq hLL hC hf
                simp only [putL, List.foldl_nil, List.foldl_cons, List.getElem?_cons_zero, List.getElem?_cons_succ]
                obtain ⟨u33, e33, h33⟩ := hf 10 (by simp)
                rw [e33]
                go_wp2_with fail
                first | exact Below.refl _ _ | exact ⟨hC, Below.refl _ _, _, ⟨rfl, rfl⟩, h33⟩ | exact ⟨hC, Below.refl _ _, _, rfl, h33⟩ | exact ⟨Below.refl _ _, _, ⟨rfl, rfl⟩, h33⟩ | exact ⟨Below.refl _ _, _, rfl, h33⟩ | exact ⟨hC, Below.refl _ _, h33⟩ | exact ⟨Below.refl _ _, h33⟩ | trace_state
              · refine FrontStep.of [] _ rfl (by kernel_rfl) ?_
                intro vs LL wq hLL hC hf
                simp only [putL, List.foldl_nil]
                have hn0 := heap_alloc_new wq (Obj.cells #[nilS, nilS] 33)
                have hb0 := (Below.refl wq.heap.size wq).alloc (Nat.le_refl _) (Obj.cells #[nilS, nilS] 33)
                go_wp2_with fail
                first | exact ⟨hC.trans (hb0.mono hC.size), hb0, _, rfl, hC.size, hn0⟩ | exact ⟨hC.trans (hb0.mono hC.size), hb0, hC.size, hn0⟩ | exact ⟨hC.trans (hb0.mono hC.size), hb0, hC.size, (Array.getElem?_eq_some_iff.1 hn0).2⟩ | exact ⟨hC.trans (hb0.mono hC.size), hC.size, (Array.getElem?_eq_some_iff.1 hn0).2⟩ | trace_state
              · refine FrontStep.of [0, 1, 2, 3, 4, 5, 6, 7, 8, 9, 10, 11, 13] _ rfl (by kernel_rfl) ?_
                intro vs LL wq hLL hC hf
                simp only [putL, List.foldl_nil, List.foldl_cons, List.getElem?_cons_zero, List.getElem?_cons_succ]
                have e0 : vs 0 = _ := hf 0 (by simp)
                rw [e0]
                have e1 : vs 1 = _ := hf 1 (by simp)
                rw [e1]
                have e2 : vs 2 = _ := hf 2 (by simp)
                rw [e2]
                have e3 : vs 3 = _ := hf 3 (by simp)
                rw [e3]
                have e4 : vs 4 = _ := hf 4 (by simp)
                rw [e4]
                have e5 : vs 5 = _ := hf 5 (by simp)
                rw [e5]
                have e6 : vs 6 = _ := hf 6 (by simp)
                rw [e6]
                have e7 : vs 7 = _ := hf 7 (by simp)
                rw [e7]
                have e8 : vs 8 = _ := hf 8 (by simp)
                rw [e8]
                obtain ⟨u43, e43, h43⟩ := hf 9 (by simp)
                rw [e43]
                obtain ⟨u33, e33, h33⟩ := hf 10 (by simp)
                rw [e33]
                have e11 : vs 11 = _ := hf 11 (by simp)
                rw [e11]
                obtain ⟨b12, e8, hge12, hr12⟩ := hf 13 (by simp)
                rw [e8]
                go_wp2_with fail
                first | exact Below.refl _ _ | exact hC | exact ⟨hC, Below.refl _ _⟩ | exact ⟨hC, Below.refl _ _, by omega⟩ | exact ⟨Below.refl _ _, by omega⟩ | trace_state
            · intro vs LL wq hLL hC hf
              have e14 : vs 14 = _ := hf 14 (by omega)
              obtain ⟨b12, e13, hge12, hr12⟩ := hf 13 (by omega)
              obtain ⟨a6, n6, c6, a7, n7, c7, e12, ⟨P1, P2, P3⟩, ⟨Q1, Q2, Q3⟩⟩ := hf 12 (by omega)
              rw [putSome_all]
              simp only [putL, List.range, List.range.loop, List.foldl_nil, List.foldl_cons, List.getElem?_cons_zero, List.getElem?_cons_succ, List.drop_succ_cons, List.drop_zero]
              rw [e12, e13, e14]
              obtain ⟨z0, z1, z2, z3⟩ := cells2 hr12
              have z4 : (wq.setCell ⟨b12, 0, none⟩ (.slice a6 n6 c6)).cell? ⟨b12, 1, none⟩ = some nilS := (cell_of_row _ _ 1 _ _ _ (heap_set (off := 0) hr12 (.slice a6 n6 c6))).trans rfl
              have z5 : (wq.setCell ⟨b12, 0, none⟩ (.slice a6 n6 c6)).frozen? ⟨b12, 1, none⟩ = false := by simp [World.frozen?, heap_set (off := 0) hr12 (.slice a6 n6 c6)]
              have hr6 := set2 hr12 (.slice a6 n6 c6) (.slice a7 n7 c7)
              have hb6 := (hC.setCell (p := ⟨b12, 0, none⟩) hge12 (.slice a6 n6 c6)).setCell (p := ⟨b12, 1, none⟩) hge12 (.slice a7 n7 c7)
              have hsz6 : ((wq.setCell ⟨b12, 0, none⟩ (.slice a6 n6 c6)).setCell ⟨b12, 1, none⟩ (.slice a7 n7 c7)).heap.size = wq.heap.size := by rw [World.size_setCell, World.size_setCell]
              have hset : ∀ b, b ≠ b12 → ((wq.setCell ⟨b12, 0, none⟩ (.slice a6 n6 c6)).setCell ⟨b12, 1, none⟩ (.slice a7 n7 c7)).heap[b]? = wq.heap[b]? := fun b hb => (heap_set_ne hb).trans (heap_set_ne hb)
              have hni := no_int2 hr12
              have P4 := (lst_ne P3 hni).same (fun b hb => hset b hb.2)
              have Q4 := (lst_ne Q3 hni).same (fun b hb => hset b hb.2)
              obtain ⟨W6, hW6⟩ : ∃ W, (wq.setCell ⟨b12, 0, none⟩ (.slice a6 n6 c6)).setCell ⟨b12, 1, none⟩ (.slice a7 n7 c7) = W := ⟨_, rfl⟩
              rw [hW6] at hr6 hb6 hsz6 P4 Q4
              have hI6 := (unhide hI5).under hb6
              have hs56 := hb6.size
              have hs5w := (unhide hI5).g.size
              have hFt := unhide hFT
              have P5 := P4.wide (S' := fun b => (S b ∨ (w.heap.size ≤ b ∧ vo.ownBlock ≠ some b)) ∧ b < W6.heap.size) (fun b hb => ⟨.inr ⟨by have := hb.1.1; omega, fun e => by have := ((unhide hI5).out.lt b e).2; have := hb.1.1; omega⟩, by have := hb.1.2; omega⟩)
              have Q5 := Q4.wide (S' := fun b => (S b ∨ (w.heap.size ≤ b ∧ vo.ownBlock ≠ some b)) ∧ b < W6.heap.size) (fun b hb => by
                have h1 := hb.1.1
                rw [← hFt] at h1
                exact ⟨h1.1, by omega⟩)
              clear hf hLL hC e12 e13 e14 hr12 hni hset hsz6 P3 Q3 P4 Q4 hI5 hFt hs56 hs5w d5 f1 f2 clo L1w L2w hL5 hFT hFl
              replace hI6 := hide hI6; replace hr6 := hide hr6; replace P5 := hide P5; replace Q5 := hide Q5; replace hW6 := hide hW6; replace P1 := hide P1; replace P2 := hide P2; replace Q1 := hide Q1; replace Q2 := hide Q2; replace hb6 := hide hb6
              go_simp
              go_upto_region 10 with fail
              rw [unhide hW6]
              clear z0 z1 z2 z3 z4 z5 hW6
              obtain ⟨g1, y1, y2, y3, y4, y5, y6, hgg, _, _, _, z1, z2, _, _⟩ := (unhide hI6).rs.stage
              have hgg2 : g1 = g0 := by injection hgg with h; injection h with h; exact h.symm
              rw [hgg2] at z1 z2
              have z3 := ((unhide hI6).setB (unhide P1) (unhide P2) (unhide P5)).1
              have hIB := ((unhide hI6).setB (unhide P1) (unhide P2) (unhide P5)).2
              obtain ⟨g3, y7, y8, y9, ya, yb, yc, hgg3, _, _, _, _, z4, _, _⟩ := hIB.rs.stage
              have hgg4 : g3 = g0 := by injection hgg3 with h; injection h with h; exact h.symm
              rw [hgg4] at z4
              have z5 := ((unhide hI6).setW (unhide Q1) (unhide Q2) (unhide Q5)).1
              have z6 : (W6.setCell ⟨g0, pre.length * 2, none⟩ (.slice a6 n6 c6)).frozen? ⟨g0, pre.length * 2 + 1, none⟩ = false := by rw [World.frozen?_setCell]; exact z5
              have hI7 := (unhide hI6).set2 (unhide P1) (unhide P2) (unhide Q1) (unhide Q2) (unhide P5) (unhide Q5)
              have d5 := blk_cell (unhide hI6).box5
              obtain ⟨m0, m1, _, _⟩ := cells2 (unhide hr6)
              rw [unhide hp] at z1 z2 z3 z4 z6 hI7
              obtain ⟨W7, hW7⟩ : ∃ W, (W6.setCell ⟨g0, k * 2, none⟩ (.slice a6 n6 c6)).setCell ⟨g0, k * 2 + 1, none⟩ (.slice a7 n7 c7) = W := ⟨_, rfl⟩
              rw [hW7] at hI7
              have d57 := blk_cell hI7.box5
              have w1 : IntKind.i64.wrap ((k : Int) + 1) = ((k + 1 : Nat) : Int) := by rw [IntWalk.i64_in _ (by omega)]; omega
              have w2 : wrap64 ((k : Int) + 1) = ((k + 1 : Nat) : Int) := by rw [IntWalk.wrap64_in _ (by omega)]; omega
              clear hIB hI6 P1 P2 P5 Q1 Q2 Q5 z5 hr6 hgg hgg2 hgg3 hgg4 hb6 hge12
              replace hI7 := hide hI7; replace hW7 := hide hW7
              go_upto_region 11 with fail
              rw [unhide hW7]
              clear hW7 z1 z2 z3 z4 z6 m0 m1 d5
              have hdb := decN_bd x t (by rw [unhide hntl0]; exact ht1)
              have hdw := decS_wait x t
              rw [unhide hntl0] at hdw hdb
              have hdl : tt.length = (l.drop (k + 1)).length := by rw [unhide htt, unhide hs']
              have hnt1 : tot (pre ++ decS x t :: tt) [] + 1 ≤ 200000 ∧ tot (pre ++ decS x t :: tt) done + 1 ≤ 200000 := by
                have h1 := unhide htot
                rw [tot_app, tot_cons, unhide hntl0] at h1
                rw [tot_app, tot_cons, tot_app, tot_cons, hdw]
                rw [show tot tt done = tot tt [] + done.length from by simp [tot]] at *
                omega
              have hnb : ∀ t' ∈ pre ++ decS x t :: tt, t'.1.length ≤ 300000 := fun t' ht' => by
                rcases List.mem_append.1 ht' with ht' | ht'
                · exact unhide hbb t' (by simp [ht'])
                · rcases List.mem_cons.1 ht' with rfl | ht'
                  · exact Nat.le_trans (last2_len _) (by omega)
                  · exact unhide hbb t' (by simp [ht'])
              have htn := unhide hnn t (by simp)
              have hnm : ∀ t' ∈ pre ++ decS x t :: tt, AllI t'.1 ∧ AllI t'.2 := fun t' ht' => by
                rcases List.mem_append.1 ht' with ht' | ht'
                · exact unhide hnn t' (by simp [ht'])
                · rcases List.mem_cons.1 ht' with rfl | ht'
                  · exact decS_i64 htn.1 htn.2
                  · exact unhide hnn t' (by simp [ht'])
              have hOi : I64 O := by rw [← unhide hO]; exact decO_i64 (unhide htx) htn.2
              have hft := feedS_tot (l.drop (k + 1)) tt O hdl
              have hfl := feedS_len (l.drop (k + 1)) tt O hdl
              have hfb := feedS_back (l.drop (k + 1)) tt O 300000 (by omega) hdl (fun t' ht' => hnb t' (by simp [ht']))
              have hfn := feedS_i64 (l.drop (k + 1)) tt O (fun y hy => unhide hto y (List.mem_of_mem_drop hy)) (fun t' ht' => hnm t' (by simp [ht'])) hOi
              have hlk : Lst Enc.lk W7 (fun b => b < W7.heap.size ∧ (Value.slice (some ⟨g0, 0, none⟩) n vc).ownBlock ≠ some b) (some ⟨gl, ol, none⟩) n l := ((unhide hl).same (fun b hb => (unhide hI7).g.block b hb.1 (fun e => hb.2 e.symm))).wide (fun b hb => ⟨Nat.lt_of_lt_of_le hb.1 (unhide hI7).g.size, hb.2⟩)
              have hrc := unhide hrec V3.heap.size (some ⟨g0, 0, none⟩) vc (fun b => (S b ∨ (w.heap.size ≤ b ∧ vo.ownBlock ≠ some b)) ∧ b < W7.heap.size) (pre ++ [decS x t]) tt O W7 (by rw [List.append_assoc]; exact (unhide hI7).rs) (by rw [List.length_append, unhide hp]; rfl) (unhide hI7).foot hlk hOi (by rw [List.append_assoc]; exact hnt1.1) (by rw [List.append_assoc]; exact hnb) (by rw [List.append_assoc]; exact hnm)
              obtain ⟨rr, hrr⟩ : ∃ r, feedS (l.drop (k + 1)) tt O = r := ⟨_, rfl⟩
              have hE3' := unhide hE3
              rw [unhide hO, hrr] at hE3'
              rw [hrr] at hrc hft hfl hfb hfn
              have hnt2 : tot (pre ++ decS x t :: rr.1) (done ++ rr.2) ≤ 200000 := by
                have h1 := hnt1.2
                rw [tot_app, tot_cons] at h1 ⊢
                rw [tot_out]
                rw [show tot tt done = tot tt [] + done.length from by simp [tot]] at h1
                rw [show tot rr.1 done = tot rr.1 [] + done.length from by simp [tot]]
                rw [show tot rr.1 rr.2 = tot rr.1 [] + rr.2.length from by simp [tot]] at hft
                omega
              have hbb2 : ∀ t' ∈ pre ++ decS x t :: rr.1, t'.1.length ≤ 300000 := fun t' ht' => by
                rcases List.mem_append.1 ht' with ht' | ht'
                · exact hnb t' (by simp [ht'])
                · rcases List.mem_cons.1 ht' with rfl | ht'
                  · exact hnb _ (by simp)
                  · exact hfb t' ht'
              have hnn2 : ∀ t' ∈ pre ++ decS x t :: rr.1, AllI t'.1 ∧ AllI t'.2 := fun t' ht' => by
                rcases List.mem_append.1 ht' with ht' | ht'
                · exact hnm t' (by simp [ht'])
                · rcases List.mem_cons.1 ht' with rfl | ht'
                  · exact hnm _ (by simp)
                  · exact hfn.1 t' ht'
              have hq3 : (decS x t).2.length ≤ q' := by have := unhide hq'; rw [hdw]; omega
              have hrl2 : rr.1.length = ss.length := by rw [hfl, ← unhide hs']
              have hfi := hfn.2
              have hdn : done.length ≤ 200000 := by have h1 := hnt1.2; rw [tot_app, tot_cons] at h1; rw [show tot tt done = tot tt [] + done.length from by simp [tot]] at h1; omega
              have hrn : rr.2.length ≤ 200000 := by rw [tot_app, tot_cons, tot_out] at hnt2; omega
              clear hdb hdw hdl hnt1 hnb hnm hOi hft hfl hfb hfn hlk hE3 htn htot hbb hnn
              replace hrc := hide hrc; replace hnt2 := hide hnt2; replace hbb2 := hide hbb2; replace hnn2 := hide hnn2; replace hq3 := hide hq3; replace hrl2 := hide hrl2; replace hfi := hide hfi; replace hE3 := hide hE3'; replace hdn := hide hdn; replace hrn := hide hrn; replace hrr := hide hrr
              clear hE3'
              go_wp2_with fail
              refine (unhide hrc).mono ?_
              intro e wz hz
              obtain ⟨ar, cr, rfl, hr1, hr2, hrl, hI8⟩ := (unhide hI7).take hz
              rw [List.append_assoc] at hI8
              obtain ⟨m, hm⟩ : ∃ m, rr.2.length = m := ⟨_, rfl⟩
              rw [hm] at hrl hr1 ⊢
              clear hrc hz hI7 d57
              obtain ⟨b13, V13, hb13, hV13, st⟩ := (St.start wz).new (Obj.cells #[.slice none 0 0] 29)
              have k13 := st.get 0 rfl
              have hz13 := st.below
              have hl13 : wz.heap.size ≤ b13 := by omega
              have f0 := blk_cell k13
              have f1 : V13.frozen? ⟨b13, 0, none⟩ = false := by simp [World.frozen?, k13]
              obtain ⟨W13, hW13⟩ : ∃ W, V13.setCell ⟨b13, 0, none⟩ (.slice (some ⟨g0, 0, none⟩) n vc) = W := ⟨_, rfl⟩
              have k13' := heap_set (off := 0) k13 (.slice (some ⟨g0, 0, none⟩) n vc)
              have hz14 := hz13.setCell (p := ⟨b13, 0, none⟩) hl13 (.slice (some ⟨g0, 0, none⟩) n vc)
              rw [hW13] at k13' hz14
              have f2 : W13.cell? ⟨b13, 0, none⟩ = some (.slice (some ⟨g0, 0, none⟩) n vc) := (cell_of_row _ _ 0 _ _ _ k13').trans rfl
              have hI13 := hI8.under hz14
              have f3 := blk_cell hI13.box5
              have f4 : W13.frozen? ⟨b3, 0, none⟩ = false := by simp [World.frozen?, hI13.box5]
              have hag := set_again hI13.box5
              obtain ⟨W14, hW14⟩ : ∃ W, W13.setCell ⟨b3, 0, none⟩ (.slice (some ⟨g0, 0, none⟩) n vc) = W := ⟨_, rfl⟩
              rw [hW14] at hag
              have hI14 := hI13.under hag
              have hrl14 := (hrl.same (fun b hb => (hz14.trans (hag.mono hz14.size)).block b hb.2))
              have hs14 := hI14.g.size
              clear st k13 hz13 hl13 k13' hz14 hI13 hag hI8 hrl
              replace hI14 := hide hI14; replace hrl14 := hide hrl14; replace hs14 := hide hs14; replace hr1 := hide hr1; replace hr2 := hide hr2; replace hm := hide hm
              have hout := hide (unhide hI14).out
              go_wp2_with (at_builtin; refine wpList_append_ints2 rfl _ _ rfl w.heap.size vo done.length done rfl (unhide hout) _ ar m cr rr.2 rfl (unhide hrl14) ?d1 (unhide hs14) ?_)
              case d1 => have := unhide hdn; have := unhide hrn; have := unhide hm; omega
              intro v' wq hrow' hg' hown'
              have hI15 := (unhide hI14).app (more := rr.2) (by rw [List.length_append, unhide hm]; exact hrow') hg' hown' (unhide hfi)
              clear hI14 hrl14 hout hrow' hg' hown' hs14 hV13 hb13 hW13 hW14 f0 f1 f2 f3 f4
              replace hI15 := hide hI15
              go_wp2_with fail
              go_roundg q'
              case rel => exact ⟨decS x t, rr.1, done ++ rr.2, unhide hq3, unhide hrl2, by rw [unhide hE3]; simp only [List.append_assoc], unhide hI15, unhide hnt2, unhide hbb2, unhide hnn2⟩
              case measure => have := unhide hq'; omega
          · have t3 : ¬ (0 : Int) < (nt : Int) := by omega
            have hfin : loopS 1 x (feedS (l.drop (k + 1))) gk t tt = ((t, tt), []) := by
              cases gk with
              | zero => rfl
              | succ q => rw [loopS, if_neg (by rw [hntl0]; exact hgo)]
            rw [hfin] at hEq
            have hE4 : E = done ++ endS (l.drop (k + 1)) tt := hEq
            have hI6 : TkI w w5 V3.heap.size (.slice (some ⟨g0, 0, none⟩) n vc) vo S n b3 b3 ((pre ++ [t]) ++ tt) done := by rw [List.append_assoc]; exact hIo
            have htot6 : tot ((pre ++ [t]) ++ tt) done ≤ 200000 := by rw [List.append_assoc]; exact htot
            have hbb6 : ∀ s ∈ (pre ++ [t]) ++ tt, s.1.length ≤ 300000 := by rw [List.append_assoc]; exact hbb
            have hnn6 : ∀ s ∈ (pre ++ [t]) ++ tt, AllI s.1 ∧ AllI s.2 := by rw [List.append_assoc]; exact hnn
            have hp6 : (pre ++ [t]).length = k + 1 := by rw [List.length_append, unhide hp]; rfl
            have hl6 : tt.length = (l.drop (k + 1)).length := by rw [htt]; exact unhide hs'
            clear hEq hfin hIo htot hbb hnn hLo L1 L2 L1w clo
            replace hE4 := hide hE4; replace hI6 := hide hI6; replace htot6 := hide htot6; replace hbb6 := hide hbb6; replace hnn6 := hide hnn6; replace hp6 := hide hp6; replace hl6 := hide hl6; replace htt := hide htt
            go_wp2_with fail
            go_roundw
            case rel => exact ⟨k + 1, pre ++ [t], tt, done, by omega, by go_num, unhide hp6, unhide hl6, unhide hE4, unhide hI6, unhide htot6, unhide hbb6, unhide hnn6⟩
            case measure => simp [intOf]; omega
      · have hkn : k = n := by omega
        have i2 : ¬ (k : Int) < (n : Int) := by omega
        have hdn : l.drop k = [] := List.drop_of_length_le (by rw [unhide hll]; omega)
        rw [hdn] at hEq hsl
        have hs0 : ss0 = [] := List.eq_nil_of_length_eq_zero hsl
        rw [hs0, show endS [] [] = [] from rfl, List.append_nil] at hEq
        obtain ⟨ao, co, hvo, hac, hcm, hlo⟩ := own_lstB hI0.out hI0.num
        have hlo2 := hlo.wide (S' := fun b => b < wq0.heap.size) (fun b hb => hb.2)
        have hdl : done0.length ≤ 200000 := by unfold tot at htot0; omega
        have hbf : Below w0.heap.size w0 wq0 := (unhide hbz).trans ⟨hI0.g.os, hI0.g.tape, hI0.g.output, hI0.g.size, fun b hb => hI0.g.block b (by have := (unhide hbz).size; omega) (fun e => by have := unhide hvl b e.symm; omega)⟩
        rw [← hEq] at hlo2 hdl hvo
        clear hI0 hlo htot0 hbb0 hnn0 hdn hsl hs0 hEq hac hcm
        replace hlo2 := hide hlo2; replace hvo := hide hvo; replace hbf := hide hbf; replace hdl := hide hdl
        go_wp2_with fail
        go_ret
        rw [unhide hX, unhide hE, unhide hvo]
        exact ⟨ao, co, rfl, unhide hlo2, unhide hdl, unhide hbf⟩
  · have hX : endX l sts = [] := by unfold endX; rw [if_neg (by rw [unhide e1, unhide e2]; exact hne)]
    replace hX := hide hX
    have t1 : ((n : Int) != (ln : Int)) = true := by simp; omega
    go_wp2_with fail
    go_ret
    rw [unhide hX]
    exact ⟨none, 0, rfl, Lst.nil _ _ _ _, by simp, unhide hz⟩
end Go.Proofs.Ytfbgbbbfpkpfkaa
