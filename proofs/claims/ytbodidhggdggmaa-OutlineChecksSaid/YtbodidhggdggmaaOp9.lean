/- OutlineChecks, walked. -/
import Derived.Test.YtbodidhggdggmaaOlX
import Derived.Test.YtbodidhggdggmaaOp7
import Derived.Test.YtbodidhggdggmaaOp8
import Derived.Test.YtbodidhggdggmaaOl2
import Derived.Test.YtbodidhggdggmaaOl3
import Derived.Test.YtbodidhggdggmaaOpA6
namespace Go.Proofs.Ytbodidhggdggmaa
open Go.RowKit
theorem arr3_open {w : World} {S : Nat → Prop} {k : IntKind} {lo hi : Int} {cs : Array Value} {l : List Int} (h : (Enc.arr 3 (Enc.num k lo hi)).rep w S cs.toList l) :
    ∃ a b c : Int, lo ≤ a ∧ a ≤ hi ∧ lo ≤ b ∧ b ≤ hi ∧ lo ≤ c ∧ c ≤ hi ∧ cs = #[.int k a, .int k b, .int k c] := by
  obtain ⟨h1, h2, h3⟩ := h
  match l, h1 with
  | [a, b, c], _ =>
    obtain ⟨e1, l1, l2⟩ := h3 0 a rfl
    obtain ⟨e2, l3, l4⟩ := h3 1 b rfl
    obtain ⟨e3, l5, l6⟩ := h3 2 c rfl
    refine ⟨a, b, c, l1, l2, l3, l4, l5, l6, ?_⟩
    apply Array.toList_inj.1
    have hn : (Enc.num k lo hi).n = 1 := rfl
    rw [hn] at e1 e2 e3 h2
    match hcs : cs.toList, h2 with
    | [u, v, x], _ =>
      rw [hcs] at e1 e2 e3
      simp at e1 e2 e3
      rw [e1, e2, e3]
theorem rct_neq (w : World) (x y z t : Int) : (binOp .neq 34 (.agg #[.int .i64 x, .int .i64 y, .int .i64 z, .int .i64 t]) (.agg #[.int .i64 x, .int .i64 y, .int .i64 z, .int .i64 t])).run Try.prog w = .ok (.bool false) w := by
  have u3 := Try.underlying3
  have a3 := Try.isAgg3
  have z3 := Try.sizeOf3
  have hS : Try.prog.underlying 34 = some (.struct (Try.prog.fieldsOf 34)) := by kernel_rfl
  have hp : Try.prog.stoodInHeld 34 = false := by kernel_rfl
  rw [run_neq_struct, show (10000 : Nat) = 9999 + 1 from rfl, run_equalIn_agg w 9999 34 _ _ hS hp]
  simp only [Program.fieldsOf, Try.underlying34]
  go_simp
def BoxZ (w' : World) (b : Nat) : Prop := w'.heap[b]? = some (.cells #[.slice none 0 0, .slice none 0 0, .slice none 0 0] 29 (0, 0))
/-- region 3: two calls, a new box, and the array -/
def C3 (V : World) (mk : Value) (N1 : Nat) (o1 : Ot) (L : Nat → Bool) (vs : Nat → Value) (w' : World) : Prop :=
  Below V.heap.size V w' ∧ (∀ j, L j = false → vs j = undef) ∧
  (vs 7 ≠ undef → ∃ b, vs 7 = .pointer (some ⟨b, 0, none⟩) ∧ V.heap.size ≤ b ∧ BoxZ w' b) ∧
  (vs 1 ≠ undef → ∃ a c, vs 1 = .slice a N1 c ∧ ∃ S : Nat → Prop, Lst Enc.ct w' S a N1 o1 ∧ (∀ x, S x → x < w'.heap.size) ∧ ∀ b, vs 7 = .pointer (some ⟨b, 0, none⟩) → ¬ S b) ∧
  (vs 5 ≠ undef → ∃ a n c, vs 5 = .slice a n c ∧ ∃ (o2 : Ot) (S : Nat → Prop), Lst Enc.ct w' S a n o2 ∧ Sml o2 ∧ (∀ x, S x → x < w'.heap.size) ∧ ∀ b, vs 7 = .pointer (some ⟨b, 0, none⟩) → ¬ S b) ∧
  (vs 6 ≠ undef → vs 1 ≠ undef ∧ vs 5 ≠ undef ∧ vs 6 = .agg #[vs 1, mk, vs 5])
theorem C3.start (V : World) (mk : Value) (N1 : Nat) (o1 : Ot) : C3 V mk N1 o1 (fun _ => false) (fun _ => undef) { V with drawn := V.drawn + 1 } :=
  ⟨(Below.refl _ _).drew, fun _ _ => rfl, fun h => absurd rfl h, fun h => absurd rfl h, fun h => absurd rfl h, fun h => absurd rfl h⟩
section
variable {V w1 w2 : World} {mk : Value} {N1 : Nat} {o1 : Ot} {L : Nat → Bool} {vs : Nat → Value}
theorem boxz_below {b : Nat} (h : BoxZ w1 b) (hb : Below w1.heap.size w1 w2) : BoxZ w2 b := (hb.block b (Array.getElem?_eq_some_iff.1 h).1).trans h
theorem boxz_lt {b : Nat} (h : BoxZ w1 b) : b < w1.heap.size := (Array.getElem?_eq_some_iff.1 h).1
theorem C3.unrun (h : C3 V mk N1 o1 L vs w1) (i : Nat) (v : Value) : ∀ j, (L j || j == i) = false → (if j = i then v else vs j) = undef := fun j hj => by
  simp at hj
  rw [if_neg hj.2]
  exact h.2.1 j hj.1
theorem C3.keep (h : C3 V mk N1 o1 L vs w1) (i : Nat) (v : Value) (hi : i ≠ 1 ∧ i ≠ 5 ∧ i ≠ 6 ∧ i ≠ 7) (hb : Below w1.heap.size w1 w2) : C3 V mk N1 o1 (fun j => L j || j == i) (fun j => if j = i then v else vs j) w2 := by
  have hu := h.unrun i v
  obtain ⟨h1, h2, h3, h4, h5, h6⟩ := h
  have e1 : (if 1 = i then v else vs 1) = vs 1 := if_neg (fun e => hi.1 e.symm)
  have e5 : (if 5 = i then v else vs 5) = vs 5 := if_neg (fun e => hi.2.1 e.symm)
  have e6 : (if 6 = i then v else vs 6) = vs 6 := if_neg (fun e => hi.2.2.1 e.symm)
  have e7 : (if 7 = i then v else vs 7) = vs 7 := if_neg (fun e => hi.2.2.2 e.symm)
  refine ⟨h1.trans (hb.mono h1.size), hu, ?_, ?_, ?_, ?_⟩
  · simp only [e7]
    intro g
    obtain ⟨b, q1, q2, q3⟩ := h3 g
    exact ⟨b, q1, q2, boxz_below q3 hb⟩
  · simp only [e1, e7]
    intro g
    obtain ⟨a, c, q1, S, q2, q3, q4⟩ := h4 g
    exact ⟨a, c, q1, S, q2.same (fun b hb' => hb.block b (q3 b hb')), fun x hx => Nat.lt_of_lt_of_le (q3 x hx) hb.size, q4⟩
  · simp only [e5, e7]
    intro g
    obtain ⟨a, n, c, q1, o2, S, q2, q0, q3, q4⟩ := h5 g
    exact ⟨a, n, c, q1, o2, S, q2.same (fun b hb' => hb.block b (q3 b hb')), q0, fun x hx => Nat.lt_of_lt_of_le (q3 x hx) hb.size, q4⟩
  · simp only [e1, e5, e6]
    exact h6
theorem C3.box (h : C3 V mk N1 o1 L vs w1) (_ : L 7 = false) (b : Nat) (hw : w1.heap.size = b) (hb : Below w1.heap.size w1 w2) (hz : BoxZ w2 b) : C3 V mk N1 o1 (fun j => L j || j == 7) (fun j => if j = 7 then .pointer (some ⟨b, 0, none⟩) else vs j) w2 := by
  have hu := h.unrun 7 (.pointer (some ⟨b, 0, none⟩))
  obtain ⟨h1, h2, h3, h4, h5, h6⟩ := h
  refine ⟨h1.trans (hb.mono h1.size), hu, fun _ => ⟨b, rfl, by rw [← hw]; exact h1.size, hz⟩, ?_, ?_, h6⟩
  · intro g
    obtain ⟨a, c, q1, S, q2, q3, q4⟩ := h4 g
    refine ⟨a, c, q1, S, q2.same (fun b hb' => hb.block b (q3 b hb')), fun x hx => Nat.lt_of_lt_of_le (q3 x hx) hb.size, fun b' e hS => ?_⟩
    have e' : (Value.pointer (some ⟨b, 0, none⟩)) = .pointer (some ⟨b', 0, none⟩) := e
    injection e' with e'
    injection e' with e'
    injection e' with e'
    have := q3 b' hS
    omega
  · intro g
    obtain ⟨a, n, c, q1, o2, S, q2, q0, q3, q4⟩ := h5 g
    refine ⟨a, n, c, q1, o2, S, q2.same (fun b hb' => hb.block b (q3 b hb')), q0, fun x hx => Nat.lt_of_lt_of_le (q3 x hx) hb.size, fun b' e hS => ?_⟩
    have e' : (Value.pointer (some ⟨b, 0, none⟩)) = .pointer (some ⟨b', 0, none⟩) := e
    injection e' with e'
    injection e' with e'
    injection e' with e'
    have := q3 b' hS
    omega
theorem C3.few (h : C3 V mk N1 o1 L vs w1) (hL : L 1 = false) {a : Option Addr} {c B : Nat} (hB : B ≤ V.heap.size) (hb : Below w1.heap.size w1 w2) (hl : Lst Enc.ct w2 (fun b => b < B ∨ (w1.heap.size ≤ b ∧ b < w2.heap.size)) a N1 o1) : C3 V mk N1 o1 (fun j => L j || j == 1) (fun j => if j = 1 then .slice a N1 c else vs j) w2 := by
  have hu := h.unrun 1 (.slice a N1 c)
  obtain ⟨h1, h2, h3, h4, h5, h6⟩ := h
  refine ⟨h1.trans (hb.mono h1.size), hu, ?_, fun _ => ⟨a, c, rfl, _, hl, fun x hx => ?_, fun b e hS => ?_⟩, ?_, ?_⟩
  · intro g
    obtain ⟨b, q1, q2, q3⟩ := h3 g
    exact ⟨b, q1, q2, boxz_below q3 hb⟩
  · rcases hx with hx | hx
    · have := h1.size; have := hb.size; omega
    · exact hx.2
  · have e' : vs 7 = .pointer (some ⟨b, 0, none⟩) := e
    obtain ⟨b', q1, q2, q3⟩ := h3 (by rw [e']; intro h; cases h)
    rw [e'] at q1
    injection q1 with q1
    injection q1 with q1
    injection q1 with q1
    have := boxz_lt q3
    rcases hS with hS | hS <;> omega
  · intro g
    obtain ⟨a, n, c, q1, o2, S, q2, q0, q3, q4⟩ := h5 g
    exact ⟨a, n, c, q1, o2, S, q2.same (fun b hb' => hb.block b (q3 b hb')), q0, fun x hx => Nat.lt_of_lt_of_le (q3 x hx) hb.size, q4⟩
  · intro g
    obtain ⟨g1, _⟩ := h6 g
    exact absurd (h2 1 hL) g1
theorem C3.odd (h : C3 V mk N1 o1 L vs w1) (hL : L 5 = false) {a : Option Addr} {n c : Nat} {o2 : Ot} (hb : Below w1.heap.size w1 w2) (hl : Lst Enc.ct w2 (fun b => w1.heap.size ≤ b ∧ b < w2.heap.size) a n o2) (hs : Sml o2) : C3 V mk N1 o1 (fun j => L j || j == 5) (fun j => if j = 5 then .slice a n c else vs j) w2 := by
  have hu := h.unrun 5 (.slice a n c)
  obtain ⟨h1, h2, h3, h4, h5, h6⟩ := h
  refine ⟨h1.trans (hb.mono h1.size), hu, ?_, ?_, fun _ => ⟨a, n, c, rfl, o2, _, hl, hs, fun x hx => hx.2, fun b e hS => ?_⟩, ?_⟩
  · intro g
    obtain ⟨b, q1, q2, q3⟩ := h3 g
    exact ⟨b, q1, q2, boxz_below q3 hb⟩
  · intro g
    obtain ⟨a, c, q1, S, q2, q3, q4⟩ := h4 g
    exact ⟨a, c, q1, S, q2.same (fun b hb' => hb.block b (q3 b hb')), fun x hx => Nat.lt_of_lt_of_le (q3 x hx) hb.size, q4⟩
  · have e' : vs 7 = .pointer (some ⟨b, 0, none⟩) := e
    obtain ⟨b', q1, q2, q3⟩ := h3 (by rw [e']; intro h; cases h)
    rw [e'] at q1
    injection q1 with q1
    injection q1 with q1
    injection q1 with q1
    have := boxz_lt q3
    omega
  · intro g
    obtain ⟨_, g1, _⟩ := h6 g
    exact absurd (h2 5 hL) g1
theorem C3.agg (h : C3 V mk N1 o1 L vs w1) {a a' : Option Addr} {c n' c' : Nat} (e1 : vs 1 = .slice a N1 c) (e5 : vs 5 = .slice a' n' c') (hb : Below w1.heap.size w1 w2) : C3 V mk N1 o1 (fun j => L j || j == 6) (fun j => if j = 6 then .agg #[.slice a N1 c, mk, .slice a' n' c'] else vs j) w2 := by
  have hu := h.unrun 6 (.agg #[.slice a N1 c, mk, .slice a' n' c'])
  obtain ⟨h1, h2, h3, h4, h5, h6⟩ := h
  refine ⟨h1.trans (hb.mono h1.size), hu, ?_, ?_, ?_, fun _ => ⟨?_, ?_, ?_⟩⟩
  · intro g
    obtain ⟨b, q1, q2, q3⟩ := h3 g
    exact ⟨b, q1, q2, boxz_below q3 hb⟩
  · intro g
    obtain ⟨a, c, q1, S, q2, q3, q4⟩ := h4 g
    exact ⟨a, c, q1, S, q2.same (fun b hb' => hb.block b (q3 b hb')), fun x hx => Nat.lt_of_lt_of_le (q3 x hx) hb.size, q4⟩
  · intro g
    obtain ⟨a, n, c, q1, o2, S, q2, q0, q3, q4⟩ := h5 g
    exact ⟨a, n, c, q1, o2, S, q2.same (fun b hb' => hb.block b (q3 b hb')), q0, fun x hx => Nat.lt_of_lt_of_le (q3 x hx) hb.size, q4⟩
  · show vs 1 ≠ undef
    rw [e1]; intro h; cases h
  · show vs 5 ≠ undef
    rw [e5]; intro h; cases h
  · show Value.agg #[.slice a N1 c, mk, .slice a' n' c'] = .agg #[vs 1, mk, vs 5]
    rw [e1, e5]
end
set_option maxHeartbeats 8000000 in
set_option maxRecDepth 100000 in
theorem outlineChecks_any (ra : Option Addr) (rn rc : Nat) (raw : Ot) (la : Option Addr) (ln lc : Nat) (l : List (List Int)) (qs : Array Value) (qy : List Int) (w : World)
    (hraw : Lst Enc.ct w (fun b => b < w.heap.size) ra rn raw) (hr1 : rn ≤ rc) (hr2 : rc ≤ maxLen) (hll : Lst (Enc.list Enc.int) w (fun b => b < w.heap.size) la ln l) (hl1 : ln ≤ lc) (hl2 : lc ≤ maxLen) (hq : (Enc.arr 3 Enc.int).rep w (fun b => b < w.heap.size) qs.toList qy) :
    Calls Try.prog 3 #[.slice ra rn rc, .slice la ln lc, .agg qs] w fun e w' => e = .returned (.bool true) ∧ Below w.heap.size w w' := by
  obtain ⟨q0, q1, q2, _, _, _, _, _, _, rfl⟩ := arr3_open hq
  clear hq
  have hrnm : rn ≤ maxLen := by omega
  have hlnm : ln ≤ maxLen := by omega
  obtain ⟨N1, hN1⟩ : ∃ N, (fewO raw).length = N := ⟨_, rfl⟩
  have hN1b : N1 ≤ 1000 := by rw [← hN1]; exact (few_sml raw).1.1
  obtain ⟨b5, V1, hb5, hV1, n5, kk1, s1⟩ := al1 w (.cells #[.int .i64 q0, .int .i64 q1, .int .i64 q2] 24)
  have hsan := sanity6_any V1
  replace hraw := hide hraw; replace hll := hide hll; replace n5 := hide n5; replace kk1 := hide kk1; replace hsan := hide hsan; replace hN1 := hide hN1
  clear s1
  go_enter Try.func3, Try.ntmps3
  go_wp2_with fail
  refine (unhide hsan).mono ?_
  rintro e w2 ⟨rfl, hb2⟩
  clear hsan hV1 hb5
  have kk2 := (unhide kk1).trans (hb2.mono (unhide kk1).size)
  have n52 := (hb2.block b5 (Array.getElem?_eq_some_iff.1 (unhide n5)).1).trans (unhide n5)
  have hmade := made6_any la ln lc l w2 ((unhide hll).under kk2) hlnm
  clear hb2 n5 kk1
  replace kk2 := hide kk2; replace n52 := hide n52; replace hmade := hide hmade
  go_wp2_with fail
  refine (unhide hmade).mono ?_
  rintro e V ⟨v4, mo, rfl, hoo, hgo, hb4⟩
  obtain ⟨ma, mc, ev, _, _, hmo⟩ := hoo.lst
  obtain ⟨mn, hmn⟩ : ∃ mn, mo.length = mn := ⟨_, rfl⟩
  rw [hmn] at ev hmo
  subst ev
  have kk3 := (unhide kk2).trans (hb4.mono (unhide kk2).size)
  have n53 := (hb4.block b5 (Array.getElem?_eq_some_iff.1 (unhide n52)).1).trans (unhide n52)
  have hwV := kk3.size
  have d0 : V.cell? ⟨b5, 0, none⟩ = some (.int .i64 q0) := (cell_of_row _ _ 0 _ _ _ n53).trans rfl
  have d1 : V.cell? ⟨b5, 1, none⟩ = some (.int .i64 q1) := (cell_of_row _ _ 1 _ _ _ n53).trans rfl
  have d2 : V.cell? ⟨b5, 2, none⟩ = some (.int .i64 q2) := (cell_of_row _ _ 2 _ _ _ n53).trans rfl
  replace hmo := hide (hmo.wide (S' := fun b => b < V.heap.size) (fun b hb => hb.2))
  clear hmade hoo hb4 n52 kk2 n53 hmn
  replace kk3 := hide kk3; replace hgo := hide hgo
  go_wp2_with fail
  refine wp_region_frontG 8 (fun L vs w' => C3 V (.slice ma mn mc) N1 (fewO raw) L vs w') (fun wa wb => Below wa.heap.size wa wb)
    (fun ix v w' => match ix with
      | 0 => v = .slice ra rn rc
      | 1 => ∃ a c, v = .slice a N1 c
      | 2 => v = .slice ma mn mc
      | 3 => v = .slice ma mn mc
      | 4 => v = .agg #[.int .i64 q0, .int .i64 q1, .int .i64 q2]
      | 5 => ∃ a n c, v = .slice a n c
      | 6 => v ≠ undef
      | 7 => v ≠ undef
      | _ => True) (by rfl) (by kernel_rfl) ?_ ?_ ?_ ?_
  · exact C3.start _ _ _ _
  · intro wa wb hR ix v hv
    match ix, hv with
    | 0, h => exact h
    | 1, h => exact h
    | 2, h => exact h
    | 3, h => exact h
    | 4, h => exact h
    | 5, h => exact h
    | 6, h => exact h
    | 7, h => exact h
    | _ + 8, _ => trivial
  --BEGIN3
  · intro ix hix
    obtain rfl | rfl | rfl | rfl | rfl | rfl | rfl | rfl : ix = 0 ∨ ix = 1 ∨ ix = 2 ∨ ix = 3 ∨ ix = 4 ∨ ix = 5 ∨ ix = 6 ∨ ix = 7 := by omega
    · refine FrontStep.of [] _ rfl (by kernel_rfl) ?_
      intro vs LL wq hLL hC hf
      simp only [putL, List.foldl_nil]
      go_wp2_with fail
      first | exact ⟨hC.keep 0 _ (by omega) (Below.refl _ _), Below.refl _ _⟩ | exact hC.keep 0 _ (by omega) (Below.refl _ _) | exact ⟨hC.keep 0 _ (by omega) (Below.refl _ _), Below.refl _ _, rfl⟩ | (trace_state; fail)
    · refine FrontStep.of [0] _ rfl (by kernel_rfl) ?_
      intro vs LL wq hLL hC hf
      simp only [putL, List.foldl_nil, List.foldl_cons, List.getElem?_cons_zero]
      have e0 : vs 0 = _ := hf 0 (by simp)
      rw [e0]
      have hcq := few7_any ra rn rc raw wq (fun b => b < w.heap.size) (fun b hb => Nat.lt_of_lt_of_le hb (Nat.le_trans hwV hC.1.size)) ((unhide hraw).below ((unhide kk3).trans (hC.1.mono hwV))) hrnm
      replace hcq := hide hcq
      go_wp2_with fail
      refine (unhide hcq).mono ?_
      rintro e wz ⟨a0, c0, rfl, _, _, hla, hbz⟩
      rw [unhide hN1] at hla ⊢
      clear hcq
      have hkC := hC.few hLL (c := c0) hwV hbz hla
      go_wp2_with fail
      all_goals first | exact ⟨hkC, hbz, _, _, rfl⟩ | exact ⟨hkC, hbz⟩ | exact ⟨hkC, hbz, _, _, ⟨rfl, rfl⟩⟩ | exact hkC | (trace_state; fail)
    · refine FrontStep.of [] _ rfl (by kernel_rfl) ?_
      intro vs LL wq hLL hC hf
      simp only [putL, List.foldl_nil]
      go_wp2_with fail
      first | exact ⟨hC.keep 2 _ (by omega) (Below.refl _ _), Below.refl _ _⟩ | exact hC.keep 2 _ (by omega) (Below.refl _ _) | exact ⟨hC.keep 2 _ (by omega) (Below.refl _ _), Below.refl _ _, rfl⟩ | (trace_state; fail)
    · refine FrontStep.of [] _ rfl (by kernel_rfl) ?_
      intro vs LL wq hLL hC hf
      simp only [putL, List.foldl_nil]
      go_wp2_with fail
      first | exact ⟨hC.keep 3 _ (by omega) (Below.refl _ _), Below.refl _ _⟩ | exact hC.keep 3 _ (by omega) (Below.refl _ _) | exact ⟨hC.keep 3 _ (by omega) (Below.refl _ _), Below.refl _ _, rfl⟩ | (trace_state; fail)
    · refine FrontStep.of [] _ rfl (by kernel_rfl) ?_
      intro vs LL wq hLL hC hf
      simp only [putL, List.foldl_nil]
      have hcq0 := cell_under d0 hC.1
      have hcq1 := cell_under d1 hC.1
      have hcq2 := cell_under d2 hC.1
      go_wp2_with fail
      first | exact ⟨hC.keep 4 _ (by omega) (Below.refl _ _), Below.refl _ _⟩ | exact hC.keep 4 _ (by omega) (Below.refl _ _) | exact ⟨hC.keep 4 _ (by omega) (Below.refl _ _), Below.refl _ _, rfl⟩ | (trace_state; fail)
    · refine FrontStep.of [1, 3, 4] _ rfl (by kernel_rfl) ?_
      intro vs LL wq hLL hC hf
      simp only [putL, List.foldl_nil, List.foldl_cons, List.getElem?_cons_zero, List.getElem?_cons_succ]
      obtain ⟨a17, c17, e17⟩ := hf 1 (by simp)
      rw [e17]
      have e3 : vs 3 = _ := hf 3 (by simp)
      rw [e3]
      have e4 : vs 4 = _ := hf 4 (by simp)
      rw [e4]
      have hcq := odd6_any ma mn mc mo q0 q1 q2 wq ((unhide hmo).under hC.1) (unhide hgo)
      replace hcq := hide hcq
      go_wp2_with fail
      refine (unhide hcq).mono ?_
      rintro e wz ⟨v0, o2, rfl, hoo, hs2, hbz⟩
      obtain ⟨a0, c0, ev0, _, _, hla⟩ := hoo.lst
      obtain ⟨n0, hn0⟩ : ∃ n, o2.length = n := ⟨_, rfl⟩
      rw [hn0] at ev0 hla
      subst ev0
      clear hcq hoo
      have hkC := hC.odd hLL (c := c0) hbz hla hs2
      clear hn0
      go_wp2_with fail
      all_goals first | exact ⟨hkC, hbz, _, _, _, rfl⟩ | exact ⟨hkC, hbz⟩ | exact ⟨hkC, hbz, _, _, _, ⟨rfl, rfl, rfl⟩⟩ | exact hkC | (trace_state; fail)
    · refine FrontStep.of [1, 2, 5] _ rfl (by kernel_rfl) ?_
      intro vs LL wq hLL hC hf
      simp only [putL, List.foldl_nil, List.foldl_cons, List.getElem?_cons_zero, List.getElem?_cons_succ]
      obtain ⟨a17, c17, e17⟩ := hf 1 (by simp)
      rw [e17]
      have e2 : vs 2 = _ := hf 2 (by simp)
      rw [e2]
      obtain ⟨a21, n21, c21, e21⟩ := hf 5 (by simp)
      rw [e21]
      go_wp2_with fail
      first | exact ⟨hC.agg e17 e21 (Below.refl _ _), Below.refl _ _, by intro h; cases h⟩ | (trace_state; fail)
    · refine FrontStep.of [] _ rfl (by kernel_rfl) ?_
      intro vs LL wq hLL hC hf
      simp only [putL, List.foldl_nil]
      go_wp2_with fail
      first | exact ⟨hC.box hLL _ rfl ((Below.refl _ _).alloc (Nat.le_refl _) _) (heap_alloc_new _ _), (Below.refl _ _).alloc (Nat.le_refl _) _, by intro h; cases h⟩ | (trace_state; fail)
  --END3
  · intro vs LL wq hLL hC hf
    obtain ⟨h1, h2, h3, h4, h5, h6⟩ := hC
    obtain ⟨a17, c17, e17⟩ := hf 1 (by omega)
    obtain ⟨a21, n21, c21, e21⟩ := hf 5 (by omega)
    have n1 : vs 1 ≠ undef := by rw [e17]; intro h; cases h
    have n5 : vs 5 ≠ undef := by rw [e21]; intro h; cases h
    have n7 := hf 7 (by omega)
    have n6 := hf 6 (by omega)
    obtain ⟨b9, eb9, hVb, hz⟩ := h3 n7
    obtain ⟨_, _, e6⟩ := h6 n6
    obtain ⟨a1, c1, e1, S1, hl1, hS1, hn1⟩ := h4 n1
    obtain ⟨a5, n5', c5, e5, o2, S2, hl2, hs2, hS2, hn2⟩ := h5 n5
    rw [e1, e5] at e6
    have g1 := hn1 b9 eb9
    have g2 := hn2 b9 eb9
    rw [putSome_all]
    simp only [putL, List.range, List.range.loop, List.foldl_nil, List.foldl_cons, List.getElem?_cons_zero, List.getElem?_cons_succ, List.drop_succ_cons, List.drop_zero]
    rw [eb9, e6]
    have z1 := heap_set hz (.slice a1 N1 c1) (off := 0)
    have z2 := heap_set z1 (.slice ma mn mc) (off := 1)
    have z3 := heap_set z2 (.slice a5 n5' c5) (off := 2)
    obtain ⟨⟨x0, x1, x2⟩, y0, y1, y2⟩ := three_at hz
    obtain ⟨V9, hV9⟩ : ∃ V9, ((wq.setCell ⟨b9, 0, none⟩ (.slice a1 N1 c1)).setCell ⟨b9, 1, none⟩ (.slice ma mn mc)).setCell ⟨b9, 2, none⟩ (.slice a5 n5' c5) = V9 := ⟨_, rfl⟩
    have hoth : ∀ b, b ≠ b9 → V9.heap[b]? = wq.heap[b]? := fun b hb => by rw [← hV9, Below.heap_setCell _ _ _ _ hb, Below.heap_setCell _ _ _ _ hb, Below.heap_setCell _ _ _ _ hb]
    have hsz9 : V9.heap.size = wq.heap.size := by rw [← hV9]; simp only [World.size_setCell]
    have hbz : Below V.heap.size V V9 := by rw [← hV9]; exact ((h1.setCell (p := ⟨b9, 0, none⟩) hVb _).setCell (p := ⟨b9, 1, none⟩) hVb _).setCell (p := ⟨b9, 2, none⟩) hVb _
    rw [hV9] at z3
    have hsel : ∀ k, k < 3 → ∃ a n c o, V9.cell? ⟨b9, k, none⟩ = some (.slice a n c) ∧ Lst Enc.ct V9 (· < V9.heap.size) a n o ∧ Sml o := fun k hk => by
      have : k = 0 ∨ k = 1 ∨ k = 2 := by omega
      rcases this with rfl | rfl | rfl
      · exact ⟨a1, N1, c1, fewO raw, (cell_of_row _ _ 0 _ _ _ z3).trans rfl, (hl1.same (fun b hb => hoth b (fun e => g1 (e ▸ hb)))).wide (fun b hb => by rw [hsz9]; exact hS1 b hb), (few_sml raw).1⟩
      · exact ⟨ma, mn, mc, mo, (cell_of_row _ _ 1 _ _ _ z3).trans rfl, (unhide hmo).under hbz, (unhide hgo).sml.1⟩
      · exact ⟨a5, n5', c5, o2, (cell_of_row _ _ 2 _ _ _ z3).trans rfl, (hl2.same (fun b hb => hoth b (fun e => g2 (e ▸ hb)))).wide (fun b hb => by rw [hsz9]; exact hS2 b hb), hs2⟩
    have kk9 := hide ((unhide kk3).trans (hbz.mono hwV))
    clear hf hLL h1 h2 h3 h4 h5 h6 e17 e21 n1 n5 n7 n6 eb9 e6 e1 e5 hl1 hS1 hn1 hl2 hS2 hn2 g1 g2 z1 z2 z3 hz hoth hsz9 hbz hs2 hmo hgo hraw hll kk3 d0 d1 d2
    replace hsel := hide hsel
    go_simp
    go_wp2_with fail
    clear hV9 x0 x1 x2 y0 y1 y2
    go_loopw [10] (fun v wr => ∃ k : Nat, k ≤ 3 ∧ v = .int .i64 (k : Int) ∧ Below V9.heap.size V9 wr) (fun v _ => (3 - intOf v).toNat)
    case atStart => exact ⟨0, by omega, rfl, Below.refl _ _⟩
    case round =>
      obtain ⟨k, hk, rfl, hbw⟩ := hrel
      obtain ⟨wo, rfl⟩ : ∃ V : World, V = wr := ⟨_, rfl⟩
      by_cases hlt : k < 3
      · obtain ⟨a1, n1, c1, o1, hc1, hl1, hs1⟩ := unhide hsel k hlt
        have hcV := cell_under hc1 hbw
        have hlV := hl1.under hbw
        have hn1 : n1 ≤ 1000 := by have := hs1.1; have := hlV.1; omega
        have t1 : (k : Int) < 3 := by omega
        obtain ⟨ce, hce⟩ : ∃ e, checkO o1 = e := ⟨_, rfl⟩
        obtain ⟨cn, hcn⟩ : ∃ e, countS o1 = e := ⟨_, rfl⟩
        obtain ⟨⟨x0, y0, x1, y1⟩, hbx⟩ : ∃ r, boxS o1.flatten = r := ⟨_, rfl⟩
        have hne1 : (ce != ce) = false := bne_self_eq_false _
        have hne2 : (cn != cn) = false := bne_self_eq_false _
        have hne3 := fun w => rct_neq w x0 y0 x1 y1
        have hc := checkO_any a1 n1 c1 o1 wo hlV hs1
        rw [hce] at hc
        have hl19 := hide hl1
        clear hl1 hc1
        replace hbw := hide hbw; replace hlV := hide hlV; replace hs1 := hide hs1; replace hce := hide hce; replace hcn := hide hcn; replace hbx := hide hbx
        replace hc := hide hc
        go_wp2_with fail
        refine (unhide hc).mono ?_
        rintro e x2w ⟨rfl, hb⟩
        clear hc
        replace hlV := hide ((unhide hlV).under hb)
        replace hbw := hide ((unhide hbw).trans (hb.mono (unhide hbw).size))
        clear hb
        have hc := rcheckO_any a1 n1 c1 o1 x2w (unhide hlV) (unhide hs1)
        rw [unhide hce] at hc
        replace hc := hide hc
        go_wp2_with fail
        refine (unhide hc).mono ?_
        rintro e x3w ⟨rfl, hb⟩
        clear hc
        replace hlV := hide ((unhide hlV).under hb)
        replace hbw := hide ((unhide hbw).trans (hb.mono (unhide hbw).size))
        clear hb
        have hc := count_any a1 n1 c1 o1 x3w (unhide hlV) (unhide hs1)
        rw [unhide hcn] at hc
        replace hc := hide hc
        go_wp2_with fail
        refine (unhide hc).mono ?_
        rintro e x4w ⟨rfl, hb⟩
        clear hc
        replace hlV := hide ((unhide hlV).under hb)
        replace hbw := hide ((unhide hbw).trans (hb.mono (unhide hbw).size))
        clear hb
        have hc := rcount_any a1 n1 c1 o1 x4w (unhide hlV) (unhide hs1)
        rw [unhide hcn] at hc
        replace hc := hide hc
        go_wp2_with fail
        refine (unhide hc).mono ?_
        rintro e x5w ⟨rfl, hq⟩
        have hb : Below x4w.heap.size x4w x5w := by rw [hq]; exact Below.refl _ _
        clear hq
        clear hc
        replace hlV := hide ((unhide hlV).under hb)
        replace hbw := hide ((unhide hbw).trans (hb.mono (unhide hbw).size))
        clear hb
        have hc := box_any a1 n1 c1 o1 x5w (unhide hlV) (unhide hs1)
        rw [unhide hbx] at hc
        replace hc := hide hc
        go_wp2_with fail
        refine (unhide hc).mono ?_
        rintro e x6w ⟨rfl, hb⟩
        clear hc
        replace hlV := hide ((unhide hlV).under hb)
        replace hbw := hide ((unhide hbw).trans (hb.mono (unhide hbw).size))
        clear hb
        have hc := rbox_any a1 n1 c1 o1 x6w (unhide hlV) (unhide hs1)
        rw [unhide hbx] at hc
        replace hc := hide hc
        go_wp2_with fail
        refine (unhide hc).mono ?_
        rintro e x7w ⟨rfl, hb⟩
        clear hc
        replace hlV := hide ((unhide hlV).under hb)
        replace hbw := hide ((unhide hbw).trans (hb.mono (unhide hbw).size))
        clear hb
        go_wp2_with fail
        clear hcV
        go_loopw [12] (fun v wi => ∃ i : Nat, i ≤ 3 ∧ v = .int .i64 (i : Int) ∧ Below V9.heap.size V9 wi) (fun v _ => (3 - intOf v).toNat)
        case atStart => exact ⟨0, by omega, rfl, unhide hbw⟩
        case round =>
          clear hbw hlV
          obtain ⟨i, hi, rfl, hbw⟩ := hrel
          obtain ⟨V, rfl⟩ : ∃ V : World, V = wr := ⟨_, rfl⟩
          by_cases hlt2 : i < 3
          · obtain ⟨a2, n2, c2, o2, hc2, hl2, hs2⟩ := unhide hsel i hlt2
            have ci := cell_under hc2 hbw
            have hn2 : n2 ≤ 1000 := by have := hs2.1; have := hl2.1; omega
            have hl1 := hide ((unhide hl19).under hbw)
            replace hl2 := hide (hl2.under hbw)
            obtain ⟨dd, hdd⟩ : ∃ d, decide (o1 = o2) = d := ⟨_, rfl⟩
            have t2 : (i : Int) < 3 := by omega
            clear hc2 hs2
            replace hdd := hide hdd; replace hbw := hide hbw
            go_wp2_with fail
            refine wp_region_frontG 11 (fun _ _ w' => Below V.heap.size V w') (fun wa wb => Below wa.heap.size wa wb)
              (fun ix v w' => match ix with
                | 0 => v = .slice a1 n1 c1
                | 1 => v = .int .i64 (i : Int)
                | 2 => v = .pointer (some ⟨b9, i, none⟩)
                | 3 => v = .slice a2 n2 c2
                | 4 => v = .bool dd
                | 5 => v = .slice a1 n1 c1
                | 6 => v = .int .i64 (i : Int)
                | 7 => v = .pointer (some ⟨b9, i, none⟩)
                | 8 => v = .slice a2 n2 c2
                | 9 => v = .bool dd
                | 10 => v = .bool false
                | _ => True) (by rfl) (by kernel_rfl) ?_ ?_ ?_ ?_
            · exact (Below.refl _ _).drew
            · intro wa wb hR ix v hv
              match ix, hv with
              | 0, h => exact h
              | 1, h => exact h
              | 2, h => exact h
              | 3, h => exact h
              | 4, h => exact h
              | 5, h => exact h
              | 6, h => exact h
              | 7, h => exact h
              | 8, h => exact h
              | 9, h => exact h
              | 10, h => exact h
              | _ + 11, _ => trivial
            --BEGIN13
            · intro ix hix
              obtain rfl | rfl | rfl | rfl | rfl | rfl | rfl | rfl | rfl | rfl | rfl : ix = 0 ∨ ix = 1 ∨ ix = 2 ∨ ix = 3 ∨ ix = 4 ∨ ix = 5 ∨ ix = 6 ∨ ix = 7 ∨ ix = 8 ∨ ix = 9 ∨ ix = 10 := by omega
              · refine FrontStep.of [] _ rfl (by kernel_rfl) ?_
                intro vs LL wq hLL hC hf
                simp only [putL, List.foldl_nil]
                go_wp2_with fail
                first | exact Below.refl _ _ | exact ⟨Below.refl _ _, by omega⟩
              · refine FrontStep.of [] _ rfl (by kernel_rfl) ?_
                intro vs LL wq hLL hC hf
                simp only [putL, List.foldl_nil]
                go_wp2_with fail
                first | exact Below.refl _ _ | exact ⟨Below.refl _ _, by omega⟩
              · refine FrontStep.of [1] _ rfl (by kernel_rfl) ?_
                intro vs LL wq hLL hC hf
                simp only [putL, List.foldl_nil, List.foldl_cons, List.getElem?_cons_zero, List.getElem?_cons_succ]
                have e1 : vs 1 = _ := hf 1 (by simp)
                rw [e1]
                go_wp2_with fail
                first | exact Below.refl _ _ | exact ⟨Below.refl _ _, by omega⟩
              · refine FrontStep.of [2] _ rfl (by kernel_rfl) ?_
                intro vs LL wq hLL hC hf
                simp only [putL, List.foldl_nil, List.foldl_cons, List.getElem?_cons_zero, List.getElem?_cons_succ]
                have e2 : vs 2 = _ := hf 2 (by simp)
                rw [e2]
                have hcq := cell_under ci hC
                go_wp2_with fail
                first | exact Below.refl _ _ | exact ⟨Below.refl _ _, by omega⟩
              · refine FrontStep.of [0, 3] _ rfl (by kernel_rfl) ?_
                intro vs LL wq hLL hC hf
                simp only [putL, List.foldl_nil, List.foldl_cons, List.getElem?_cons_zero, List.getElem?_cons_succ]
                have e0 : vs 0 = _ := hf 0 (by simp)
                rw [e0]
                have e3 : vs 3 = _ := hf 3 (by simp)
                rw [e3]
                have hcq := sameO_any a1 n1 c1 o1 a2 n2 c2 o2 wq ((unhide hl1).under hC) ((unhide hl2).under hC) (by omega) (by omega)
                rw [unhide hdd] at hcq
                replace hcq := hide hcq
                go_wp2_with fail
                refine (unhide hcq).mono ?_
                rintro e wz ⟨rfl, q, hq⟩
                have hbz : Below wq.heap.size wq wz := by rw [hq]; exact blw_drewN (Below.refl _ _) _
                clear hcq hq
                go_wp2_with fail
                first | exact hC.trans (hbz.mono hC.size) | exact ⟨hC.trans (hbz.mono hC.size), hbz⟩ | (trace_state; fail)
              · refine FrontStep.of [] _ rfl (by kernel_rfl) ?_
                intro vs LL wq hLL hC hf
                simp only [putL, List.foldl_nil]
                go_wp2_with fail
                first | exact Below.refl _ _ | exact ⟨Below.refl _ _, by omega⟩
              · refine FrontStep.of [] _ rfl (by kernel_rfl) ?_
                intro vs LL wq hLL hC hf
                simp only [putL, List.foldl_nil]
                go_wp2_with fail
                first | exact Below.refl _ _ | exact ⟨Below.refl _ _, by omega⟩
              · refine FrontStep.of [6] _ rfl (by kernel_rfl) ?_
                intro vs LL wq hLL hC hf
                simp only [putL, List.foldl_nil, List.foldl_cons, List.getElem?_cons_zero, List.getElem?_cons_succ]
                have e6 : vs 6 = _ := hf 6 (by simp)
                rw [e6]
                go_wp2_with fail
                first | exact Below.refl _ _ | exact ⟨Below.refl _ _, by omega⟩
              · refine FrontStep.of [7] _ rfl (by kernel_rfl) ?_
                intro vs LL wq hLL hC hf
                simp only [putL, List.foldl_nil, List.foldl_cons, List.getElem?_cons_zero, List.getElem?_cons_succ]
                have e7 : vs 7 = _ := hf 7 (by simp)
                rw [e7]
                have hcq := cell_under ci hC
                go_wp2_with fail
                first | exact Below.refl _ _ | exact ⟨Below.refl _ _, by omega⟩
              · refine FrontStep.of [4, 5, 8] _ rfl (by kernel_rfl) ?_
                intro vs LL wq hLL hC hf
                simp only [putL, List.foldl_nil, List.foldl_cons, List.getElem?_cons_zero, List.getElem?_cons_succ]
                have e4 : vs 4 = _ := hf 4 (by simp)
                rw [e4]
                have e5 : vs 5 = _ := hf 5 (by simp)
                rw [e5]
                have e8 : vs 8 = _ := hf 8 (by simp)
                rw [e8]
                have hcq := rsame_any a1 n1 c1 o1 a2 n2 c2 o2 wq ((unhide hl1).under hC) ((unhide hl2).under hC) (by omega) (by omega)
                rw [unhide hdd] at hcq
                replace hcq := hide hcq
                go_wp2_with fail
                refine (unhide hcq).mono ?_
                rintro e wz ⟨rfl, q, hq⟩
                have hbz : Below wq.heap.size wq wz := by rw [hq]; exact blw_drewN (Below.refl _ _) _
                clear hcq hq
                go_wp2_with fail
                first | exact hC.trans (hbz.mono hC.size) | exact ⟨hC.trans (hbz.mono hC.size), hbz⟩ | (trace_state; fail)
              · refine FrontStep.of [4, 9] _ rfl (by kernel_rfl) ?_
                intro vs LL wq hLL hC hf
                simp only [putL, List.foldl_nil, List.foldl_cons, List.getElem?_cons_zero, List.getElem?_cons_succ]
                have e4 : vs 4 = _ := hf 4 (by simp)
                rw [e4]
                have e9 : vs 9 = _ := hf 9 (by simp)
                rw [e9]
                go_wp2_with fail
                first | exact Below.refl _ _ | exact ⟨Below.refl _ _, by cases dd <;> rfl⟩ | exact ⟨hC, Below.refl _ _⟩ | (trace_state; fail)
            --END13
            · intro vs LL wq hLL hC hf
              have e10 : vs 10 = _ := hf 10 (by omega)
              rw [putSome_all]
              simp only [putL, List.range, List.range.loop, List.foldl_nil, List.foldl_cons, List.getElem?_cons_zero, List.getElem?_cons_succ, List.drop_succ_cons, List.drop_zero]
              rw [e10]
              clear e10 hf hLL
              have hbz := hide ((unhide hbw).trans (hC.mono (unhide hbw).size))
              clear hC
              go_simp
              go_wp2_with fail
              go_roundw
              case rel => exact ⟨i + 1, by omega, by go_num, unhide hbz⟩
              case measure => simp [intOf]; omega
          · have t2 : ¬ (i : Int) < 3 := by omega
            replace hbw := hide hbw
            go_wp2_with fail
            go_roundw
            case rel => exact ⟨k + 1, by omega, by go_num, unhide hbw⟩
            case measure => simp [intOf]; omega
      · have t1 : ¬ (k : Int) < 3 := by omega
        have hbz := hide ((unhide kk9).trans (hbw.mono (unhide kk9).size))
        clear hbw
        go_wp2_with fail
        go_ret
        exact ⟨rfl, unhide hbz⟩
end Go.Proofs.Ytbodidhggdggmaa
