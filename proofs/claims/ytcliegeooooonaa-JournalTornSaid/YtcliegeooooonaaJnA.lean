/- The journal's law: few. -/
import Derived.Test.YtcliegeooooonaaJn9
import Derived.Test.YtcliegeooooonaaFrontG
namespace Go.Proofs.Ytcliegeooooonaa
open Go.RowKit
abbrev Enc.step : Enc (ByteArray × Bool) := Enc.pair Enc.str Enc.bool
abbrev Stp := List UInt8 × Bool
/-- a slice of steps -/
def StL (w : World) (a : Option Addr) (n : Nat) (L : List Stp) : Prop :=
  L.length = n ∧ ∀ k x, L[k]? = some x → ∃ b off, a = some ⟨b, off, none⟩ ∧ w.cell? ⟨b, off + k * 2, none⟩ = some (.string ⟨x.1.toArray⟩) ∧ w.cell? ⟨b, off + k * 2 + 1, none⟩ = some (.bool x.2)
theorem StL.call {w w' : World} {a : Option Addr} {n : Nat} {L : List Stp} (h : StL w a n L) (hb : Below w.heap.size w w') : StL w' a n L :=
  ⟨h.1, fun k x hx => by
    obtain ⟨b, off, h1, h2, h3⟩ := h.2 k x hx
    exact ⟨b, off, h1, cell_under h2 hb, cell_under h3 hb⟩⟩
def unstp (l : List (ByteArray × Bool)) : List Stp := l.map fun x => (x.1.data.toList, x.2)
theorem unstp_len (l : List (ByteArray × Bool)) : (unstp l).length = l.length := by unfold unstp; rw [List.length_map]
theorem stl_lst {w : World} {S : Nat → Prop} {a : Option Addr} {n : Nat} {l : List (ByteArray × Bool)} (h : Lst Enc.step w S a n l) : StL w a n (unstp l) ∧ ∀ x ∈ unstp l, x.1.length ≤ maxLen := by
  refine ⟨⟨(unstp_len l).trans h.1, fun k x hx => ?_⟩, fun x hx => ?_⟩
  · unfold unstp at hx
    rw [List.getElem?_map] at hx
    cases hy : l[k]? with
    | none => rw [hy] at hx; cases hx
    | some y =>
      rw [hy] at hx
      injection hx with hx
      subst hx
      have hk := (List.getElem?_eq_some_iff.1 hy).1
      obtain ⟨b, off, rfl, hb, hc⟩ := h.2 (by have := h.1; omega)
      obtain ⟨us, ⟨u1, v1, rfl, ⟨rfl, i1⟩, rfl⟩, hu⟩ := hc k _ hy
      have e1 : (⟨y.1.data.toList.toArray⟩ : ByteArray) = y.1 := by simp
      exact ⟨b, off, rfl, by rw [e1]; exact hu 0 _ rfl, hu 1 _ rfl⟩
  · unfold unstp at hx
    obtain ⟨y, hy, rfl⟩ := List.mem_map.1 hx
    obtain ⟨k, hk, rfl⟩ := List.getElem_of_mem hy
    obtain ⟨b, off, _, _, hc⟩ := h.2 (by have := h.1; omega)
    obtain ⟨us, ⟨u1, v1, rfl, ⟨rfl, i1⟩, rfl⟩, hu⟩ := hc k _ (List.getElem?_eq_getElem hk)
    simpa using i1
def cut20 (x : Stp) : Stp := (x.1.take 20, x.2)
def fewS (L : List Stp) : List Stp := (L.take 8).map cut20
theorem fewS_len (L : List Stp) : (fewS L).length ≤ 8 := by unfold fewS; rw [List.length_map, List.length_take]; omega
theorem fewS_20 (L : List Stp) : ∀ x ∈ fewS L, x.1.length ≤ 20 := fun x hx => by
  obtain ⟨y, _, rfl⟩ := List.mem_map.1 hx
  unfold cut20
  rw [List.length_take]
  omega
def stpC (x : Stp) : List Value := [.string ⟨x.1.toArray⟩, .bool x.2]
theorem stpC_len (L : List Stp) : (L.flatMap stpC).length = L.length * 2 := by
  induction L with
  | nil => rfl
  | cons x L ih => rw [List.flatMap_cons, List.length_append, ih, List.length_cons]; show 2 + _ = _; omega
theorem stpC_get (L : List Stp) : ∀ (k : Nat) (x : Stp), L[k]? = some x → (L.flatMap stpC)[k * 2]? = some (.string ⟨x.1.toArray⟩) ∧ (L.flatMap stpC)[k * 2 + 1]? = some (.bool x.2) := by
  induction L with
  | nil => intro k x h; simp at h
  | cons y L ih =>
    intro k x h
    rw [List.flatMap_cons]
    have e : (stpC y).length = 2 := rfl
    cases k with
    | zero => simp at h; subst h; exact ⟨rfl, rfl⟩
    | succ k =>
      obtain ⟨h1, h2⟩ := ih k x (by simpa using h)
      refine ⟨?_, ?_⟩
      · rw [List.getElem?_append_right (by rw [e]; omega), e, show (k + 1) * 2 - 2 = k * 2 by omega]; exact h1
      · rw [List.getElem?_append_right (by rw [e]; omega), e, show (k + 1) * 2 + 1 - 2 = k * 2 + 1 by omega]; exact h2
theorem stl_own {w : World} {B : Nat} {a : Option Addr} {c n : Nat} {L : List Stp} (h : w.ownsRow B 55 2 (.slice a n c) n (L.flatMap stpC)) : StL w a n L := by
  have hl := h.1
  rw [stpC_len] at hl
  refine ⟨by omega, fun k x hx => ?_⟩
  have hk := (List.getElem?_eq_some_iff.1 hx).1
  obtain ⟨h1, h2⟩ := stpC_get L k x hx
  rcases h.2 with ⟨hv, hn⟩ | ⟨g, cap, cur, hv, hb, hg, hrest⟩
  · omega
  · injection hv with e1 e2 e3
    subst e1
    have c1 := h.cells (g := g) rfl (k * 2) _ h1
    have c2 := h.cells (g := g) rfl (k * 2 + 1) _ h2
    rw [Addr.add_lit] at c1 c2
    rw [← Nat.add_assoc] at c2
    exact ⟨g, 0, rfl, c1, c2⟩
theorem info_step : (Try.prog.info? 55).map (fun i => (i.zero, i.size, i.bytes)) = some (some (.agg #[.string ⟨#[]⟩, .bool false]), 2, 24) := by kernel_rfl
def FewPost (L : List Stp) (w : World) (e : Ending) (w' : World) : Prop := ∃ a' c', e = .returned (.slice a' (fewS L).length c') ∧ StL w' a' (fewS L).length (fewS L) ∧ Below w.heap.size w w'
set_option maxRecDepth 100000 in
set_option maxHeartbeats 4000000 in
theorem few_any (a : Option Addr) (n c : Nat) (L : List Stp) (w : World) (hL : StL w a n L) (_ : n ≤ c) (_ : c ≤ maxLen) (hx : ∀ x ∈ L, x.1.length ≤ maxLen) :
    Calls Try.prog 10 #[.slice a n c] w (FewPost L w) := by
  obtain ⟨i1, hi1, hz0, hz1, hz2⟩ := info_parts info_step
  obtain ⟨B, hB⟩ : ∃ B, w.heap.size = B := ⟨_, rfl⟩
  unfold maxLen at hx
  replace hi1 := hide hi1; replace hz0 := hide hz0; replace hz1 := hide hz1; replace hz2 := hide hz2; replace hB := hide hB; replace hL := hide hL; replace hx := hide hx
  go_enter Try.func10, Try.ntmps10
  go_wp2_with fail
  go_loopw [3, 4] (fun v3 v4 wr => ∃ k : Nat, k ≤ n ∧ k ≤ 8 ∧ v4 = .int .i64 (k : Int) ∧ wr.ownsRow B 55 2 v3 k (((L.take k).map cut20).flatMap stpC) ∧ Below B w wr) (fun _ v _ => (8 - intOf v).toNat)
  case atStart => exact ⟨0, by omega, by omega, rfl, World.ownsRow_nil _ _ _ _, Below.refl _ _⟩
  case round =>
    obtain ⟨k, hk, hk8, rfl, hrow, hbw⟩ := hrel
    obtain ⟨V, rfl⟩ : ∃ V : World, V = wr := ⟨_, rfl⟩
    obtain ⟨va, vc, rfl⟩ := own_shape hrow
    have hBV : B ≤ V.heap.size := by rw [← unhide hB]; exact hbw.size
    by_cases hlt : k < n ∧ k < 8
    · obtain ⟨hkn, hk8'⟩ := hlt
      obtain ⟨x, hxk⟩ : ∃ x, L[k]? = some x := ⟨_, List.getElem?_eq_getElem (by have := (unhide hL).1; omega)⟩
      obtain ⟨b, off, rfl, c1, c2⟩ := ((unhide hL).call (by rw [unhide hB]; exact hbw)).2 k x hxk
      have hxl := unhide hx x (List.mem_of_getElem? hxk)
      obtain ⟨xs, xb⟩ := x
      simp only at c1 c2 hxl
      obtain ⟨m, hm0⟩ : ∃ m, min xs.length 20 = m := ⟨_, rfl⟩
      have hm : min (xs.length : Int) 20 = (m : Int) := by omega
      have hm1 : m ≤ xs.length := by omega
      have zx : (⟨xs.toArray⟩ : ByteArray).size = xs.length := ba_size xs
      have x1 : (⟨xs.toArray⟩ : ByteArray).extract 0 m = ⟨(xs.take m).toArray⟩ := ba_take xs m
      have htk : xs.take m = xs.take 20 := by
        rw [← hm0]
        rcases Nat.le_total xs.length 20 with h | h
        · rw [Nat.min_eq_left h, List.take_length, List.take_of_length_le h]
        · rw [Nat.min_eq_right h]
      have hsn : ((L.take (k + 1)).map cut20).flatMap stpC = ((L.take k).map cut20).flatMap stpC ++ [.string ⟨(xs.take m).toArray⟩, .bool xb] := by
        rw [List.take_add_one, hxk, List.map_append, List.flatMap_append, htk]
        rfl
      have j1 : (0 : Int) ≤ (k : Int) := by omega
      have j2 : (k : Int) < (n : Int) := by omega
      have j3 : (k : Int) < 8 := by omega
      have j4 : (m : Int) ≤ (xs.length : Int) := by omega
      have t1 : decide ((k : Int) < (n : Int)) = true := by simp; omega
      have t2 : decide ((k : Int) < 8) = true := by simp; omega
      obtain ⟨XS, hXS⟩ : ∃ XS, ((L.take k).map cut20).flatMap stpC = XS := ⟨_, rfl⟩
      rw [hXS] at hrow hsn
      clear hxk htk hm0 hXS
      replace hrow := hide hrow; replace hbw := hide hbw; replace hsn := hide hsn; replace c1 := hide c1; replace c2 := hide c2; replace hm := hide hm
      go_upto_region 5 with fail
      refine wp_region_frontG 21 (fun _ _ w' => Below V.heap.size V w') (fun wa wb => Below wa.heap.size wa wb)
        (fun ix v w' => match ix with
          | 0 => v = .slice va k vc
          | 1 => v = .slice (some ⟨b, off, none⟩) n c
          | 2 => v = .int .i64 (k : Int)
          | 3 => v = .pointer (some ⟨b, off + k * 2, none⟩)
          | 4 => v = .pointer (some ⟨b, off + k * 2, none⟩)
          | 5 => v = .string ⟨xs.toArray⟩
          | 6 => v = .slice (some ⟨b, off, none⟩) n c
          | 7 => v = .int .i64 (k : Int)
          | 8 => v = .pointer (some ⟨b, off + k * 2, none⟩)
          | 9 => v = .pointer (some ⟨b, off + k * 2, none⟩)
          | 10 => v = .string ⟨xs.toArray⟩
          | 11 => v = .int .i64 (xs.length : Int)
          | 12 => v = .int .i64 (m : Int)
          | 13 => v = .string ⟨(xs.take m).toArray⟩
          | 14 => v = .slice (some ⟨b, off, none⟩) n c
          | 15 => v = .int .i64 (k : Int)
          | 16 => v = .pointer (some ⟨b, off + k * 2, none⟩)
          | 17 => v = .pointer (some ⟨b, off + k * 2 + 1, none⟩)
          | 18 => v = .bool xb
          | 19 => v = .agg #[.string ⟨(xs.take m).toArray⟩, .bool xb]
          | 20 => ∃ b, v = .slice (some ⟨b, 0, none⟩) 1 1 ∧ w'.heap[b]? = some (.cells #[.string ⟨(xs.take m).toArray⟩, .bool xb] 55 (0, 0))
          | _ => True) (by rfl) (by kernel_rfl) ?_ ?_ ?_ ?_
      · exact (Below.refl _ _).drew
      · intro wa wb hR ix v hv
        match ix, hv with
        | 0, h => exact h
        | 1, h => exact h
        | 2, h => exact h
        | 3, h => exact h
        | 4, h => exact h
        | 5, h => exact h
        | 6, h => exact h
        | 7, h => exact h
        | 8, h => exact h
        | 9, h => exact h
        | 10, h => exact h
        | 11, h => exact h
        | 12, h => exact h
        | 13, h => exact h
        | 14, h => exact h
        | 15, h => exact h
        | 16, h => exact h
        | 17, h => exact h
        | 18, h => exact h
        | 19, h => exact h
        | 20, h => obtain ⟨b, h1, h2⟩ := h; exact ⟨b, h1, (hR.block b (Array.getElem?_eq_some_iff.1 h2).1).trans h2⟩
        | _ + 21, _ => trivial
      · intro ix hix
        obtain rfl | rfl | rfl | rfl | rfl | rfl | rfl | rfl | rfl | rfl | rfl | rfl | rfl | rfl | rfl | rfl | rfl | rfl | rfl | rfl | rfl : ix = 0 ∨ ix = 1 ∨ ix = 2 ∨ ix = 3 ∨ ix = 4 ∨ ix = 5 ∨ ix = 6 ∨ ix = 7 ∨ ix = 8 ∨ ix = 9 ∨ ix = 10 ∨ ix = 11 ∨ ix = 12 ∨ ix = 13 ∨ ix = 14 ∨ ix = 15 ∨ ix = 16 ∨ ix = 17 ∨ ix = 18 ∨ ix = 19 ∨ ix = 20 := by omega
        · refine FrontStep.of [] _ rfl (by kernel_rfl) ?_
          intro vs LL wq hLL hC hf
          simp only [putL, List.foldl_nil]
          go_wp2_with fail
          first | exact Below.refl _ _ | exact ⟨Below.refl _ _, by omega⟩
        · refine FrontStep.of [] _ rfl (by kernel_rfl) ?_
          intro vs LL wq hLL hC hf
          simp only [putL, List.foldl_nil]
          go_wp2_with fail
          first | exact Below.refl _ _ | exact ⟨Below.refl _ _, by omega⟩
        · refine FrontStep.of [] _ rfl (by kernel_rfl) ?_
          intro vs LL wq hLL hC hf
          simp only [putL, List.foldl_nil]
          go_wp2_with fail
          first | exact Below.refl _ _ | exact ⟨Below.refl _ _, by omega⟩
        · refine FrontStep.of [1, 2] _ rfl (by kernel_rfl) ?_
          intro vs LL wq hLL hC hf
          simp only [putL, List.foldl_nil, List.foldl_cons, List.getElem?_cons_zero, List.getElem?_cons_succ]
          have e1 : vs 1 = _ := hf 1 (by simp)
          rw [e1]
          have e2 : vs 2 = _ := hf 2 (by simp)
          rw [e2]
          go_wp2_with fail
          first | exact Below.refl _ _ | exact ⟨Below.refl _ _, by omega⟩
        · refine FrontStep.of [3] _ rfl (by kernel_rfl) ?_
          intro vs LL wq hLL hC hf
          simp only [putL, List.foldl_nil, List.foldl_cons, List.getElem?_cons_zero, List.getElem?_cons_succ]
          have e3 : vs 3 = _ := hf 3 (by simp)
          rw [e3]
          go_wp2_with fail
          first | exact Below.refl _ _ | exact ⟨Below.refl _ _, by omega⟩
        · refine FrontStep.of [4] _ rfl (by kernel_rfl) ?_
          intro vs LL wq hLL hC hf
          simp only [putL, List.foldl_nil, List.foldl_cons, List.getElem?_cons_zero, List.getElem?_cons_succ]
          have e4 : vs 4 = _ := hf 4 (by simp)
          rw [e4]
          have dd := cell_under (unhide c1) hC
          go_wp2_with fail
          first | exact Below.refl _ _ | exact ⟨Below.refl _ _, by omega⟩ | exact ⟨Below.refl _ _, trivial⟩
        · refine FrontStep.of [] _ rfl (by kernel_rfl) ?_
          intro vs LL wq hLL hC hf
          simp only [putL, List.foldl_nil]
          go_wp2_with fail
          first | exact Below.refl _ _ | exact ⟨Below.refl _ _, by omega⟩
        · refine FrontStep.of [] _ rfl (by kernel_rfl) ?_
          intro vs LL wq hLL hC hf
          simp only [putL, List.foldl_nil]
          go_wp2_with fail
          first | exact Below.refl _ _ | exact ⟨Below.refl _ _, by omega⟩
        · refine FrontStep.of [6, 7] _ rfl (by kernel_rfl) ?_
          intro vs LL wq hLL hC hf
          simp only [putL, List.foldl_nil, List.foldl_cons, List.getElem?_cons_zero, List.getElem?_cons_succ]
          have e6 : vs 6 = _ := hf 6 (by simp)
          rw [e6]
          have e7 : vs 7 = _ := hf 7 (by simp)
          rw [e7]
          go_wp2_with fail
          first | exact Below.refl _ _ | exact ⟨Below.refl _ _, by omega⟩
        · refine FrontStep.of [8] _ rfl (by kernel_rfl) ?_
          intro vs LL wq hLL hC hf
          simp only [putL, List.foldl_nil, List.foldl_cons, List.getElem?_cons_zero, List.getElem?_cons_succ]
          have e8 : vs 8 = _ := hf 8 (by simp)
          rw [e8]
          go_wp2_with fail
          first | exact Below.refl _ _ | exact ⟨Below.refl _ _, by omega⟩
        · refine FrontStep.of [9] _ rfl (by kernel_rfl) ?_
          intro vs LL wq hLL hC hf
          simp only [putL, List.foldl_nil, List.foldl_cons, List.getElem?_cons_zero, List.getElem?_cons_succ]
          have e9 : vs 9 = _ := hf 9 (by simp)
          rw [e9]
          have dd := cell_under (unhide c1) hC
          go_wp2_with fail
          first | exact Below.refl _ _ | exact ⟨Below.refl _ _, by omega⟩ | exact ⟨Below.refl _ _, trivial⟩
        · refine FrontStep.of [10] _ rfl (by kernel_rfl) ?_
          intro vs LL wq hLL hC hf
          simp only [putL, List.foldl_nil, List.foldl_cons, List.getElem?_cons_zero, List.getElem?_cons_succ]
          have e10 : vs 10 = _ := hf 10 (by simp)
          rw [e10]
          go_wp2_with fail
          first | exact Below.refl _ _ | exact ⟨Below.refl _ _, by omega⟩
        · refine FrontStep.of [11] _ rfl (by kernel_rfl) ?_
          intro vs LL wq hLL hC hf
          simp only [putL, List.foldl_nil, List.foldl_cons, List.getElem?_cons_zero, List.getElem?_cons_succ]
          have e11 : vs 11 = _ := hf 11 (by simp)
          rw [e11]
          have hm' := unhide hm
          go_wp2_with fail
          first | exact Below.refl _ _ | exact ⟨Below.refl _ _, by omega⟩
        · refine FrontStep.of [5, 12] _ rfl (by kernel_rfl) ?_
          intro vs LL wq hLL hC hf
          simp only [putL, List.foldl_nil, List.foldl_cons, List.getElem?_cons_zero, List.getElem?_cons_succ]
          have e5 : vs 5 = _ := hf 5 (by simp)
          rw [e5]
          have e12 : vs 12 = _ := hf 12 (by simp)
          rw [e12]
          go_wp2_with fail
          first | exact Below.refl _ _ | exact ⟨Below.refl _ _, by omega⟩
        · refine FrontStep.of [] _ rfl (by kernel_rfl) ?_
          intro vs LL wq hLL hC hf
          simp only [putL, List.foldl_nil]
          go_wp2_with fail
          first | exact Below.refl _ _ | exact ⟨Below.refl _ _, by omega⟩
        · refine FrontStep.of [] _ rfl (by kernel_rfl) ?_
          intro vs LL wq hLL hC hf
          simp only [putL, List.foldl_nil]
          go_wp2_with fail
          first | exact Below.refl _ _ | exact ⟨Below.refl _ _, by omega⟩
        · refine FrontStep.of [14, 15] _ rfl (by kernel_rfl) ?_
          intro vs LL wq hLL hC hf
          simp only [putL, List.foldl_nil, List.foldl_cons, List.getElem?_cons_zero, List.getElem?_cons_succ]
          have e14 : vs 14 = _ := hf 14 (by simp)
          rw [e14]
          have e15 : vs 15 = _ := hf 15 (by simp)
          rw [e15]
          go_wp2_with fail
          first | exact Below.refl _ _ | exact ⟨Below.refl _ _, by omega⟩
        · refine FrontStep.of [16] _ rfl (by kernel_rfl) ?_
          intro vs LL wq hLL hC hf
          simp only [putL, List.foldl_nil, List.foldl_cons, List.getElem?_cons_zero, List.getElem?_cons_succ]
          have e16 : vs 16 = _ := hf 16 (by simp)
          rw [e16]
          go_wp2_with fail
          first | exact Below.refl _ _ | exact ⟨Below.refl _ _, by omega⟩
        · refine FrontStep.of [17] _ rfl (by kernel_rfl) ?_
          intro vs LL wq hLL hC hf
          simp only [putL, List.foldl_nil, List.foldl_cons, List.getElem?_cons_zero, List.getElem?_cons_succ]
          have e17 : vs 17 = _ := hf 17 (by simp)
          rw [e17]
          have dd := cell_under (unhide c2) hC
          go_wp2_with fail
          first | exact Below.refl _ _ | exact ⟨Below.refl _ _, by omega⟩ | exact ⟨Below.refl _ _, trivial⟩
        · refine FrontStep.of [13, 18] _ rfl (by kernel_rfl) ?_
          intro vs LL wq hLL hC hf
          simp only [putL, List.foldl_nil, List.foldl_cons, List.getElem?_cons_zero, List.getElem?_cons_succ]
          have e13 : vs 13 = _ := hf 13 (by simp)
          rw [e13]
          have e18 : vs 18 = _ := hf 18 (by simp)
          rw [e18]
          go_wp2_with fail
          first | exact Below.refl _ _ | exact ⟨Below.refl _ _, by omega⟩
        · refine FrontStep.of [19] _ rfl (by kernel_rfl) ?_
          intro vs LL wq hLL hC hf
          simp only [putL, List.foldl_nil, List.foldl_cons, List.getElem?_cons_zero, List.getElem?_cons_succ]
          have e19 : vs 19 = _ := hf 19 (by simp)
          rw [e19]
          go_wp2_with fail
          exact ⟨hC.alloc hC.size _, (Below.refl _ _).alloc (Nat.le_refl _) _, (Array.getElem?_eq_some_iff.1 (heap_alloc_new _ _)).2⟩
      · intro vs LL wq hLL hC hf
        have e0 : vs 0 = _ := hf 0 (by decide)
        obtain ⟨b35, e20, h35⟩ := hf 20 (by decide)
        rw [putSome_all]
        simp only [putL, List.range, List.range.loop, List.foldl_nil, List.foldl_cons, List.getElem?_cons_zero, List.getElem?_cons_succ, List.drop_succ_cons, List.drop_zero]
        rw [e0, e20]
        obtain ⟨wt, rfl⟩ : ∃ W : World, W = wq := ⟨_, rfl⟩
        have hownq := own_belowb (unhide hrow) hC
        have hszq : B ≤ wt.heap.size := Nat.le_trans hBV hC.size
        have hbq := (unhide hbw).trans (hC.mono hBV)
        clear e0 e20 hf hLL hC hrow hbw
        replace hbq := hide hbq
        go_simp
        go_wp2_with (at_builtin; refine wpList_append_own _ rfl _ _ 22 rfl B 55 i1 _ 2 24 Try.underlying22 (unhide hi1) (unhide hz0) (unhide hz1) (unhide hz2) rfl (by decide) _ _ _ rfl hownq ⟨b35, 0, none⟩ 1 1 [.string ⟨(xs.take m).toArray⟩, .bool xb] rfl rfl ?c1 ?c2 ?c3 ?c4 ?c5 ?_)
        case c1 =>
          intro j u hj
          rw [Addr.add_lit, cell_of_row _ _ _ _ _ _ h35]
          match j, hj with
          | 0, hj => simpa using hj
          | 1, hj => simpa using hj
          | j + 2, hj => simp at hj
        case c2 => first | rfl | (intro u hu; simp at hu; rcases hu with rfl | rfl <;> rfl) | exact ⟨rfl, rfl⟩
        case c3 => unfold maxLen; omega
        case c4 => omega
        case c5 => omega
        intro v' w5 hown5 hg5 _
        have hb5 : Below B w w5 := Below.grown (unhide hbq) hg5 hszq (fun g hg => (hownq.lt g hg).1)
        rw [← unhide hsn] at hown5
        clear hg5 hownq hbq h35
        replace hown5 := hide hown5; replace hb5 := hide hb5
        go_wp2_with fail
        go_roundw
        case rel => exact ⟨k + 1, by omega, by omega, by go_num, unhide hown5, unhide hb5⟩
        case measure => simp [intOf]; omega
    · have hkk : k = min n 8 := by omega
      have hfin : ((L.take k).map cut20) = fewS L ∧ (fewS L).length = k := by
        have hLn := (unhide hL).1
        have h1 : L.take k = L.take 8 := by
          rcases Nat.le_total n 8 with h | h
          · rw [hkk, Nat.min_eq_left h, List.take_of_length_le (by omega), List.take_of_length_le (by omega)]
          · rw [hkk, Nat.min_eq_right h]
        refine ⟨by unfold fewS; rw [h1], ?_⟩
        unfold fewS
        rw [List.length_map, List.length_take]
        omega
      rw [hfin.1] at hrow
      have hst := stl_own hrow
      have t1 : decide ((k : Int) < (n : Int)) = true ∨ decide ((k : Int) < (n : Int)) = false := by cases decide ((k : Int) < (n : Int)) <;> simp
      rw [← hfin.2] at hst
      have hpost : FewPost L w (.returned (.slice va k vc)) V := ⟨va, vc, by rw [hfin.2], hst, by rw [unhide hB]; exact hbw⟩
      clear hfin hrow hst hbw
      replace hpost := hide hpost; replace hkk := hide hkk
      by_cases hkn : k < n
      · have t2 : decide ((k : Int) < 8) = false := by simp; omega
        have t3 : decide ((k : Int) < (n : Int)) = true := by simp; omega
        have t4 : (k : Int) < (n : Int) := by omega
        have t5 : ¬ (k : Int) < 8 := by omega
        go_wp2_with fail
        go_ret
        exact unhide hpost
      · have t3 : decide ((k : Int) < (n : Int)) = false := by simp; omega
        have t4 : ¬ (k : Int) < (n : Int) := by omega
        go_wp2_with fail
        go_ret
        exact unhide hpost
end Go.Proofs.Ytcliegeooooonaa
