/- Merged: XTsA XTsB XTsC XTsD -/
import Derived.Test.YtfbgbbbfpkpfkaaTs4
import Derived.Test.YtfbgbbbfpkpfkaaTrK1
import Derived.Test.YtfbgbbbfpkpfkaaTrA
import Derived.Test.YtfbgbbbfpkpfkaaTs9
import Derived.Test.YtfbgbbbfpkpfkaaTr15
-- @@XTsA
/- The reference's streams: Key. -/
namespace Go.Proofs.Ytfbgbbbfpkpfkaa
open Go.RowKit
set_option maxRecDepth 100000 in
set_option maxHeartbeats 4000000 in
theorem rkey_any (sa : Option Addr) (sn sc : Nat) (s : List Stg) (w : World) (hs : Lst Enc.stg w (fun b => b < w.heap.size) sa sn s) (hbs : ∀ x ∈ s, x.1.length ≤ 300000 ∧ x.2.length ≤ 300000) (hn : sn ≤ 1000) :
    Calls Try.prog 24 #[.agg #[.slice sa sn sc]] w fun e w' => e = .returned (.string ⟨(keyB s).toArray⟩) ∧ Below w.heap.size w w' := by
  have hsl := hs.1
  have hI := int_len (sn : Int)
  have hF := stgs_len s hbs
  rw [hsl] at hF
  obtain ⟨b1, V1, hb1, hV1, st⟩ := (St.start w).new (Obj.cells #[.slice sa sn sc] 29)
  have k1 := hide (st.get 0 rfl)
  have hz := hide st.below
  have hs1 := hide (hs.under st.below)
  clear st hs
  have d1 := blk_cell (unhide k1)
  have hri := hide (rint_any (sn : Int) V1 (size_i64 _ (by omega)))
  replace hsl := hide hsl; replace hb1 := hide hb1; replace hV1 := hide hV1; replace hbs := hide hbs
  go_enter Try.func24, Try.ntmps24
  go_upto_region 1 with fail
  try rw [unhide hb1]
  rw [unhide hV1]
  clear hV1 hb1
  go_wp2_with fail
  refine (unhide hri).mono ?_
  rintro e w1 ⟨rfl, hb2⟩
  clear hri d1
  replace hb2 := hide hb2
  go_wp2_with fail
  go_loopw [3, 4] (fun v3 v4 wr => ∃ k : Nat, k ≤ sn ∧ v4 = .int .i64 (k : Int) ∧ v3 = .string ⟨(Wi.int (sn : Int) ++ (s.take k).flatMap stgB).toArray⟩ ∧ Below V1.heap.size V1 wr) (fun _ v _ => (sn - intOf v).toNat)
  case atStart => exact ⟨0, by omega, rfl, by simp, unhide hb2⟩
  case round =>
    obtain ⟨k, hk, rfl, rfl, hbw⟩ := hrel
    obtain ⟨wo, rfl⟩ : ∃ W : World, W = wr := ⟨_, rfl⟩
    clear hb2
    have d1 := blk_cell (kept' hbw (unhide k1))
    by_cases hlt : k < sn
    · obtain ⟨g, off, x, a1, n1, c1, a2, n2, c2, rfl, _, hx, ⟨_, _, p1⟩, ⟨_, _, p2⟩, e1, e2⟩ := lst_stg ((unhide hs1).under hbw) hlt
      obtain ⟨hx1, hx2⟩ := unhide hbs x (List.mem_of_getElem? hx)
      have g1 := p1.1
      have g2 := p2.1
      have hm1 : n1 ≤ 300000 := by omega
      have hm2 : n2 ≤ 300000 := by omega
      have i1 : (0 : Int) ≤ (k : Int) := by omega
      have i2 : (k : Int) < (sn : Int) := by omega
      have hcat := flat_step stgB s k x hx
      have hmono := flat_le stgB s (k + 1)
      rw [hcat] at hmono
      have hRR : Wi.int (sn : Int) ++ (s.take (k + 1)).flatMap stgB = Wi.int (sn : Int) ++ (s.take k).flatMap stgB ++ Wi.ints x.1 ++ Wi.ints x.2 := by rw [hcat]; unfold stgB; simp only [List.append_assoc]
      simp only [List.length_append] at hmono
      have hsb : (stgB x).length = (Wi.ints x.1).length + (Wi.ints x.2).length := by unfold stgB; rw [List.length_append]
      obtain ⟨A, hA⟩ : ∃ A, Wi.ints x.1 = A := ⟨_, rfl⟩
      obtain ⟨C, hC0⟩ : ∃ C, Wi.ints x.2 = C := ⟨_, rfl⟩
      rw [hA, hC0] at hRR hsb
      obtain ⟨PP, hP⟩ : ∃ P, Wi.int (sn : Int) ++ (s.take k).flatMap stgB = P := ⟨_, rfl⟩
      have hPl : PP.length + A.length + C.length ≤ 9223372036854775807 := by
        rw [← hP, List.length_append]
        omega
      have hadd1 := add_lists PP A (by omega)
      have hadd2 := add_lists (PP ++ A) C (by rw [List.length_append]; omega)
      rw [hP] at hRR ⊢
      clear hcat hmono hsb hPl hP g1 g2 hx1 hx2 hx
      replace hRR := hide hRR; replace hA := hide hA; replace hC0 := hide hC0; replace hadd1 := hide hadd1; replace hadd2 := hide hadd2; replace p1 := hide p1; replace p2 := hide p2; replace hbw := hide hbw
      go_upto_region 5 with fail
      refine wp_region_frontG 17 (fun _ _ w' => Below wo.heap.size wo w') (fun wa wb => Below wa.heap.size wa wb)
        (fun ix v w' => match ix with
          | 0 => v = .string ⟨PP.toArray⟩
          | 1 => v = .pointer (some ⟨b1, 0, none⟩)
          | 2 => v = .slice (some ⟨g, off, none⟩) sn sc
          | 3 => v = .int .i64 (k : Int)
          | 4 => v = .pointer (some ⟨g, off + k * 2, none⟩)
          | 5 => v = .pointer (some ⟨g, off + k * 2, none⟩)
          | 6 => v = .slice a1 n1 c1
          | 7 => v = .string ⟨A.toArray⟩
          | 8 => v = .string ⟨(PP ++ A).toArray⟩
          | 9 => v = .pointer (some ⟨b1, 0, none⟩)
          | 10 => v = .slice (some ⟨g, off, none⟩) sn sc
          | 11 => v = .int .i64 (k : Int)
          | 12 => v = .pointer (some ⟨g, off + k * 2, none⟩)
          | 13 => v = .pointer (some ⟨g, off + k * 2 + 1, none⟩)
          | 14 => v = .slice a2 n2 c2
          | 15 => v = .string ⟨C.toArray⟩
          | 16 => v = .string ⟨(PP ++ A ++ C).toArray⟩
          | _ => True) (by rfl) (by kernel_rfl) ?_ ?_ ?_ ?_
      · exact (Below.refl _ _).drew
      · intro wa wb hR ix v hv
        match ix, hv with
        | 0, h => exact h
        | 1, h => exact h
        | 2, h => exact h
        | 3, h => exact h
        | 4, h => exact h
        | 5, h => exact h
        | 6, h => exact h
        | 7, h => exact h
        | 8, h => exact h
        | 9, h => exact h
        | 10, h => exact h
        | 11, h => exact h
        | 12, h => exact h
        | 13, h => exact h
        | 14, h => exact h
        | 15, h => exact h
        | 16, h => exact h
        | _ + 17, _ => trivial
      · intro ix hix
        obtain rfl | rfl | rfl | rfl | rfl | rfl | rfl | rfl | rfl | rfl | rfl | rfl | rfl | rfl | rfl | rfl | rfl : ix = 0 ∨ ix = 1 ∨ ix = 2 ∨ ix = 3 ∨ ix = 4 ∨ ix = 5 ∨ ix = 6 ∨ ix = 7 ∨ ix = 8 ∨ ix = 9 ∨ ix = 10 ∨ ix = 11 ∨ ix = 12 ∨ ix = 13 ∨ ix = 14 ∨ ix = 15 ∨ ix = 16 := by omega
        · refine FrontStep.of [] _ rfl (by kernel_rfl) ?_
          intro vs LL wq hLL hC hf
          simp only [putL, List.foldl_nil]
          go_wp2_with fail
          first | exact Below.refl _ _ | exact hC | exact ⟨hC, Below.refl _ _⟩ | exact ⟨hC, Below.refl _ _, by omega⟩ | exact ⟨Below.refl _ _, by omega⟩ | trace_state
        · refine FrontStep.of [] _ rfl (by kernel_rfl) ?_
          intro vs LL wq hLL hC hf
          simp only [putL, List.foldl_nil]
          go_wp2_with fail
          first | exact Below.refl _ _ | exact hC | exact ⟨hC, Below.refl _ _⟩ | exact ⟨hC, Below.refl _ _, by omega⟩ | exact ⟨Below.refl _ _, by omega⟩ | trace_state
        · refine FrontStep.of [1] _ rfl (by kernel_rfl) ?_
          intro vs LL wq hLL hC hf
          simp only [putL, List.foldl_nil, List.foldl_cons, List.getElem?_cons_zero, List.getElem?_cons_succ]
          have e1 : vs 1 = _ := hf 1 (by simp)
          rw [e1]
          have g0c0 := cell_under d1 hC
          go_wp2_with fail
          first | exact Below.refl _ _ | exact hC | exact ⟨hC, Below.refl _ _⟩ | exact ⟨hC, Below.refl _ _, by omega⟩ | exact ⟨Below.refl _ _, by omega⟩ | trace_state
        · refine FrontStep.of [] _ rfl (by kernel_rfl) ?_
          intro vs LL wq hLL hC hf
          simp only [putL, List.foldl_nil]
          go_wp2_with fail
          first | exact Below.refl _ _ | exact hC | exact ⟨hC, Below.refl _ _⟩ | exact ⟨hC, Below.refl _ _, by omega⟩ | exact ⟨Below.refl _ _, by omega⟩ | trace_state
        · refine FrontStep.of [2, 3] _ rfl (by kernel_rfl) ?_
          intro vs LL wq hLL hC hf
          simp only [putL, List.foldl_nil, List.foldl_cons, List.getElem?_cons_zero, List.getElem?_cons_succ]
          have e2 : vs 2 = _ := hf 2 (by simp)
          rw [e2]
          have e3 : vs 3 = _ := hf 3 (by simp)
          rw [e3]
          go_wp2_with fail
          first | exact Below.refl _ _ | exact hC | exact ⟨hC, Below.refl _ _⟩ | exact ⟨hC, Below.refl _ _, by omega⟩ | exact ⟨Below.refl _ _, by omega⟩ | trace_state
        · refine FrontStep.of [4] _ rfl (by kernel_rfl) ?_
          intro vs LL wq hLL hC hf
          simp only [putL, List.foldl_nil, List.foldl_cons, List.getElem?_cons_zero, List.getElem?_cons_succ]
          have e4 : vs 4 = _ := hf 4 (by simp)
          rw [e4]
          go_wp2_with fail
          first | exact Below.refl _ _ | exact hC | exact ⟨hC, Below.refl _ _⟩ | exact ⟨hC, Below.refl _ _, by omega⟩ | exact ⟨Below.refl _ _, by omega⟩ | trace_state
        · refine FrontStep.of [5] _ rfl (by kernel_rfl) ?_
          intro vs LL wq hLL hC hf
          simp only [putL, List.foldl_nil, List.foldl_cons, List.getElem?_cons_zero, List.getElem?_cons_succ]
          have e5 : vs 5 = _ := hf 5 (by simp)
          rw [e5]
          have g0c0 := cell_under e1 hC
          go_wp2_with fail
          first | exact Below.refl _ _ | exact hC | exact ⟨hC, Below.refl _ _⟩ | exact ⟨hC, Below.refl _ _, by omega⟩ | exact ⟨Below.refl _ _, by omega⟩ | trace_state
        · refine FrontStep.of [6] _ rfl (by kernel_rfl) ?_
          intro vs LL wq hLL hC hf
          simp only [putL, List.foldl_nil, List.foldl_cons, List.getElem?_cons_zero, List.getElem?_cons_succ]
          have e6 : vs 6 = _ := hf 6 (by simp)
          rw [e6]
          have hj := rints_any a1 n1 c1 x.1 wq ((unhide p1).under hC) (by omega)
          rw [unhide hA] at hj
          replace hj := hide hj
          go_wp2_with fail
          refine (unhide hj).mono ?_
          rintro e wz ⟨rfl, hbz⟩
          clear hj
          replace hbz := hide hbz
          go_wp2_with fail
          first | exact ⟨hC.trans ((unhide hbz).mono hC.size), unhide hbz⟩ | exact hC.trans ((unhide hbz).mono hC.size) | trace_state
        · refine FrontStep.of [0, 7] _ rfl (by kernel_rfl) ?_
          intro vs LL wq hLL hC hf
          simp only [putL, List.foldl_nil, List.foldl_cons, List.getElem?_cons_zero, List.getElem?_cons_succ]
          have e0 : vs 0 = _ := hf 0 (by simp)
          rw [e0]
          have e7 : vs 7 = _ := hf 7 (by simp)
          rw [e7]
          have hadd := unhide hadd1
          go_wp2_with fail
          first | exact Below.refl _ _ | exact hC | exact ⟨hC, Below.refl _ _⟩ | exact ⟨hC, Below.refl _ _, by omega⟩ | exact ⟨Below.refl _ _, by omega⟩ | trace_state
        · refine FrontStep.of [] _ rfl (by kernel_rfl) ?_
          intro vs LL wq hLL hC hf
          simp only [putL, List.foldl_nil]
          go_wp2_with fail
          first | exact Below.refl _ _ | exact hC | exact ⟨hC, Below.refl _ _⟩ | exact ⟨hC, Below.refl _ _, by omega⟩ | exact ⟨Below.refl _ _, by omega⟩ | trace_state
        · refine FrontStep.of [9] _ rfl (by kernel_rfl) ?_
          intro vs LL wq hLL hC hf
          simp only [putL, List.foldl_nil, List.foldl_cons, List.getElem?_cons_zero, List.getElem?_cons_succ]
          have e9 : vs 9 = _ := hf 9 (by simp)
          rw [e9]
          have g0c0 := cell_under d1 hC
          go_wp2_with fail
          first | exact Below.refl _ _ | exact hC | exact ⟨hC, Below.refl _ _⟩ | exact ⟨hC, Below.refl _ _, by omega⟩ | exact ⟨Below.refl _ _, by omega⟩ | trace_state
        · refine FrontStep.of [] _ rfl (by kernel_rfl) ?_
          intro vs LL wq hLL hC hf
          simp only [putL, List.foldl_nil]
          go_wp2_with fail
          first | exact Below.refl _ _ | exact hC | exact ⟨hC, Below.refl _ _⟩ | exact ⟨hC, Below.refl _ _, by omega⟩ | exact ⟨Below.refl _ _, by omega⟩ | trace_state
        · refine FrontStep.of [10, 11] _ rfl (by kernel_rfl) ?_
          intro vs LL wq hLL hC hf
          simp only [putL, List.foldl_nil, List.foldl_cons, List.getElem?_cons_zero, List.getElem?_cons_succ]
          have e10 : vs 10 = _ := hf 10 (by simp)
          rw [e10]
          have e11 : vs 11 = _ := hf 11 (by simp)
          rw [e11]
          go_wp2_with fail
          first | exact Below.refl _ _ | exact hC | exact ⟨hC, Below.refl _ _⟩ | exact ⟨hC, Below.refl _ _, by omega⟩ | exact ⟨Below.refl _ _, by omega⟩ | trace_state
        · refine FrontStep.of [12] _ rfl (by kernel_rfl) ?_
          intro vs LL wq hLL hC hf
          simp only [putL, List.foldl_nil, List.foldl_cons, List.getElem?_cons_zero, List.getElem?_cons_succ]
          have e12 : vs 12 = _ := hf 12 (by simp)
          rw [e12]
          go_wp2_with fail
          first | exact Below.refl _ _ | exact hC | exact ⟨hC, Below.refl _ _⟩ | exact ⟨hC, Below.refl _ _, by omega⟩ | exact ⟨Below.refl _ _, by omega⟩ | trace_state
        · refine FrontStep.of [13] _ rfl (by kernel_rfl) ?_
          intro vs LL wq hLL hC hf
          simp only [putL, List.foldl_nil, List.foldl_cons, List.getElem?_cons_zero, List.getElem?_cons_succ]
          have e13 : vs 13 = _ := hf 13 (by simp)
          rw [e13]
          have g0c0 := cell_under e2 hC
          go_wp2_with fail
          first | exact Below.refl _ _ | exact hC | exact ⟨hC, Below.refl _ _⟩ | exact ⟨hC, Below.refl _ _, by omega⟩ | exact ⟨Below.refl _ _, by omega⟩ | trace_state
        · refine FrontStep.of [7, 14] _ rfl (by kernel_rfl) ?_
          intro vs LL wq hLL hC hf
          simp only [putL, List.foldl_nil, List.foldl_cons, List.getElem?_cons_zero, List.getElem?_cons_succ]
          have e7 : vs 7 = _ := hf 7 (by simp)
          rw [e7]
          have e14 : vs 14 = _ := hf 14 (by simp)
          rw [e14]
          have hj := rints_any a2 n2 c2 x.2 wq ((unhide p2).under hC) (by omega)
          rw [unhide hC0] at hj
          replace hj := hide hj
          go_wp2_with fail
          refine (unhide hj).mono ?_
          rintro e wz ⟨rfl, hbz⟩
          clear hj
          replace hbz := hide hbz
          go_wp2_with fail
          first | exact ⟨hC.trans ((unhide hbz).mono hC.size), unhide hbz⟩ | exact hC.trans ((unhide hbz).mono hC.size) | trace_state
        · refine FrontStep.of [8, 15] _ rfl (by kernel_rfl) ?_
          intro vs LL wq hLL hC hf
          simp only [putL, List.foldl_nil, List.foldl_cons, List.getElem?_cons_zero, List.getElem?_cons_succ]
          have e8 : vs 8 = _ := hf 8 (by simp)
          rw [e8]
          have e15 : vs 15 = _ := hf 15 (by simp)
          rw [e15]
          have hadd := unhide hadd2
          go_wp2_with fail
          first | exact Below.refl _ _ | exact hC | exact ⟨hC, Below.refl _ _⟩ | exact ⟨hC, Below.refl _ _, by omega⟩ | exact ⟨Below.refl _ _, by omega⟩ | trace_state
      · intro vs LL wq hLL hC hf
        have e16 : vs 16 = _ := hf 16 (by omega)
        rw [putSome_all]
        simp only [putL, List.range, List.range.loop, List.foldl_nil, List.foldl_cons, List.getElem?_cons_zero, List.getElem?_cons_succ, List.drop_succ_cons, List.drop_zero]
        rw [e16]
        have hbz := hide ((unhide hbw).trans (hC.mono (unhide hbw).size))
        clear hf hLL hC e16 d1 e1 e2 hbw
        go_simp
        go_wp2_with fail
        go_roundw
        case rel => exact ⟨k + 1, by omega, by go_num, by rw [unhide hRR]; simp only [List.append_assoc], unhide hbz⟩
        case measure => simp [intOf]; omega
    · have hkk : (Wi.int (sn : Int) ++ (s.take k).flatMap stgB) = keyB s := by
        unfold keyB
        rw [List.take_of_length_le (by rw [unhide hsl]; omega), unhide hsl]
      rw [hkk]
      have i2 : ¬ (k : Int) < (sn : Int) := by omega
      have hbz := hide ((unhide hz).trans (hbw.mono (unhide hz).size))
      clear hbw hkk
      go_wp2_with fail
      go_ret
      exact ⟨rfl, unhide hbz⟩
end Go.Proofs.Ytfbgbbbfpkpfkaa
-- @@XTsB
/- few (the law of streams), walked. -/
namespace Go.Proofs.Ytfbgbbbfpkpfkaa
open Go.RowKit
def fewSub4 (s : Sub) : Sub := (s.1.take 4, s.2.1.take 4, s.2.2.1.take 4, s.2.2.2)
def fewX4 (x : List Sub) : List Sub := (x.take 4).map fewSub4
def fewS3 (l : List (List Sub)) : List (List Sub) := (l.take 3).map fewX4
theorem map_take_succ {α β : Type} {f : α → β} {l : List α} {k : Nat} {x : α} (hx : l[k]? = some x) : (l.take (k + 1)).map f = (l.take k).map f ++ [f x] := by
  rw [← take_snoc hx, List.map_append]
  rfl
theorem row_ints4 {w : World} {S : Nat → Prop} {a : Option Addr} {n c : Nat} {l : List Int} (h : Lst Enc.int w S a n l) (hn : n ≤ c) (hc : c ≤ maxLen) : (Enc.list Enc.int).rep w S [.slice a (min (n : Int) 4).toNat c] (l.take 4) := by
  have e : l.take (min (n : Int) 4).toNat = l.take 4 := by
    rw [show (min (n : Int) 4).toNat = min 4 l.length by have := h.1; omega]
    exact (List.take_eq_take_min ..).symm
  have := h.take (k := (min (n : Int) 4).toNat) (by omega)
  rw [e] at this
  exact ⟨a, _, c, rfl, by omega, hc, this⟩
/-- what few holds at the head of a round -/
structure FewO (w wr : World) (v : Value) (us : List Value) (l : List (List Sub)) : Prop where
  bel : Below w.heap.size w wr
  out : wr.ownsRow w.heap.size 37 1 v us.length us
  row : InR wr w.heap.size (· < w.heap.size) us l
/-- and at the head of an inner round -/
structure FewI (w wr : World) (B bx : Nat) (v u : Value) (us : List Value) (l : List (List Sub)) (x : List Sub) : Prop where
  bel : Below B w wr
  box : wr.heap[bx]? = some (.cells #[u] 37 (0, 0))
  out : wr.ownsRow B 37 1 v us.length us
  row : InR wr B (· < B) (us ++ [u]) (l ++ [x])
  ne : v.ownBlock ≠ some bx
  lo : B ≤ bx
theorem FewI.below {w wr wz : World} {B bx : Nat} {v u : Value} {us : List Value} {l : List (List Sub)} {x : List Sub} (h : FewI w wr B bx v u us l x) (hb : Below wr.heap.size wr wz) (hB : B ≤ wr.heap.size) : FewI w wz B bx v u us l x :=
  ⟨h.bel.trans (hb.mono hB), (hb.block bx (Array.getElem?_eq_some_iff.1 h.box).1).trans h.box, own_belowb h.out hb, h.row.kept (fun u hu b hb' => hb.block b (h.row.lt hu hb').2) (fun b hb' => hb.block b (by omega)), h.ne, h.lo⟩
theorem FewI.push {w wr wz : World} {B bx : Nat} {v u u' : Value} {us ys zs : List Value} {l : List (List Sub)} {x : List Sub} {s : Sub} (h : FewI w wr B bx v u us l x) (hB : B ≤ wr.heap.size) (hfl : Flat Enc.sub wr (· < B) ys x) (hz : Enc.sub.rep wr (· < B) zs s)
    (hu : wr.ownsRow B 56 4 u x.length ys) (hrow : wz.ownsRow B 56 4 u' (x.length + 1) (ys ++ zs)) (hg : wr.grownBy wz u.ownBlock) (hb : u'.ownBlock = u.ownBlock ∨ u'.ownBlock = some wr.heap.size) : wz.cell? ⟨bx, 0, none⟩ = some u ∧ wz.frozen? ⟨bx, 0, none⟩ = false ∧ FewI w (wz.setCell ⟨bx, 0, none⟩ u') B bx v u' us l (x ++ [s]) := by
  have hne := own_ne_blk hu h.box (by decide)
  have hbox := (hg.block bx (Array.getElem?_eq_some_iff.1 h.box).1 (fun e => hne e.symm)).trans h.box
  have hr := h.row.app hfl hz hrow hg hb (fun b hb => hb) hB
  have hr2 : ∀ u ∈ us ++ [u'], u.ownBlock ≠ some bx := fun q hq e => by
    obtain ⟨k, hk, rfl⟩ := List.mem_iff_getElem.1 hq
    have hl := hr.1
    obtain ⟨ys, h1, _⟩ := hr.2.1 k _ ((l ++ [x ++ [s]])[k]'(by omega)) (List.getElem?_eq_getElem hk) (List.getElem?_eq_getElem _)
    exact own_ne_blk h1 hbox (by decide) e
  have hset : ∀ b, b ≠ bx → (wz.setCell ⟨bx, 0, none⟩ u').heap[b]? = wz.heap[b]? := fun b hne => by
    rcases Nat.lt_or_ge b wz.heap.size with hb | hb
    · exact (grown_set (w := wz) bx 0 u').block b hb (fun e => by injection e; omega)
    · rw [Array.getElem?_eq_none hb, Array.getElem?_eq_none (by rw [World.size_setCell]; exact hb)]
  refine ⟨(cell_of_row _ _ 0 _ _ _ hbox).trans rfl, by simp [World.frozen?, hbox], ?_, ?_, ?_, ?_, h.ne, h.lo⟩
  · have b1 : Below B wr wz := ⟨hg.os, hg.tape, hg.output, hg.size, fun b hb => hg.block b (by omega) (fun e => by have := (hu.lt b e.symm).1; omega)⟩
    have hgs := grown_set (w := wz) bx 0 u'
    have b2 : Below B wz (wz.setCell ⟨bx, 0, none⟩ u') := ⟨hgs.os, hgs.tape, hgs.output, hgs.size, fun b hb => hset b (by have := h.lo; omega)⟩
    exact (h.bel.trans b1).trans b2
  · exact heap_set hbox u'
  · have ho := h.out
    have hou : ∀ b, v.ownBlock = some b → some b ≠ u.ownBlock := fun b hb' e => by
      rcases own_ne ho hu (by decide) with h1 | h1
      · rw [h1] at hb'
        cases hb'
      · exact h1 (hb'.trans e)
    exact own_same (own_same ho (fun b hb' => hg.block b (ho.lt b hb').2 (hou b hb'))) (fun b hb' => hset b (fun e => h.ne (e ▸ hb')))
  · exact hr.kept (fun u hu b hb' => hset b (fun e => hr2 u hu (e ▸ hb'))) (fun b hb' => hset b (by have := h.lo; omega))
theorem FewI.done {w wr wz : World} {B bx : Nat} {v v' u : Value} {us : List Value} {l : List (List Sub)} {x : List Sub} (h : FewI w wr B bx v u us l x) (hw : w.heap.size = B) (hB : B ≤ wr.heap.size) (hrow : wz.ownsRow B 37 1 v' (us.length + 1) (us ++ [u])) (hg : wr.grownBy wz v.ownBlock) : FewO w wz v' (us ++ [u]) (l ++ [x]) := by
  have ho := h.out
  have hr := h.row
  subst hw
  refine ⟨?_, by rw [List.length_append]; exact hrow, ?_⟩
  · have b1 : Below w.heap.size wr wz := ⟨hg.os, hg.tape, hg.output, hg.size, fun b hb => hg.block b (by omega) (fun e => by have := (ho.lt b e.symm).1; omega)⟩
    exact h.bel.trans b1
  · refine hr.kept (fun q hq b hb' => hg.block b (hr.lt hq hb').2 (fun e => ?_)) (fun b hb' => hg.block b (by omega) (fun e => by have := (ho.lt b e.symm).1; omega))
    obtain ⟨k, hk, rfl⟩ := List.mem_iff_getElem.1 hq
    have hl := hr.1
    obtain ⟨ys, h1, _⟩ := hr.2.1 k _ ((l ++ [x])[k]'(by omega)) (List.getElem?_eq_getElem hk) (List.getElem?_eq_getElem _)
    rcases own_ne h1 ho (by decide) with h2 | h2
    · rw [h2] at hb'
      cases hb'
    · exact h2 (hb'.trans e)
set_option maxRecDepth 100000 in
set_option maxHeartbeats 8000000 in
theorem few_any0 (la : Option Addr) (ln lc : Nat) (l : List (List Sub)) (w : World) (hl : Lst Enc.lk w (· < w.heap.size) la ln l) (hlm : ln ≤ 9223372036854775807) :
    Calls Try.prog 17 #[.slice la ln lc] w fun e w' => ∃ v us, e = .returned v ∧ FewO w w' v us (fewS3 l) := by
  have hll := hl.1
  obtain ⟨B, hB⟩ : ∃ B, w.heap.size = B := ⟨_, rfl⟩
  rw [hB] at hl
  replace hll := hide hll; replace hl := hide hl; replace hB := hide hB
  go_enter Try.func17, Try.ntmps17
  go_wp2_with fail
  go_loopw [3, 4] (fun vo v wr => ∃ (k : Nat) (us : List Value), k ≤ ln ∧ k ≤ 3 ∧ v = .int .i64 (k : Int) ∧ FewO w wr vo us ((l.take k).map fewX4)) (fun _ v _ => 3 - (intOf v).toNat)
  case atStart => exact ⟨0, [], by omega, by omega, rfl, Below.refl _ _, World.ownsRow_nil _ _ _ _, InR.nil _ _ _⟩
  case round =>
    obtain ⟨k, us, hk, hk6, rfl, hF⟩ := hrel
    obtain ⟨wo, rfl⟩ : ∃ wo : World, wo = wr := ⟨_, rfl⟩
    by_cases hlt : k < ln ∧ k < 3
    · obtain ⟨hkl, hk5⟩ := hlt
      obtain ⟨bL, oL, x, xa, xn, xc, rfl, hbL, hx, hxc1, hxc2, hX, cL⟩ := lst_list (unhide hl) hkl
      have hxm : xn ≤ 9223372036854775807 := by unfold maxLen at hxc2; omega
      have hxl := hX.1
      obtain ⟨bx, hbx⟩ : ∃ bx, bx = wo.heap.size := ⟨_, rfl⟩
      obtain ⟨V1, hV1⟩ : ∃ V1, V1 = wo.alloc (Obj.cells #[.slice none 0 0] 37) := ⟨_, rfl⟩
      have hbo : Below wo.heap.size wo V1 := by rw [hV1]; exact (Below.refl _ _).alloc (Nat.le_refl _) _
      have hcx : V1.heap[bx]? = some (.cells #[.slice none 0 0] 37 (0, 0)) := by rw [hV1, hbx]; exact heap_alloc_new wo _
      have hlo : B ≤ wo.heap.size := by have := hF.bel.size; rwa [unhide hB] at this
      have hFI : FewI w V1 B bx u3 (.slice none 0 0) us ((l.take k).map fewX4) [] := by
        obtain ⟨g1, g2, g3⟩ := hF
        rw [unhide hB] at g1 g2 g3
        have hrow := (g3.kept (w' := V1) (fun u hu b hb => hbo.block b (g3.lt hu hb).2) (fun b hb => hbo.block b (by omega))).push
        exact ⟨g1.trans (hbo.mono hlo), hcx, own_belowb g2 hbo, hrow, fun e => by have := (g2.lt _ e).2; omega, by omega⟩
      have t1 : (k : Int) < (ln : Int) := by omega
      have t2 : (k : Int) < 3 := by omega
      clear hF hcx hbo hlo
      replace hFI := hide hFI; replace hX := hide hX; replace hx := hide hx; replace hxl := hide hxl; replace hbx := hide hbx; replace hV1 := hide hV1
      go_wp2_with fail
      rw [← unhide hV1, ← unhide hbx]
      go_loopw [6] (fun v wr => ∃ (i : Nat) (u : Value), i ≤ xn ∧ i ≤ 4 ∧ v = .int .i64 (i : Int) ∧ FewI w wr B bx u3 u us ((l.take k).map fewX4) ((x.take i).map fewSub4)) (fun v _ => 4 - (intOf v).toNat)
      case atStart => exact ⟨0, _, by omega, by omega, rfl, unhide hFI⟩
      case round =>
        clear hFI
        obtain ⟨i, u, hi, hi30, rfl, hFI⟩ := hrel
        obtain ⟨wp, rfl⟩ : ∃ wp : World, wp = wr := ⟨_, rfl⟩
        have cLp := (hFI.bel.cell (p := ⟨bL, oL + k, none⟩) hbL).trans cL
        by_cases hlt : i < xn ∧ i < 4
        · obtain ⟨hil, hi29⟩ := hlt
          have hXp := (unhide hX).below hFI.bel
          have hxi : ((x.take i).map fewSub4).length ≤ 1000 := by rw [List.length_map, List.length_take]; omega
          obtain ⟨Xi, hXi⟩ : ∃ Xi, (x.take i).map fewSub4 = Xi := ⟨_, rfl⟩
          rw [hXi] at hFI hxi
          replace hXi := hide hXi
          obtain ⟨bS, oS, s, a1, n1, c1, a2, n2, c2, a3, n3, c3, rfl, hbS, hs, ⟨p11, p12, p1⟩, ⟨p21, p22, p2⟩, ⟨p31, p32, p3⟩, hto, s0, s1, s2, s3⟩ := lst_sub hXp hil
          have t3 : (i : Int) < (xn : Int) := by omega
          have t4 : (i : Int) < 4 := by omega
          obtain ⟨k1, ek1⟩ : ∃ k1 : Nat, (min (n1 : Int) 4).toNat = k1 := ⟨_, rfl⟩
          have q1 : Hid ((if (4 : Int) < (n1 : Int) then (4 : Int) else (n1 : Int)) = (k1 : Int)) := hide (by split <;> omega)
          have r1 : Hid (min (n1 : Int) 4 = (k1 : Int)) := hide (by omega)
          have m1 : k1 ≤ c1 := by omega
          have zz1 : (k1 : Int) ≤ (c1 : Int) := by omega
          obtain ⟨k2, ek2⟩ : ∃ k2 : Nat, (min (n2 : Int) 4).toNat = k2 := ⟨_, rfl⟩
          have q2 : Hid ((if (4 : Int) < (n2 : Int) then (4 : Int) else (n2 : Int)) = (k2 : Int)) := hide (by split <;> omega)
          have r2 : Hid (min (n2 : Int) 4 = (k2 : Int)) := hide (by omega)
          have m2 : k2 ≤ c2 := by omega
          have zz2 : (k2 : Int) ≤ (c2 : Int) := by omega
          obtain ⟨k3, ek3⟩ : ∃ k3 : Nat, (min (n3 : Int) 4).toNat = k3 := ⟨_, rfl⟩
          have q3 : Hid ((if (4 : Int) < (n3 : Int) then (4 : Int) else (n3 : Int)) = (k3 : Int)) := hide (by split <;> omega)
          have r3 : Hid (min (n3 : Int) 4 = (k3 : Int)) := hide (by omega)
          have m3 : k3 ≤ c3 := by omega
          have zz3 : (k3 : Int) ≤ (c3 : Int) := by omega
          have hsp : Enc.sub.rep wp (· < B) [.slice a1 k1 c1, .slice a2 k2 c2, .slice a3 k3 c3, .int .i64 s.2.2.2] (fewSub4 s) := by
            rw [← ek1, ← ek2, ← ek3]
            exact rep_sub (s := fewSub4 s) (row_ints4 p1 p11 p12) (row_ints4 p2 p21 p22) (row_ints4 p3 p31 p32) hto
          clear ek1 ek2 ek3
          obtain ⟨tv, hto'⟩ : ∃ tv, s.2.2.2 = tv := ⟨_, rfl⟩
          rw [hto'] at s3 hsp
          clear p1 p2 p3 hXp hto
          have hlo2 : B ≤ wp.heap.size := by have := hFI.lo; have := (Array.getElem?_eq_some_iff.1 hFI.box).1; omega
          have dx : wp.cell? ⟨bx, 0, none⟩ = some u := (cell_of_row _ _ 0 _ _ _ hFI.box).trans rfl
          obtain ⟨b7, V7, hb7, hV7, st⟩ := (St.start wp).new (Obj.cells #[.slice a1 n1 c1, .slice a2 n2 c2, .slice a3 n3 c3, .int .i64 tv] 56)
          have hb7' := st.below
          have k7 := hide (st.get 0 rfl)
          have hFI7 := hFI.below hb7' hlo2
          have hsp7 := Enc.sub.same (fun b hb => hb7'.block b (by omega)) hsp
          have dx7 := cell_under dx hb7'
          have hlo7 := Nat.le_trans hlo2 hb7'.size
          obtain ⟨s0, s1', s2', s3'⟩ : V7.cell? ⟨b7, 0, none⟩ = some (.slice a1 n1 c1) ∧ V7.cell? ⟨b7, 1, none⟩ = some (.slice a2 n2 c2) ∧ V7.cell? ⟨b7, 2, none⟩ = some (.slice a3 n3 c3) ∧ V7.cell? ⟨b7, 3, none⟩ = some (.int .i64 tv) := ⟨(cell_of_row _ _ 0 _ _ _ (unhide k7)).trans rfl, (cell_of_row _ _ 1 _ _ _ (unhide k7)).trans rfl, (cell_of_row _ _ 2 _ _ _ (unhide k7)).trans rfl, (cell_of_row _ _ 3 _ _ _ (unhide k7)).trans rfl⟩
          clear st hFI hsp hb7'
          replace hFI7 := hide hFI7; replace hsp7 := hide hsp7; replace hs := hide hs; replace hto' := hide hto'; replace hV7 := hide hV7; replace hb7 := hide hb7; replace s0 := hide s0; replace s1' := hide s1'; replace s2' := hide s2'; replace s3' := hide s3'; replace dx7 := hide dx7; replace hxi := hide hxi; replace hlo7 := hide hlo7
          go_upto_region 10 with fail
          rw [unhide hV7]
          try rw [unhide hb7]
          clear hV7 hb7
          have s0 := unhide s0
          have s1' := unhide s1'
          have s2' := unhide s2'
          have s3' := unhide s3'
          have dx7 := unhide dx7
          refine wp_region_frontG 27 (fun _ _ w' => Below V7.heap.size V7 w') (fun wa wb => Below wa.heap.size wa wb)
            (fun ix v w' => match ix with
              | 0 => v = .pointer (some ⟨bx, 0, none⟩)
              | 1 => v = u
              | 2 => v = .pointer (some ⟨b7, 0, none⟩)
              | 3 => v = .slice a1 n1 c1
              | 4 => v = .pointer (some ⟨b7, 0, none⟩)
              | 5 => v = .slice a1 n1 c1
              | 6 => v = .int .i64 (n1 : Int)
              | 7 => v = .int .i64 (k1 : Int)
              | 8 => v = .slice a1 k1 c1
              | 9 => v = .pointer (some ⟨b7, 1, none⟩)
              | 10 => v = .slice a2 n2 c2
              | 11 => v = .pointer (some ⟨b7, 1, none⟩)
              | 12 => v = .slice a2 n2 c2
              | 13 => v = .int .i64 (n2 : Int)
              | 14 => v = .int .i64 (k2 : Int)
              | 15 => v = .slice a2 k2 c2
              | 16 => v = .pointer (some ⟨b7, 2, none⟩)
              | 17 => v = .slice a3 n3 c3
              | 18 => v = .pointer (some ⟨b7, 2, none⟩)
              | 19 => v = .slice a3 n3 c3
              | 20 => v = .int .i64 (n3 : Int)
              | 21 => v = .int .i64 (k3 : Int)
              | 22 => v = .slice a3 k3 c3
              | 23 => v = .pointer (some ⟨b7, 3, none⟩)
              | 24 => v = .int .i64 tv
              | 25 => v = .agg #[.slice a1 k1 c1, .slice a2 k2 c2, .slice a3 k3 c3, .int .i64 tv]
              | 26 => ∃ b, v = .slice (some ⟨b, 0, none⟩) 1 1 ∧ w'.heap[b]? = some (.cells #[.slice a1 k1 c1, .slice a2 k2 c2, .slice a3 k3 c3, .int .i64 tv] 56 (0, 0))
              | _ => True) (by rfl) (by kernel_rfl) ?_ ?_ ?_ ?_
          · exact (Below.refl _ _).drew
          · intro wa wb hR ix v hv
            match ix, hv with
            | 0, h => exact h
            | 1, h => exact h
            | 2, h => exact h
            | 3, h => exact h
            | 4, h => exact h
            | 5, h => exact h
            | 6, h => exact h
            | 7, h => exact h
            | 8, h => exact h
            | 9, h => exact h
            | 10, h => exact h
            | 11, h => exact h
            | 12, h => exact h
            | 13, h => exact h
            | 14, h => exact h
            | 15, h => exact h
            | 16, h => exact h
            | 17, h => exact h
            | 18, h => exact h
            | 19, h => exact h
            | 20, h => exact h
            | 21, h => exact h
            | 22, h => exact h
            | 23, h => exact h
            | 24, h => exact h
            | 25, h => exact h
            | 26, h => obtain ⟨b, h1, h2⟩ := h; exact ⟨b, h1, kept' hR h2⟩
            | _ + 27, _ => trivial
          · intro ix hix
            obtain rfl | rfl | rfl | rfl | rfl | rfl | rfl | rfl | rfl | rfl | rfl | rfl | rfl | rfl | rfl | rfl | rfl | rfl | rfl | rfl | rfl | rfl | rfl | rfl | rfl | rfl | rfl : ix = 0 ∨ ix = 1 ∨ ix = 2 ∨ ix = 3 ∨ ix = 4 ∨ ix = 5 ∨ ix = 6 ∨ ix = 7 ∨ ix = 8 ∨ ix = 9 ∨ ix = 10 ∨ ix = 11 ∨ ix = 12 ∨ ix = 13 ∨ ix = 14 ∨ ix = 15 ∨ ix = 16 ∨ ix = 17 ∨ ix = 18 ∨ ix = 19 ∨ ix = 20 ∨ ix = 21 ∨ ix = 22 ∨ ix = 23 ∨ ix = 24 ∨ ix = 25 ∨ ix = 26 := by omega
            · refine FrontStep.of [] _ rfl (by kernel_rfl) ?_
              intro vs LL wq hLL hC hf
              simp only [putL, List.foldl_nil]
              go_wp2_with fail
              first | exact Below.refl _ _ | exact hC | exact ⟨hC, Below.refl _ _⟩ | exact ⟨hC, Below.refl _ _, by omega⟩ | exact ⟨Below.refl _ _, by omega⟩ | trace_state
            · refine FrontStep.of [0] _ rfl (by kernel_rfl) ?_
              intro vs LL wq hLL hC hf
              simp only [putL, List.foldl_nil, List.foldl_cons, List.getElem?_cons_zero]
              have e0 : vs 0 = _ := hf 0 (by simp)
              rw [e0]
              have g0c0 := cell_under dx7 hC
              go_wp2_with fail
              first | exact Below.refl _ _ | exact hC | exact ⟨hC, Below.refl _ _⟩ | exact ⟨hC, Below.refl _ _, by omega⟩ | exact ⟨Below.refl _ _, by omega⟩ | trace_state
            · refine FrontStep.of [] _ rfl (by kernel_rfl) ?_
              intro vs LL wq hLL hC hf
              simp only [putL, List.foldl_nil]
              go_wp2_with fail
              first | exact Below.refl _ _ | exact hC | exact ⟨hC, Below.refl _ _⟩ | exact ⟨hC, Below.refl _ _, by omega⟩ | exact ⟨Below.refl _ _, by omega⟩ | trace_state
            · refine FrontStep.of [2] _ rfl (by kernel_rfl) ?_
              intro vs LL wq hLL hC hf
              simp only [putL, List.foldl_nil, List.foldl_cons, List.getElem?_cons_zero, List.getElem?_cons_succ]
              have e2 : vs 2 = _ := hf 2 (by simp)
              rw [e2]
              have g0c0 := cell_under s0 hC
              go_wp2_with fail
              first | exact Below.refl _ _ | exact hC | exact ⟨hC, Below.refl _ _⟩ | exact ⟨hC, Below.refl _ _, by omega⟩ | exact ⟨Below.refl _ _, by omega⟩ | trace_state
            · refine FrontStep.of [] _ rfl (by kernel_rfl) ?_
              intro vs LL wq hLL hC hf
              simp only [putL, List.foldl_nil]
              go_wp2_with fail
              first | exact Below.refl _ _ | exact hC | exact ⟨hC, Below.refl _ _⟩ | exact ⟨hC, Below.refl _ _, by omega⟩ | exact ⟨Below.refl _ _, by omega⟩ | trace_state
            · refine FrontStep.of [4] _ rfl (by kernel_rfl) ?_
              intro vs LL wq hLL hC hf
              simp only [putL, List.foldl_nil, List.foldl_cons, List.getElem?_cons_zero, List.getElem?_cons_succ]
              have e4 : vs 4 = _ := hf 4 (by simp)
              rw [e4]
              have g0c0 := cell_under s0 hC
              go_wp2_with fail
              first | exact Below.refl _ _ | exact hC | exact ⟨hC, Below.refl _ _⟩ | exact ⟨hC, Below.refl _ _, by omega⟩ | exact ⟨Below.refl _ _, by omega⟩ | trace_state
            · refine FrontStep.of [5] _ rfl (by kernel_rfl) ?_
              intro vs LL wq hLL hC hf
              simp only [putL, List.foldl_nil, List.foldl_cons, List.getElem?_cons_zero, List.getElem?_cons_succ]
              have e5 : vs 5 = _ := hf 5 (by simp)
              rw [e5]
              go_wp2_with fail
              first | exact Below.refl _ _ | exact hC | exact ⟨hC, Below.refl _ _⟩ | exact ⟨hC, Below.refl _ _, by omega⟩ | exact ⟨Below.refl _ _, by omega⟩ | trace_state
            · refine FrontStep.of [6] _ rfl (by kernel_rfl) ?_
              intro vs LL wq hLL hC hf
              simp only [putL, List.foldl_nil, List.foldl_cons, List.getElem?_cons_zero, List.getElem?_cons_succ]
              have e6 : vs 6 = _ := hf 6 (by simp)
              rw [e6]
              have qq := unhide q1
              have rr := unhide r1
              go_wp2_with fail
              first | exact Below.refl _ _ | exact hC | exact ⟨hC, Below.refl _ _⟩ | exact ⟨hC, Below.refl _ _, by omega⟩ | exact ⟨Below.refl _ _, by omega⟩ | trace_state
            · refine FrontStep.of [3, 7] _ rfl (by kernel_rfl) ?_
              intro vs LL wq hLL hC hf
              simp only [putL, List.foldl_nil, List.foldl_cons, List.getElem?_cons_zero, List.getElem?_cons_succ]
              have e3 : vs 3 = _ := hf 3 (by simp)
              rw [e3]
              have e7 : vs 7 = _ := hf 7 (by simp)
              rw [e7]
              go_wp2_with fail
              first | exact Below.refl _ _ | exact hC | exact ⟨hC, Below.refl _ _⟩ | exact ⟨hC, Below.refl _ _, by omega⟩ | exact ⟨Below.refl _ _, by omega⟩ | trace_state
            · refine FrontStep.of [] _ rfl (by kernel_rfl) ?_
              intro vs LL wq hLL hC hf
              simp only [putL, List.foldl_nil]
              go_wp2_with fail
              first | exact Below.refl _ _ | exact hC | exact ⟨hC, Below.refl _ _⟩ | exact ⟨hC, Below.refl _ _, by omega⟩ | exact ⟨Below.refl _ _, by omega⟩ | trace_state
            · refine FrontStep.of [9] _ rfl (by kernel_rfl) ?_
              intro vs LL wq hLL hC hf
              simp only [putL, List.foldl_nil, List.foldl_cons, List.getElem?_cons_zero, List.getElem?_cons_succ]
              have e9 : vs 9 = _ := hf 9 (by simp)
              rw [e9]
              have g0c0 := cell_under s1' hC
              go_wp2_with fail
              first | exact Below.refl _ _ | exact hC | exact ⟨hC, Below.refl _ _⟩ | exact ⟨hC, Below.refl _ _, by omega⟩ | exact ⟨Below.refl _ _, by omega⟩ | trace_state
            · refine FrontStep.of [] _ rfl (by kernel_rfl) ?_
              intro vs LL wq hLL hC hf
              simp only [putL, List.foldl_nil]
              go_wp2_with fail
              first | exact Below.refl _ _ | exact hC | exact ⟨hC, Below.refl _ _⟩ | exact ⟨hC, Below.refl _ _, by omega⟩ | exact ⟨Below.refl _ _, by omega⟩ | trace_state
            · refine FrontStep.of [11] _ rfl (by kernel_rfl) ?_
              intro vs LL wq hLL hC hf
              simp only [putL, List.foldl_nil, List.foldl_cons, List.getElem?_cons_zero, List.getElem?_cons_succ]
              have e11 : vs 11 = _ := hf 11 (by simp)
              rw [e11]
              have g0c0 := cell_under s1' hC
              go_wp2_with fail
              first | exact Below.refl _ _ | exact hC | exact ⟨hC, Below.refl _ _⟩ | exact ⟨hC, Below.refl _ _, by omega⟩ | exact ⟨Below.refl _ _, by omega⟩ | trace_state
            · refine FrontStep.of [12] _ rfl (by kernel_rfl) ?_
              intro vs LL wq hLL hC hf
              simp only [putL, List.foldl_nil, List.foldl_cons, List.getElem?_cons_zero, List.getElem?_cons_succ]
              have e12 : vs 12 = _ := hf 12 (by simp)
              rw [e12]
              go_wp2_with fail
              first | exact Below.refl _ _ | exact hC | exact ⟨hC, Below.refl _ _⟩ | exact ⟨hC, Below.refl _ _, by omega⟩ | exact ⟨Below.refl _ _, by omega⟩ | trace_state
            · refine FrontStep.of [13] _ rfl (by kernel_rfl) ?_
              intro vs LL wq hLL hC hf
              simp only [putL, List.foldl_nil, List.foldl_cons, List.getElem?_cons_zero, List.getElem?_cons_succ]
              have e13 : vs 13 = _ := hf 13 (by simp)
              rw [e13]
              have qq := unhide q2
              have rr := unhide r2
              go_wp2_with fail
              first | exact Below.refl _ _ | exact hC | exact ⟨hC, Below.refl _ _⟩ | exact ⟨hC, Below.refl _ _, by omega⟩ | exact ⟨Below.refl _ _, by omega⟩ | trace_state
            · refine FrontStep.of [10, 14] _ rfl (by kernel_rfl) ?_
              intro vs LL wq hLL hC hf
              simp only [putL, List.foldl_nil, List.foldl_cons, List.getElem?_cons_zero, List.getElem?_cons_succ]
              have e10 : vs 10 = _ := hf 10 (by simp)
              rw [e10]
              have e14 : vs 14 = _ := hf 14 (by simp)
              rw [e14]
              go_wp2_with fail
              first | exact Below.refl _ _ | exact hC | exact ⟨hC, Below.refl _ _⟩ | exact ⟨hC, Below.refl _ _, by omega⟩ | exact ⟨Below.refl _ _, by omega⟩ | trace_state
            · refine FrontStep.of [] _ rfl (by kernel_rfl) ?_
              intro vs LL wq hLL hC hf
              simp only [putL, List.foldl_nil]
              go_wp2_with fail
              first | exact Below.refl _ _ | exact hC | exact ⟨hC, Below.refl _ _⟩ | exact ⟨hC, Below.refl _ _, by omega⟩ | exact ⟨Below.refl _ _, by omega⟩ | trace_state
            · refine FrontStep.of [16] _ rfl (by kernel_rfl) ?_
              intro vs LL wq hLL hC hf
              simp only [putL, List.foldl_nil, List.foldl_cons, List.getElem?_cons_zero, List.getElem?_cons_succ]
              have e16 : vs 16 = _ := hf 16 (by simp)
              rw [e16]
              have g0c0 := cell_under s2' hC
              go_wp2_with fail
              first | exact Below.refl _ _ | exact hC | exact ⟨hC, Below.refl _ _⟩ | exact ⟨hC, Below.refl _ _, by omega⟩ | exact ⟨Below.refl _ _, by omega⟩ | trace_state
            · refine FrontStep.of [] _ rfl (by kernel_rfl) ?_
              intro vs LL wq hLL hC hf
              simp only [putL, List.foldl_nil]
              go_wp2_with fail
              first | exact Below.refl _ _ | exact hC | exact ⟨hC, Below.refl _ _⟩ | exact ⟨hC, Below.refl _ _, by omega⟩ | exact ⟨Below.refl _ _, by omega⟩ | trace_state
            · refine FrontStep.of [18] _ rfl (by kernel_rfl) ?_
              intro vs LL wq hLL hC hf
              simp only [putL, List.foldl_nil, List.foldl_cons, List.getElem?_cons_zero, List.getElem?_cons_succ]
              have e18 : vs 18 = _ := hf 18 (by simp)
              rw [e18]
              have g0c0 := cell_under s2' hC
              go_wp2_with fail
              first | exact Below.refl _ _ | exact hC | exact ⟨hC, Below.refl _ _⟩ | exact ⟨hC, Below.refl _ _, by omega⟩ | exact ⟨Below.refl _ _, by omega⟩ | trace_state
            · refine FrontStep.of [19] _ rfl (by kernel_rfl) ?_
              intro vs LL wq hLL hC hf
              simp only [putL, List.foldl_nil, List.foldl_cons, List.getElem?_cons_zero, List.getElem?_cons_succ]
              have e19 : vs 19 = _ := hf 19 (by simp)
              rw [e19]
              go_wp2_with fail
              first | exact Below.refl _ _ | exact hC | exact ⟨hC, Below.refl _ _⟩ | exact ⟨hC, Below.refl _ _, by omega⟩ | exact ⟨Below.refl _ _, by omega⟩ | trace_state
            · refine FrontStep.of [20] _ rfl (by kernel_rfl) ?_
              intro vs LL wq hLL hC hf
              simp only [putL, List.foldl_nil, List.foldl_cons, List.getElem?_cons_zero, List.getElem?_cons_succ]
              have e20 : vs 20 = _ := hf 20 (by simp)
              rw [e20]
              have qq := unhide q3
              have rr := unhide r3
              go_wp2_with fail
              first | exact Below.refl _ _ | exact hC | exact ⟨hC, Below.refl _ _⟩ | exact ⟨hC, Below.refl _ _, by omega⟩ | exact ⟨Below.refl _ _, by omega⟩ | trace_state
            · refine FrontStep.of [17, 21] _ rfl (by kernel_rfl) ?_
              intro vs LL wq hLL hC hf
              simp only [putL, List.foldl_nil, List.foldl_cons, List.getElem?_cons_zero, List.getElem?_cons_succ]
              have e17 : vs 17 = _ := hf 17 (by simp)
              rw [e17]
              have e21 : vs 21 = _ := hf 21 (by simp)
              rw [e21]
              go_wp2_with fail
              first | exact Below.refl _ _ | exact hC | exact ⟨hC, Below.refl _ _⟩ | exact ⟨hC, Below.refl _ _, by omega⟩ | exact ⟨Below.refl _ _, by omega⟩ | trace_state
            · refine FrontStep.of [] _ rfl (by kernel_rfl) ?_
              intro vs LL wq hLL hC hf
              simp only [putL, List.foldl_nil]
              go_wp2_with fail
              first | exact Below.refl _ _ | exact hC | exact ⟨hC, Below.refl _ _⟩ | exact ⟨hC, Below.refl _ _, by omega⟩ | exact ⟨Below.refl _ _, by omega⟩ | trace_state
            · refine FrontStep.of [23] _ rfl (by kernel_rfl) ?_
              intro vs LL wq hLL hC hf
              simp only [putL, List.foldl_nil, List.foldl_cons, List.getElem?_cons_zero, List.getElem?_cons_succ]
              have e23 : vs 23 = _ := hf 23 (by simp)
              rw [e23]
              have g0c0 := cell_under s3' hC
              go_wp2_with fail
              first | exact Below.refl _ _ | exact hC | exact ⟨hC, Below.refl _ _⟩ | exact ⟨hC, Below.refl _ _, by omega⟩ | exact ⟨Below.refl _ _, by omega⟩ | trace_state
            · refine FrontStep.of [8, 15, 22, 24] _ rfl (by kernel_rfl) ?_
              intro vs LL wq hLL hC hf
              simp only [putL, List.foldl_nil, List.foldl_cons, List.getElem?_cons_zero, List.getElem?_cons_succ]
              have e8 : vs 8 = _ := hf 8 (by simp)
              rw [e8]
              have e15 : vs 15 = _ := hf 15 (by simp)
              rw [e15]
              have e22 : vs 22 = _ := hf 22 (by simp)
              rw [e22]
              have e24 : vs 24 = _ := hf 24 (by simp)
              rw [e24]
              go_wp2_with fail
              first | exact Below.refl _ _ | exact hC | exact ⟨hC, Below.refl _ _⟩ | exact ⟨hC, Below.refl _ _, by omega⟩ | exact ⟨Below.refl _ _, by omega⟩ | trace_state
            · refine FrontStep.of [25] _ rfl (by kernel_rfl) ?_
              intro vs LL wq hLL hC hf
              simp only [putL, List.foldl_nil, List.foldl_cons, List.getElem?_cons_zero, List.getElem?_cons_succ]
              have e25 : vs 25 = _ := hf 25 (by simp)
              rw [e25]
              have hn0 := heap_alloc_new wq (Obj.cells #[.slice a1 k1 c1, .slice a2 k2 c2, .slice a3 k3 c3, .int .i64 tv] 56)
              have hb0 := (Below.refl wq.heap.size wq).alloc (Nat.le_refl _) (Obj.cells #[.slice a1 k1 c1, .slice a2 k2 c2, .slice a3 k3 c3, .int .i64 tv] 56)
              have hfin := hide (hC.trans (hb0.mono hC.size))
              replace hb0 := hide hb0; replace hn0 := hide hn0
              go_wp2_with fail
              first | exact ⟨unhide hfin, unhide hb0, _, rfl, unhide hn0⟩ | exact ⟨unhide hfin, unhide hb0, unhide hn0⟩ | exact ⟨unhide hb0, unhide hn0⟩ | exact ⟨unhide hfin, unhide hb0, (Array.getElem?_eq_some_iff.1 (unhide hn0)).2⟩ | trace_state
          · intro vs LL wq hLL hC hf
            obtain ⟨b66, e26, hr66⟩ := hf 26 (by omega)
            have e1 : vs 1 = _ := hf 1 (by omega)
            rw [putSome_all]
            simp only [putL, List.range, List.range.loop, List.foldl_nil, List.foldl_cons, List.getElem?_cons_zero, List.getElem?_cons_succ, List.drop_succ_cons, List.drop_zero]
            rw [e26, e1]
            have hlo8 := unhide hlo7
            have hF2 := (unhide hFI7).below hC hlo8
            have hsp2 := Enc.sub.same (fun b hb => hC.block b (by omega)) (unhide hsp7)
            have hlo3 : B ≤ wq.heap.size := Nat.le_trans hlo8 hC.size
            obtain ⟨ys, hys, hfy⟩ := hF2.row.last
            clear hFI7 hsp7 hf hLL hC e26 e1 s0 s1' s2' s3' dx7 hlo7 hlo8
            replace hF2 := hide hF2; replace hsp2 := hide hsp2; replace hlo3 := hide hlo3; replace hys := hide hys; replace hfy := hide hfy; replace hr66 := hide hr66
            go_simp
            go_wp2_with (at_builtin; refine wpList_append_el Try.underlying35 info_sub rfl (by decide) (by decide) rfl _ _ rfl B _ _ ys rfl (unhide hys) b66 [.slice a1 k1 c1, .slice a2 k2 c2, .slice a3 k3 c3, .int .i64 tv] rfl (unhide hr66) rfl ?aa ?ab ?ac ?_)
            case aa => first | exact ⟨rfl, rfl, rfl, rfl⟩ | (intro u hu; simp at hu; rcases hu with rfl | rfl | rfl | rfl <;> rfl)
            case ab => exact unhide hxi
            case ac => exact unhide hlo3
            intro v' w' hrow hgr hown
            obtain ⟨za, zc, rfl⟩ := own_shape hrow
            obtain ⟨cq, fq, hF3⟩ := (unhide hF2).push (unhide hlo3) (unhide hfy) (unhide hsp2) (unhide hys) hrow hgr hown
            clear hrow hgr hown hF2 hsp2 hys hfy hlo3 hxi
            replace hF3 := hide hF3
            go_wp2_with fail
            go_roundw
            case rel => exact ⟨i + 1, _, by omega, by omega, by go_num, by rw [map_take_succ (unhide hs), unhide hXi]; exact unhide hF3⟩
            case measure => simp [intOf]; omega
        · have hfx : (x.take i).map fewSub4 = fewX4 x := by
            unfold fewX4
            rw [show x.take i = x.take 4 by
              rcases Nat.lt_or_ge i 4 with h | h
              · rw [List.take_of_length_le (by rw [unhide hxl]; omega), List.take_of_length_le (by rw [unhide hxl]; omega)]
              · rw [show i = 4 by omega]]
          rw [hfx] at hFI
          have t3 : ¬ ((i : Int) < (xn : Int) ∧ (i : Int) < 4) := by omega
          have hbx2 : ∀ o, (wp.alloc o).cell? ⟨bx, 0, none⟩ = some u := fun o => cell_under ((cell_of_row _ _ 0 _ _ _ hFI.box).trans rfl) ((Below.refl _ _).alloc (Nat.le_refl _) o)
          have hbx1 : wp.cell? ⟨bx, 0, none⟩ = some u := (cell_of_row _ _ 0 _ _ _ hFI.box).trans rfl
          have hlo2 : B ≤ wp.heap.size := by have := hFI.lo; have := (Array.getElem?_eq_some_iff.1 hFI.box).1; omega
          have hb2 : Below wp.heap.size wp (wp.alloc (Obj.cells #[u] 37)) := (Below.refl _ _).alloc (Nat.le_refl _) _
          have hF2 := hFI.below hb2 hlo2
          have hcs : (wp.alloc (Obj.cells #[u] 37)).heap[wp.heap.size]? = some (.cells #[u] 37 (0, 0)) := heap_alloc_new wp _
          have hul : us.length ≤ 1000 := by have := hFI.row.1; simp at this; omega
          have hlo3 := Nat.le_trans hlo2 hb2.size
          obtain ⟨ya, yn, yc, hue⟩ : ∃ ya yn yc, u = .slice ya yn yc := by
            obtain ⟨ys, hys, _⟩ := hFI.row.last
            obtain ⟨ya, yc, h⟩ := own_shape hys
            exact ⟨ya, _, yc, h⟩
          have hout := hF2.out
          clear hFI hb2 hlo2
          subst hue
          replace hF2 := hide hF2; replace hcs := hide hcs; replace hul := hide hul; replace hlo3 := hide hlo3; replace hout := hide hout
          by_cases hxi : (i : Int) < (xn : Int)
          · have t5 : ¬ (i : Int) < 4 := by omega
            go_wp2_with (at_builtin; refine wpList_append_el Try.underlying24 info_lk rfl (by decide) (by decide) rfl _ _ rfl B _ _ us rfl (unhide hout) _ [.slice ya yn yc] rfl (unhide hcs) rfl ?ba ?bb ?bc ?_)
            case ba => rfl
            case bb => exact unhide hul
            case bc => have := unhide hlo3; rw [World.size_alloc] at this; exact this
            intro v' w' hrow hgr hown
            have hFO := (unhide hF2).done (unhide hB) (unhide hlo3) hrow hgr
            rw [← map_take_succ (unhide hx)] at hFO
            clear hrow hgr hown hF2 hcs hul hlo3 hout
            replace hFO := hide hFO
            go_wp2_with fail
            go_roundw
            case rel => exact ⟨k + 1, _, by omega, by omega, by go_num, unhide hFO⟩
            case measure => simp [intOf]; omega
          · have t5 : decide ((i : Int) < (xn : Int)) = false := decide_eq_false hxi
            go_wp2_with (at_builtin; refine wpList_append_el Try.underlying24 info_lk rfl (by decide) (by decide) rfl _ _ rfl B _ _ us rfl (unhide hout) _ [.slice ya yn yc] rfl (unhide hcs) rfl ?da ?db ?dc ?_)
            case da => rfl
            case db => exact unhide hul
            case dc => have := unhide hlo3; rw [World.size_alloc] at this; exact this
            intro v' w' hrow hgr hown
            have hFO := (unhide hF2).done (unhide hB) (unhide hlo3) hrow hgr
            rw [← map_take_succ (unhide hx)] at hFO
            clear hrow hgr hown hF2 hcs hul hlo3 hout
            replace hFO := hide hFO
            go_wp2_with fail
            go_roundw
            case rel => exact ⟨k + 1, _, by omega, by omega, by go_num, unhide hFO⟩
            case measure => simp [intOf]; omega
    · have hfx : (l.take k).map fewX4 = fewS3 l := by
        unfold fewS3
        rw [show l.take k = l.take 3 by
          rcases Nat.lt_or_ge k 3 with h | h
          · rw [List.take_of_length_le (by rw [unhide hll]; omega), List.take_of_length_le (by rw [unhide hll]; omega)]
          · rw [show k = 3 by omega]]
      rw [hfx] at hF
      clear hfx
      replace hF := hide hF
      by_cases hxi : (k : Int) < (ln : Int)
      · have t5 : ¬ (k : Int) < 3 := by omega
        go_wp2_with fail
        go_ret
        first | exact ⟨us, unhide hF⟩ | exact ⟨u3, ⟨rfl, us, unhide hF⟩⟩ | exact ⟨u3, us, rfl, unhide hF⟩
      · go_wp2_with fail
        go_ret
        first | exact ⟨us, unhide hF⟩ | exact ⟨u3, ⟨rfl, us, unhide hF⟩⟩ | exact ⟨u3, us, rfl, unhide hF⟩
theorem few_any (la : Option Addr) (ln lc : Nat) (l : List (List Sub)) (w : World) (hl : Lst Enc.lk w (· < w.heap.size) la ln l) (hl1 : ln ≤ lc) (hl2 : lc ≤ maxLen) :
    Calls Try.prog 17 #[.slice la ln lc] w fun e w' => ∃ v us, e = .returned v ∧ FewO w w' v us (fewS3 l) := by
  exact few_any0 la ln lc l w hl (by unfold maxLen at hl2; omega)
end Go.Proofs.Ytfbgbbbfpkpfkaa
-- @@XTsC
/- Streams: Feed and End for any state. -/
namespace Go.Proofs.Ytfbgbbbfpkpfkaa
open Go.RowKit
set_option maxRecDepth 100000 in
set_option maxHeartbeats 4000000 in
theorem feedx_any (la : Option Addr) (ln lc : Nat) (l : List (List Sub)) (sa : Option Addr) (n sc : Nat) (sts : List Stg) (g : Int) (w : World) (hll : Lst Enc.lk w (fun b => b < w.heap.size) la ln l) (hsm : ∀ x ∈ l, Small x) (hto : ∀ x ∈ l, ToI x) (hs : Lst Enc.stg w (fun b => b < w.heap.size) sa n sts) (hn : ln ≤ 1000) (hg : I64 g)
    (hbd : ∀ s ∈ sts, s.1.length ≤ 300000) (ht : tot sts [] + 1 ≤ 200000) :
    Calls Try.prog 20 #[.slice la ln lc, .agg #[.slice sa n sc], .int .i64 g] w (FeedP w (feedX l sts g)) := by
  have e1 := hll.1
  have e2 := hs.1
  by_cases hne : n = ln
  · subst hne
    have hX : feedX l sts g = feedS l sts g := by unfold feedX; rw [if_pos (by rw [e1, e2])]
    have hfl := feedS_len l sts g (by rw [e1, e2])
    rw [hX]
    refine (feed_any la n lc l sa sc sts g w hll hsm hto hs (by omega) hg hbd ht).mono fun e w' ⟨a, a', c', h1, h2, h3, h4⟩ => ?_
    rw [e1] at hfl
    exact ⟨a, n, a', c', by rw [hfl]; exact h1, by rw [hfl]; exact h2, h3, h4⟩
  · have hX : feedX l sts g = ([], []) := by unfold feedX; rw [if_neg (by rw [e1, e2]; exact hne)]
    obtain ⟨b4, V4, hb4, hV4, st⟩ := (St.start w).new (Obj.cells #[.slice sa n sc] 29)
    obtain ⟨b6, V6, hb6, hV6, st⟩ := st.new (Obj.cells #[.slice none 0 0] 29)
    have hc6 : b4 + 1 = b6 := by rw [← hb6, ← hV4, World.size_alloc, hb4]
    have d4 := blk_cell (st.get 1 rfl)
    have k6 := hide (st.get 0 rfl)
    have hz := hide st.below
    have hl6 : Hid (w.heap.size ≤ b6) := hide (by omega)
    have ho := hide (open_none la ln lc sa n sc V6 hne)
    clear st hll hs hsm hto hbd ht e1 e2 hg
    replace hb4 := hide hb4; replace hV4 := hide hV4; replace hb6 := hide hb6; replace hV6 := hide hV6; replace hc6 := hide hc6; replace hX := hide hX
    go_enter Try.func20, Try.ntmps20
    go_upto_region 1 with fail
    try rw [unhide hb4]
    try rw [unhide hc6]
    rw [unhide hV4, unhide hV6]
    clear hV4 hV6 hb4 hb6 hc6
    go_wp2_with fail
    refine (unhide ho).mono ?_
    rintro e w1 ⟨rfl, hb1⟩
    clear ho d4
    have hk6 := kept' hb1 (unhide k6)
    have f2 := blk_cell hk6
    have f3 : w1.frozen? ⟨b6, 0, none⟩ = false := by simp [World.frozen?, hk6]
    have r0 := blk_cell (heap_set (off := 0) hk6 (.slice none 0 0))
    have hb3 := hide (((unhide hz).trans (hb1.mono (unhide hz).size)).setCell (p := ⟨b6, 0, none⟩) (unhide hl6) (.slice none 0 0))
    clear hb1 hk6
    go_wp2_with fail
    refine bodyPost_ret (v := .tuple #[.agg #[.slice none 0 0], .slice none 0 0]) (by simp [results, Try.results20, go_sem, r0]) rfl ?_
    rw [unhide hX]
    exact ⟨none, 0, none, 0, rfl, Lst.nil _ _ _ _, Lst.nil _ _ _ _, unhide hb3⟩
set_option maxRecDepth 100000 in
set_option maxHeartbeats 4000000 in
theorem endx_any (la : Option Addr) (ln lc : Nat) (l : List (List Sub)) (sa : Option Addr) (n sc : Nat) (sts : List Stg) (w : World) (hll : Lst Enc.lk w (fun b => b < w.heap.size) la ln l) (hsm : ∀ x ∈ l, Small x) (hto : ∀ x ∈ l, ToI x) (hs : Lst Enc.stg w (fun b => b < w.heap.size) sa n sts) (hn : ln ≤ 1000)
    (hbd : ∀ s ∈ sts, s.1.length ≤ 300000) (ht : tot sts [] ≤ 200000) :
    Calls Try.prog 14 #[.slice la ln lc, .agg #[.slice sa n sc]] w (EndP w (endX l sts)) := by
  have e1 := hll.1
  have e2 := hs.1
  by_cases hne : n = ln
  · subst hne
    have hX : endX l sts = endS l sts := by unfold endX; rw [if_pos (by rw [e1, e2])]
    rw [hX]
    exact (end_any la n lc l sa sc sts w hll hsm hto hs (by omega) hbd ht).mono fun e w' ⟨a, c, h1, h2, h3, h4⟩ => ⟨a, c, h1, h2, h3, h4⟩
  · have hX : endX l sts = [] := by unfold endX; rw [if_neg (by rw [e1, e2]; exact hne)]
    obtain ⟨b3, V3, hb3, hV3, st⟩ := (St.start w).new (Obj.cells #[.slice sa n sc] 29)
    have d3 := blk_cell (st.get 0 rfl)
    have hz := hide st.below
    have ho := hide (open_none la ln lc sa n sc V3 hne)
    clear st hll hs hsm hto hbd ht e1 e2
    replace hb3 := hide hb3; replace hV3 := hide hV3; replace hX := hide hX
    go_enter Try.func14, Try.ntmps14
    go_upto_region 1 with fail
    try rw [unhide hb3]
    rw [unhide hV3]
    clear hV3 hb3
    go_wp2_with fail
    refine (unhide ho).mono ?_
    rintro e w1 ⟨rfl, hb1⟩
    clear ho d3
    have hb3 := hide ((unhide hz).trans (hb1.mono (unhide hz).size))
    clear hb1
    go_wp2_with fail
    go_ret
    rw [unhide hX]
    exact ⟨none, 0, rfl, Lst.nil _ _ _ _, by simp, unhide hb3⟩
end Go.Proofs.Ytfbgbbbfpkpfkaa
-- @@XTsD
/- StreamSteps: plain facts. -/
namespace Go.Proofs.Ytfbgbbbfpkpfkaa
open Go.RowKit
def cut8 (s : Stg) : Stg := (s.1.take 8, s.2.take 8)
def anyS (l : List Stg) : List Stg := (l.take 4).map cut8
theorem lst_to {w : World} {S : Nat → Prop} {a : Option Addr} {n : Nat} {l : List (List Sub)} (h : Lst Enc.lk w S a n l) : ∀ x ∈ l, ToI x := fun x hx s hs => by
  obtain ⟨k, hk, rfl⟩ := List.mem_iff_getElem.1 hx
  have hl := h.1
  obtain ⟨b, off, x, a', len', cap', rfl, _, hx', _, _, h2, _⟩ := lst_list h (show k < n by omega)
  rw [List.getElem?_eq_getElem hk] at hx'
  injection hx' with hx'
  rw [hx'] at hs
  obtain ⟨j, hj, rfl⟩ := List.mem_iff_getElem.1 hs
  have hl2 := h2.1
  obtain ⟨_, _, s', _, _, _, _, _, _, _, _, _, rfl, _, hs', _, _, _, hto, _⟩ := lst_sub h2 (show j < len' by omega)
  rw [List.getElem?_eq_getElem hj] at hs'
  injection hs' with hs'
  rw [hs']
  exact hto
theorem fewS3_small (l : List (List Sub)) : (fewS3 l).length ≤ 3 ∧ ∀ x ∈ fewS3 l, Small x := by
  refine ⟨by unfold fewS3; rw [List.length_map, List.length_take]; omega, fun x hx => ?_⟩
  unfold fewS3 at hx
  obtain ⟨y, _, rfl⟩ := List.mem_map.1 hx
  refine ⟨by unfold fewX4; rw [List.length_map, List.length_take]; omega, fun s hs => ?_⟩
  unfold fewX4 at hs
  obtain ⟨t, _, rfl⟩ := List.mem_map.1 hs
  simp only [fewSub4, List.length_take]
  omega
/-- a state that is small -/
def SmS (m : Nat) (ss : List Stg) : Prop := ss.length ≤ 4 ∧ tot ss [] ≤ 32 + m ∧ ∀ s ∈ ss, s.1.length ≤ 8
theorem SmS.start {n : Nat} (hn : n ≤ 3) : SmS 0 (List.replicate n ([], [])) := by
  refine ⟨by simp; omega, ?_, fun s hs => ?_⟩
  · have : ∀ m : Nat, tot (List.replicate m (([], []) : Stg)) [] = 0 := fun m => by simp [tot]
    rw [this]; omega
  · have := List.eq_of_mem_replicate hs
    rw [this]
    simp
theorem anyS_sm (l : List Stg) : SmS 0 (anyS l) := by
  have h : ∀ (m : List Stg), tot (m.map cut8) [] ≤ 8 * m.length := by
    intro m
    induction m with
    | nil => simp [tot]
    | cons s m ih =>
      rw [List.map_cons, tot_cons, List.length_cons]
      have : (cut8 s).2.length ≤ 8 := by simp only [cut8, List.length_take]; omega
      omega
  refine ⟨by unfold anyS; rw [List.length_map, List.length_take]; omega, ?_, fun s hs => ?_⟩
  · unfold anyS
    have := h (l.take 4)
    rw [List.length_take] at this
    omega
  · unfold anyS at hs
    obtain ⟨t, _, rfl⟩ := List.mem_map.1 hs
    simp only [cut8, List.length_take]
    omega
theorem SmS.feed {m : Nat} {l : List (List Sub)} {ss : List Stg} {g : Int} (h : SmS m ss) (hl : l.length ≤ 4) : SmS (m + 1) (feedX l ss g).1 ∧ (feedX l ss g).2.length ≤ 33 + m := by
  obtain ⟨h1, h2, h3⟩ := h
  unfold feedX
  split
  · rename_i he
    have ht := feedS_tot l ss g he
    have hb := feedS_back l ss g 8 (by omega) he h3
    have hn := feedS_len l ss g he
    obtain ⟨r, hr⟩ : ∃ r, feedS l ss g = r := ⟨_, rfl⟩
    rw [hr] at ht hb hn ⊢
    unfold tot at ht h2
    refine ⟨⟨by omega, ?_, hb⟩, ?_⟩
    · unfold tot
      simp only [List.length_nil] at *
      omega
    · simp only [List.length_nil] at *
      omega
  · refine ⟨⟨by simp, by simp [tot], fun s hs => by cases hs⟩, by simp⟩
theorem SmS.bd {m : Nat} {ss : List Stg} (h : SmS m ss) (hm : m ≤ 100) : (∀ s ∈ ss, s.1.length ≤ 300000) ∧ tot ss [] + 1 ≤ 200000 ∧ ∀ s ∈ ss, s.1.length ≤ 300000 ∧ s.2.length ≤ 300000 := by
  obtain ⟨h1, h2, h3⟩ := h
  refine ⟨fun s hs => by have := h3 s hs; omega, by omega, fun s hs => ⟨by have := h3 s hs; omega, ?_⟩⟩
  have := tot_mem hs []
  omega
theorem any_take {l : List Stg} {k : Nat} {s : Stg} (hs : l[k]? = some s) : (l.take (k + 1)).map cut8 = (l.take k).map cut8 ++ [cut8 s] := by
  rw [← take_snoc hs, List.map_append]
  rfl
theorem lst_take8 {w : World} {S : Nat → Prop} {a : Option Addr} {n : Nat} {l : List Int} (h : Lst Enc.int w S a n l) {k : Nat} (hk : min n 8 = k) : Lst Enc.int w S a k (l.take 8) := by
  have := h.take (k := k) (by omega)
  have hl := h.1
  rw [show l.take 8 = l.take k by rw [List.take_eq_take_min, hl, Nat.min_comm, hk]]
  exact this
/-- what the law's loops read -/
structure LwI (w : World) (b74 b10 : Nat) (ya : Option Addr) (yn yc : Nat) (AN : List Stg) (ca : Option Addr) (xn : Nat) (X : List Int) (fa : Option Addr) (fn : Nat) (FL : List (List Sub)) : Prop where
  ways : ∀ i, i < 2 → ∃ a n c L, w.cell? ⟨b74, i, none⟩ = some (.slice a n c) ∧ Lst Enc.lk w (fun b => b < w.heap.size) a n L ∧ n ≤ 3 ∧ (∀ x ∈ L, Small x) ∧ ∀ x ∈ L, ToI x
  any : w.cell? ⟨b10, 0, none⟩ = some (.slice ya yn yc)
  an : Lst Enc.stg w (fun b => b < w.heap.size) ya yn AN
  gl : Lst Enc.int w (fun b => b < w.heap.size) ca xn X
  raw : Lst Enc.lk w (fun b => b < w.heap.size) fa fn FL
theorem LwI.under {w wz : World} {b74 b10 yn yc xn fn : Nat} {ya ca fa : Option Addr} {AN : List Stg} {X : List Int} {FL : List (List Sub)} (h : LwI w b74 b10 ya yn yc AN ca xn X fa fn FL) (hb : Below w.heap.size w wz) : LwI wz b74 b10 ya yn yc AN ca xn X fa fn FL :=
  ⟨fun i hi => by
    obtain ⟨a, n, c, L, h1, h2, h3⟩ := h.ways i hi
    exact ⟨a, n, c, L, cell_under h1 hb, h2.under hb, h3⟩, cell_under h.any hb, h.an.under hb, h.gl.under hb, h.raw.under hb⟩
/-- the two states that a round begins with -/
def FwI (w : World) (b : Nat) : Prop := ∀ j, j < 2 → ∃ a m c ss, w.cell? ⟨b, j, none⟩ = some (.slice a m c) ∧ Lst Enc.stg w (fun b => b < w.heap.size) a m ss ∧ SmS 0 ss
theorem FwI.under {w wz : World} {b : Nat} (h : FwI w b) (hb : Below w.heap.size w wz) : FwI wz b := fun j hj => by
  obtain ⟨a, m, c, ss, h1, h2, h3⟩ := h j hj
  exact ⟨a, m, c, ss, cell_under h1 hb, h2.under hb, h3⟩
/-- two boxes are made, and the first one is written, in any order -/
structure CU (W0 : World) (V : Value) (LL : Nat → Bool) (vs : Nat → Value) (w' : World) : Prop where
  un : ∀ j, LL j = false → vs j = undef
  bel : Below W0.heap.size W0 w'
  s4 : LL 4 = true → LL 2 = true
  b2 : ∀ p, vs 2 = .pointer (some ⟨p, 0, none⟩) → W0.heap.size ≤ p ∧ w'.heap[p]? = some (.cells #[if LL 4 = true then V else .slice none 0 0] 29 (0, 0))
  b3 : ∀ p, vs 3 = .pointer (some ⟨p, 0, none⟩) → W0.heap.size ≤ p ∧ w'.heap[p]? = some (.cells #[.slice none 0 0] 29 (0, 0))
  ne : ∀ p q, vs 2 = .pointer (some ⟨p, 0, none⟩) → vs 3 = .pointer (some ⟨q, 0, none⟩) → p ≠ q
section
variable {W0 w : World} {V : Value} {LL : Nat → Bool} {vs : Nat → Value}
theorem CU.start (W0 : World) (V : Value) : CU W0 V (fun _ => false) (fun _ => undef) { W0 with drawn := W0.drawn + 1 } :=
  ⟨fun _ _ => rfl, (Below.refl _ _).drew, fun e => (by cases e), fun _ e => (by cases e), fun _ e => (by cases e), fun _ _ e => (by cases e)⟩
theorem CU.undo (h : CU W0 V LL vs w) (i : Nat) (v : Value) : ∀ j, (LL j || j == i) = false → (if j = i then v else vs j) = undef := fun j hj => by
  rw [Bool.or_eq_false_iff] at hj
  rw [if_neg (by simpa using hj.2)]
  exact h.un j hj.1
theorem CU.keep (h : CU W0 V LL vs w) (i : Nat) (v : Value) (hi : i < 2) : CU W0 V (fun j => LL j || j == i) (fun j => if j = i then v else vs j) w := by
  have e2 : (2 == i) = false := by simp; omega
  have e4 : (4 == i) = false := by simp; omega
  refine ⟨h.undo i v, h.bel, ?_, ?_, ?_, ?_⟩
  · simp only [e2, e4, Bool.or_false]; exact h.s4
  · simp only [e4, Bool.or_false, if_neg (show ¬ 2 = i by omega)]; exact h.b2
  · simp only [if_neg (show ¬ 3 = i by omega)]; exact h.b3
  · simp only [if_neg (show ¬ 2 = i by omega), if_neg (show ¬ 3 = i by omega)]; exact h.ne
theorem CU.a2 (h : CU W0 V LL vs w) (hL : LL 2 = false) : CU W0 V (fun j => LL j || j == 2) (fun j => if j = 2 then .pointer (some ⟨w.heap.size, 0, none⟩) else vs j) (w.alloc (.cells #[.slice none 0 0] 29)) := by
  have h4 : LL 4 = false := by cases e : LL 4 with
    | false => rfl
    | true => have := h.s4 e; rw [hL] at this; cases this
  have hb : Below w.heap.size w (w.alloc (.cells #[.slice none 0 0] 29)) := (Below.refl _ _).alloc (Nat.le_refl _) _
  refine ⟨h.undo 2 _, h.bel.trans (hb.mono h.bel.size), fun _ => by simp, fun p e => ?_, fun p e => ?_, fun p q e e2 => ?_⟩
  · rw [if_pos rfl] at e
    injection e with e; injection e with e; injection e with e
    subst e
    refine ⟨h.bel.size, ?_⟩
    simp only [h4, Bool.false_or, show (4 == 2) = false from rfl, Bool.false_eq_true, if_false]
    exact heap_alloc_new w _
  · rw [if_neg (by omega)] at e
    exact ⟨(h.b3 p e).1, kept' hb (h.b3 p e).2⟩
  · rw [if_pos rfl] at e
    rw [if_neg (by omega)] at e2
    injection e with e; injection e with e; injection e with e
    have := (Array.getElem?_eq_some_iff.1 (h.b3 q e2).2).1
    omega
theorem CU.a3 (h : CU W0 V LL vs w) : CU W0 V (fun j => LL j || j == 3) (fun j => if j = 3 then .pointer (some ⟨w.heap.size, 0, none⟩) else vs j) (w.alloc (.cells #[.slice none 0 0] 29)) := by
  have hb : Below w.heap.size w (w.alloc (.cells #[.slice none 0 0] 29)) := (Below.refl _ _).alloc (Nat.le_refl _) _
  refine ⟨h.undo 3 _, h.bel.trans (hb.mono h.bel.size), ?_, fun p e => ?_, fun p e => ?_, fun p q e e2 => ?_⟩
  · simp only [show (4 == 3) = false from rfl, show (2 == 3) = false from rfl, Bool.or_false]; exact h.s4
  · rw [if_neg (by omega)] at e
    refine ⟨(h.b2 p e).1, ?_⟩
    simp only [show (4 == 3) = false from rfl, Bool.or_false]
    exact kept' hb (h.b2 p e).2
  · rw [if_pos rfl] at e
    injection e with e; injection e with e; injection e with e
    subst e
    exact ⟨h.bel.size, heap_alloc_new w _⟩
  · rw [if_neg (by omega)] at e
    rw [if_pos rfl] at e2
    injection e2 with e2; injection e2 with e2; injection e2 with e2
    have := (Array.getElem?_eq_some_iff.1 (h.b2 p e).2).1
    omega
theorem CU.st (h : CU W0 V LL vs w) (v : Value) {p : Nat} (hp : vs 2 = .pointer (some ⟨p, 0, none⟩)) : CU W0 V (fun j => LL j || j == 4) (fun j => if j = 4 then v else vs j) (w.setCell ⟨p, 0, none⟩ V) := by
  have hL : LL 2 = true := by cases e : LL 2 with
    | true => rfl
    | false => have := h.un 2 e; rw [hp] at this; cases this
  obtain ⟨g1, g2⟩ := h.b2 p hp
  refine ⟨h.undo 4 v, h.bel.setCell (p := ⟨p, 0, none⟩) g1 V, fun _ => by simp [hL], fun q e => ?_, fun q e => ?_, ?_⟩
  · rw [if_neg (by omega), hp] at e
    injection e with e; injection e with e; injection e with e
    subst e
    refine ⟨g1, ?_⟩
    rw [heap_set g2 V]
    simp
  · rw [if_neg (by omega)] at e
    have hne := h.ne p q hp e
    exact ⟨(h.b3 q e).1, (heap_set_ne (fun e => hne e.symm)).trans (h.b3 q e).2⟩
  · simp only [if_neg (show ¬ 2 = 4 by omega), if_neg (show ¬ 3 = 4 by omega)]; exact h.ne
end
/-- a row of two states: the start, and any -/
def F2I (w0 w' : World) (n : Nat) (ya : Option Addr) (yn yc : Nat) (v : Value) : Prop :=
  ∃ b a', v = .slice (some ⟨b, 0, none⟩) 2 2 ∧ w0.heap.size ≤ b ∧ w'.heap[b]? = some (.cells #[.slice a' n n, .slice ya yn yc] 29 (0, 0)) ∧ Lst Enc.stg w' (fun b => b < w'.heap.size) a' n (List.replicate n ([], []))
theorem F2I.under {w0 wa wb : World} {n yn yc : Nat} {ya : Option Addr} {v : Value} (h : F2I w0 wa n ya yn yc v) (hb : Below wa.heap.size wa wb) : F2I w0 wb n ya yn yc v := by
  obtain ⟨b, a', h1, h2, h3, h4⟩ := h
  exact ⟨b, a', h1, h2, kept' hb h3, h4.under hb⟩
/-- the worlds of a region in which one store may have run; the operations bs run ahead of it -/
structure CS (W : World) (s : Nat) (bs : List Nat) (put : World → World) (LL : Nat → Bool) (vs : Nat → Value) (w' : World) : Prop where
  un : ∀ j, LL j = false → vs j = undef
  st : ∃ wz, Below W.heap.size W wz ∧ w' = if LL s = true then put wz else wz
  b1 : LL s = true → ∀ j ∈ bs, LL j = true
section
variable {W w w2 : World} {s : Nat} {bs : List Nat} {put : World → World} {LL : Nat → Bool} {vs : Nat → Value}
theorem CS.start (W : World) (s : Nat) (bs : List Nat) (put : World → World) : CS W s bs put (fun _ => false) (fun _ => undef) { W with drawn := W.drawn + 1 } :=
  ⟨fun _ _ => rfl, ⟨_, (Below.refl _ _).drew, rfl⟩, fun h => Bool.noConfusion h⟩
theorem CS.undo (h : CS W s bs put LL vs w) (i : Nat) (v : Value) : ∀ j, (LL j || j == i) = false → (if j = i then v else vs j) = undef := fun j hj => by
  rw [Bool.or_eq_false_iff] at hj
  rw [if_neg (by simpa using hj.2)]
  exact h.un j hj.1
theorem CS.keep (h : CS W s bs put LL vs w) (i : Nat) (v : Value) (hi : s ≠ i) : CS W s bs put (fun j => LL j || j == i) (fun j => if j = i then v else vs j) w := by
  have hs : (LL s || s == i) = LL s := by rw [beq_eq_false_iff_ne.2 hi, Bool.or_false]
  refine ⟨h.undo i v, ?_, fun e j hj => ?_⟩
  · rw [hs]
    exact h.st
  · rw [hs] at e
    rw [h.b1 e j hj, Bool.true_or]
theorem CS.calm (h : CS W s bs put LL vs w) (hs : LL s = false) : Below W.heap.size W w := by
  obtain ⟨wz, h1, h2⟩ := h.st
  rw [hs] at h2
  simp only [Bool.false_eq_true, if_false] at h2
  rw [h2]
  exact h1
theorem CS.early (h : CS W s bs put LL vs w) {j : Nat} (hj : LL j = false) (hm : j ∈ bs) : LL s = false ∧ Below W.heap.size W w := by
  have hs : LL s = false := by
    cases e : LL s with
    | false => rfl
    | true => have := h.b1 e j hm; rw [hj] at this; cases this
  exact ⟨hs, h.calm hs⟩
theorem CS.call (h : CS W s bs put LL vs w) (i : Nat) (v : Value) (hi : LL i = false) (hm : i ∈ bs) (hne : s ≠ i) (hb : Below w.heap.size w w2) : CS W s bs put (fun j => LL j || j == i) (fun j => if j = i then v else vs j) w2 := by
  obtain ⟨hs, h1⟩ := h.early hi hm
  have hs2 : (LL s || s == i) = false := by rw [hs, beq_eq_false_iff_ne.2 hne]; rfl
  refine ⟨h.undo i v, ⟨w2, h1.trans (hb.mono h1.size), ?_⟩, fun e => ?_⟩
  · rw [hs2]
    rfl
  · rw [hs2] at e; cases e
theorem CS.ran (h : CS W s bs put LL vs w) {j : Nat} (hj : vs j ≠ undef) : LL j = true := by
  cases e : LL j with
  | true => rfl
  | false => exact absurd (h.un j e) hj
theorem CS.store (h : CS W s bs put LL vs w) (v : Value) (hi : LL s = false) (hv : ∀ j ∈ bs, vs j ≠ undef) : CS W s bs put (fun j => LL j || j == s) (fun j => if j = s then v else vs j) (put w) :=
  ⟨h.undo s v, ⟨w, h.calm hi, by simp⟩, fun _ j hj => by rw [h.ran (hv j hj), Bool.true_or]⟩
theorem CS.fin (h : CS W s bs put LL vs w) (hs : LL s = true) : ∃ wz, Below W.heap.size W wz ∧ w = put wz := by
  obtain ⟨wz, h1, h2⟩ := h.st
  rw [if_pos hs] at h2
  exact ⟨wz, h1, h2⟩
end
def IsP (v : Value) : Prop := ∃ b, v = .pointer (some ⟨b, 0, none⟩)
/-- what a fact on a list says of a value -/
def IV (w : World) (l : List Int) (v : Value) : Prop := ∃ a c, v = .slice a l.length c ∧ Lst Enc.int w (fun b => b < w.heap.size) a l.length l ∧ l.length ≤ 200000
theorem IV.under {w wz : World} {l : List Int} {v : Value} (h : IV w l v) (hb : Below w.heap.size w wz) : IV wz l v := by
  obtain ⟨a, c, h1, h2, h3⟩ := h
  exact ⟨a, c, h1, h2.under hb, h3⟩
/-- what Start hands back -/
def SV (w : World) (n : Nat) (v : Value) : Prop := ∃ a c, v = .agg #[.slice a n c] ∧ Lst Enc.stg w (fun b => b < w.heap.size) a n (List.replicate n ([], []))
theorem SV.under {w wz : World} {n : Nat} {v : Value} (h : SV w n v) (hb : Below w.heap.size w wz) : SV wz n v := by
  obtain ⟨a, c, h1, h2⟩ := h
  exact ⟨a, c, h1, h2.under hb⟩
/-- the two states of a round, in boxes of their own -/
structure FeI (W w : World) (b18 b19 m : Nat) (a1 : Option Addr) (c1 : Nat) (a2 : Option Addr) (c2 : Nat) (ss : List Stg) : Prop where
  bel : Below W.heap.size W w
  h18 : W.heap.size ≤ b18
  h19 : W.heap.size ≤ b19
  ne : b18 ≠ b19
  x18 : w.heap[b18]? = some (.cells #[.slice a1 m c1] 29 (0, 0))
  x19 : w.heap[b19]? = some (.cells #[.slice a2 m c2] 29 (0, 0))
  l1 : Lst Enc.stg w (fun b => b ≠ b18 ∧ b ≠ b19 ∧ b < w.heap.size) a1 m ss
  l2 : Lst Enc.stg w (fun b => b ≠ b18 ∧ b ≠ b19 ∧ b < w.heap.size) a2 m ss
section
variable {W w wz : World} {b18 b19 m : Nat} {a1 a2 : Option Addr} {c1 c2 : Nat} {ss : List Stg}
theorem FeI.under (h : FeI W w b18 b19 m a1 c1 a2 c2 ss) (hb : Below w.heap.size w wz) : FeI W wz b18 b19 m a1 c1 a2 c2 ss :=
  ⟨h.bel.trans (hb.mono h.bel.size), h.h18, h.h19, h.ne, kept' hb h.x18, kept' hb h.x19, (h.l1.same (fun b hs => hb.block b hs.2.2)).wide (fun _ hs => ⟨hs.1, hs.2.1, Nat.lt_of_lt_of_le hs.2.2 hb.size⟩), (h.l2.same (fun b hs => hb.block b hs.2.2)).wide (fun _ hs => ⟨hs.1, hs.2.1, Nat.lt_of_lt_of_le hs.2.2 hb.size⟩)⟩
/-- both are written -/
theorem FeI.put (h : FeI W w b18 b19 m a1 c1 a2 c2 ss) {n : Nat} {a3 a4 : Option Addr} {c3 c4 : Nat} {tt : List Stg} (h1 : Lst Enc.stg w (fun b => b ≠ b18 ∧ b ≠ b19 ∧ b < w.heap.size) a3 n tt) (h2 : Lst Enc.stg w (fun b => b ≠ b18 ∧ b ≠ b19 ∧ b < w.heap.size) a4 n tt) :
    FeI W ((w.setCell ⟨b18, 0, none⟩ (.slice a3 n c3)).setCell ⟨b19, 0, none⟩ (.slice a4 n c4)) b18 b19 n a3 c3 a4 c4 tt := by
  have hsz : ((w.setCell ⟨b18, 0, none⟩ (.slice a3 n c3)).setCell ⟨b19, 0, none⟩ (.slice a4 n c4)).heap.size = w.heap.size := by rw [World.size_setCell, World.size_setCell]
  have hs : ∀ b, b ≠ b18 → b ≠ b19 → ((w.setCell ⟨b18, 0, none⟩ (.slice a3 n c3)).setCell ⟨b19, 0, none⟩ (.slice a4 n c4)).heap[b]? = w.heap[b]? := fun b e1 e2 => (heap_set_ne e2).trans (heap_set_ne e1)
  have hx : (w.setCell ⟨b18, 0, none⟩ (.slice a3 n c3)).heap[b19]? = some (.cells #[.slice a2 m c2] 29 (0, 0)) := (heap_set_ne (fun e => h.ne e.symm)).trans h.x19
  refine ⟨(h.bel.setCell (p := ⟨b18, 0, none⟩) h.h18 _).setCell (p := ⟨b19, 0, none⟩) h.h19 _, h.h18, h.h19, h.ne, ?_, ?_, (h1.same (fun b hb => hs b hb.1 hb.2.1)).wide (fun b hb => ⟨hb.1, hb.2.1, by rw [hsz]; exact hb.2.2⟩), (h2.same (fun b hb => hs b hb.1 hb.2.1)).wide (fun b hb => ⟨hb.1, hb.2.1, by rw [hsz]; exact hb.2.2⟩)⟩
  · rw [heap_set_ne h.ne, heap_set h.x18]; rfl
  · rw [heap_set hx]; rfl
end
end Go.Proofs.Ytfbgbbbfpkpfkaa
