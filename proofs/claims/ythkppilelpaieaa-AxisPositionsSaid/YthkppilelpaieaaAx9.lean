/- Axes: the reference's Normal. -/
import Derived.Test.YthkppilelpaieaaAx8
import Derived.Test.YthkppilelpaieaaSbR
namespace Go.Proofs.Ythkppilelpaieaa
open Go.RowKit
def normL (l : List Axis) (u : List Int) : List Int := List.zipWith normA l u
def normS (l : List Axis) (u : List Int) : List Int × Int := if axCheck l = 0 then (if u.length = l.length then (normL l u, 0) else ([], 1)) else ([], axCheck l)
theorem normL_len {l : List Axis} {u : List Int} (h : u.length = l.length) : (normL l u).length = l.length := by unfold normL; rw [List.length_zipWith, h, Nat.min_self]
theorem normL_snoc {l : List Axis} {u : List Int} {k : Nat} {a : Axis} {y : Int} (h1 : l[k]? = some a) (h2 : u[k]? = some y) : (normL l u).take k ++ [normA a y] = (normL l u).take (k + 1) := by
  refine take_snoc ?_
  unfold normL
  rw [List.getElem?_zipWith, h1, h2]
theorem normL_i64 {l : List Axis} {u : List Int} (h : ∀ (k : Nat) a, l[k]? = some a → AxV a) : AllI (normL l u) := fun y hy => by
  obtain ⟨k, hk, rfl⟩ := List.mem_iff_getElem.1 hy
  have hk' : k < l.length ∧ k < u.length := by unfold normL at hk; rw [List.length_zipWith] at hk; omega
  have he : (normL l u)[k]? = some (normA (l[k]'hk'.1) (u[k]'hk'.2)) := by unfold normL; rw [List.getElem?_zipWith, List.getElem?_eq_getElem hk'.1, List.getElem?_eq_getElem hk'.2]
  have h2 := Option.some.inj ((List.getElem?_eq_getElem hk).symm.trans he)
  rw [h2]
  have := normA_i64 (h k _ (List.getElem?_eq_getElem hk'.1)) (u[k]'hk'.2)
  exact ⟨by omega, by omega⟩
theorem normS_i64 {l : List Axis} {u : List Int} : AllI (normS l u).1 := by
  unfold normS
  split
  · split
    · exact normL_i64 (axCheck_v ‹_›).2
    · intro y hy; cases hy
  · intro y hy; cases hy
theorem normS_err {l : List Axis} {u : List Int} (h : axCheck l ≠ 0) : normS l u = ([], axCheck l) := if_neg h
theorem normS_len {l : List Axis} {u : List Int} (h : axCheck l = 0) (h2 : u.length ≠ l.length) : normS l u = ([], 1) := by unfold normS; rw [if_pos h, if_neg h2]
theorem normS_ok {l : List Axis} {u : List Int} (h : axCheck l = 0) (h2 : u.length = l.length) : normS l u = (normL l u, 0) := by unfold normS; rw [if_pos h, if_pos h2]
set_option maxHeartbeats 4000000 in
set_option maxRecDepth 100000 in
theorem rNormal_any (a : Option Addr) (n c : Nat) (l : List Axis) (ua : Option Addr) (un uc : Nat) (u : List Int) (w : World) (hl : Lst Enc.axis w (· < w.heap.size) a n l) (hu : Lst Enc.int w (· < w.heap.size) ua un u) (hn : n ≤ 1000000000000) (hun : un ≤ 1000000000000) :
    Calls Try.prog 12 #[.slice a n c, .slice ua un uc] w fun e w' => ∃ v m, e = .returned (.tuple #[v, .int .i64 (normS l u).2]) ∧ w'.ownsRow w.heap.size 3 1 v m (vints (normS l u).1) ∧ Below w.heap.size w w' := by
  have hc := rcheck_any a n c l w hl hn
  have hll := hl.1
  have hul := hu.1
  by_cases h0 : axCheck l = 0
  · obtain ⟨h3, hv⟩ := axCheck_v h0
    rw [h0] at hc
    by_cases h1 : un = n
    · subst h1
      rw [normS_ok h0 (by omega)]
      show Calls _ _ _ w fun e w' => ∃ v m, e = .returned (.tuple #[v, .int .i64 0]) ∧ w'.ownsRow w.heap.size 3 1 v m (vints (normL l u)) ∧ Below w.heap.size w w'
      obtain ⟨n, hnn⟩ : ∃ n, un = n := ⟨_, rfl⟩
      subst hnn
      obtain ⟨n, rfl⟩ : ∃ n, n = un := ⟨_, rfl⟩
      have hne : ((n : Int) != (n : Int)) = false := bne_self_eq_false _
      have hn3 : n ≤ 3 := by omega
      replace hll := hide hll; replace hul := hide hul; replace hl := hide hl; replace hu := hide hu; replace hv := hide hv; replace h0 := hide h0; replace hc := hide hc
      go_enter Try.func12, Try.ntmps12
      go_wp2_with fail
      refine (unhide hc).mono ?_
      rintro e w1 ⟨rfl, hb⟩
      clear hc
      replace hb := hide hb
      go_wp2_with fail
      go_loopw [7, 8] (fun v7 v wr => ∃ k : Nat, k ≤ n ∧ v = .int .i64 (k : Int) ∧ wr.ownsRow w.heap.size 3 1 v7 k (vints ((normL l u).take k)) ∧ Below w.heap.size w wr) (fun _ v _ => n - (intOf v).toNat)
      case atStart => exact ⟨0, by omega, rfl, World.ownsRow_nil _ _ _ _, unhide hb⟩
      case round =>
        obtain ⟨k, hk, rfl, hrow, hbw⟩ := hrel
        by_cases hlt : k < n
        · obtain ⟨b1, o1, t, rfl, _, hx, _, _, _, _, c0, c1, c2, c3⟩ := lst_axis ((unhide hl).under hbw) hlt
          obtain ⟨b2, o2, y, rfl, _, hy, _, c4⟩ := lst_int ((unhide hu).under hbw) hlt
          have hvt := unhide hv k t hx
          have hsn := normL_snoc hx hy
          have hcn := fun w => rnormal_any t y w hvt
          obtain ⟨s, lo, us, hi⟩ := t
          obtain ⟨r, hr⟩ : ∃ r, normA (s, lo, us, hi) y = r := ⟨_, rfl⟩
          simp only [hr] at c0 c1 c2 c3 hcn hsn
          obtain ⟨Nk, hNk⟩ : ∃ Nk, (normL l u).take k = Nk := ⟨_, rfl⟩
          rw [hNk] at hrow hsn
          have t1 : (k : Int) < (n : Int) := by omega
          have t2 : ¬ (n : Int) ≤ (k : Int) := by omega
          clear hx hy hvt hr hNk
          replace hrow := hide hrow; replace hbw := hide hbw; replace hcn := hide hcn; replace hsn := hide hsn
          go_wp2_with fail
          refine wp_region_frontG 11 (fun _ _ w' => Below wr.heap.size wr w') (fun wa wb => Below wa.heap.size wa wb)
            (fun ix v w' => match ix with
              | 0 => v = u7
              | 1 => v = .slice (some ⟨b1, o1, none⟩) n c
              | 2 => v = .int .i64 (k : Int)
              | 3 => v = .pointer (some ⟨b1, o1 + k * 4, none⟩)
              | 4 => v = .agg #[.string s, .int .i64 lo, .int .i64 us, .int .i64 hi]
              | 5 => v = .slice (some ⟨b2, o2, none⟩) n uc
              | 6 => v = .int .i64 (k : Int)
              | 7 => v = .pointer (some ⟨b2, o2 + k, none⟩)
              | 8 => v = .int .i64 y
              | 9 => v = .int .i64 r
              | 10 => ∃ b, v = .slice (some ⟨b, 0, none⟩) 1 1 ∧ w'.heap[b]? = some (.cells #[.int .i64 r] 3 (0, 0))
              | _ => True) (by rfl) (by kernel_rfl) ?_ ?_ ?_ ?_
          · exact (Below.refl _ _).drew
          · intro wa wb hR ix v hv
            match ix, hv with
            | 0, h => exact h
            | 1, h => exact h
            | 2, h => exact h
            | 3, h => exact h
            | 4, h => exact h
            | 5, h => exact h
            | 6, h => exact h
            | 7, h => exact h
            | 8, h => exact h
            | 9, h => exact h
            | 10, h => obtain ⟨b, h1, h2⟩ := h; exact ⟨b, h1, (hR.block b (Array.getElem?_eq_some_iff.1 h2).1).trans h2⟩
            | _ + 11, _ => trivial
          · intro ix hix
            obtain rfl | rfl | rfl | rfl | rfl | rfl | rfl | rfl | rfl | rfl | rfl : ix = 0 ∨ ix = 1 ∨ ix = 2 ∨ ix = 3 ∨ ix = 4 ∨ ix = 5 ∨ ix = 6 ∨ ix = 7 ∨ ix = 8 ∨ ix = 9 ∨ ix = 10 := by omega
            · refine FrontStep.of [] _ rfl (by kernel_rfl) ?_
              intro vs LL wq hLL hC hf
              simp only [putL, List.foldl_nil]
              go_wp2_with fail
              first | exact ⟨hC, Below.refl _ _⟩ | exact ⟨hC, Below.refl _ _, by omega⟩ | exact hC | exact Below.refl _ _
            · refine FrontStep.of [] _ rfl (by kernel_rfl) ?_
              intro vs LL wq hLL hC hf
              simp only [putL, List.foldl_nil]
              go_wp2_with fail
              first | exact ⟨hC, Below.refl _ _⟩ | exact ⟨hC, Below.refl _ _, by omega⟩ | exact hC | exact Below.refl _ _
            · refine FrontStep.of [] _ rfl (by kernel_rfl) ?_
              intro vs LL wq hLL hC hf
              simp only [putL, List.foldl_nil]
              go_wp2_with fail
              first | exact ⟨hC, Below.refl _ _⟩ | exact ⟨hC, Below.refl _ _, by omega⟩ | exact hC | exact Below.refl _ _
            · refine FrontStep.of [1, 2] _ rfl (by kernel_rfl) ?_
              intro vs LL wq hLL hC hf
              simp only [putL, List.foldl_nil, List.foldl_cons, List.getElem?_cons_zero, List.getElem?_cons_succ]
              have e1 : vs 1 = _ := hf 1 (by simp)
              rw [e1]
              have e2 : vs 2 = _ := hf 2 (by simp)
              rw [e2]
              go_wp2_with fail
              first | exact ⟨hC, Below.refl _ _⟩ | exact ⟨hC, Below.refl _ _, by omega⟩ | exact hC | exact Below.refl _ _
            · refine FrontStep.of [3] _ rfl (by kernel_rfl) ?_
              intro vs LL wq hLL hC hf
              simp only [putL, List.foldl_nil, List.foldl_cons, List.getElem?_cons_zero, List.getElem?_cons_succ]
              have e3 : vs 3 = _ := hf 3 (by simp)
              rw [e3]
              have d0 := cell_under c0 hC
              have d1 := cell_under c1 hC
              have d2 := cell_under c2 hC
              have d3 := cell_under c3 hC
              go_wp2_with fail
              first | exact ⟨hC, Below.refl _ _⟩ | exact ⟨hC, Below.refl _ _, by omega⟩ | exact hC | exact Below.refl _ _
            · refine FrontStep.of [] _ rfl (by kernel_rfl) ?_
              intro vs LL wq hLL hC hf
              simp only [putL, List.foldl_nil]
              go_wp2_with fail
              first | exact ⟨hC, Below.refl _ _⟩ | exact ⟨hC, Below.refl _ _, by omega⟩ | exact hC | exact Below.refl _ _
            · refine FrontStep.of [] _ rfl (by kernel_rfl) ?_
              intro vs LL wq hLL hC hf
              simp only [putL, List.foldl_nil]
              go_wp2_with fail
              first | exact ⟨hC, Below.refl _ _⟩ | exact ⟨hC, Below.refl _ _, by omega⟩ | exact hC | exact Below.refl _ _
            · refine FrontStep.of [5, 6] _ rfl (by kernel_rfl) ?_
              intro vs LL wq hLL hC hf
              simp only [putL, List.foldl_nil, List.foldl_cons, List.getElem?_cons_zero, List.getElem?_cons_succ]
              have e5 : vs 5 = _ := hf 5 (by simp)
              rw [e5]
              have e6 : vs 6 = _ := hf 6 (by simp)
              rw [e6]
              go_wp2_with fail
              first | exact ⟨hC, Below.refl _ _⟩ | exact ⟨hC, Below.refl _ _, by omega⟩ | exact hC | exact Below.refl _ _
            · refine FrontStep.of [7] _ rfl (by kernel_rfl) ?_
              intro vs LL wq hLL hC hf
              simp only [putL, List.foldl_nil, List.foldl_cons, List.getElem?_cons_zero, List.getElem?_cons_succ]
              have e7 : vs 7 = _ := hf 7 (by simp)
              rw [e7]
              have d4 := cell_under c4 hC
              go_wp2_with fail
              first | exact ⟨hC, Below.refl _ _⟩ | exact ⟨hC, Below.refl _ _, by omega⟩ | exact hC | exact Below.refl _ _
            · refine FrontStep.of [4, 8] _ rfl (by kernel_rfl) ?_
              intro vs LL wq hLL hC hf
              simp only [putL, List.foldl_nil, List.foldl_cons, List.getElem?_cons_zero, List.getElem?_cons_succ]
              have e4 : vs 4 = _ := hf 4 (by simp)
              rw [e4]
              have e8 : vs 8 = _ := hf 8 (by simp)
              rw [e8]
              have hcq := unhide hcn wq
              replace hcq := hide hcq
              go_wp2_with fail
              refine (unhide hcq).mono ?_
              rintro e wz ⟨rfl, hbz⟩
              go_wp2_with fail
              first | exact ⟨hC.trans (hbz.mono hC.size), hbz⟩ | exact hC.trans (hbz.mono hC.size)
            · refine FrontStep.of [9] _ rfl (by kernel_rfl) ?_
              intro vs LL wq hLL hC hf
              simp only [putL, List.foldl_nil, List.foldl_cons, List.getElem?_cons_zero, List.getElem?_cons_succ]
              have e9 : vs 9 = _ := hf 9 (by simp)
              rw [e9]
              go_wp2_with fail
              have hn := heap_alloc_new wq (Obj.cells #[.int .i64 r] 3)
              have hb1 := (Below.refl wq.heap.size wq).alloc (Nat.le_refl _) (Obj.cells #[.int .i64 r] 3)
              first | exact ⟨hC.trans (hb1.mono hC.size), hb1, _, rfl, hn⟩ | exact ⟨hC.trans (hb1.mono hC.size), hb1, hn⟩ | exact ⟨hC.trans (hb1.mono hC.size), hb1, (Array.getElem?_eq_some_iff.1 hn).2⟩
          · intro vs LL wq hLL hC hf
            obtain ⟨bn, e10, hbn⟩ := hf 10 (by omega)
            have e0 : vs 0 = _ := hf 0 (by omega)
            rw [putSome_all]
            simp only [putL, List.range, List.range.loop, List.foldl_nil, List.foldl_cons, List.getElem?_cons_zero, List.getElem?_cons_succ, List.drop_succ_cons, List.drop_zero]
            rw [e0, e10]
            clear e0 e10 hf hLL
            have hrow2 := own_belowb (unhide hrow) hC
            have hbz := (unhide hbw).trans (hC.mono (unhide hbw).size)
            have hsz := hbz.size
            clear hrow hbw hC hcn c0 c1 c2 c3 c4
            replace hrow2 := hide hrow2; replace hbz := hide hbz
            go_simp
            go_wp2_with (at_builtin; refine wpList_append_one rfl _ _ rfl w.heap.size _ _ Nk rfl (unhide hrow2) _ r rfl hbn ?ha ?hb ?_)
            try (case ha => omega)
            try (case hb => exact hsz)
            intro v' wz hrow3 hg3 _
            have hb4 := (unhide hbz).trans (row_below (unhide hrow2) (unhide hbz).size hg3)
            rw [unhide hsn] at hrow3
            clear hrow2 hbz hg3 hsz hbn hsn
            replace hrow3 := hide hrow3; replace hb4 := hide hb4
            go_wp2_with fail
            go_roundw
            case rel => exact ⟨k + 1, by omega, by go_num, unhide hrow3, unhide hb4⟩
            case measure => simp [intOf]; omega
        · have hke : k = n := by omega
          subst hke
          have hfin : (normL l u).take k = normL l u := List.take_of_length_le (by rw [normL_len (by rw [unhide hul, unhide hll]), unhide hll]; exact Nat.le_refl _)
          rw [hfin] at hrow
          replace hrow := hide hrow; replace hbw := hide hbw
          go_wp2_with fail
          go_ret2
          exact ⟨_, _, rfl, unhide hrow, unhide hbw⟩
    · rw [normS_len h0 (by omega)]
      have hne : ((un : Int) != (n : Int)) = true := by rw [bne_iff_ne]; omega
      clear hl hu hv
      replace hll := hide hll; replace hul := hide hul; replace h0 := hide h0; replace hc := hide hc
      go_enter Try.func12, Try.ntmps12
      go_wp2_with fail
      refine (unhide hc).mono ?_
      rintro e w1 ⟨rfl, hb⟩
      clear hc
      replace hb := hide hb
      go_wp2_with fail
      go_ret2
      exact ⟨_, 0, rfl, World.ownsRow_nil _ _ _ _, unhide hb⟩
  · rw [normS_err h0]
    obtain ⟨q, hq⟩ : ∃ q, axCheck l = q := ⟨_, rfl⟩
    rw [hq] at h0 hc ⊢
    have hne : (q != 0) = true := by rw [bne_iff_ne]; exact h0
    clear hl hu hq
    replace hll := hide hll; replace hul := hide hul; replace h0 := hide h0; replace hc := hide hc
    go_enter Try.func12, Try.ntmps12
    go_wp2_with fail
    refine (unhide hc).mono ?_
    rintro e w1 ⟨rfl, hb⟩
    clear hc
    replace hb := hide hb
    go_wp2_with fail
    go_ret2
    exact ⟨_, 0, rfl, World.ownsRow_nil _ _ _ _, unhide hb⟩
end Go.Proofs.Ythkppilelpaieaa
