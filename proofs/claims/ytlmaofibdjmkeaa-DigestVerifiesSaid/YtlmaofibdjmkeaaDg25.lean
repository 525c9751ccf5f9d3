/- DigestVerifies. -/
import Derived.Test.YtlmaofibdjmkeaaDg24
namespace Go.Proofs.Ytlmaofibdjmkeaa
open Go.RowKit
attribute [local go_sem ↓] Go.wp_at_zero Go.wp_at_succ
set_option maxRecDepth 100000 in
set_option maxHeartbeats 16000000 in
theorem digestVerifies_any (a : Option Addr) (n0 c0 : Nat) (l0 : List ByteArray) (cs1 : Array Value) (y1 : List Int) (cs2 : Array Value) (y2 : ByteArray × (Int × Int)) (cs3 : Array Value) (y3 : List ByteArray × Int) (w : World)
    (hl : Lst Enc.str w (fun b => b < w.heap.size) a n0 l0) (_ : n0 ≤ c0) (_ : c0 ≤ maxLen)
    (hy1 : (Enc.arr 2 (Enc.num .u8 0 255)).rep w (fun b => b < w.heap.size) cs1.toList y1) (hy2 : EOther.rep w (fun b => b < w.heap.size) cs2.toList y2) (hy3 : (Enc.pair (Enc.list Enc.str) Enc.int).rep w (fun b => b < w.heap.size) cs3.toList y3) :
    Calls Try.prog 7 #[.slice a n0 c0, .agg cs1, .agg cs2, .agg cs3] w fun e w' => e = .returned (.bool true) ∧ Below w.heap.size w w' := by
  obtain ⟨p, c, hp, hc, hyS, rfl⟩ := other_open hy2
  obtain ⟨a0, a1, ha0, ha0', ha1, ha1', rfl⟩ := arr2_open hy1
  obtain ⟨ra, rn, rc, hrn, hrc, hrl, hrAt, rfl⟩ := proof_open hy3
  obtain ⟨A0, rfl⟩ := Int.eq_ofNat_of_zero_le ha0
  obtain ⟨A1, rfl⟩ := Int.eq_ofNat_of_zero_le ha1
  clear hy1 hy2 hy3 ha0 ha1
  unfold maxLen at hrc
  obtain ⟨rAt, hrAte⟩ : ∃ r, y3.2 = r := ⟨_, rfl⟩
  obtain ⟨RL, hRL⟩ : ∃ r, y3.1 = r := ⟨_, rfl⟩
  rw [hrAte] at hrAt ⊢
  rw [hRL] at hrl
  obtain ⟨S, hS⟩ : ∃ S, y2.1 = S := ⟨_, rfl⟩
  rw [hS] at hyS ⊢
  clear hS hRL hrAte
  unfold maxLen at hyS
  obtain ⟨i1, hi1, hz0, hz1, hz2⟩ := info_parts info_str
  replace hi1 := hide hi1; replace hz0 := hide hz0; replace hz1 := hide hz1; replace hz2 := hide hz2
  have hsan := fun w => dsanity_any w
  have hls := fun w hl => dlist_any a n0 c0 l0 w hl
  replace hsan := hide hsan; replace hls := hide hls; replace hl := hide hl; replace hrl := hide hrl
  obtain ⟨bx, hbx⟩ : ∃ bx, bx = w.heap.size := ⟨_, rfl⟩
  obtain ⟨wo, hwo⟩ : ∃ wo, wo = ((w.alloc (Obj.cells #[.int .u8 (A0 : Int), .int .u8 (A1 : Int)] 41)).alloc (Obj.cells #[.string S, .int .u8 (p : Int), .int .u8 (c : Int)] 27)).alloc (Obj.cells #[.slice ra rn rc, .int .i64 rAt] 43) := ⟨_, rfl⟩
  have hrow1 : wo.heap[bx]? = some (.cells #[.int .u8 (A0 : Int), .int .u8 (A1 : Int)] 41 (0, 0)) := by
    rw [hwo, hbx]
    exact (Below.heap_alloc _ _ _ (by simp; omega)).trans ((Below.heap_alloc _ _ _ (by simp)).trans (heap_alloc_new w _))
  have hrow2 : wo.heap[bx + 1]? = some (.cells #[.string S, .int .u8 (p : Int), .int .u8 (c : Int)] 27 (0, 0)) := by
    rw [hwo, hbx]
    have := heap_alloc_new (w.alloc (Obj.cells #[.int .u8 (A0 : Int), .int .u8 (A1 : Int)] 41)) (Obj.cells #[.string S, .int .u8 (p : Int), .int .u8 (c : Int)] 27)
    rw [World.size_alloc] at this
    exact (Below.heap_alloc _ _ _ (by simp)).trans this
  have hrow3 : wo.heap[bx + 1 + 1]? = some (.cells #[.slice ra rn rc, .int .i64 rAt] 43 (0, 0)) := by
    rw [hwo, hbx]
    have := heap_alloc_new ((w.alloc (Obj.cells #[.int .u8 (A0 : Int), .int .u8 (A1 : Int)] 41)).alloc (Obj.cells #[.string S, .int .u8 (p : Int), .int .u8 (c : Int)] 27)) (Obj.cells #[.slice ra rn rc, .int .i64 rAt] 43)
    rwa [World.size_alloc, World.size_alloc] at this
  have hb0 : Below w.heap.size w wo := by rw [hwo]; exact (((Below.refl _ _).alloc (Nat.le_refl _) _).alloc (by simp) _).alloc (by simp; omega) _
  have hbl3 : bx + 1 + 1 < wo.heap.size := (Array.getElem?_eq_some_iff.1 hrow3).1
  replace hwo := hide hwo; replace hb0 := hide hb0; replace hrow1 := hide hrow1; replace hrow2 := hide hrow2; replace hrow3 := hide hrow3; replace hbx := hide hbx
  go_enter Try.func7, Try.ntmps7
  go_wp2_with fail
  rw [← unhide hwo, ← unhide hbx]
  go_wp2_with fail
  refine (unhide hsan _).mono ?_
  rintro e w1 ⟨rfl, h1⟩
  go_wp2_with fail
  refine (unhide hls _ (((unhide hl).under (unhide hb0)).under h1)).mono ?_
  rintro e w2 ⟨⟨pa, pc, rfl, hL0⟩, h2⟩
  have hL := hL0.wide (S' := fun b => b < w2.heap.size) (fun b h => h.1)
  have hB := h1.trans (h2.mono h1.size)
  have hlen : (Dg.cutL l0).length ≤ 20 := by rw [cutL_len]; omega
  have hsz := cutL_sizes l0
  obtain ⟨L, hLe⟩ : ∃ L, Dg.cutL l0 = L := ⟨_, rfl⟩
  obtain ⟨N, hN⟩ : ∃ N, (Dg.cutL l0).length = N := ⟨_, rfl⟩
  rw [hN] at hlen hL ⊢
  rw [hLe] at hL hsz hN
  have hRl2 := (((unhide hrl).under (unhide hb0)).under h1).under h2
  clear h1 h2 hL0 hls hsan hl hLe hrl
  obtain ⟨i, hi⟩ : ∃ i, A0 % 40 = i := ⟨_, rfl⟩
  have hi40 : i < 40 := by omega
  have ti : (A0 : Int) % 40 = (i : Int) := by omega
  have ti' : Int.tmod (A0 : Int) 40 = (i : Int) := by rw [← hi]; rfl
  obtain ⟨k, hk⟩ : ∃ k, A1 % 40 = k := ⟨_, rfl⟩
  have hk40 : k < 40 := by omega
  have tk : (A1 : Int) % 40 = (k : Int) := by omega
  have tk' : Int.tmod (A1 : Int) 40 = (k : Int) := by rw [← hk]; rfl
  have hr1 := (hB.block bx (by omega)).trans (unhide hrow1)
  have hr2 := (hB.block (bx + 1) (by omega)).trans (unhide hrow2)
  have hr3 := (hB.block (bx + 1 + 1) (by omega)).trans (unhide hrow3)
  have hbl3' : bx + 1 + 1 < w2.heap.size := (Array.getElem?_eq_some_iff.1 hr3).1
  have hbl' : bx < w2.heap.size := by omega
  have hA0 : w2.cell? ⟨bx, 0, none⟩ = some (.int .u8 (A0 : Int)) := (cell_of_row _ _ 0 _ _ _ hr1).trans rfl
  have hA1 : w2.cell? ⟨bx, 1, none⟩ = some (.int .u8 (A1 : Int)) := (cell_of_row _ _ 1 _ _ _ hr1).trans rfl
  have hBF := hide ((unhide hb0).trans (hB.mono (unhide hb0).size))
  have hLst := hide hL; clear hL hr1 hB hrow1 hrow2 hrow3
  replace hr2 := hide hr2; replace hr3 := hide hr3; replace hRl2 := hide hRl2
  replace hsz := hide hsz; replace hN := hide hN; replace hi := hide hi; replace hk := hide hk
  go_wp2_with fail
  refine wp_region_frontG 9 (fun _ _ w' => Below w2.heap.size w2 w') (fun wa wb => Below wa.heap.size wa wb)
    (fun ix v w' => match ix with
      | 0 => v = .pointer (some ⟨bx, 0, none⟩)
      | 1 => v = .int .u8 (A0 : Int)
      | 2 => v = .int .i64 (A0 : Int)
      | 3 => v = .int .i64 (i : Int)
      | 4 => v = .pointer (some ⟨bx, 1, none⟩)
      | 5 => v = .int .u8 (A1 : Int)
      | 6 => v = .int .i64 (A1 : Int)
      | 7 => v = .int .i64 (k : Int)
      | 8 => v = .int .i64 (i : Int)
      | _ => True) (by rfl) (by kernel_rfl) ?_ ?_ ?_ ?_
  · exact (Below.refl _ _).drew
  · intro wa wb hR ix v hv
    match ix, hv with
    | 0, h => exact h
    | 1, h => exact h
    | 2, h => exact h
    | 3, h => exact h
    | 4, h => exact h
    | 5, h => exact h
    | 6, h => exact h
    | 7, h => exact h
    | 8, h => exact h
    | _ + 9, _ => trivial
  · intro ix hix
    obtain rfl | rfl | rfl | rfl | rfl | rfl | rfl | rfl | rfl : ix = 0 ∨ ix = 1 ∨ ix = 2 ∨ ix = 3 ∨ ix = 4 ∨ ix = 5 ∨ ix = 6 ∨ ix = 7 ∨ ix = 8 := by omega
    · refine FrontStep.of [] _ rfl (by kernel_rfl) ?_
      intro vs LL wq hLL hC hf
      simp only [putL, List.foldl_nil]
      go_wp2_with fail
      first | exact Below.refl _ _ | exact ⟨Below.refl _ _, by omega⟩
    · refine FrontStep.of [0] _ rfl (by kernel_rfl) ?_
      intro vs LL wq hLL hC hf
      simp only [putL, List.foldl_nil, List.foldl_cons, List.getElem?_cons_zero]
      have e0 : vs 0 = _ := hf 0 (by simp)
      rw [e0]
      have hcq := (hC.cell (p := ⟨bx, 0, none⟩) hbl').trans hA0
      go_wp2_with fail
      first | exact Below.refl _ _ | exact ⟨Below.refl _ _, by omega⟩
    · refine FrontStep.of [1] _ rfl (by kernel_rfl) ?_
      intro vs LL wq hLL hC hf
      simp only [putL, List.foldl_nil, List.foldl_cons, List.getElem?_cons_zero, List.getElem?_cons_succ]
      have e1 : vs 1 = _ := hf 1 (by simp)
      rw [e1]
      go_wp2_with fail
      first | exact Below.refl _ _ | exact ⟨Below.refl _ _, by omega⟩
    · refine FrontStep.of [2] _ rfl (by kernel_rfl) ?_
      intro vs LL wq hLL hC hf
      simp only [putL, List.foldl_nil, List.foldl_cons, List.getElem?_cons_zero, List.getElem?_cons_succ]
      have e2 : vs 2 = _ := hf 2 (by simp)
      rw [e2]
      go_wp2_with fail
      first | exact Below.refl _ _ | exact ⟨Below.refl _ _, by omega⟩
    · refine FrontStep.of [] _ rfl (by kernel_rfl) ?_
      intro vs LL wq hLL hC hf
      simp only [putL, List.foldl_nil]
      go_wp2_with fail
      first | exact Below.refl _ _ | exact ⟨Below.refl _ _, by omega⟩
    · refine FrontStep.of [4] _ rfl (by kernel_rfl) ?_
      intro vs LL wq hLL hC hf
      simp only [putL, List.foldl_nil, List.foldl_cons, List.getElem?_cons_zero, List.getElem?_cons_succ]
      have e4 : vs 4 = _ := hf 4 (by simp)
      rw [e4]
      have hcq := (hC.cell (p := ⟨bx, 1, none⟩) hbl').trans hA1
      go_wp2_with fail
      first | exact Below.refl _ _ | exact ⟨Below.refl _ _, by omega⟩
    · refine FrontStep.of [5] _ rfl (by kernel_rfl) ?_
      intro vs LL wq hLL hC hf
      simp only [putL, List.foldl_nil, List.foldl_cons, List.getElem?_cons_zero, List.getElem?_cons_succ]
      have e5 : vs 5 = _ := hf 5 (by simp)
      rw [e5]
      go_wp2_with fail
      first | exact Below.refl _ _ | exact ⟨Below.refl _ _, by omega⟩
    · refine FrontStep.of [6] _ rfl (by kernel_rfl) ?_
      intro vs LL wq hLL hC hf
      simp only [putL, List.foldl_nil, List.foldl_cons, List.getElem?_cons_zero, List.getElem?_cons_succ]
      have e6 : vs 6 = _ := hf 6 (by simp)
      rw [e6]
      go_wp2_with fail
      first | exact Below.refl _ _ | exact ⟨Below.refl _ _, by omega⟩
    · refine FrontStep.of [0, 1, 2, 3] _ rfl (by kernel_rfl) ?_
      intro vs LL wq hLL hC hf
      simp only [putL, List.foldl_nil, List.foldl_cons, List.getElem?_cons_zero, List.getElem?_cons_succ]
      have e0 : vs 0 = _ := hf 0 (by simp)
      rw [e0]
      have e1 : vs 1 = _ := hf 1 (by simp)
      rw [e1]
      have e2 : vs 2 = _ := hf 2 (by simp)
      rw [e2]
      have e3 : vs 3 = _ := hf 3 (by simp)
      rw [e3]
      go_wp2_with fail
      first | exact Below.refl _ _ | exact ⟨Below.refl _ _, by omega⟩
  · intro vs LL wq hLL hC hf
    have e8 : vs 8 = _ := hf 8 (by omega)
    have e7 : vs 7 = _ := hf 7 (by omega)
    rw [putSome_all]
    simp only [putL, List.range, List.range.loop, List.foldl_nil, List.foldl_cons, List.getElem?_cons_zero, List.getElem?_cons_succ, List.drop_succ_cons, List.drop_zero]
    rw [e8, e7]
    clear e8 e7 hf hLL
    go_simp
    have hL3 := (unhide hLst).under hC
    have hR3 := (unhide hRl2).under hC
    have hr23 := (hC.block (bx + 1) (by omega)).trans (unhide hr2)
    have hr33 := (hC.block (bx + 1 + 1) (by omega)).trans (unhide hr3)
    have hB3 := (unhide hBF).trans (hC.mono (unhide hBF).size)
    obtain ⟨w3, hw3⟩ : ∃ w3, w3 = wq := ⟨_, rfl⟩
    rw [← hw3] at hL3 hR3 hr23 hr33 hB3 ⊢
    clear hw3 hC hLst hRl2 hr2 hr3 hBF hA0 hA1
    have tw : wrap64 ((N : Int) - 1) = (N : Int) - 1 := by unfold wrap64; omega
    replace hL3 := hide hL3; replace hR3 := hide hR3; replace hr23 := hide hr23; replace hr33 := hide hr33; replace hB3 := hide hB3
    go_upto_region 4 with fail
    go_cut [12, 13] (fun v12 _ wr => ∃ (qa : Option Addr) (qc : Nat) (P : List ByteArray), v12 = .slice qa P.length qc ∧ P.length ≤ 5 ∧ P.length ≤ qc ∧ (∀ x ∈ P, x.size = 8) ∧ Lst Enc.str wr (fun b => b < wr.heap.size) qa P.length P ∧ Below w3.heap.size w3 wr)
    case first =>
      have hc1 := fun x w hL => rprv_cap pa N pc L x w hL (by omega) (fun z hz => by have := unhide hsz z hz; omega)
      have hsn : ∀ x : Int, ∀ z ∈ (Dg.prv L x).1, z.size = 8 := fun x => prv_sizes L (by have := unhide hN; omega) x
      replace hc1 := hide hc1; replace hsn := hide hsn
      rcases Int.le_total (i : Int) ((N : Int) - 1) with hle | hle
      · go_wp2_with fail
        refine (unhide hc1 _ _ (unhide hL3)).mono ?_
        rintro e w4 ⟨⟨qa, qc, rfl, h5, h6⟩, h7⟩
        go_wp2_with fail
        go_meet
        exact ⟨qa, qc, _, rfl, prv_many _ _, h6, unhide hsn _, h5, h7⟩
      · by_cases hlt : (i : Int) ≤ (N : Int) - 1
        · go_wp2_with fail
          refine (unhide hc1 _ _ (unhide hL3)).mono ?_
          rintro e w4 ⟨⟨qa, qc, rfl, h5, h6⟩, h7⟩
          go_wp2_with fail
          go_meet
          exact ⟨qa, qc, _, rfl, prv_many _ _, h6, unhide hsn _, h5, h7⟩
        · go_wp2_with fail
          refine (unhide hc1 _ _ (unhide hL3)).mono ?_
          rintro e w4 ⟨⟨qa, qc, rfl, h5, h6⟩, h7⟩
          go_wp2_with fail
          go_meet
          exact ⟨qa, qc, _, rfl, prv_many _ _, h6, unhide hsn _, h5, h7⟩
    case rest =>
      obtain ⟨qa, qc, P, rfl, hP5, hPc, hP8, hPl, h4⟩ := hcut
      obtain ⟨m, hm⟩ : ∃ m, P.length = m := ⟨_, rfl⟩
      rw [hm] at hP5 hPc hPl ⊢
      have hL4 := (unhide hL3).under h4
      have hR4 := (unhide hR3).under h4
      have hr24 := (h4.block (bx + 1) (Array.getElem?_eq_some_iff.1 (unhide hr23)).1).trans (unhide hr23)
      have hr34 := (h4.block (bx + 1 + 1) (Array.getElem?_eq_some_iff.1 (unhide hr33)).1).trans (unhide hr33)
      have hB4 := (unhide hB3).trans (h4.mono (unhide hB3).size)
      have hrt := rroot_any pa N pc L _ hL4 (by omega) (fun z hz => by have := unhide hsz z hz; omega)
      have hR8 := top_size (L.map fun s => s.data.toList)
      obtain ⟨R, hR⟩ : ∃ R : ByteArray, (⟨(Dg.top (L.map fun s => s.data.toList)).toArray⟩ : ByteArray) = R := ⟨_, rfl⟩
      rw [hR] at hrt hR8
      clear hL3 hR3 hr23 hr33 h4 hB3 hR
      replace hL4 := hide hL4; replace hR4 := hide hR4; replace hr24 := hide hr24; replace hr34 := hide hr34; replace hB4 := hide hB4; replace hPl := hide hPl; replace hrt := hide hrt; replace hm := hide hm; replace hP8 := hide hP8
      go_wp2_with fail
      refine (unhide hrt).mono ?_
      rintro e w5 ⟨rfl, h5⟩
      have hL5 := (unhide hL4).under h5
      have hR5 := (unhide hR4).under h5
      have hP5l := (unhide hPl).under h5
      have hr25 := (h5.block (bx + 1) (Array.getElem?_eq_some_iff.1 (unhide hr24)).1).trans (unhide hr24)
      have hr35 := (h5.block (bx + 1 + 1) (Array.getElem?_eq_some_iff.1 (unhide hr34)).1).trans (unhide hr34)
      have hB5 := (unhide hB4).trans (h5.mono (unhide hB4).size)
      clear hL4 hR4 hr24 hr34 h5 hB4 hPl hrt
      replace hL5 := hide hL5; replace hR5 := hide hR5; replace hr25 := hide hr25; replace hr35 := hide hr35; replace hB5 := hide hB5; replace hP5l := hide hP5l
      go_upto_if 52 with fail
      go_cut [15] (fun v15 wr => ∃ s : ByteArray, v15 = .string s ∧ s.size ≤ 30 ∧ wr = w5)
      case first =>
        by_cases hN0 : N = 0
        · have t0 : ¬ (0 : Int) < (N : Int) := by omega
          replace hN0 := hide hN0
          go_wp2_with fail
          go_meet
          exact ⟨_, rfl, by decide, rfl⟩
        · have t0 : (0 : Int) < (N : Int) := by omega
          by_cases hle : (i : Int) ≤ (N : Int) - 1
          · obtain ⟨bb, off, s, rfl, hbb, hs, hsi, hcell⟩ := lst_str (unhide hL5) (k := i) (by omega)
            have hs30 := unhide hsz s (List.mem_of_getElem? hs)
            clear hs
            go_wp2_with fail
            go_meet
            exact ⟨_, rfl, hs30, rfl⟩
          · obtain ⟨q, rfl⟩ : ∃ q, N = q + 1 := ⟨N - 1, by omega⟩
            obtain ⟨bb, off, s, rfl, hbb, hs, hsi, hcell⟩ := lst_str (unhide hL5) (k := q) (by omega)
            have hs30 := unhide hsz s (List.mem_of_getElem? hs)
            have tq : ((q + 1 : Nat) : Int) - 1 = (q : Int) := by omega
            have tq2 : (q : Int) + 1 - 1 = (q : Int) := by omega
            clear hs
            go_wp2_with fail
            go_meet
            exact ⟨_, rfl, hs30, rfl⟩
      case rest =>
        obtain ⟨s, rfl, hs30, e5⟩ := hcut
        subst e5
        obtain ⟨w6, hw6⟩ : ∃ w6, w6 = wc := ⟨_, rfl⟩
        rw [← hw6] at hL5 hR5 hr25 hr35 hB5 hP5l ⊢
        clear hw6
        have hbl6 : bx + 1 + 1 < w6.heap.size := (Array.getElem?_eq_some_iff.1 (unhide hr35)).1
        go_wp2_with fail
        go_loopw [16, 17, 18, 63] (fun v16 _ _ v63 wr => ∃ (n : Nat) (l : List ByteArray), n ≤ m ∧ v63 = .int .i64 (n : Int) ∧ l.length = n ∧ (∀ x ∈ l, x.size ≤ 30) ∧ wr.ownsRow w6.heap.size 9 1 v16 n (l.map vba) ∧ Below w6.heap.size w6 wr) (fun _ _ _ v _ => (m - intOf v).toNat)
        case atStart => exact ⟨0, [], by omega, rfl, rfl, (fun x hx => by cases hx), World.ownsRow_nil _ _ _ _, Below.refl _ _⟩
        case round =>
          obtain ⟨n, l, hn, rfl, hln, hl30, hown, hb⟩ := hrel
          obtain ⟨va, vc, rfl⟩ := own_shape hown
          by_cases hlt : n < m
          · obtain ⟨bb, off, x, rfl, hbb, hx, hxi, hcx⟩ := lst_str ((unhide hP5l).under hb) hlt
            have hx8 := unhide hP8 x (List.mem_of_getElem? hx)
            have hrO := (hb.block (bx + 1) (by omega)).trans (unhide hr25)
            have hO0 : wr.cell? ⟨bx + 1, 0, none⟩ = some (.string S) := (cell_of_row _ _ 0 _ _ _ hrO).trans rfl
            have hO1 : wr.cell? ⟨bx + 1, 1, none⟩ = some (.int .u8 (p : Int)) := (cell_of_row _ _ 1 _ _ _ hrO).trans rfl
            have hO2 : wr.cell? ⟨bx + 1, 2, none⟩ = some (.int .u8 (c : Int)) := (cell_of_row _ _ 2 _ _ _ hrO).trans rfl
            obtain ⟨kk, hkk⟩ : ∃ kk, k % (m + 1) = kk := ⟨_, rfl⟩
            have tk1 : (k : Int) % ((m : Int) + 1) = (kk : Int) := by rw [← hkk]; rfl
            have tk2 : Int.tmod (k : Int) ((m : Int) + 1) = (kk : Int) := by rw [← hkk]; rfl
            have tk3 : ((m : Int) + 1 == 0) = false := beq_eq_false_iff_ne.2 (by omega)
            have hz := hb.size
            replace hkk := hide hkk
            clear hx hrO
            by_cases he : n = kk
            · have t9 : ((n : Int) == (kk : Int)) = true := beq_iff_eq.2 (by omega)
              have hch := fun w => change_any S x p c w hp hc (by rw [hx8]; decide)
              obtain ⟨X, hX⟩ : ∃ X, Dg.chg x p c = X := ⟨_, rfl⟩
              have hX8 : X.size = 8 := by rw [← hX, chg_size]; exact hx8
              rw [hX] at hch
              replace hch := hide hch
              replace he := hide he
              clear hX
              go_wp2_with fail
              refine (unhide hch _).mono ?_
              rintro e w7 ⟨rfl, h7⟩
              have hown7 := own_below hown h7
              have hb7 := hb.trans (h7.mono hb.size)
              replace hz := hb7.size
              clear h7 hch hown hb hO0 hO1 hO2 hcx
              go_wp2_with (at_builtin; refine wpList_append_own _ rfl _ _ 28 rfl w6.heap.size 9 i1 (.string ⟨#[]⟩) 1 16 Try.underlying28 (unhide hi1) (unhide hz0) (unhide hz1) (unhide hz2) rfl (by decide) _ _ _ rfl (hown7.alloc _) ⟨w7.heap.size, 0, none⟩ 1 1 [.string X] rfl rfl ?d1 ?d2 ?d3 ?d4 ?d5 ?_)
              case d1 => exact one_new _ _
              case d2 => intro u hu; simp at hu; subst hu; rfl
              case d3 => unfold maxLen; omega
              case d4 => omega
              case d5 => simp; omega
              intro v' w9 hown9 hg9 _
              have hb9 : Below w6.heap.size w6 w9 := Below.grown (hb7.alloc hz (Obj.cells #[.string X] 9)) hg9 (by simp; omega) (fun g hg => (hown7.lt g hg).1)
              have hmore : (l.map vba ++ [Value.string X]) = (l ++ [X]).map vba := by simp
              rw [hmore] at hown9
              obtain ⟨va', vc', rfl⟩ := own_shape hown9
              clear hg9 hown7 hb7 hmore
              go_wp2_with fail
              go_roundw
              case rel => exact ⟨n + 1, l ++ [X], by omega, by go_num, by rw [List.length_append, hln]; rfl, fun x hx => (by rcases List.mem_append.1 hx with h | h; exact hl30 x h; simp at h; rw [h]; omega), hown9, hb9⟩
              case measure => simp [intOf]; omega
            · have t9 : ((n : Int) == (kk : Int)) = false := beq_eq_false_iff_ne.2 (by omega)
              replace he := hide he
              clear hO0 hO1 hO2
              go_wp2_with (at_builtin; refine wpList_append_own _ rfl _ _ 28 rfl w6.heap.size 9 i1 (.string ⟨#[]⟩) 1 16 Try.underlying28 (unhide hi1) (unhide hz0) (unhide hz1) (unhide hz2) rfl (by decide) _ _ _ rfl (hown.alloc _) ⟨wr.heap.size, 0, none⟩ 1 1 [.string x] rfl rfl ?e1 ?e2 ?e3 ?e4 ?e5 ?_)
              case e1 => exact one_new _ _
              case e2 => intro u hu; simp at hu; subst hu; rfl
              case e3 => unfold maxLen; omega
              case e4 => omega
              case e5 => simp; omega
              intro v' w9 hown9 hg9 _
              have hb9 : Below w6.heap.size w6 w9 := Below.grown (hb.alloc hz (Obj.cells #[.string x] 9)) hg9 (by simp; omega) (fun g hg => (hown.lt g hg).1)
              have hmore : (l.map vba ++ [Value.string x]) = (l ++ [x]).map vba := by simp
              rw [hmore] at hown9
              obtain ⟨va', vc', rfl⟩ := own_shape hown9
              clear hg9 hown hb hmore
              go_wp2_with fail
              go_roundw
              case rel => exact ⟨n + 1, l ++ [x], by omega, by go_num, by rw [List.length_append, hln]; rfl, fun x hx => (by rcases List.mem_append.1 hx with h | h; exact hl30 x h; simp at h; rw [h]; omega), hown9, hb9⟩
              case measure => simp [intOf]; omega
          · obtain rfl : n = m := by omega
            obtain ⟨w7, hw7⟩ : ∃ w7, w7 = wr := ⟨_, rfl⟩
            rw [← hw7] at hown hb ⊢
            clear hw7
            obtain ⟨oa, oc, hoe, hOl⟩ := lst_own_vba hown (fun x hx => by have := hl30 x hx; unfold maxLen; omega)
            rw [hln] at hoe hOl
            injection hoe with e1 e2 e3
            replace e1 := e1.symm; replace e3 := e3.symm
            subst e1 e3
            have hL7 := (unhide hL5).under hb
            have hR7 := (unhide hR5).under hb
            have hP7 := (unhide hP5l).under hb
            have hO7 := hOl.wide (S' := fun b => b < w7.heap.size) (fun b h => h.1)
            have hr27 := (hb.block (bx + 1) (by omega)).trans (unhide hr25)
            have hr37 := (hb.block (bx + 1 + 1) (by omega)).trans (unhide hr35)
            have hB7 := (unhide hB5).trans (hb.mono (unhide hB5).size)
            have hbl7 : bx + 1 + 1 < w7.heap.size := (Array.getElem?_eq_some_iff.1 hr37).1
            clear hL5 hR5 hP5l hOl hr25 hr35 hB5 hown hb hlt hl30
            replace hL7 := hide hL7; replace hR7 := hide hR7; replace hP7 := hide hP7; replace hO7 := hide hO7; replace hr27 := hide hr27; replace hr37 := hide hr37; replace hB7 := hide hB7
            go_wp2_with fail
            go_loopw [19, 20] (fun v19 v20 wr => ∃ (j : Nat) (l : List ByteArray), j ≤ rn ∧ j ≤ 45 ∧ v20 = .int .i64 (j : Int) ∧ l.length = j ∧ (∀ x ∈ l, x.size ≤ 10) ∧ wr.ownsRow w7.heap.size 9 1 v19 j (l.map vba) ∧ Below w7.heap.size w7 wr) (fun _ v _ => (rn - intOf v).toNat)
            case atStart => exact ⟨0, [], by omega, by omega, rfl, rfl, (fun x hx => by cases hx), World.ownsRow_nil _ _ _ _, Below.refl _ _⟩
            case round =>
              obtain ⟨j, l, hj, hj45, rfl, hlj, hl10, hown, hb⟩ := hrel
              obtain ⟨va, vc, rfl⟩ := own_shape hown
              have hrP := (hb.block (bx + 1 + 1) hbl7).trans (unhide hr37)
              have hP0 : wr.cell? ⟨bx + 1 + 1, 0, none⟩ = some (.slice ra rn rc) := (cell_of_row _ _ 0 _ _ _ hrP).trans rfl
              have hblr : bx + 1 + 1 < wr.heap.size := (Array.getElem?_eq_some_iff.1 hrP).1
              replace hrP := hide hrP
              by_cases hlt : j < rn ∧ j < 45
              · obtain ⟨bb, off, x, rfl, hbb, hx, hxi, hcx⟩ := lst_str ((unhide hR7).under hb) hlt.1
                have t1 : (j : Int) < (rn : Int) := by omega
                have t2 : (j : Int) < 45 := by omega
                unfold maxLen at hxi
                obtain ⟨u, hu⟩ : ∃ u, min x.size 10 = u := ⟨_, rfl⟩
                obtain ⟨y, hy⟩ : ∃ y, x.extract 0 u = y := ⟨_, rfl⟩
                have hy10 : y.size ≤ 10 := by rw [← hy, ByteArray.size_extract]; omega
                have hz := hb.size
                clear hx
                go_wp2_with fail
                refine wp_region_frontG 15 (fun _ _ w' => Below wr.heap.size wr w') (fun wa wb => Below wa.heap.size wa wb)
                  (fun ix v w' => match ix with
                    | 0 => v = .slice va j vc
                    | 1 => v = .pointer (some ⟨bx + 1 + 1, 0, none⟩)
                    | 2 => v = .slice (some ⟨bb, off, none⟩) rn rc
                    | 3 => v = .int .i64 (j : Int)
                    | 4 => v = .pointer (some ⟨bb, off + j, none⟩)
                    | 5 => v = .string x
                    | 6 => v = .pointer (some ⟨bx + 1 + 1, 0, none⟩)
                    | 7 => v = .slice (some ⟨bb, off, none⟩) rn rc
                    | 8 => v = .int .i64 (j : Int)
                    | 9 => v = .pointer (some ⟨bb, off + j, none⟩)
                    | 10 => v = .string x
                    | 11 => v = .int .i64 (x.size : Int)
                    | 12 => v = .int .i64 (u : Int)
                    | 13 => v = .string y
                    | 14 => ∃ b, v = .slice (some ⟨b, 0, none⟩) 1 1 ∧ w'.heap[b]? = some (.cells #[.string y] 9 (0, 0))
                    | _ => True) (by rfl) (by kernel_rfl) ?_ ?_ ?_ ?_
                · exact (Below.refl _ _).drew
                · intro wa wb hR ix v hv
                  match ix, hv with
                  | 0, h => exact h
                  | 1, h => exact h
                  | 2, h => exact h
                  | 3, h => exact h
                  | 4, h => exact h
                  | 5, h => exact h
                  | 6, h => exact h
                  | 7, h => exact h
                  | 8, h => exact h
                  | 9, h => exact h
                  | 10, h => exact h
                  | 11, h => exact h
                  | 12, h => exact h
                  | 13, h => exact h
                  | 14, h => obtain ⟨b, h1, h2⟩ := h; exact ⟨b, h1, (hR.block b (Array.getElem?_eq_some_iff.1 h2).1).trans h2⟩
                  | _ + 15, _ => trivial
                · intro ix hix
                  obtain rfl | rfl | rfl | rfl | rfl | rfl | rfl | rfl | rfl | rfl | rfl | rfl | rfl | rfl | rfl : ix = 0 ∨ ix = 1 ∨ ix = 2 ∨ ix = 3 ∨ ix = 4 ∨ ix = 5 ∨ ix = 6 ∨ ix = 7 ∨ ix = 8 ∨ ix = 9 ∨ ix = 10 ∨ ix = 11 ∨ ix = 12 ∨ ix = 13 ∨ ix = 14 := by omega
                  · refine FrontStep.of [] _ rfl (by kernel_rfl) ?_
                    intro vs LL wq hLL hC hf
                    simp only [putL, List.foldl_nil]
                    go_wp2_with fail
                    first | exact Below.refl _ _ | exact ⟨Below.refl _ _, by omega⟩
                  · refine FrontStep.of [] _ rfl (by kernel_rfl) ?_
                    intro vs LL wq hLL hC hf
                    simp only [putL, List.foldl_nil]
                    go_wp2_with fail
                    first | exact Below.refl _ _ | exact ⟨Below.refl _ _, by omega⟩
                  · refine FrontStep.of [1] _ rfl (by kernel_rfl) ?_
                    intro vs LL wq hLL hC hf
                    simp only [putL, List.foldl_nil, List.foldl_cons, List.getElem?_cons_zero, List.getElem?_cons_succ]
                    have e1 : vs 1 = _ := hf 1 (by simp)
                    rw [e1]
                    have hcq := (hC.cell (p := ⟨bx + 1 + 1, 0, none⟩) hblr).trans hP0
                    go_wp2_with fail
                    first | exact Below.refl _ _ | exact ⟨Below.refl _ _, by omega⟩
                  · refine FrontStep.of [] _ rfl (by kernel_rfl) ?_
                    intro vs LL wq hLL hC hf
                    simp only [putL, List.foldl_nil]
                    go_wp2_with fail
                    first | exact Below.refl _ _ | exact ⟨Below.refl _ _, by omega⟩
                  · refine FrontStep.of [2, 3] _ rfl (by kernel_rfl) ?_
                    intro vs LL wq hLL hC hf
                    simp only [putL, List.foldl_nil, List.foldl_cons, List.getElem?_cons_zero, List.getElem?_cons_succ]
                    have e2 : vs 2 = _ := hf 2 (by simp)
                    rw [e2]
                    have e3 : vs 3 = _ := hf 3 (by simp)
                    rw [e3]
                    go_wp2_with fail
                    first | exact Below.refl _ _ | exact ⟨Below.refl _ _, by omega⟩
                  · refine FrontStep.of [4] _ rfl (by kernel_rfl) ?_
                    intro vs LL wq hLL hC hf
                    simp only [putL, List.foldl_nil, List.foldl_cons, List.getElem?_cons_zero, List.getElem?_cons_succ]
                    have e4 : vs 4 = _ := hf 4 (by simp)
                    rw [e4]
                    have hcq := (hC.cell (p := ⟨bb, off + j, none⟩) hbb).trans hcx
                    go_wp2_with fail
                    first | exact Below.refl _ _ | exact ⟨Below.refl _ _, by omega⟩
                  · refine FrontStep.of [] _ rfl (by kernel_rfl) ?_
                    intro vs LL wq hLL hC hf
                    simp only [putL, List.foldl_nil]
                    go_wp2_with fail
                    first | exact Below.refl _ _ | exact ⟨Below.refl _ _, by omega⟩
                  · refine FrontStep.of [6] _ rfl (by kernel_rfl) ?_
                    intro vs LL wq hLL hC hf
                    simp only [putL, List.foldl_nil, List.foldl_cons, List.getElem?_cons_zero, List.getElem?_cons_succ]
                    have e6 : vs 6 = _ := hf 6 (by simp)
                    rw [e6]
                    have hcq := (hC.cell (p := ⟨bx + 1 + 1, 0, none⟩) hblr).trans hP0
                    go_wp2_with fail
                    first | exact Below.refl _ _ | exact ⟨Below.refl _ _, by omega⟩
                  · refine FrontStep.of [] _ rfl (by kernel_rfl) ?_
                    intro vs LL wq hLL hC hf
                    simp only [putL, List.foldl_nil]
                    go_wp2_with fail
                    first | exact Below.refl _ _ | exact ⟨Below.refl _ _, by omega⟩
                  · refine FrontStep.of [7, 8] _ rfl (by kernel_rfl) ?_
                    intro vs LL wq hLL hC hf
                    simp only [putL, List.foldl_nil, List.foldl_cons, List.getElem?_cons_zero, List.getElem?_cons_succ]
                    have e7 : vs 7 = _ := hf 7 (by simp)
                    rw [e7]
                    have e8 : vs 8 = _ := hf 8 (by simp)
                    rw [e8]
                    go_wp2_with fail
                    first | exact Below.refl _ _ | exact ⟨Below.refl _ _, by omega⟩
                  · refine FrontStep.of [9] _ rfl (by kernel_rfl) ?_
                    intro vs LL wq hLL hC hf
                    simp only [putL, List.foldl_nil, List.foldl_cons, List.getElem?_cons_zero, List.getElem?_cons_succ]
                    have e9 : vs 9 = _ := hf 9 (by simp)
                    rw [e9]
                    have hcq := (hC.cell (p := ⟨bb, off + j, none⟩) hbb).trans hcx
                    go_wp2_with fail
                    first | exact Below.refl _ _ | exact ⟨Below.refl _ _, by omega⟩
                  · refine FrontStep.of [10] _ rfl (by kernel_rfl) ?_
                    intro vs LL wq hLL hC hf
                    simp only [putL, List.foldl_nil, List.foldl_cons, List.getElem?_cons_zero, List.getElem?_cons_succ]
                    have e10 : vs 10 = _ := hf 10 (by simp)
                    rw [e10]
                    go_wp2_with fail
                    first | exact Below.refl _ _ | exact ⟨Below.refl _ _, by omega⟩
                  · refine FrontStep.of [11] _ rfl (by kernel_rfl) ?_
                    intro vs LL wq hLL hC hf
                    simp only [putL, List.foldl_nil, List.foldl_cons, List.getElem?_cons_zero, List.getElem?_cons_succ]
                    have e11 : vs 11 = _ := hf 11 (by simp)
                    rw [e11]
                    rcases Nat.le_total x.size 10 with hle | hle
                    · obtain rfl : x.size = u := by omega
                      have t3 : ¬ (10 : Int) < (x.size : Int) := by omega
                      go_wp2_with fail
                      first | exact Below.refl _ _ | exact ⟨Below.refl _ _, by omega⟩
                    · obtain rfl : 10 = u := by omega
                      go_wp2_with fail
                      first | exact Below.refl _ _ | exact ⟨Below.refl _ _, by omega⟩
                  · refine FrontStep.of [5, 12] _ rfl (by kernel_rfl) ?_
                    intro vs LL wq hLL hC hf
                    simp only [putL, List.foldl_nil, List.foldl_cons, List.getElem?_cons_zero, List.getElem?_cons_succ]
                    have e5 : vs 5 = _ := hf 5 (by simp)
                    rw [e5]
                    have e12 : vs 12 = _ := hf 12 (by simp)
                    rw [e12]
                    have hux : u ≤ x.size := by omega
                    go_wp2_with fail
                    first | exact Below.refl _ _ | exact ⟨Below.refl _ _, by rw [← hy]⟩
                  · refine FrontStep.of [13] _ rfl (by kernel_rfl) ?_
                    intro vs LL wq hLL hC hf
                    simp only [putL, List.foldl_nil, List.foldl_cons, List.getElem?_cons_zero, List.getElem?_cons_succ]
                    have e13 : vs 13 = _ := hf 13 (by simp)
                    rw [e13]
                    go_wp2_with fail
                    exact ⟨hC.alloc hC.size _, (Below.refl _ _).alloc (Nat.le_refl _) _, (Array.getElem?_eq_some_iff.1 (heap_alloc_new _ _)).2⟩
                · intro vs LL wq hLL hC hf
                  have e0 : vs 0 = _ := hf 0 (by omega)
                  obtain ⟨b, e14, hb14⟩ := hf 14 (by omega)
                  rw [putSome_all]
                  simp only [putL, List.range, List.range.loop, List.foldl_nil, List.foldl_cons, List.getElem?_cons_zero, List.getElem?_cons_succ, List.drop_succ_cons, List.drop_zero]
                  rw [e0, e14]
                  clear e0 e14 hf hLL
                  have hownq := own_below hown hC
                  have hcq := cell_of_row _ b 0 _ _ _ hb14
                  have hszq := hC.size
                  have hbw := hb.trans (hC.mono hb.size)
                  go_simp
                  go_wp2_with (at_builtin; refine wpList_append_own _ rfl _ _ 28 rfl w7.heap.size 9 i1 (.string ⟨#[]⟩) 1 16 Try.underlying28 (unhide hi1) (unhide hz0) (unhide hz1) (unhide hz2) rfl (by decide) _ _ _ rfl hownq ⟨b, 0, none⟩ 1 1 [.string y] rfl rfl ?f1 ?f2 ?f3 ?f4 ?f5 ?_)
                  case f1 =>
                    intro j u hj
                    cases j with
                    | zero => simp at hj; subst hj; rw [Addr.add_lit, cell_of_row _ _ _ _ _ _ hb14]; rfl
                    | succ j => simp at hj
                  case f2 => intro u hu; simp at hu; subst hu; rfl
                  case f3 => unfold maxLen; omega
                  case f4 => omega
                  case f5 => omega
                  intro v' w9 hown9 hg9 _
                  have hb9 : Below w7.heap.size w7 w9 := Below.grown hbw hg9 (by omega) (fun g hg => (hownq.lt g hg).1)
                  have hmore : (l.map vba ++ [Value.string y]) = (l ++ [y]).map vba := by simp
                  rw [hmore] at hown9
                  obtain ⟨va', vc', rfl⟩ := own_shape hown9
                  clear hg9 hownq hbw hmore
                  go_wp2_with fail
                  go_roundw
                  case rel => exact ⟨j + 1, l ++ [y], by omega, by omega, by go_num, by rw [List.length_append, hlj]; rfl, fun x hx => (by rcases List.mem_append.1 hx with h | h; exact hl10 x h; simp at h; rw [h]; omega), hown9, hb9⟩
                  case measure => simp [intOf]; omega
              · obtain ⟨w8, hw8⟩ : ∃ w8, w8 = wr := ⟨_, rfl⟩
                rw [← hw8] at hown hb hP0 hblr hrP ⊢
                clear hw8
                obtain ⟨ta, tc, hte, hTl⟩ := lst_own_vba hown (fun x hx => by have := hl10 x hx; unfold maxLen; omega)
                rw [hlj] at hte hTl
                injection hte with e1 e2 e3
                replace e1 := e1.symm; replace e3 := e3.symm
                subst e1 e3
                have hL8 := (unhide hL7).under hb
                have hP8l := (unhide hP7).under hb
                have hO8 := (unhide hO7).under hb
                have hT8 := hTl.wide (S' := fun b => b < w8.heap.size) (fun b h => h.1)
                have hr28 := (hb.block (bx + 1) (by omega)).trans (unhide hr27)
                have hr38 := unhide hrP
                have hB8 := (unhide hB7).trans (hb.mono (unhide hB7).size)
                obtain ⟨kk, hkk⟩ : ∃ kk, k % (n + 1) = kk := ⟨_, rfl⟩
                have hkn : kk ≤ n := by have := Nat.mod_lt k (show 0 < n + 1 by omega); omega
                have tk1 : (k : Int) % ((n : Int) + 1) = (kk : Int) := by rw [← hkk]; rfl
                have tk2 : Int.tmod (k : Int) ((n : Int) + 1) = (kk : Int) := by rw [← hkk]; rfl
                have tk3 : ((n : Int) + 1 == 0) = false := beq_eq_false_iff_ne.2 (by omega)
                have hcond : ¬ ((j : Int) < (rn : Int) ∧ (j : Int) < 45) := by omega
                clear hL7 hR7 hP7 hO7 hTl hr27 hr37 hB7 hown hb hl10 hrP
                replace hL8 := hide hL8; replace hP8l := hide hP8l; replace hO8 := hide hO8; replace hT8 := hide hT8; replace hr28 := hide hr28; replace hr38 := hide hr38; replace hB8 := hide hB8; replace hkk := hide hkk
                go_upto_region 19 with fail
                go_cut [91] (fun v wr => v = .bool false ∧ wr = w8)
                case first =>
                  by_cases h1 : j < rn
                  · have t1 : (j : Int) < (rn : Int) := by omega
                    have t2 : ¬ (j : Int) < 45 := by omega
                    replace h1 := hide h1
                    clear hcond
                    go_wp2_with fail
                    go_meet
                    exact ⟨rfl, rfl⟩
                  · have t1 : ¬ (j : Int) < (rn : Int) := by omega
                    replace h1 := hide h1
                    clear hcond
                    go_wp2_with fail
                    go_meet
                    exact ⟨rfl, rfl⟩
                case rest =>
                  obtain ⟨rfl, e8⟩ := hcut
                  subst e8
                  obtain ⟨w8, hw8⟩ : ∃ w8, w8 = wc := ⟨_, rfl⟩
                  rw [← hw8] at hL8 hP8l hO8 hT8 hr28 hr38 hB8 hP0 hblr ⊢
                  clear hw8 hP0 hcond
                  have hPn : P.length = n := unhide hm
                  go_wp2_with fail
                  refine wp_region_frontG 18 (fun LL vs w' => CV w8 LL vs w') (fun wa wb => Below w8.heap.size wa wb)
                    (fun ix v w' => match ix with
                      | 0 => v = .slice qa n qc
                      | 1 => v = .slice oa n oc
                      | 2 => ∃ b, v = .slice (some ⟨b, 0, none⟩) 0 0
                      | 3 => v = .slice qa n qc
                      | 4 => v ≠ undef
                      | 5 => v = .slice ta j tc
                      | 6 => v ≠ undef
                      | 7 => v = .slice qa n qc
                      | 8 => v = .int .i64 (k : Int)
                      | 9 => v = .slice qa n qc
                      | 10 => v = .int .i64 (n : Int)
                      | 11 => v = .int .i64 ((n : Int) + 1)
                      | 12 => v = .int .i64 (kk : Int)
                      | 13 => ∃ xa xc, v = .slice xa kk xc ∧ Lst Enc.str w' (fun b => b < w8.heap.size) xa kk (P.take kk)
                      | 14 => v = .slice ta j tc
                      | 15 => ∃ b, v = .slice (some ⟨b, 0, none⟩) 5 5
                      | 16 => v = .int .i64 5
                      | 17 => v = .int .i64 0
                      | _ => True) (by rfl) (by kernel_rfl) ?_ ?_ ?_ ?_
                  · exact ⟨(Below.refl _ _).drew, fun _ _ => rfl, fun h => absurd rfl h, fun h => absurd rfl h, fun h => absurd rfl h, fun _ => rfl⟩
                  · intro wa wb hR ix v hv
                    match ix, hv with
                    | 0, h => exact h
                    | 1, h => exact h
                    | 2, h => exact h
                    | 3, h => exact h
                    | 4, h => exact h
                    | 5, h => exact h
                    | 6, h => exact h
                    | 7, h => exact h
                    | 8, h => exact h
                    | 9, h => exact h
                    | 10, h => exact h
                    | 11, h => exact h
                    | 12, h => exact h
                    | 13, h => obtain ⟨xa, xc, h1, h2⟩ := h; exact ⟨xa, xc, h1, h2.below hR⟩
                    | 14, h => exact h
                    | 15, h => exact h
                    | 16, h => exact h
                    | 17, h => exact h
                    | _ + 18, _ => trivial
                  · intro ix hix
                    obtain rfl | rfl | rfl | rfl | rfl | rfl | rfl | rfl | rfl | rfl | rfl | rfl | rfl | rfl | rfl | rfl | rfl | rfl : ix = 0 ∨ ix = 1 ∨ ix = 2 ∨ ix = 3 ∨ ix = 4 ∨ ix = 5 ∨ ix = 6 ∨ ix = 7 ∨ ix = 8 ∨ ix = 9 ∨ ix = 10 ∨ ix = 11 ∨ ix = 12 ∨ ix = 13 ∨ ix = 14 ∨ ix = 15 ∨ ix = 16 ∨ ix = 17 := by omega
                    · refine FrontStep.of [] _ rfl (by kernel_rfl) ?_
                      intro vs LL wq hLL hC hf
                      simp only [putL, List.foldl_nil]
                      go_wp2_with fail
                      first | exact ⟨hC.keep 0 _ (by omega) (Below.refl _ _), Below.refl _ _⟩ | exact ⟨hC.keep 0 _ (by omega) (Below.refl _ _), Below.refl _ _, rfl⟩ | exact hC.keep 0 _ (by omega) (Below.refl _ _)
                    · refine FrontStep.of [] _ rfl (by kernel_rfl) ?_
                      intro vs LL wq hLL hC hf
                      simp only [putL, List.foldl_nil]
                      go_wp2_with fail
                      first | exact ⟨hC.keep 1 _ (by omega) (Below.refl _ _), Below.refl _ _⟩ | exact ⟨hC.keep 1 _ (by omega) (Below.refl _ _), Below.refl _ _, rfl⟩ | exact hC.keep 1 _ (by omega) (Below.refl _ _)
                    · refine FrontStep.of [] _ rfl (by kernel_rfl) ?_
                      intro vs LL wq hLL hC hf
                      simp only [putL, List.foldl_nil]
                      go_wp2_with fail
                      exact ⟨hC.keep 2 _ (by omega) ((Below.refl _ _).alloc (Nat.le_refl _) _), (Below.refl _ _).alloc hC.1.size _⟩
                    · refine FrontStep.of [] _ rfl (by kernel_rfl) ?_
                      intro vs LL wq hLL hC hf
                      simp only [putL, List.foldl_nil]
                      go_wp2_with fail
                      first | exact ⟨hC.keep 3 _ (by omega) (Below.refl _ _), Below.refl _ _⟩ | exact ⟨hC.keep 3 _ (by omega) (Below.refl _ _), Below.refl _ _, rfl⟩ | exact hC.keep 3 _ (by omega) (Below.refl _ _)
                    · refine FrontStep.of [2, 3] _ rfl (by kernel_rfl) ?_
                      intro vs LL wq hLL hC hf
                      simp only [putL, List.foldl_nil, List.foldl_cons, List.getElem?_cons_zero, List.getElem?_cons_succ]
                      obtain ⟨b2, e112⟩ := hf 2 (by simp)
                      rw [e112]
                      have e3 : vs 3 = _ := hf 3 (by simp)
                      rw [e3]
                      obtain ⟨v', w5, hr, ho, hb5⟩ := app_empty (base := w8.heap.size) b2 (c := qc) ((unhide hP8l).under hC.1) hC.1.size (by omega) 28
                      replace ho := hide ho; replace hb5 := hide hb5
                      go_wp2_with (at_builtin; refine Lib.wpList_append_run _ rfl _ _ 28 28 rfl _ _ rfl rfl v' w5 hr ?_)
                      go_wp2_with fail
                      exact ⟨hC.four v' P (by omega) (unhide ho) (unhide hb5), (unhide hb5).mono hC.1.size, (unhide ho).ne⟩
                    · refine FrontStep.of [] _ rfl (by kernel_rfl) ?_
                      intro vs LL wq hLL hC hf
                      simp only [putL, List.foldl_nil]
                      go_wp2_with fail
                      first | exact ⟨hC.keep 5 _ (by omega) (Below.refl _ _), Below.refl _ _⟩ | exact ⟨hC.keep 5 _ (by omega) (Below.refl _ _), Below.refl _ _, rfl⟩ | exact hC.keep 5 _ (by omega) (Below.refl _ _)
                    · refine FrontStep.of [4, 5] _ rfl (by kernel_rfl) ?_
                      intro vs LL wq hLL hC hf
                      simp only [putL, List.foldl_nil, List.foldl_cons, List.getElem?_cons_zero, List.getElem?_cons_succ]
                      have e4 := hf 4 (by simp)
                      have e5 : vs 5 = _ := hf 5 (by simp)
                      rw [e5]
                      obtain ⟨xs, hx5, ho4⟩ := hC.2.2.1 e4 (hC.2.1 6 hLL)
                      obtain ⟨v', w5, hr, ho, hb5⟩ := app_lst ho4 (c := tc) ((unhide hT8).under hC.1) hC.1.size (by omega) (by omega) 28
                      replace ho := hide ho; replace hb5 := hide hb5; replace ho4 := hide ho4
                      go_wp2_with (at_builtin; refine Lib.wpList_append_run _ rfl _ _ 28 28 rfl _ _ rfl rfl v' w5 hr ?_)
                      go_wp2_with fail
                      exact ⟨hC.six hLL v' (unhide ho).ne ((unhide ho).rdl (by rw [List.length_append]; omega)) (unhide hb5), unhide hb5, (unhide ho).ne⟩
                    · refine FrontStep.of [] _ rfl (by kernel_rfl) ?_
                      intro vs LL wq hLL hC hf
                      simp only [putL, List.foldl_nil]
                      go_wp2_with fail
                      first | exact ⟨hC.keep 7 _ (by omega) (Below.refl _ _), Below.refl _ _⟩ | exact ⟨hC.keep 7 _ (by omega) (Below.refl _ _), Below.refl _ _, rfl⟩ | exact hC.keep 7 _ (by omega) (Below.refl _ _)
                    · refine FrontStep.of [] _ rfl (by kernel_rfl) ?_
                      intro vs LL wq hLL hC hf
                      simp only [putL, List.foldl_nil]
                      go_wp2_with fail
                      first | exact ⟨hC.keep 8 _ (by omega) (Below.refl _ _), Below.refl _ _⟩ | exact ⟨hC.keep 8 _ (by omega) (Below.refl _ _), Below.refl _ _, rfl⟩ | exact hC.keep 8 _ (by omega) (Below.refl _ _)
                    · refine FrontStep.of [] _ rfl (by kernel_rfl) ?_
                      intro vs LL wq hLL hC hf
                      simp only [putL, List.foldl_nil]
                      go_wp2_with fail
                      first | exact ⟨hC.keep 9 _ (by omega) (Below.refl _ _), Below.refl _ _⟩ | exact ⟨hC.keep 9 _ (by omega) (Below.refl _ _), Below.refl _ _, rfl⟩ | exact hC.keep 9 _ (by omega) (Below.refl _ _)
                    · refine FrontStep.of [9] _ rfl (by kernel_rfl) ?_
                      intro vs LL wq hLL hC hf
                      simp only [putL, List.foldl_nil, List.foldl_cons, List.getElem?_cons_zero, List.getElem?_cons_succ]
                      have e9 : vs 9 = _ := hf 9 (by simp)
                      rw [e9]
                      go_wp2_with fail
                      first | exact ⟨hC.keep 10 _ (by omega) (Below.refl _ _), Below.refl _ _⟩ | exact ⟨hC.keep 10 _ (by omega) (Below.refl _ _), Below.refl _ _, rfl⟩ | exact hC.keep 10 _ (by omega) (Below.refl _ _)
                    · refine FrontStep.of [10] _ rfl (by kernel_rfl) ?_
                      intro vs LL wq hLL hC hf
                      simp only [putL, List.foldl_nil, List.foldl_cons, List.getElem?_cons_zero, List.getElem?_cons_succ]
                      have e10 : vs 10 = _ := hf 10 (by simp)
                      rw [e10]
                      go_wp2_with fail
                      first | exact ⟨hC.keep 11 _ (by omega) (Below.refl _ _), Below.refl _ _⟩ | exact ⟨hC.keep 11 _ (by omega) (Below.refl _ _), Below.refl _ _, rfl⟩ | exact hC.keep 11 _ (by omega) (Below.refl _ _)
                    · refine FrontStep.of [8, 11] _ rfl (by kernel_rfl) ?_
                      intro vs LL wq hLL hC hf
                      simp only [putL, List.foldl_nil, List.foldl_cons, List.getElem?_cons_zero, List.getElem?_cons_succ]
                      have e8 : vs 8 = _ := hf 8 (by simp)
                      rw [e8]
                      have e11 : vs 11 = _ := hf 11 (by simp)
                      rw [e11]
                      go_wp2_with fail
                      first | exact ⟨hC.keep 12 _ (by omega) (Below.refl _ _), Below.refl _ _⟩ | exact ⟨hC.keep 12 _ (by omega) (Below.refl _ _), Below.refl _ _, rfl⟩ | exact hC.keep 12 _ (by omega) (Below.refl _ _)
                    · refine FrontStep.of [7, 12] _ rfl (by kernel_rfl) ?_
                      intro vs LL wq hLL hC hf
                      simp only [putL, List.foldl_nil, List.foldl_cons, List.getElem?_cons_zero, List.getElem?_cons_succ]
                      have e7 : vs 7 = _ := hf 7 (by simp)
                      rw [e7]
                      have e12 : vs 12 = _ := hf 12 (by simp)
                      rw [e12]
                      have hX := (((unhide hP8l).below hC.1).take hkn)
                      replace hX := hide hX
                      go_wp2_with fail
                      exact ⟨hC.keep 13 _ (by omega) (Below.refl _ _), Below.refl _ _, unhide hX⟩
                    · refine FrontStep.of [] _ rfl (by kernel_rfl) ?_
                      intro vs LL wq hLL hC hf
                      simp only [putL, List.foldl_nil]
                      go_wp2_with fail
                      first | exact ⟨hC.keep 14 _ (by omega) (Below.refl _ _), Below.refl _ _⟩ | exact ⟨hC.keep 14 _ (by omega) (Below.refl _ _), Below.refl _ _, rfl⟩ | exact hC.keep 14 _ (by omega) (Below.refl _ _)
                    · refine FrontStep.of [0, 1, 6, 13, 14] _ rfl (by kernel_rfl) ?_
                      intro vs LL wq hLL hC hf
                      simp only [putL, List.foldl_nil, List.foldl_cons, List.getElem?_cons_zero, List.getElem?_cons_succ]
                      have e0 : vs 0 = _ := hf 0 (by simp)
                      rw [e0]
                      have e1 : vs 1 = _ := hf 1 (by simp)
                      rw [e1]
                      have e6 := hf 6 (by simp)
                      obtain ⟨xa, xc, e123, hX13⟩ := hf 13 (by simp)
                      rw [e123]
                      have e14 : vs 14 = _ := hf 14 (by simp)
                      rw [e14]
                      have q1 : Rdl wq (.slice qa n qc) := ⟨qa, n, qc, P, rfl, by omega, (unhide hP8l).under hC.1⟩
                      have q2 : Rdl wq (.slice oa n oc) := ⟨oa, n, oc, _, rfl, by omega, (unhide hO8).under hC.1⟩
                      obtain ⟨za, zn, zc, zl, hze, hzn, hzl⟩ := hC.2.2.2.1 e6
                      have q3 : Rdl wq (.slice za zn zc) := ⟨za, zn, zc, zl, rfl, hzn, hzl⟩
                      rw [hze]
                      clear hze hzl
                      have q4 : Rdl wq (.slice xa kk xc) := ⟨xa, kk, xc, _, rfl, by omega, hX13.wide (fun b h => Nat.lt_of_lt_of_le h hC.1.size)⟩
                      have q5 : Rdl wq (.slice ta j tc) := ⟨ta, j, tc, _, rfl, by omega, (unhide hT8).under hC.1⟩
                      replace q1 := hide q1; replace q2 := hide q2; replace q3 := hide q3; replace q4 := hide q4; replace q5 := hide q5; replace hX13 := hide hX13
                      go_wp2_with fail
                      have hba : ∀ o : Obj, Below wq.heap.size wq (wq.alloc o) := fun o => (Below.refl _ _).alloc (Nat.le_refl _) o
                      exact ⟨hC.last e6 _ ⟨_, _, _, _, _, _, rfl, heap_alloc_new _ _, (unhide q1).under (hba _), (unhide q2).under (hba _), (unhide q3).under (hba _), (unhide q4).under (hba _), (unhide q5).under (hba _)⟩ (hba _), (Below.refl _ _).alloc hC.1.size _⟩
                    · refine FrontStep.of [15] _ rfl (by kernel_rfl) ?_
                      intro vs LL wq hLL hC hf
                      simp only [putL, List.foldl_nil, List.foldl_cons, List.getElem?_cons_zero, List.getElem?_cons_succ]
                      obtain ⟨b15, e125⟩ := hf 15 (by simp)
                      rw [e125]
                      go_wp2_with fail
                      first | exact ⟨hC.keep 16 _ (by omega) (Below.refl _ _), Below.refl _ _⟩ | exact ⟨hC.keep 16 _ (by omega) (Below.refl _ _), Below.refl _ _, rfl⟩ | exact hC.keep 16 _ (by omega) (Below.refl _ _)
                    · refine FrontStep.of [] _ rfl (by kernel_rfl) ?_
                      intro vs LL wq hLL hC hf
                      simp only [putL, List.foldl_nil]
                      go_wp2_with fail
                      first | exact ⟨hC.keep 17 _ (by omega) (Below.refl _ _), Below.refl _ _⟩ | exact ⟨hC.keep 17 _ (by omega) (Below.refl _ _), Below.refl _ _, rfl⟩ | exact hC.keep 17 _ (by omega) (Below.refl _ _)
                  · intro vs LL wq hLL hC hf
                    obtain ⟨b, e15⟩ := hf 15 (by omega)
                    have e16 : vs 16 = _ := hf 16 (by omega)
                    have e17 : vs 17 = _ := hf 17 (by omega)
                    have hW := hC.2.2.2.2.1 (by rw [e15]; exact fun h => by cases h)
                    rw [e15] at hW
                    obtain ⟨b', v0, v1, v2, v3, v4, he, hrowW, g0, g1, g2, g3, g4⟩ := hW
                    injection he with he
                    injection he with he
                    injection he with he
                    subst he
                    have hC1 := hC.1
                    rw [putSome_all]
                    simp only [putL, List.range, List.range.loop, List.foldl_nil, List.foldl_cons, List.getElem?_cons_zero, List.getElem?_cons_succ, List.drop_succ_cons, List.drop_zero]
                    rw [e15, e16, e17]
                    clear e15 e16 e17 hf hLL hC
                    go_simp
                    have hr29 := (hC1.block (bx + 1) (by omega)).trans (unhide hr28)
                    have hr39 := (hC1.block (bx + 1 + 1) hblr).trans (unhide hr38)
                    have hB9 := (unhide hB8).trans (hC1.mono (unhide hB8).size)
                    obtain ⟨w9, hw9⟩ : ∃ w9, w9 = wq := ⟨_, rfl⟩
                    rw [← hw9] at hrowW g0 g1 g2 g3 g4 hr29 hr39 hB9 ⊢
                    have hV : ∀ t, t < 5 → ∃ v, (#[v0, v1, v2, v3, v4])[t]? = some v ∧ Rdl w9 v := fun t ht => by
                      obtain rfl | rfl | rfl | rfl | rfl : t = 0 ∨ t = 1 ∨ t = 2 ∨ t = 3 ∨ t = 4 := by omega
                      · exact ⟨v0, rfl, g0⟩
                      · exact ⟨v1, rfl, g1⟩
                      · exact ⟨v2, rfl, g2⟩
                      · exact ⟨v3, rfl, g3⟩
                      · exact ⟨v4, rfl, g4⟩
                    have hbl9 : bx + 1 + 1 < w9.heap.size := (Array.getElem?_eq_some_iff.1 hr39).1
                    have hbb9 : b < w9.heap.size := (Array.getElem?_eq_some_iff.1 hrowW).1
                    clear hw9 g0 g1 g2 g3 g4 hC1 hL8 hP8l hO8 hT8 hr28 hr38 hB8 hP8 hm hsz hN
                    replace hV := hide hV; replace hrowW := hide hrowW; replace hr29 := hide hr29; replace hr39 := hide hr39; replace hB9 := hide hB9
                    unfold maxLen at *
                    have hchs := change_any S s p c
                    have hver := fun z (hz : z.size ≤ 1000000) x (hx : x < 9223372036854775808) xa xn xc X w hL => dVerify_any R z x xa xn xc X w hL hz (by omega) hx
                    have hrver := fun z (hz : z.size ≤ 1000000) x (hx : x < 9223372036854775808) xa xn xc X w hL => rVerify_any R z x xa xn xc X w hL hz hx
                    replace hver := hide hver; replace hrver := hide hrver
                    replace hchs : ∀ w, _ := fun w => hchs w hp hc (by unfold maxLen; omega)
                    obtain ⟨s2, hs2⟩ : ∃ X, Dg.chg s p c = X := ⟨_, rfl⟩
                    have hs2s : s2.size ≤ 30 := by rw [← hs2, chg_size]; exact hs30
                    rw [hs2] at hchs
                    obtain ⟨u, hu⟩ : ∃ u, min S.size 30 = u := ⟨_, rfl⟩
                    obtain ⟨s3, hs3⟩ : ∃ y, S.extract 0 u = y := ⟨_, rfl⟩
                    have hs3s : s3.size ≤ 30 := by rw [← hs3, ByteArray.size_extract]; omega
                    replace hchs := hide hchs
                    clear hs2
                    go_wp2_with fail
                    go_loopw [127] (fun v127 wr => ∃ t : Nat, t ≤ 5 ∧ v127 = .int .i64 (t : Int) ∧ Below w9.heap.size w9 wr) (fun v _ => (5 - intOf v).toNat)
                    case atStart => exact ⟨0, by omega, rfl, Below.refl _ _⟩
                    case round =>
                      obtain ⟨t, ht, rfl, hb⟩ := hrel
                      by_cases hlt : t < 5
                      · obtain ⟨v, hv, xa, xn, xc, X, rfl, hxn, hX⟩ := unhide hV t hlt
                        have hrW := (hb.block b hbb9).trans (unhide hrowW)
                        have hrO := (hb.block (bx + 1) (by omega)).trans (unhide hr29)
                        have hrP := (hb.block (bx + 1 + 1) hbl9).trans (unhide hr39)
                        have hcx : wr.cell? ⟨b, t, none⟩ = some (.slice xa xn xc) := (cell_of_row _ b t _ _ _ hrW).trans hv
                        have hO0 : wr.cell? ⟨bx + 1, 0, none⟩ = some (.string S) := (cell_of_row _ _ 0 _ _ _ hrO).trans rfl
                        have hO1 : wr.cell? ⟨bx + 1, 1, none⟩ = some (.int .u8 (p : Int)) := (cell_of_row _ _ 1 _ _ _ hrO).trans rfl
                        have hO2 : wr.cell? ⟨bx + 1, 2, none⟩ = some (.int .u8 (c : Int)) := (cell_of_row _ _ 2 _ _ _ hrO).trans rfl
                        have hXr := hX.under hb
                        have t1 : (t : Int) < 5 := by omega
                        have hblr' : bx + 1 < wr.heap.size := (Array.getElem?_eq_some_iff.1 hrO).1
                        have hblr2 : bx + 1 + 1 < wr.heap.size := (Array.getElem?_eq_some_iff.1 hrP).1
                        replace hv := hide hv; replace hrW := hide hrW; replace hXr := hide hXr; replace hrP := hide hrP
                        clear hrO hX
                        go_wp2_with fail
                        refine wp_region_frontG 14 (fun _ _ w' => Below wr.heap.size wr w') (fun wa wb => Below wa.heap.size wa wb)
                          (fun ix v w' => match ix with
                            | 0 => v = .string s
                            | 1 => v = .agg #[.string S, .int .u8 (p : Int), .int .u8 (c : Int)]
                            | 2 => v = .string s
                            | 3 => v = .string s2
                            | 4 => v = .pointer (some ⟨bx + 1, 0, none⟩)
                            | 5 => v = .string S
                            | 6 => v = .pointer (some ⟨bx + 1, 0, none⟩)
                            | 7 => v = .string S
                            | 8 => v = .int .i64 (S.size : Int)
                            | 9 => v = .int .i64 (u : Int)
                            | 10 => v = .string s3
                            | 11 => ∃ b, v = .slice (some ⟨b, 0, none⟩) 3 3 ∧ w'.heap[b]? = some (.cells #[.string s, .string s2, .string s3] 9 (0, 0))
                            | 12 => v = .int .i64 3
                            | 13 => v = .int .i64 0
                            | _ => True) (by rfl) (by kernel_rfl) ?_ ?_ ?_ ?_
                        · exact (Below.refl _ _).drew
                        · intro wa wb hR ix v hv
                          match ix, hv with
                          | 0, h => exact h
                          | 1, h => exact h
                          | 2, h => exact h
                          | 3, h => exact h
                          | 4, h => exact h
                          | 5, h => exact h
                          | 6, h => exact h
                          | 7, h => exact h
                          | 8, h => exact h
                          | 9, h => exact h
                          | 10, h => exact h
                          | 11, h => obtain ⟨b, h1, h2⟩ := h; exact ⟨b, h1, (hR.block b (Array.getElem?_eq_some_iff.1 h2).1).trans h2⟩
                          | 12, h => exact h
                          | 13, h => exact h
                          | _ + 14, _ => trivial
                        · intro ix hix
                          obtain rfl | rfl | rfl | rfl | rfl | rfl | rfl | rfl | rfl | rfl | rfl | rfl | rfl | rfl : ix = 0 ∨ ix = 1 ∨ ix = 2 ∨ ix = 3 ∨ ix = 4 ∨ ix = 5 ∨ ix = 6 ∨ ix = 7 ∨ ix = 8 ∨ ix = 9 ∨ ix = 10 ∨ ix = 11 ∨ ix = 12 ∨ ix = 13 := by omega
                          · refine FrontStep.of [] _ rfl (by kernel_rfl) ?_
                            intro vs LL wq hLL hC hf
                            simp only [putL, List.foldl_nil]
                            go_wp2_with fail
                            first | exact Below.refl _ _ | exact ⟨Below.refl _ _, by omega⟩
                          · refine FrontStep.of [] _ rfl (by kernel_rfl) ?_
                            intro vs LL wq hLL hC hf
                            simp only [putL, List.foldl_nil]
                            have q0 := (hC.cell (p := ⟨bx + 1, 0, none⟩) hblr').trans hO0
                            have q1 := (hC.cell (p := ⟨bx + 1, 1, none⟩) hblr').trans hO1
                            have q2 := (hC.cell (p := ⟨bx + 1, 2, none⟩) hblr').trans hO2
                            go_wp2_with fail
                            first | exact Below.refl _ _ | exact ⟨Below.refl _ _, by omega⟩
                          · refine FrontStep.of [] _ rfl (by kernel_rfl) ?_
                            intro vs LL wq hLL hC hf
                            simp only [putL, List.foldl_nil]
                            go_wp2_with fail
                            first | exact Below.refl _ _ | exact ⟨Below.refl _ _, by omega⟩
                          · refine FrontStep.of [1, 2] _ rfl (by kernel_rfl) ?_
                            intro vs LL wq hLL hC hf
                            simp only [putL, List.foldl_nil, List.foldl_cons, List.getElem?_cons_zero, List.getElem?_cons_succ]
                            have e1 : vs 1 = _ := hf 1 (by simp)
                            rw [e1]
                            have e2 : vs 2 = _ := hf 2 (by simp)
                            rw [e2]
                            go_wp2_with fail
                            refine (unhide hchs _).mono ?_
                            rintro e w11 ⟨rfl, hb11⟩
                            go_wp2_with fail
                            exact hC.trans (hb11.mono hC.size)
                          · refine FrontStep.of [] _ rfl (by kernel_rfl) ?_
                            intro vs LL wq hLL hC hf
                            simp only [putL, List.foldl_nil]
                            go_wp2_with fail
                            first | exact Below.refl _ _ | exact ⟨Below.refl _ _, by omega⟩
                          · refine FrontStep.of [4] _ rfl (by kernel_rfl) ?_
                            intro vs LL wq hLL hC hf
                            simp only [putL, List.foldl_nil, List.foldl_cons, List.getElem?_cons_zero, List.getElem?_cons_succ]
                            have e4 : vs 4 = _ := hf 4 (by simp)
                            rw [e4]
                            have q0 := (hC.cell (p := ⟨bx + 1, 0, none⟩) hblr').trans hO0
                            go_wp2_with fail
                            first | exact Below.refl _ _ | exact ⟨Below.refl _ _, by omega⟩
                          · refine FrontStep.of [] _ rfl (by kernel_rfl) ?_
                            intro vs LL wq hLL hC hf
                            simp only [putL, List.foldl_nil]
                            go_wp2_with fail
                            first | exact Below.refl _ _ | exact ⟨Below.refl _ _, by omega⟩
                          · refine FrontStep.of [6] _ rfl (by kernel_rfl) ?_
                            intro vs LL wq hLL hC hf
                            simp only [putL, List.foldl_nil, List.foldl_cons, List.getElem?_cons_zero, List.getElem?_cons_succ]
                            have e6 : vs 6 = _ := hf 6 (by simp)
                            rw [e6]
                            have q0 := (hC.cell (p := ⟨bx + 1, 0, none⟩) hblr').trans hO0
                            go_wp2_with fail
                            first | exact Below.refl _ _ | exact ⟨Below.refl _ _, by omega⟩
                          · refine FrontStep.of [7] _ rfl (by kernel_rfl) ?_
                            intro vs LL wq hLL hC hf
                            simp only [putL, List.foldl_nil, List.foldl_cons, List.getElem?_cons_zero, List.getElem?_cons_succ]
                            have e7 : vs 7 = _ := hf 7 (by simp)
                            rw [e7]
                            go_wp2_with fail
                            first | exact Below.refl _ _ | exact ⟨Below.refl _ _, by omega⟩
                          · refine FrontStep.of [8] _ rfl (by kernel_rfl) ?_
                            intro vs LL wq hLL hC hf
                            simp only [putL, List.foldl_nil, List.foldl_cons, List.getElem?_cons_zero, List.getElem?_cons_succ]
                            have e8 : vs 8 = _ := hf 8 (by simp)
                            rw [e8]
                            rcases Nat.le_total S.size 30 with hle | hle
                            · obtain rfl : S.size = u := by omega
                              have t3 : ¬ (30 : Int) < (S.size : Int) := by omega
                              go_wp2_with fail
                              first | exact Below.refl _ _ | exact ⟨Below.refl _ _, by omega⟩
                            · obtain rfl : 30 = u := by omega
                              go_wp2_with fail
                              first | exact Below.refl _ _ | exact ⟨Below.refl _ _, by omega⟩
                          · refine FrontStep.of [5, 9] _ rfl (by kernel_rfl) ?_
                            intro vs LL wq hLL hC hf
                            simp only [putL, List.foldl_nil, List.foldl_cons, List.getElem?_cons_zero, List.getElem?_cons_succ]
                            have e5 : vs 5 = _ := hf 5 (by simp)
                            rw [e5]
                            have e9 : vs 9 = _ := hf 9 (by simp)
                            rw [e9]
                            have hux : u ≤ S.size := by omega
                            go_wp2_with fail
                            first | exact Below.refl _ _ | exact ⟨Below.refl _ _, by rw [← hs3]⟩
                          · refine FrontStep.of [0, 3, 10] _ rfl (by kernel_rfl) ?_
                            intro vs LL wq hLL hC hf
                            simp only [putL, List.foldl_nil, List.foldl_cons, List.getElem?_cons_zero, List.getElem?_cons_succ]
                            have e0 : vs 0 = _ := hf 0 (by simp)
                            rw [e0]
                            have e3 : vs 3 = _ := hf 3 (by simp)
                            rw [e3]
                            have e10 : vs 10 = _ := hf 10 (by simp)
                            rw [e10]
                            go_wp2_with fail
                            exact ⟨hC.alloc hC.size _, (Below.refl _ _).alloc (Nat.le_refl _) _, (Array.getElem?_eq_some_iff.1 (heap_alloc_new _ _)).2⟩
                          · refine FrontStep.of [11] _ rfl (by kernel_rfl) ?_
                            intro vs LL wq hLL hC hf
                            simp only [putL, List.foldl_nil, List.foldl_cons, List.getElem?_cons_zero, List.getElem?_cons_succ]
                            obtain ⟨b1, e142, hb142⟩ := hf 11 (by simp)
                            rw [e142]
                            go_wp2_with fail
                            first | exact Below.refl _ _ | exact ⟨Below.refl _ _, by omega⟩
                          · refine FrontStep.of [] _ rfl (by kernel_rfl) ?_
                            intro vs LL wq hLL hC hf
                            simp only [putL, List.foldl_nil]
                            go_wp2_with fail
                            first | exact Below.refl _ _ | exact ⟨Below.refl _ _, by omega⟩
                        · intro vs LL wq hLL hC hf
                          obtain ⟨b1, e11, hb11⟩ := hf 11 (by omega)
                          have e12 : vs 12 = _ := hf 12 (by omega)
                          have e13 : vs 13 = _ := hf 13 (by omega)
                          rw [putSome_all]
                          simp only [putL, List.range, List.range.loop, List.foldl_nil, List.foldl_cons, List.getElem?_cons_zero, List.getElem?_cons_succ, List.drop_succ_cons, List.drop_zero]
                          rw [e11, e12, e13]
                          clear e11 e12 e13 hf hLL
                          go_simp
                          have hX10 := (unhide hXr).under hC
                          have hrP10 := (hC.block (bx + 1 + 1) hblr2).trans (unhide hrP)
                          have hb10 := hb.trans (hC.mono hb.size)
                          obtain ⟨w10, hw10⟩ : ∃ w10, w10 = wq := ⟨_, rfl⟩
                          rw [← hw10] at hX10 hrP10 hb10 hb11 ⊢
                          have hbl10 : bx + 1 + 1 < w10.heap.size := (Array.getElem?_eq_some_iff.1 hrP10).1
                          have hbb10 : b1 < w10.heap.size := (Array.getElem?_eq_some_iff.1 hb11).1
                          clear hw10 hC hXr hrP hO0 hO1 hO2 hcx hrW hb
                          replace hX10 := hide hX10; replace hrP10 := hide hrP10; replace hb10 := hide hb10; replace hb11 := hide hb11
                          go_wp2_with fail
                          go_loopw [144] (fun v144 wr => ∃ q : Nat, q ≤ 3 ∧ v144 = .int .i64 (q : Int) ∧ Below w10.heap.size w10 wr) (fun v _ => (3 - intOf v).toNat)
                          case atStart => exact ⟨0, by omega, rfl, Below.refl _ _⟩
                          case round =>
                            obtain ⟨q, hq, rfl, hb⟩ := hrel
                            by_cases hlt2 : q < 3
                            · obtain ⟨z, hz, hz30⟩ : ∃ z : ByteArray, (#[Value.string s, .string s2, .string s3])[q]? = some (.string z) ∧ z.size ≤ 30 := by
                                obtain rfl | rfl | rfl : q = 0 ∨ q = 1 ∨ q = 2 := by omega
                                · exact ⟨s, rfl, hs30⟩
                                · exact ⟨s2, rfl, hs2s⟩
                                · exact ⟨s3, rfl, hs3s⟩
                              have hrS := (hb.block b1 hbb10).trans (unhide hb11)
                              have hrP := (hb.block (bx + 1 + 1) hbl10).trans (unhide hrP10)
                              have hcz : wr.cell? ⟨b1, q, none⟩ = some (.string z) := (cell_of_row _ b1 q _ _ _ hrS).trans hz
                              have hcA : wr.cell? ⟨bx + 1 + 1, 1, none⟩ = some (.int .i64 rAt) := (cell_of_row _ _ 1 _ _ _ hrP).trans rfl
                              have t1 : (q : Int) < 3 := by omega
                              have hXr := (unhide hX10).under hb
                              have hz0 := hb.size
                              replace hXr := hide hXr; replace hz := hide hz
                              clear hrS hrP
                              go_upto_region 28 with fail
                              go_cut [157, 158, 159] (fun v157 v158 v159 wx => ∃ (b3 : Nat) (g : Int), v157 = .slice (some ⟨b3, 0, none⟩) 4 4 ∧ v158 = .int .i64 4 ∧ v159 = .int .i64 0 ∧ wx.heap[b3]? = some (.cells #[.int .i64 (i : Int), .int .i64 (k : Int), .int .i64 rAt, .int .i64 g] 3 (0, 0)) ∧ g < 100 ∧ Below wr.heap.size wr wx)
                              case first =>
                                by_cases hle : (i : Int) ≤ (N : Int) - 1
                                · go_wp2_with fail
                                  go_meet
                                  exact ⟨_, _, rfl, rfl, rfl, heap_alloc_new _ _, by omega, (Below.refl _ _).alloc (Nat.le_refl _) _⟩
                                · go_wp2_with fail
                                  go_meet
                                  exact ⟨_, _, rfl, rfl, rfl, heap_alloc_new _ _, by omega, (Below.refl _ _).alloc (Nat.le_refl _) _⟩
                              case rest =>
                                obtain ⟨b3, g, rfl, rfl, rfl, hrI, hg, hbx3⟩ := hcut
                                obtain ⟨w11, hw11⟩ : ∃ w11, w11 = wc := ⟨_, rfl⟩
                                rw [← hw11] at hrI hbx3 ⊢
                                clear hw11
                                have hX11 := (unhide hXr).under hbx3
                                have hb11' := hb.trans (hbx3.mono hb.size)
                                have hbl11 : b3 < w11.heap.size := (Array.getElem?_eq_some_iff.1 hrI).1
                                replace hX11 := hide hX11; replace hrI := hide hrI; replace hb11' := hide hb11'
                                clear hXr hbx3 hcA hcz hb
                                go_wp2_with fail
                                go_loopw [159] (fun v159 wr => ∃ r : Nat, r ≤ 4 ∧ v159 = .int .i64 (r : Int) ∧ Below w11.heap.size w11 wr) (fun v _ => (4 - intOf v).toNat)
                                case atStart => exact ⟨0, by omega, rfl, Below.refl _ _⟩
                                case round =>
                                  obtain ⟨r, hr, rfl, hb⟩ := hrel
                                  by_cases hlt3 : r < 4
                                  · obtain ⟨x, hx, hxI⟩ : ∃ x : Int, (#[Value.int .i64 (i : Int), .int .i64 (k : Int), .int .i64 rAt, .int .i64 g])[r]? = some (.int .i64 x) ∧ x < 9223372036854775808 := by
                                      obtain rfl | rfl | rfl | rfl : r = 0 ∨ r = 1 ∨ r = 2 ∨ r = 3 := by omega
                                      · exact ⟨_, rfl, by omega⟩
                                      · exact ⟨_, rfl, by omega⟩
                                      · exact ⟨_, rfl, by omega⟩
                                      · exact ⟨_, rfl, by omega⟩
                                    have hrr := (hb.block b3 hbl11).trans (unhide hrI)
                                    have hcx : wr.cell? ⟨b3, r, none⟩ = some (.int .i64 x) := (cell_of_row _ b3 r _ _ _ hrr).trans hx
                                    have t1 : (r : Int) < 4 := by omega
                                    have hXr := (unhide hX11).under hb
                                    have hc1 := unhide hver z (by omega) x hxI xa xn xc X wr hXr
                                    have hc2 := fun w hL => unhide hrver z (by omega) x hxI xa xn xc X w hL
                                    obtain ⟨V, hV⟩ : ∃ V, verS R z x X = V := ⟨_, rfl⟩
                                    simp only [hV] at hc1 hc2
                                    have hne : (V != V) = false := by cases V <;> rfl
                                    replace hXr := hide hXr; replace hc1 := hide hc1; replace hc2 := hide hc2; replace hx := hide hx
                                    clear hrr hV
                                    go_wp2_with fail
                                    refine (unhide hc1).mono ?_
                                    rintro e w12 ⟨rfl, h12⟩
                                    go_wp2_with fail
                                    refine (unhide hc2 _ ((unhide hXr).under h12)).mono ?_
                                    rintro e w13 ⟨rfl, h13⟩
                                    have hb13 := (hb.trans (h12.mono hb.size)).trans (h13.mono (hb.trans (h12.mono hb.size)).size)
                                    clear h12 h13 hc1 hc2 hXr hcx hb
                                    go_wp2_with fail
                                    go_roundw
                                    case rel => exact ⟨r + 1, by omega, by go_num, hb13⟩
                                    case measure => simp [intOf]; omega
                                  · obtain rfl : r = 4 := by omega
                                    have hbF := (unhide hb11').trans (hb.mono (unhide hb11').size)
                                    clear hb hlt3
                                    go_wp2_with fail
                                    go_roundw
                                    case rel => exact ⟨q + 1, by omega, by go_num, hbF⟩
                                    case measure => simp [intOf]; omega
                            · obtain rfl : q = 3 := by omega
                              have hbF := (unhide hb10).trans (hb.mono (unhide hb10).size)
                              clear hb hlt2
                              go_wp2_with fail
                              go_roundw
                              case rel => exact ⟨t + 1, by omega, by go_num, hbF⟩
                              case measure => simp [intOf]; omega
                      · obtain rfl : t = 5 := by omega
                        have hbF := (unhide hB9).trans (hb.mono (unhide hB9).size)
                        clear hb hlt
                        go_wp2_with fail
                        go_ret
                        exact ⟨rfl, hbF⟩
end Go.Proofs.Ytlmaofibdjmkeaa
