/- The program's Instance. -/
import Derived.Test.YtbodidhggdggmaaOlU
import Derived.Test.YtbodidhggdggmaaOlP
import Derived.Test.YtbodidhggdggmaaOl6
import Derived.Test.YtbodidhggdggmaaFrontG
namespace Go.Proofs.Ytbodidhggdggmaa
open Go.RowKit
theorem inst_many {o : Ot} {l : List Dl} {u : List Int} (h : 8 < l.length) : instS o l u = ([], 2) := by unfold instS; rw [if_pos h]
theorem inst_bad {o : Ot} {l : List Dl} {u : List Int} (h : ¬ 8 < l.length) {k : Nat} {d : Dl} (hd : l[k]? = some d) (hf : fitD o u d = false) : instS o l u = ([], 12) := by
  unfold instS
  rw [if_neg h, if_neg]
  intro hall
  rw [List.all_eq_true] at hall
  have := hall d (List.mem_of_getElem? hd)
  rw [hf] at this
  cases this
theorem inst_ok {o : Ot} {l : List Dl} {u : List Int} (h : ¬ 8 < l.length) (hf : l.all (fitD o u) = true) : instS o l u = (imgO (instP l u) 0 o, 0) := by unfold instS; rw [if_neg h, if_pos hf]
theorem fit_allV {o : Ot} {u : List Int} {d : Dl} (h : fitD o u d = true) : allV d.1 = true ∧ d.1.length = u.length ∧ (d.2.length : Int) = countS o := by
  unfold fitD fitsS at h
  simp only [Bool.and_eq_true, decide_eq_true_eq] at h
  exact ⟨h.1.2, by omega, h.2⟩
theorem weight_i64 {l : List Tent} (u : List Int) (h : allV l = true) (hn : l.length ≤ 4) : I64 (weightS l u) := by
  obtain ⟨q1, q2, q3, q4⟩ := scalS_bd u h hn
  unfold weightS
  exact roundI_i64 (by omega) (by omega) (by omega)
theorem all_take {o : Ot} {u : List Int} {l : List Dl} {k : Nat} {d : Dl} (h : (l.take k).all (fitD o u) = true) (hd : l[k]? = some d) (hf : fitD o u d = true) : (l.take (k + 1)).all (fitD o u) = true := by
  rw [List.take_add_one, hd, List.all_append, h]
  simp [hf]
set_option maxHeartbeats 8000000 in
set_option maxRecDepth 100000 in
theorem inst_any (a : Option Addr) (n c : Nat) (o : Ot) (la : Option Addr) (m lc : Nat) (l : List Dl) (ua : Option Addr) (un uc : Nat) (u : List Int) (w : World) (hl : Lst Enc.ct w (· < w.heap.size) a n o) (hs : Sml o) (hd : Lst Enc.dl w (· < w.heap.size) la m l) (hu : Lst Enc.int w (· < w.heap.size) ua un u) (hun : un ≤ 4) (hml : ∀ d ∈ l, d.1.length ≤ 1000 ∧ d.2.length ≤ 1000000) :
    Calls Try.prog 23 #[.slice a n c, .slice la m lc, .slice ua un uc] w fun e w' => ∃ v, e = .returned (.tuple #[v, .int .i64 (instS o l u).2]) ∧ OO w' w.heap.size v (instS o l u).1 ∧ Below w.heap.size w w' := by
  have hlm : l.length = m := hd.1
  have hul : u.length = un := hu.1
  obtain ⟨b4, hb4⟩ : ∃ b, w.heap.size = b := ⟨_, rfl⟩
  obtain ⟨V1, hV1⟩ : ∃ V, w.alloc (.cells #[.slice la m lc] 41) = V := ⟨_, rfl⟩
  have n1 := heap_alloc_new w (.cells #[.slice la m lc] 41)
  have k1 := (Below.refl w.heap.size w).alloc (Nat.le_refl _) (.cells #[.slice la m lc] 41)
  rw [hV1] at n1 k1
  rw [hb4] at n1
  have c4 : V1.cell? ⟨b4, 0, none⟩ = some (.slice la m lc) := (cell_of_row _ _ 0 _ _ _ n1).trans rfl
  have b4lt : b4 < V1.heap.size := (Array.getElem?_eq_some_iff.1 n1).1
  by_cases hm8 : 8 < m
  · rw [inst_many (by omega)]
    replace hl := hide hl; replace hs := hide hs; replace hd := hide hd; replace hu := hide hu; replace hml := hide hml; replace n1 := hide n1; replace k1 := hide k1; replace hlm := hide hlm; replace hul := hide hul
    have t8 : (8 : Int) < (m : Int) := by omega
    go_enter Try.func23, Try.ntmps23
    go_wp2_with fail
    go_ret2
    exact ⟨_, rfl, OO.nil _ _, unhide k1⟩
  have t8 : ¬ (8 : Int) < (m : Int) := by omega
  have hcnt := count_any a n c o V1 (hl.under k1) hs
  obtain ⟨⟨N, hN⟩, hN2⟩ : (∃ N : Nat, countS o = (N : Int)) ∧ countS o ≤ 1000000 := ⟨⟨_, rfl⟩, (countS_le hs).2⟩
  rw [hN] at hcnt hN2
  replace hl := hide hl; replace hs := hide hs; replace hd := hide hd; replace hu := hide hu; replace hml := hide hml; replace n1 := hide n1; replace k1 := hide k1; replace hlm := hide hlm; replace hul := hide hul; replace hcnt := hide hcnt; replace hN := hide hN
  go_enter Try.func23, Try.ntmps23
  go_wp2_with fail
  refine (unhide hcnt).mono ?_
  rintro e w2 ⟨rfl, hb2⟩
  clear hcnt hV1 hb4
  have hmk := make_ints m (by omega) w2
  obtain ⟨r8, hr8⟩ : ∃ b, w2.heap.size = b := ⟨_, rfl⟩
  obtain ⟨V3, hV3⟩ : ∃ V, w2.alloc (.cells (madeCells #[Value.int .i64 0] m) 3) = V := ⟨_, rfl⟩
  have hrow := World.ownsRow_lit (base := r8) (e := 3) (size := 1) w2 (madeCells #[Value.int .i64 0] m) m (by omega) (by unfold maxLen; omega) (by rw [Nat.mul_one]; exact size_madeCells _ _)
  rw [toList_madeCells_one] at hrow
  have k3 := (Below.refl w2.heap.size w2).alloc (Nat.le_refl _) (.cells (madeCells #[Value.int .i64 0] m) 3)
  have s3 : V3.heap.size = w2.heap.size + 1 := by rw [← hV3, World.size_alloc]
  rw [hV3] at hmk hrow k3
  rw [hr8] at hmk hrow
  obtain ⟨b9, hb9⟩ : ∃ b, V3.heap.size = b := ⟨_, rfl⟩
  obtain ⟨V4, hV4⟩ : ∃ V, V3.alloc (.cells #[.slice (some ⟨r8, 0, none⟩) m m] 38) = V := ⟨_, rfl⟩
  have h9 := heap_alloc_new V3 (.cells #[.slice (some ⟨r8, 0, none⟩) m m] 38)
  have k4 := (Below.refl V3.heap.size V3).alloc (Nat.le_refl _) (.cells #[.slice (some ⟨r8, 0, none⟩) m m] 38)
  rw [hV4] at h9 k4
  rw [hb9] at h9
  have hrow4 := own_belowb hrow k4
  have c4b := cell_under c4 hb2
  have k34 := k3.trans (k4.mono k3.size)
  have k24 := hb2.trans (k34.mono hb2.size)
  have kw4 := (unhide k1).trans (k24.mono (unhide k1).size)
  have c4d : V4.cell? ⟨b4, 0, none⟩ = some (.slice la m lc) := cell_under c4b k34
  have hb4r : b4 < r8 := by have := hb2.size; omega
  have hwr : w.heap.size ≤ r8 := by have := hb2.size; have := (unhide k1).size; omega
  have hr9 : r8 < b9 := by omega
  have hr8V4 : r8 ≤ V4.heap.size := by have := k34.size; omega
  have hwl : (l.map fun d => weightS d.1 u).length = (List.replicate m (0 : Int)).length := by rw [List.length_map, List.length_replicate, unhide hlm]
  have hzero : List.replicate m (Value.int .i64 0) = vints (List.replicate m 0) := by unfold vints; rw [List.map_replicate]
  rw [hzero] at hrow4
  clear hzero hrow k3 k4 k34 k24 hb2 s3 c4 n1 k1
  replace hrow4 := hide hrow4; replace h9 := hide h9; replace kw4 := hide kw4; replace hwl := hide hwl; replace hr9 := hide hr9
  go_wp2_with fail
  clear hmk hr8 hV3 hb9 hV4 c4b
  replace c4d := hide c4d
  go_loopw [22] (fun v wr => ∃ k : Nat, k ≤ m ∧ v = .int .i64 (k : Int) ∧ wr.ownsRow r8 3 1 (.slice (some ⟨r8, 0, none⟩) m m) m (vints (mix (l.map fun d => weightS d.1 u) (List.replicate m 0) k)) ∧ wr.heap[b9]? = some (.cells #[.slice (some ⟨r8, 0, none⟩) m m] 38 (0, 0)) ∧ Below r8 V4 wr ∧ (l.take k).all (fitD o u) = true) (fun v _ => (m - intOf v).toNat)
  case atStart => exact ⟨0, by omega, rfl, by rw [mix_zero]; exact unhide hrow4, unhide h9, Below.refl _ _, rfl⟩
  case round =>
    clear hrow4 h9
    obtain ⟨k, hk, rfl, hrow, h9, hbw, hfit⟩ := hrel
    obtain ⟨wo, rfl⟩ : ∃ wo : World, wo = wr := ⟨_, rfl⟩
    have hbW := (unhide kw4).trans (hbw.mono hwr)
    have hr8o : r8 ≤ wo.heap.size := Nat.le_trans hr8V4 hbw.size
    by_cases hlt : k < m
    · obtain ⟨bl, ol, ⟨ts, ms⟩, ta, tn, tc, ma, mn, mc, rfl, _, hdk, _, _, _, _, hts0, hms0, g0, g1⟩ := lst_dl ((unhide hd).under hbW) hlt
      have hsz := unhide hml _ (List.mem_of_getElem? hdk)
      simp only at hts0 hms0 hsz
      have htl : ts.length = tn := hts0.1
      have hmll : ms.length = mn := hms0.1
      obtain ⟨b11, hb11⟩ : ∃ b, wo.heap.size = b := ⟨_, rfl⟩
      obtain ⟨V5, hV5⟩ : ∃ V, wo.alloc (.cells #[.slice ta tn tc, .slice ma mn mc] 48) = V := ⟨_, rfl⟩
      have n5 := heap_alloc_new wo (.cells #[.slice ta tn tc, .slice ma mn mc] 48)
      have k5 := (Below.refl wo.heap.size wo).alloc (Nat.le_refl _) (.cells #[.slice ta tn tc, .slice ma mn mc] 48)
      rw [hV5] at n5 k5
      rw [hb11] at n5
      have d0 : V5.cell? ⟨b11, 0, none⟩ = some (.slice ta tn tc) := (cell_of_row _ _ 0 _ _ _ n5).trans rfl
      have d1 : V5.cell? ⟨b11, 1, none⟩ = some (.slice ma mn mc) := (cell_of_row _ _ 1 _ _ _ n5).trans rfl
      have hts5 := hts0.under (Below.mono k5 (Nat.le_refl _))
      have hfc := fits_any ta tn tc ts (un : Int) V5 hts5 (by omega)
      have hbW5 := hbW.trans (k5.mono hbW.size)
      have hbw5 := hbw.trans (k5.mono hr8o)
      have hrow5 := own_belowb hrow k5
      have h95 := (k5.block b9 (Array.getElem?_eq_some_iff.1 h9).1).trans h9
      have c4w : wo.cell? ⟨b4, 0, none⟩ = some (.slice (some ⟨bl, ol, none⟩) m lc) := (hbw.cell (p := ⟨b4, 0, none⟩) hb4r).trans (unhide c4d)
      have t1 : (k : Int) < (m : Int) := by omega
      have t2 : ¬ (m : Int) ≤ (k : Int) := by omega
      by_cases hf1 : fitsS ts (un : Int) = true
      · rw [hf1] at hfc
        by_cases hf2 : mn = N
        · have hfd : fitD o u (ts, ms) = true := by unfold fitD; rw [unhide hul, hf1, unhide hN]; simp; omega
          obtain ⟨hall, hlen, _⟩ := fit_allV hfd
          have hfit2 := all_take hfit hdk hfd
          obtain ⟨q, hq⟩ : ∃ q, weightS ts u = q := ⟨_, rfl⟩
          have hqk : (l.map fun d => weightS d.1 u)[k]? = some q := by rw [List.getElem?_map, hdk, ← hq]; rfl
          have htn4 : tn ≤ 4 := by simp only at hlen; have := unhide hul; omega
          have tne : ((mn : Int) != (N : Int)) = false := by rw [hf2]; exact bne_self_eq_false _
          clear n5 k5 hbW hbw hrow h9 hdk hts0 hms0 hlen hfd hfit hf1 hsz htl hmll hf2
          replace hts5 := hide hts5
          replace hfc := hide hfc; replace hbW5 := hide hbW5; replace hbw5 := hide hbw5; replace hrow5 := hide hrow5; replace h95 := hide h95; replace hfit2 := hide hfit2; replace hq := hide hq; replace hqk := hide hqk; replace hall := hide hall
          go_wp2_with fail
          refine (unhide hfc).mono ?_
          rintro e V6 ⟨rfl, hb6⟩
          have hts := hide ((unhide hts5).under hb6)
          have kd0 := cell_under d0 hb6
          have kd1 := cell_under d1 hb6
          have krow := hide (own_belowb (unhide hrow5) hb6)
          have k9 := hide ((hb6.block b9 (Array.getElem?_eq_some_iff.1 (unhide h95)).1).trans (unhide h95))
          have hr8V : r8 ≤ V6.heap.size := Nat.le_trans hr8o (Nat.le_trans (by rw [← hV5, World.size_alloc]; omega) hb6.size)
          have hbw6 := hide ((unhide hbw5).trans (hb6.mono (Nat.le_trans hr8o (by rw [← hV5, World.size_alloc]; omega))))
          have hbW6 := (unhide hbW5).trans (hb6.mono (unhide hbW5).size)
          clear hfc hrow5 h95 hbw5 hbW5 hb6 d0 d1 g0 g1 c4w hV5 hb11
          have d0 := kd0; have d1 := kd1; have hrow := krow; have h9 := k9; have hbw := hbw6
          clear kd0 kd1 krow k9 hbw6
          have c9 : V6.cell? ⟨b9, 0, none⟩ = some (.slice (some ⟨r8, 0, none⟩) m m) := (cell_of_row _ _ 0 _ _ _ (unhide h9)).trans rfl
          have huV := hide ((unhide hu).under hbW6)
          clear hbW6
          go_wp2_with fail
          refine wp_region_frontG 6 (fun _ _ w' => Below V6.heap.size V6 w') (fun wa wb => Below wa.heap.size wa wb)
            (fun ix v w' => match ix with
              | 0 => v = .slice (some ⟨r8, 0, none⟩) m m
              | 1 => v = .int .i64 (k : Int)
              | 2 => v = .agg #[.slice ta tn tc, .slice ma mn mc]
              | 3 => v = .slice ua un uc
              | 4 => v = .int .i64 q
              | 5 => v = .pointer (some ⟨r8, k, none⟩)
              | _ => True) (by rfl) (by kernel_rfl) ?_ ?_ ?_ ?_
          · exact (Below.refl _ _).drew
          · intro wa wb hR ix v hv
            match ix, hv with
            | 0, h => exact h
            | 1, h => exact h
            | 2, h => exact h
            | 3, h => exact h
            | 4, h => exact h
            | 5, h => exact h
            | _ + 6, _ => trivial
          --BEGIN1
          · intro ix hix
            obtain rfl | rfl | rfl | rfl | rfl | rfl : ix = 0 ∨ ix = 1 ∨ ix = 2 ∨ ix = 3 ∨ ix = 4 ∨ ix = 5 := by omega
            · refine FrontStep.of [] _ rfl (by kernel_rfl) ?_
              intro vs LL wq hLL hC hf
              simp only [putL, List.foldl_nil]
              have hcq := cell_under c9 hC
              go_wp2_with fail
              first | exact Below.refl _ _ | exact ⟨Below.refl _ _, by omega⟩
            · refine FrontStep.of [] _ rfl (by kernel_rfl) ?_
              intro vs LL wq hLL hC hf
              simp only [putL, List.foldl_nil]
              go_wp2_with fail
              first | exact Below.refl _ _ | exact ⟨Below.refl _ _, by omega⟩
            · refine FrontStep.of [] _ rfl (by kernel_rfl) ?_
              intro vs LL wq hLL hC hf
              simp only [putL, List.foldl_nil]
              have hcq0 := cell_under d0 hC
              have hcq1 := cell_under d1 hC
              go_wp2_with fail
              first | exact Below.refl _ _ | exact ⟨Below.refl _ _, by omega⟩
            · refine FrontStep.of [] _ rfl (by kernel_rfl) ?_
              intro vs LL wq hLL hC hf
              simp only [putL, List.foldl_nil]
              go_wp2_with fail
              first | exact Below.refl _ _ | exact ⟨Below.refl _ _, by omega⟩
            · refine FrontStep.of [2, 3] _ rfl (by kernel_rfl) ?_
              intro vs LL wq hLL hC hf
              simp only [putL, List.foldl_nil, List.foldl_cons, List.getElem?_cons_zero, List.getElem?_cons_succ]
              have e2 : vs 2 = _ := hf 2 (by simp)
              rw [e2]
              have e3 : vs 3 = _ := hf 3 (by simp)
              rw [e3]
              have hcq := weight_any ta tn tc ts (.slice ma mn mc) ua un uc u wq ((unhide hts).under hC) ((unhide huV).under hC) htn4 (by omega) (unhide hall) ⟨_, _, _, rfl⟩
              rw [unhide hq] at hcq
              replace hcq := hide hcq
              go_wp2_with fail
              refine (unhide hcq).mono ?_
              rintro e wz ⟨rfl, hbz⟩
              clear hcq
              go_wp2_with fail
              first | exact hC.trans (hbz.mono hC.size) | exact ⟨hC.trans (hbz.mono hC.size), hbz⟩ | exact ⟨hbz, hC.trans (hbz.mono hC.size)⟩
            · refine FrontStep.of [0, 1, 2, 3, 4] _ rfl (by kernel_rfl) ?_
              intro vs LL wq hLL hC hf
              simp only [putL, List.foldl_nil, List.foldl_cons, List.getElem?_cons_zero, List.getElem?_cons_succ]
              have e0 : vs 0 = _ := hf 0 (by simp)
              rw [e0]
              have e1 : vs 1 = _ := hf 1 (by simp)
              rw [e1]
              have e2 : vs 2 = _ := hf 2 (by simp)
              rw [e2]
              have e3 : vs 3 = _ := hf 3 (by simp)
              rw [e3]
              have e4 : vs 4 = _ := hf 4 (by simp)
              rw [e4]
              go_wp2_with fail
              first | exact Below.refl _ _ | exact ⟨Below.refl _ _, by omega⟩
          --END1
          · intro vs LL wq hLL hC hf
            have e5 : vs 5 = _ := hf 5 (by omega)
            have e4 : vs 4 = _ := hf 4 (by omega)
            rw [putSome_all]
            simp only [putL, List.range, List.range.loop, List.foldl_nil, List.foldl_cons, List.getElem?_cons_zero, List.getElem?_cons_succ, List.drop_succ_cons, List.drop_zero]
            rw [e5, e4]
            clear e5 e4 hf hLL
            have hrq := own_belowb (unhide hrow) hC
            obtain ⟨hrs, hgs⟩ := hrq.stored k (.int .i64 q)
            obtain ⟨vq, hcx⟩ : ∃ vq, wq.cell? ⟨r8, k, none⟩ = some vq := by rw [hrq.cellAt k (by omega)]; exact ⟨_, List.getElem?_eq_getElem (by have := hrq.1; omega)⟩
            have hfx := hrq.frozenAt k
            have e9 : (vints (mix (l.map fun d => weightS d.1 u) (List.replicate m 0) k)).set k (.int .i64 q) = vints (mix (l.map fun d => weightS d.1 u) (List.replicate m 0) (k + 1)) := by unfold vints; rw [← mix_step (unhide hwl) (unhide hqk), List.map_set]
            rw [e9] at hrs
            have h9q := (hC.block b9 (Array.getElem?_eq_some_iff.1 (unhide h9)).1).trans (unhide h9)
            have h9z : (wq.setCell ⟨r8, k, none⟩ (.int .i64 q)).heap[b9]? = _ := (Below.heap_setCell wq ⟨r8, k, none⟩ (.int .i64 q) b9 (by have := unhide hr9; simp only; omega)).trans h9q
            have hbz := (((unhide hbw).trans (hC.mono hr8V)).setCell (p := ⟨r8, k, none⟩) (Nat.le_refl _) (.int .i64 q))
            obtain ⟨wy, hwy⟩ : ∃ wy, wq.setCell ⟨r8, k, none⟩ (.int .i64 q) = wy := ⟨_, rfl⟩
            rw [hwy] at hrs h9z hbz
            clear hrq hgs e9 h9q hC hbw h9 hrow c9 d0 d1 hts huV
            replace hrs := hide hrs; replace h9z := hide h9z; replace hbz := hide hbz
            go_simp
            go_wp2_with fail
            go_roundw
            case rel => exact ⟨k + 1, by omega, by go_num, unhide hrs, unhide h9z, unhide hbz, unhide hfit2⟩
            case measure => simp [intOf]; omega
        · have hfd : fitD o u (ts, ms) = false := by unfold fitD; rw [unhide hN]; simp; intro _; omega
          have tne : ((mn : Int) != (N : Int)) = true := by rw [bne_iff_ne]; omega
          have hbad := inst_bad (by have := unhide hlm; omega) hdk hfd
          clear n5 k5 hbW hbw hrow h9 hdk hts0 hms0 hfd hfit hf1 hsz htl hmll hts5 hrow5 h95 hbw5
          replace hbad := hide hbad
          replace hfc := hide hfc; replace hbW5 := hide hbW5; replace hf2 := hide hf2
          go_wp2_with fail
          refine (unhide hfc).mono ?_
          rintro e V6 ⟨rfl, hb6⟩
          have kd1 := cell_under d1 hb6
          have hbz := hide ((unhide hbW5).trans (hb6.mono (unhide hbW5).size))
          clear hfc hbW5 hb6 d0 d1 g0 g1 c4w hV5 hb11
          go_wp2_with fail
          go_ret2
          exact ⟨_, by rw [unhide hbad]; rfl, by rw [unhide hbad]; exact OO.nil _ _, unhide hbz⟩
      · replace hf1 : fitsS ts (un : Int) = false := by cases h : fitsS ts (un : Int) <;> simp_all
        rw [hf1] at hfc
        have hfd : fitD o u (ts, ms) = false := by unfold fitD; rw [unhide hul, hf1]; rfl
        have hbad := inst_bad (by have := unhide hlm; omega) hdk hfd
        clear n5 k5 hbW hbw hrow h9 hdk hts0 hms0 hfd hfit hf1 hsz htl hmll hts5 hrow5 h95 hbw5
        replace hbad := hide hbad
        replace hfc := hide hfc; replace hbW5 := hide hbW5
        go_wp2_with fail
        refine (unhide hfc).mono ?_
        rintro e V6 ⟨rfl, hb6⟩
        have hbz := hide ((unhide hbW5).trans (hb6.mono (unhide hbW5).size))
        clear hfc hbW5 hb6 d0 d1 g0 g1 c4w hV5 hb11
        go_wp2_with fail
        go_ret2
        exact ⟨_, by rw [unhide hbad]; rfl, by rw [unhide hbad]; exact OO.nil _ _, unhide hbz⟩
    · have hke : k = m := by omega
      subst hke
      rw [mix_all (by rw [List.length_map, unhide hlm]; exact Nat.le_refl _) (by rw [List.length_replicate]; exact Nat.le_refl _)] at hrow
      rw [List.take_of_length_le (by rw [unhide hlm]; exact Nat.le_refl _)] at hfit
      have hok := hide (inst_ok (o := o) (by have := unhide hlm; omega) hfit)
      have hfa : ∀ d ∈ l, fitD o u d = true := by rw [List.all_eq_true] at hfit; exact hfit
      have c4w : wo.cell? ⟨b4, 0, none⟩ = some (.slice la k lc) := (hbw.cell (p := ⟨b4, 0, none⟩) hb4r).trans (unhide c4d)
      have c9 : wo.cell? ⟨b9, 0, none⟩ = some (.slice (some ⟨r8, 0, none⟩) k k) := (cell_of_row _ _ 0 _ _ _ h9).trans rfl
      obtain ⟨wa, wc, hwv, _, _, hwlst⟩ := own_lst2 hrow (fun x hx => by
        obtain ⟨d, hd1, rfl⟩ := List.mem_map.1 hx
        obtain ⟨q1, q2, _⟩ := fit_allV (hfa d hd1)
        exact weight_i64 u q1 (by have := unhide hul; omega))
      obtain ⟨ew, _⟩ := Value.slice.inj hwv
      rw [List.length_map, unhide hlm, ← ew] at hwlst
      have hww : Lst Enc.int wo (· < wo.heap.size) (some ⟨r8, 0, none⟩) k (l.map fun d => weightS d.1 u) := hwlst.wide (fun b hb => hb.2)
      have hdl := (unhide hd).under hbW
      have hc := changed_inst a n c o b4 b9 (instP l u) wo ((unhide hl).under hbW) (unhide hs) (fun j p => ⟨wrap_i64 _, wrap_i64 _⟩) (fun j p w1 hb hp => inst1_any j p.1 p.2.1 p.2.2 b4 b9 la k lc (some ⟨r8, 0, none⟩) k l u w1 (cell_under c4w hb) (cell_under c9 hb) (hdl.under hb) (hww.under hb) (by omega) (fun d hd1 => by
        obtain ⟨_, _, q3⟩ := fit_allV (hfa d hd1)
        have := (List.getElem?_eq_some_iff.1 hp).1
        unfold countS at q3
        omega))
      clear hwv ew hwlst hww hdl hfa hfit hrow h9 c4w c9
      replace hc := hide hc; replace hbW := hide hbW; replace hbw := hide hbw
      go_wp2_with fail
      refine (unhide hc).mono ?_
      rintro e w9 ⟨v, rfl, hoo, hb9⟩
      have hbz := hide ((unhide hbW).trans (hb9.mono (unhide hbW).size))
      replace hoo := hide (hoo.mono (unhide hbW).size)
      clear hc hb9 hbW hbw
      go_wp2_with fail
      go_ret2
      exact ⟨_, by rw [unhide hok]; rfl, by rw [unhide hok]; exact unhide hoo, unhide hbz⟩
end Go.Proofs.Ytbodidhggdggmaa
