/- SubstChecks. -/
import Derived.Test.YtmlnjbljdincjaaSbF
namespace Go.Proofs.Ytmlnjbljdincjaa
open Go.RowKit
theorem goodL_check {l : List (List Sub)} {gm : Int} (h : GoodL l gm) : checkS l gm = 0 := by
  have hm : many l = false := by
    unfold many
    rw [List.any_eq_false]
    intro x hx
    have := (h.2 x hx).1
    simp
    omega
  refine checkS_ok (by have := h.1; omega) hm (fun k x hx => okLk_of (fun j s hs => ?_))
  obtain ⟨h1, h2, h3, h4, h5⟩ := (h.2 x (List.mem_of_getElem? hx)).2 s (List.mem_of_getElem? hs)
  refine okSub_yes h1 h5 ?_
  unfold okAll allOf
  rw [List.all_eq_true]
  intro y hy
  rcases List.mem_append.1 hy with hy | hy
  · exact decide_eq_true (h2 y hy)
  · rcases List.mem_append.1 hy with hy | hy
    · exact decide_eq_true (h3 y hy)
    · exact decide_eq_true (h4 y hy)
theorem fewS_small (l : List (List Sub)) : (fewS l).length ≤ 6 ∧ ∀ x ∈ fewS l, Small x := by
  unfold fewS
  refine ⟨by simp; omega, fun x hx => ?_⟩
  obtain ⟨y, _, rfl⟩ := List.mem_map.1 hx
  unfold fewX
  refine ⟨by simp; omega, fun s hs => ?_⟩
  obtain ⟨t, _, rfl⟩ := List.mem_map.1 hs
  unfold fewSub
  simp
  omega
/-- lookups in a cell -/
def LkAt (w : World) (b i : Nat) : Prop := ∃ a n c l, w.cell? ⟨b, i, none⟩ = some (.slice a n c) ∧ Lst Enc.lk w (fun b => b < w.heap.size) a n l ∧ n ≤ 1000 ∧ (∀ x ∈ l, Small x) ∧ ∀ x ∈ l, ToI x
theorem lst_to {w : World} {S : Nat → Prop} {a : Option Addr} {n : Nat} {l : List (List Sub)} (h : Lst Enc.lk w S a n l) : ∀ x ∈ l, ToI x := fun x hx s hs => by
  obtain ⟨k, hk, rfl⟩ := List.mem_iff_getElem.1 hx
  obtain ⟨b, off, y, a', n', c', _, _, hy, _, _, hY, _⟩ := lst_list h (k := k) (by rw [← h.1]; exact hk)
  have he : l[k] = y := Option.some.inj ((List.getElem?_eq_getElem hk).symm.trans hy)
  rw [he] at hs
  obtain ⟨j, hj, rfl⟩ := List.mem_iff_getElem.1 hs
  obtain ⟨b, off, t, a1, n1, c1, a2, n2, c2, a3, n3, c3, _, _, ht, _, _, _, hto, _⟩ := lst_sub hY (k := j) (by rw [← hY.1]; exact hj)
  have he2 : y[j] = t := Option.some.inj ((List.getElem?_eq_getElem hj).symm.trans ht)
  rw [he2]
  exact hto
theorem LkAt.under {w w' : World} {b i : Nat} (h : LkAt w b i) (hb : Below w.heap.size w w') : LkAt w' b i := by
  obtain ⟨a, n, c, l, h1, h2, h3⟩ := h
  exact ⟨a, n, c, l, cell_under h1 hb, h2.under hb, h3⟩
structure CkW (w wr : World) (bq : Nat) (la : Option Addr) (ln : Nat) (l : List (List Sub)) (many : Nat) : Prop where
  bel : Below w.heap.size w wr
  at_ : ∀ i, i < many → LkAt wr bq i
  lst : Lst Enc.lk wr (fun b => b < wr.heap.size) la ln l
theorem CkW.under {w wr wz : World} {bq ln many : Nat} {la : Option Addr} {l : List (List Sub)} (h : CkW w wr bq la ln l many) (hb : Below wr.heap.size wr wz) : CkW w wz bq la ln l many :=
  ⟨h.bel.trans (hb.mono h.bel.size), fun i hi => (h.at_ i hi).under hb, h.lst.under hb⟩
theorem CkW.start {w wr : World} {bq la' ln : Nat} {la : Option Addr} {l : List (List Sub)} {T : TypeId} {cs : Array Value} (hb : Below w.heap.size w wr) (hl : Lst Enc.lk wr (fun b => b < wr.heap.size) la ln l) (hq : wr.heap[bq]? = some (.cells cs T (0, 0))) (hc : cs.size = la')
    (hat : ∀ (i : Nat) (v : Value), cs[i]? = some v → ∃ a n c m, v = .slice a n c ∧ Lst Enc.lk wr (fun b => b < wr.heap.size) a n m ∧ n ≤ 1000 ∧ (∀ x ∈ m, Small x) ∧ ∀ x ∈ m, ToI x) : CkW w wr bq la ln l la' := by
  refine ⟨hb, fun i hi => ?_, hl⟩
  obtain ⟨a, n, c, m, h1, h2⟩ := hat i (cs[i]'(by omega)) (Array.getElem?_eq_getElem (by omega))
  exact ⟨a, n, c, m, by rw [← h1]; exact (cell_of_row _ _ i _ _ _ hq).trans (Array.getElem?_eq_getElem (by omega)), h2⟩
set_option maxRecDepth 100000 in
set_option maxHeartbeats 8000000 in
theorem substChecks_any (na : Option Addr) (nn nc : Nat) (N : List Int) (ra : Option Addr) (rn rc : Nat) (R : List (List Sub)) (mg : Int) (w : World) (hN : Lst Enc.int w (fun b => b < w.heap.size) na nn N) (hN1 : nn ≤ nc) (hN2 : nc ≤ maxLen) (hR : Lst Enc.lk w (fun b => b < w.heap.size) ra rn R) (hR1 : rn ≤ rc) (hR2 : rc ≤ maxLen) (hmg : I64 mg) :
    Calls Try.prog 3 #[.slice na nn nc, .slice ra rn rc, .int .i64 mg] w fun e w' => e = .returned (.bool true) ∧ Below w.heap.size w w' := by
  replace hN := hide hN; replace hR := hide hR; replace hmg := hide hmg
  go_enter Try.func3, Try.ntmps3
  go_wp2_with fail
  refine (sanity_any _).mono ?_
  rintro e w1 ⟨rfl, hb1⟩
  have hN' := (unhide hN).under hb1
  have hR' := (unhide hR).under hb1
  have hz := hb1
  clear hN hR hb1
  have hc := few_any ra rn rc R w1 hR' hR1 hR2
  clear hR'
  replace hc := hide hc; replace hN' := hide hN'; replace hz := hide hz
  go_wp2_with fail
  refine (unhide hc).mono ?_
  rintro e w2 ⟨v, us, rfl, hF⟩
  obtain ⟨fa, fc, rfl, hf⟩ := InR.lst hF.out hF.row (fun b hb => Nat.lt_of_lt_of_le hb hF.bel.size)
  have hfs := fewS_small R
  obtain ⟨F, hFe⟩ : ∃ F, fewS R = F := ⟨_, rfl⟩
  rw [hFe] at hf hfs ⊢
  obtain ⟨fn, hfn⟩ : ∃ fn, F.length = fn := ⟨_, rfl⟩
  rw [hfn] at hf hfs ⊢
  have hN := (unhide hN').under hF.bel
  have hz' := (unhide hz).trans (hF.bel.mono (unhide hz).size)
  clear hc hN' hz hF hFe
  have hc := made_any na nn nc N 6 w2 hN (by omega) (by omega) (by omega)
  clear hN
  replace hc := hide hc; replace hz' := hide hz'; replace hf := hide hf; replace hfs := hide hfs; replace hfn := hide hfn
  go_wp2_with fail
  refine (unhide hc).mono ?_
  rintro e w3 ⟨la, lc, l, rfl, hl, hlg, hb⟩
  obtain ⟨ln, hln⟩ : ∃ ln, l.length = ln := ⟨_, rfl⟩
  rw [hln] at hl ⊢
  have hf3 := (unhide hf).under hb
  have hz3 := (unhide hz').trans (hb.mono (unhide hz').size)
  have hll := hlg.1
  rw [hln] at hll
  clear hc hf hz' hb
  have hb0 : Below w3.heap.size w3 (w3.alloc (Obj.cells #[] 37)) := (Below.refl _ _).alloc (Nat.le_refl _) _
  have hrow0 := own_lit (base := w3.heap.size) (s := 1) (n := 0) (heap_alloc_new w3 (Obj.cells #[] 37)) (Nat.le_refl _) (by decide) rfl
  have hlA := hl.below hb0
  replace hlA := hide hlA; replace hrow0 := hide hrow0; replace hb0 := hide hb0; replace hl := hide hl; replace hf3 := hide hf3; replace hz3 := hide hz3; replace hln := hide hln; replace hlg := hide hlg
  go_wp2_with (at_builtin; refine wpList_append_lks rfl _ _ rfl w3.heap.size _ [] _ rfl (unhide hrow0) rfl _ _ _ l rfl (unhide hlA) ?p1 ?p2 ?_)
  case p1 => simp; omega
  case p2 => rw [World.size_alloc]; omega
  intro v1 w5 xs1 hrow1 hfl1 hb5
  have hb05 : Below w3.heap.size w3 w5 := (unhide hb0).trans hb5
  have hmA := (unhide hf3).below hb05
  try simp only [List.nil_append] at hrow1 hfl1
  clear hrow0 hlA hb0 hb5
  replace hmA := hide hmA; replace hrow1 := hide hrow1; replace hfl1 := hide hfl1; replace hb05 := hide hb05
  go_wp2_with (at_builtin; refine wpList_append_lks rfl _ _ rfl w3.heap.size _ l _ rfl (unhide hrow1) (unhide hfl1) _ _ _ F rfl (unhide hmA) ?p3 ?p4 ?_)
  case p3 => have := (unhide hfs).1; rw [unhide hln]; omega
  case p4 => exact (unhide hb05).size
  intro v2 w6 xs2 hrow2 hfl2 hb6
  have hb06 := (unhide hb05).trans hb6
  obtain ⟨pa, pc, rfl, hlm⟩ := flat_lst (l := l ++ F) (by rw [List.length_append]; exact hrow2) hfl2 hb06.size
  obtain ⟨lmn, hlme⟩ : ∃ lmn, (l ++ F).length = lmn := ⟨_, rfl⟩
  rw [hlme] at hlm ⊢
  have hl6 := (unhide hl).under hb06
  have hf6 := (unhide hf3).under hb06
  have hz6 := (unhide hz3).trans (hb06.mono (unhide hz3).size)
  have hlmn : lmn ≤ 1000 := by have := (unhide hfs).1; rw [← hlme, List.length_append, unhide hln, unhide hfn]; omega
  clear hrow1 hfl1 hmA hb05 hrow2 hfl2 hb6 hb06 hl hf3 hz3 hlme
  replace hl6 := hide hl6; replace hf6 := hide hf6; replace hz6 := hide hz6; replace hlm := hide hlm
  obtain ⟨bq, hbq⟩ : ∃ bq, bq = w6.heap.size := ⟨_, rfl⟩
  obtain ⟨w7, hw7⟩ : ∃ w7, w7 = w6.alloc (Obj.cells #[.slice la ln lc, .slice fa fn fc, .slice pa lmn pc] 23) := ⟨_, rfl⟩
  have hck : CkW w w7 bq la ln l 3 := by
    have hb : Below w6.heap.size w6 w7 := by rw [hw7]; exact (Below.refl _ _).alloc (Nat.le_refl _) _
    refine CkW.start ((unhide hz6).trans (hb.mono (unhide hz6).size)) ((unhide hl6).under hb) (by rw [hw7, hbq]; exact heap_alloc_new w6 _) rfl ?_
    intro i v hi
    have h1 := (unhide hl6).under hb
    have h2 := (unhide hf6).under hb
    have h3 := (unhide hlm).under hb
    have s1 := goodL_small (unhide hlg)
    have s2 := (unhide hfs).2
    match i, hi with
    | 0, hi => cases hi; exact ⟨_, _, _, _, rfl, h1, by omega, s1, lst_to h1⟩
    | 1, hi => cases hi; exact ⟨_, _, _, _, rfl, h2, by have := (unhide hfs).1; omega, s2, lst_to h2⟩
    | 2, hi => cases hi; exact ⟨_, _, _, _, rfl, h3, hlmn, fun x hx => (List.mem_append.1 hx).elim (s1 x) (s2 x), lst_to h3⟩
    | _ + 3, hi => cases hi
  clear hl6 hf6 hz6 hlm
  replace hbq := hide hbq; replace hw7 := hide hw7; replace hck := hide hck
  go_wp2_with fail
  rw [← unhide hw7, ← unhide hbq]
  go_loopw [27] (fun v wr => ∃ k : Nat, k ≤ 3 ∧ v = .int .i64 (k : Int) ∧ CkW w wr bq la ln l 3) (fun v _ => 3 - (intOf v).toNat)
  case atStart => exact ⟨0, by omega, rfl, unhide hck⟩
  case round =>
    clear hck
    obtain ⟨k, hk, rfl, hck⟩ := hrel
    obtain ⟨wo, rfl⟩ : ∃ wo : World, wo = wr := ⟨_, rfl⟩
    by_cases hlt : k < 3
    · obtain ⟨xa, xn, xc, L, cX, hX, hXn, hXs, -⟩ := hck.at_ k hlt
      have t1 : (k : Int) < 3 := by omega
      have t2 : ¬ (3 : Int) ≤ (k : Int) := by omega
      have hc := mod_any mg 8 wo (by omega) (by omega)
      replace hX := hide hX; replace hck := hide hck; replace hc := hide hc
      go_wp2_with fail
      refine (unhide hc).mono ?_
      rintro e wm ⟨rfl, hwm⟩
      rw [hwm]
      clear hwm hc
      obtain ⟨m8, hm8⟩ : ∃ m, mg % 8 = m := ⟨_, rfl⟩
      rw [hm8]
      clear hm8
      obtain ⟨bk, hbk⟩ : ∃ bq, bq = wo.heap.size := ⟨_, rfl⟩
      obtain ⟨w8, hw8⟩ : ∃ w4, w4 = wo.alloc (Obj.cells #[.int .i64 mg, .int .i64 m8, .int .i64 6, .int .i64 100] 3) := ⟨_, rfl⟩
      have hb8 : Below wo.heap.size wo w8 := by rw [hw8]; exact (Below.refl _ _).alloc (Nat.le_refl _) _
      have hq8 : w8.heap[bk]? = some (.cells #[.int .i64 mg, .int .i64 m8, .int .i64 6, .int .i64 100] 3 (0, 0)) := by rw [hw8, hbk]; exact heap_alloc_new wo _
      have hat : ∀ j, j < 4 → ∃ m, w8.cell? ⟨bk, j, none⟩ = some (.int .i64 m) := fun j hj => by
        match j, hj with
        | 0, _ => exact ⟨_, (cell_of_row _ _ 0 _ _ _ hq8).trans rfl⟩
        | 1, _ => exact ⟨_, (cell_of_row _ _ 1 _ _ _ hq8).trans rfl⟩
        | 2, _ => exact ⟨_, (cell_of_row _ _ 2 _ _ _ hq8).trans rfl⟩
        | 3, _ => exact ⟨_, (cell_of_row _ _ 3 _ _ _ hq8).trans rfl⟩
      have hX8 := (unhide hX).under hb8
      have hck8 := (unhide hck).under hb8
      clear hX hck hb8 hq8 cX
      replace hX8 := hide hX8; replace hck8 := hide hck8; replace hbk := hide hbk; replace hw8 := hide hw8; replace hat := hide hat
      go_wp2_with fail
      rw [← unhide hw8, ← unhide hbk]
      go_loopw [36] (fun v wr => ∃ j : Nat, j ≤ 4 ∧ v = .int .i64 (j : Int) ∧ Below w8.heap.size w8 wr) (fun v _ => 4 - (intOf v).toNat)
      case atStart => exact ⟨0, by omega, rfl, Below.refl _ _⟩
      case round =>
        obtain ⟨j, hj, rfl, hbj⟩ := hrel
        obtain ⟨w9, rfl⟩ : ∃ wo : World, wo = wr := ⟨_, rfl⟩
        by_cases hlt : j < 4
        · obtain ⟨m, cM⟩ := (unhide hat) j hlt
          have cM9 := cell_under cM hbj
          have t3 : (j : Int) < 4 := by omega
          have t4 : ¬ (4 : Int) ≤ (j : Int) := by omega
          have hX9 := (unhide hX8).under hbj
          have hc1 := check_any xa xn xc L m w9 hX9 hXn hXs
          have hc2 := fun w h => rcheck_any xa xn xc L m w h hXn hXs
          obtain ⟨cv, hcv⟩ : ∃ cv, checkS L m = cv := ⟨_, rfl⟩
          simp only [hcv] at hc1 hc2
          have hne : (cv != cv) = false := bne_self_eq_false cv
          clear cM hcv
          replace hbj := hide hbj; replace hX9 := hide hX9; replace hc1 := hide hc1; replace hc2 := hide hc2
          go_wp2_with fail
          refine (unhide hc1).mono ?_
          rintro e wa ⟨rfl, hb⟩
          have hcc := unhide hc2 wa ((unhide hX9).under hb)
          have hbz := (unhide hbj).trans (hb.mono (unhide hbj).size)
          clear hc1 hc2 hX9 hbj hb cM9
          replace hcc := hide hcc; replace hbz := hide hbz
          go_wp2_with fail
          refine (unhide hcc).mono ?_
          rintro e wb ⟨rfl, hb⟩
          have hbz2 := (unhide hbz).trans (hb.mono (unhide hbz).size)
          clear hcc hbz hb
          replace hbz2 := hide hbz2
          go_wp2_with fail
          go_roundw
          case rel => exact ⟨j + 1, by omega, by go_num, unhide hbz2⟩
          case measure => simp [intOf]; omega
        · have hckz := (unhide hck8).under hbj
          clear hbj
          replace hckz := hide hckz
          go_wp2_with fail
          go_roundw
          case rel => exact ⟨k + 1, by omega, by go_num, unhide hckz⟩
          case measure => simp [intOf]; omega
    · have hc := check_any la ln lc l 6 wo hck.lst (by omega) (goodL_small (unhide hlg))
      have hc0 : checkS l 6 = 0 := goodL_check (gm := 6) (unhide hlg)
      rw [hc0] at hc
      have hbz := hck.bel
      clear hck
      replace hc := hide hc; replace hbz := hide hbz
      go_wp2_with fail
      refine (unhide hc).mono ?_
      rintro e wa ⟨rfl, hb⟩
      have hbz2 := (unhide hbz).trans (hb.mono (unhide hbz).size)
      clear hc hbz hb
      replace hbz2 := hide hbz2
      go_wp2_with fail
      go_ret
      exact ⟨rfl, unhide hbz2⟩
end Go.Proofs.Ytmlnjbljdincjaa
