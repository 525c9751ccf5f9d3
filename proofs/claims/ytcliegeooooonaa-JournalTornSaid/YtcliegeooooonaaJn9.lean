/- The journal's law: comparing lists, sanity. -/
import Derived.Test.YtcliegeooooonaaJn8
import Derived.Laws.StructEq
namespace Go.Proofs.Ytcliegeooooonaa
open Go.RowKit
set_option maxHeartbeats 1000000 in
theorem sameTexts_any (a : Option Addr) (n c : Nat) (l : List ByteArray) (a' : Option Addr) (n' c' : Nat) (l' : List ByteArray) (w : World) (hl : Lst Enc.str w (· < w.heap.size) a n l) (hl' : Lst Enc.str w (· < w.heap.size) a' n' l') (hn : n ≤ 1000000000000) (hn' : n' ≤ 1000000000000) :
    Calls Try.prog 21 #[.slice a n c, .slice a' n' c'] w fun e w' => e = .returned (.bool (decide (l = l'))) ∧ ∃ m, w' = w.drewN m := by
  have h1 := hl.1
  have h2 := hl'.1
  by_cases hne : n = n'
  · subst hne
    replace h1 := hide h1; replace h2 := hide h2
    go_enter Try.func21, Try.ntmps21
    go_wp2_with fail
    go_loopw [5] (fun v wr => ∃ k m : Nat, k ≤ n ∧ v = .int .i64 (k : Int) ∧ l.take k = l'.take k ∧ wr = w.drewN m) (fun v _ => (n - intOf v).toNat)
    case atStart => exact ⟨0, 0, by omega, rfl, rfl, rfl⟩
    case round =>
      obtain ⟨k, m, hk, rfl, htk, rfl⟩ := hrel
      replace htk := hide htk
      by_cases hlt : k < n
      · obtain ⟨b, off, x, rfl, hb, hx, hxi, hc⟩ := lst_str hl hlt
        obtain ⟨b', off', x', rfl, hb', hx', hxi', hc'⟩ := lst_str hl' hlt
        replace hx := hide hx; replace hx' := hide hx'
        have i1 : (0 : Int) ≤ (k : Int) := by omega
        have i2 : (k : Int) < (n : Int) := by omega
        have d1 : (w.drewN m).cell? ⟨b, off + k, none⟩ = some (.string x) := hc
        have d2 : (w.drewN m).cell? ⟨b', off' + k, none⟩ = some (.string x') := hc'
        clear hl hl' hxi hxi' d1 d2
        by_cases hxx : x = x'
        · subst hxx
          have t2 := ba_eq x
          have t1 : (x != x) = false := by rw [bne, ba_eq]; rfl
          go_wp2_with fail
          go_quiet (fail)
          go_wp2_with fail
          go_roundw
          case rel =>
            obtain ⟨q1, e1⟩ := List.getElem?_eq_some_iff.1 (unhide hx)
            obtain ⟨q2, e2⟩ := List.getElem?_eq_some_iff.1 (unhide hx')
            exact ⟨k + 1, m + nq, by omega, by go_num, by rw [List.take_succ_eq_append_getElem q1, List.take_succ_eq_append_getElem q2, unhide htk, e1, e2], rfl⟩
          case measure => simp [intOf]; omega
        · have hfin : decide (l = l') = false := by
            rw [decide_eq_false_iff_not]
            rintro rfl
            exact hxx (Option.some.inj ((unhide hx).symm.trans (unhide hx')))
          have t1 : (x.toList == x'.toList) = false := by rw [← beq_toListBytes]; exact ba_ne hxx
          replace hfin := hide hfin
          replace hxx := hide hxx
          go_wp2_with fail
          go_quiet (fail)
          go_wp2_with fail
          go_ret
          rw [unhide hfin]
          exact ⟨rfl, m + nq, by first | rfl | rw [World.drewN_drewN]⟩
      · have hfin : decide (l = l') = true := by
          rw [decide_eq_true_iff]
          have := unhide htk
          rwa [List.take_of_length_le (by rw [unhide h1]; omega), List.take_of_length_le (by rw [unhide h2]; omega)] at this
        replace hfin := hide hfin
        have t1 : decide ((k : Int) < (n : Int)) = false := by simp; omega
        clear htk hl hl'
        go_wp2_with fail
        go_ret
        rw [unhide hfin]
        exact ⟨rfl, m, rfl⟩
  · have hfin : decide (l = l') = false := by
      rw [decide_eq_false_iff_not]
      rintro rfl
      omega
    have t1 : ((n : Int) != (n' : Int)) = true := by simp; omega
    replace hfin := hide hfin
    replace hne := hide hne
    clear h1 h2 hl hl'
    go_enter Try.func21, Try.ntmps21
    go_wp2_with fail
    go_ret
    rw [unhide hfin]
    exact ⟨rfl, 0, rfl⟩
def bs (l : List (List UInt8)) : List ByteArray := l.map fun x => ⟨x.toArray⟩
theorem bs_len (l : List (List UInt8)) : (bs l).length = l.length := by unfold bs; rw [List.length_map]
theorem bs_vba (l : List (List UInt8)) : (bs l).map vba = l.map vl := by unfold bs; rw [List.map_map]; rfl
theorem bs_inj {l m : List (List UInt8)} : bs l = bs m ↔ l = m := by
  refine ⟨fun h => ?_, fun h => by rw [h]⟩
  have h2 := congrArg (List.map fun s : ByteArray => s.data.toList) h
  unfold bs at h2
  rw [List.map_map, List.map_map] at h2
  have hid : ((fun s : ByteArray => s.data.toList) ∘ fun x : List UInt8 => (⟨x.toArray⟩ : ByteArray)) = id := by funext x; simp
  rw [hid, List.map_id, List.map_id] at h2
  exact h2
def Sml (L : List (List UInt8)) : Prop := ∀ s ∈ L, s.length ≤ 1000000000
theorem good_sml (b r : List UInt8) (hr : r.length ≤ 1000000000) : Sml (Jn.good b r).1 := fun s hs => by
  have h1 := Jn.recs_mem b _ s hs
  have h2 := congrArg List.length (Jn.good_eq b r)
  rw [List.length_append] at h2
  omega
theorem good_cnt (b r : List UInt8) : (Jn.good b r).1.length ≤ r.length := by
  have h1 := Jn.recs_count b (Jn.good b r).1
  have h2 := congrArg List.length (Jn.good_eq b r)
  rw [List.length_append] at h2
  omega
/-- a list of strings that a slice reads as -/
def Tx (w : World) (v : Value) (L : List (List UInt8)) : Prop := ∃ a c, v = .slice a L.length c ∧ L.length ≤ c ∧ Lst Enc.str w (fun b => b < w.heap.size) a L.length (bs L)
theorem Tx.call {w w' : World} {v : Value} {L : List (List UInt8)} (h : Tx w v L) (hb : Below w.heap.size w w') : Tx w' v L := by
  obtain ⟨a, c, h1, h0, h2⟩ := h
  exact ⟨a, c, h1, h0, h2.under hb⟩
theorem own_cap {w : World} {B n m c : Nat} {T s : Nat} {a : Option Addr} {xs : List Value} (h : w.ownsRow B T s (.slice a m c) n xs) : m ≤ c := by
  rcases h.2 with ⟨hv, hn⟩ | ⟨g, cap, cur, hv, hb, hg, hn, hrest⟩
  · injection hv with e1 e2 e3
    omega
  · injection hv with e1 e2 e3
    omega
theorem tx_own {w : World} {B : Nat} {v : Value} {n : Nat} {L : List (List UInt8)} (h : w.ownsRow B 9 1 v n (L.map vl)) (hL : Sml L) : Tx w v L := by
  rw [← bs_vba] at h
  obtain ⟨a, c, h1, h2⟩ := lst_own_vba h (fun x hx => by
    unfold bs at hx
    obtain ⟨s, hs, rfl⟩ := List.mem_map.1 hx
    rw [ba_size]
    have := hL s hs
    unfold maxLen
    omega)
  rw [bs_len] at h1 h2
  exact ⟨a, c, h1, own_cap (h1 ▸ h), h2.wide (fun b hb => hb.1)⟩
theorem same_any (v v' : Value) (L M : List (List UInt8)) (w : World) (h : Tx w v L) (h' : Tx w v' M) (hn : L.length ≤ 1000000000) (hm : M.length ≤ 1000000000) :
    Calls Try.prog 21 #[v, v'] w fun e w' => e = .returned (.bool (decide (L = M))) ∧ Below w.heap.size w w' := by
  obtain ⟨a, c, rfl, -, h1⟩ := h
  obtain ⟨a', c', rfl, -, h2⟩ := h'
  refine (sameTexts_any a _ c (bs L) a' _ c' (bs M) w h1 h2 (by omega) (by omega)).mono ?_
  rintro e w' ⟨rfl, m, rfl⟩
  refine ⟨by rw [decide_eq_decide.2 bs_inj], ⟨rfl, rfl, rfl, Nat.le_refl _, fun _ _ => rfl⟩⟩
/-! ### the examples -/
def exR : List UInt8 := Jn.recd b0L [97]
def exS : List UInt8 := Jn.recd (Jn.chL b0L [97]) [98]
theorem exR_eq : exR = [2, 97] ++ Jn.chL b0L [97] := rfl
theorem exR_len : exR.length = 10 := rfl
theorem ex_1 : apS [] [] [97] = ([], exR, 0) := by
  unfold apS
  rw [if_neg (by decide), List.append_nil, Jn.good_none (Jn.step_nil _), if_pos rfl]
  rfl
theorem ex_good : Jn.good b0L exR = ([[97]], [], Jn.chL b0L [97]) := by
  have := Jn.good_all b0L [[97]] (fun s hs => by simp at hs; subst hs; decide)
  rw [show Jn.recs b0L [[97]] = exR by unfold exR; simp [Jn.recs]] at this
  rw [this]
  rfl
theorem ex_2 : Jn.good b0L (exR.take 9) = ([], exR.take 9, b0L) := by
  have := Jn.step_cut b0L [97] [] (by decide) 9 (by decide)
  rw [List.append_nil] at this
  exact Jn.good_none this
theorem ex_3 : apS exR [] [98] = (exR, exS, 0) := by
  unfold apS
  rw [if_neg (by decide), List.append_nil, ex_good, if_pos rfl]
  rfl
theorem ex_4 : Jn.good b0L [120] = ([], [120], b0L) := by decide +kernel
theorem ex_5 : apS [120] [] [97] = ([], [], 90) := by
  unfold apS
  rw [if_neg (by decide), List.append_nil, ex_4, if_neg (by decide)]
/-- a box that holds a disk -/
def BoxD (w : World) (b : Nat) (s p : List UInt8) : Prop := w.heap[b]? = some (.cells #[.string ⟨s.toArray⟩, .string ⟨p.toArray⟩] 27 (0, 0))
theorem BoxD.call {w w' : World} {b : Nat} {s p : List UInt8} (h : BoxD w b s p) (hb : Below w.heap.size w w') : BoxD w' b s p := kept' hb h
theorem BoxD.c0 {w : World} {b : Nat} {s p : List UInt8} (h : BoxD w b s p) : w.cell? ⟨b, 0, none⟩ = some (.string ⟨s.toArray⟩) := cell_of_row _ _ 0 _ _ _ h
theorem BoxD.c1 {w : World} {b : Nat} {s p : List UInt8} (h : BoxD w b s p) : w.cell? ⟨b, 1, none⟩ = some (.string ⟨p.toArray⟩) := cell_of_row _ _ 1 _ _ _ h
theorem dk_f0 (s p : ByteArray) (w : World) : (Instr.field 27 (.agg #[.string s, .string p]) 0).run Try.prog w = .ok (.string s) w := by kernel_rfl
set_option maxRecDepth 100000 in
set_option maxHeartbeats 4000000 in
theorem sanity_any (w : World) : Calls Try.prog 8 #[] w fun e w' => e = .returned (.bool true) ∧ Below w.heap.size w w' := by
  have hof := rOf_any ⟨#[]⟩ w (by decide)
  rw [show (Dg.dig (⟨#[]⟩ : ByteArray).data.toList) = b0L from rfl] at hof
  have hch := fun w => rChain_any ⟨b0L.toArray⟩ ⟨#[97]⟩ w (by decide) (by decide)
  have e0 : chainS ⟨b0L.toArray⟩ ⟨#[97]⟩ = Jn.chL b0L [97] := chain_ba b0L [97]
  simp only [e0] at hch
  have ha1 : ∀ w, (Op.stringOp .add ⟨#[2, 97]⟩ ⟨(Jn.chL b0L [97]).toArray⟩).run Try.prog w = .ok (.string ⟨exR.toArray⟩) w := fun w => str_add2 [2, 97] _ (by decide)
  have hA1 := fun w => append_any [] [] [97] w (by decide) (by decide) (by decide)
  have hA2 := fun w => append_any exR [] [98] w (by decide) (by decide) (by decide)
  have hA3 := fun w => append_any [120] [] [97] w (by decide) (by decide) (by decide)
  simp only [ex_1] at hA1
  simp only [ex_3] at hA2
  simp only [ex_5] at hA3
  have hC1 := fun w => crash_any [] exR 9 w ⟨by decide, by decide⟩ (by decide) (by decide)
  have hC2 := fun w => crash_any exR exS (-1) w ⟨by decide, by decide⟩ (by decide) (by decide)
  simp only [show crN exR 9 = 9 from rfl, List.nil_append] at hC1
  simp only [show crN exS (-1) = 0 from rfl, List.take_zero, List.append_nil] at hC2
  have hS := fun w => sync_any [] exR w (by decide) (by decide)
  simp only [List.nil_append] at hS
  have hO1 : ∀ w, Calls Try.prog 19 #[dk (exR.take 9) []] w fun e w' => ∃ v, e = .returned (.tuple #[v, dk [] []]) ∧ Tx w' v [] ∧ Below w.heap.size w w' := fun w => (open_any (exR.take 9) [] w (by decide) (by decide)).mono fun e w' ⟨v, h1, h2, h3⟩ => by
    rw [List.append_nil] at h1 h2
    rw [show opK (exR.take 9) [] = 0 by unfold opK opN; rw [List.append_nil, ex_2]; simp, show opN (exR.take 9) = 0 by unfold opN; rw [ex_2]; simp] at h1
    rw [ex_2] at h2
    exact ⟨v, h1, tx_own h2 (by intro s hs; cases hs), h3⟩
  have hO2 : ∀ w, Calls Try.prog 19 #[dk exR []] w fun e w' => ∃ v, e = .returned (.tuple #[v, dk exR []]) ∧ Tx w' v [[97]] ∧ Below w.heap.size w w' := fun w => (open_any exR [] w (by decide) (by decide)).mono fun e w' ⟨v, h1, h2, h3⟩ => by
    rw [List.append_nil] at h1 h2
    rw [show opK exR [] = 10 by unfold opK opN; rw [List.append_nil, ex_good]; rfl, show opN exR = 10 by unfold opN; rw [ex_good]; rfl] at h1
    rw [ex_good] at h2
    exact ⟨v, h1, tx_own h2 (by intro s hs; simp at hs; subst hs; decide), h3⟩
  unfold dk at hA1 hA2 hA3 hC1 hC2 hS hO1 hO2
  clear e0
  obtain ⟨R, hR⟩ : ∃ R, exR = R := ⟨_, rfl⟩
  obtain ⟨S, hSS⟩ : ∃ R, exS = R := ⟨_, rfl⟩
  obtain ⟨C, hC⟩ : ∃ R, Jn.chL b0L [97] = R := ⟨_, rfl⟩
  have hRl : R.length = 10 := by rw [← hR]; rfl
  have hTl : (R.take 9).length = 9 := by rw [List.length_take, hRl]; rfl
  simp only [hR, hSS, hC] at *
  obtain ⟨T, hT⟩ : ∃ T, R.take 9 = T := ⟨_, rfl⟩
  simp only [hT] at *
  have zT : (⟨T.toArray⟩ : ByteArray).size = 9 := by rw [ba_size]; exact hTl
  clear hR hSS hC hT
  obtain ⟨B, hB⟩ : ∃ B, w.heap.size = B := ⟨_, rfl⟩
  rw [hB] at hof
  replace hof := hide hof; replace hch := hide hch; replace hA1 := hide hA1; replace hA2 := hide hA2; replace hA3 := hide hA3; replace hC1 := hide hC1; replace hC2 := hide hC2; replace hS := hide hS; replace hO1 := hide hO1; replace hO2 := hide hO2; replace hRl := hide hRl; replace hTl := hide hTl; replace hB := hide hB
  go_enter Try.func8, Try.ntmps8
  go_wp2_with fail
  refine (unhide hof).mono ?_
  rintro e w1 ⟨rfl, hb1⟩
  replace hb1 := hide hb1
  go_wp2_with fail
  refine (unhide hch w1).mono ?_
  rintro e w2 ⟨rfl, hb2⟩
  have hz : B ≤ w1.heap.size := by have := (unhide hb1).size; have := unhide hB; omega
  replace hb1 := hide ((unhide hb1).trans (hb2.mono hz))
  clear hb2 hof hch hz
  go_wp2_with fail
  refine (unhide hA1 w2).mono ?_
  rintro e w3 ⟨rfl, hb2⟩
  have hz : B ≤ w2.heap.size := by have := (unhide hb1).size; have := unhide hB; omega
  have hbw := (unhide hb1).trans (hb2.mono hz)
  obtain ⟨x2, v3, ex, ev, st⟩ := (St.start w3).new (Obj.cells #[.string ⟨#[]⟩, .string ⟨R.toArray⟩] 27)
  have d0 := st.cell 0 rfl 0 rfl
  have d1 := st.cell 0 rfl 1 rfl
  clear hb1 hb2 hA1 hz
  replace ex := hide ex; replace ev := hide ev; replace st := hide st; replace hbw := hide hbw
  go_upto_region 3 with fail
  rw [unhide ev]
  try rw [unhide ex]
  clear ev ex
  go_wp2_with fail
  refine (unhide hC1 v3).mono ?_
  rintro e w4 ⟨rfl, hb⟩
  replace st := hide ((unhide st).call hb)
  clear hb d0 d1
  go_wp2_with fail
  refine (unhide hO1 w4).mono ?_
  rintro e w5 ⟨vn, rfl, htn, hb⟩
  replace st := hide ((unhide st).call hb)
  obtain ⟨an, cn, evn, -, hln⟩ := htn
  subst evn
  clear hb hO1
  replace hln := hide hln
  go_upto_region 4 with fail
  obtain ⟨x5, v6, ex, ev, st2⟩ := (unhide st).new (Obj.cells #[.string ⟨#[]⟩, .string ⟨#[]⟩] 27)
  clear st
  rw [ev]
  try rw [ex]
  clear ex ev
  have d0 := st2.cell 1 rfl 0 rfl
  have d1 := st2.cell 1 rfl 1 rfl
  have hln6 := (unhide hln).under (((Below.refl _ _).alloc (Nat.le_refl _) (Obj.cells #[.string ⟨#[]⟩, .string ⟨#[]⟩] 27)))
  clear hln hln6
  replace st2 := hide st2
  go_wp2_with fail
  refine (unhide hS _).mono ?_
  rintro e w7 ⟨rfl, hb⟩
  replace st2 := hide ((unhide st2).call hb)
  clear hb hS d0 d1
  go_wp2_with fail
  refine (unhide hA2 _).mono ?_
  rintro e w8 ⟨rfl, hb⟩
  replace st2 := hide ((unhide st2).call hb)
  clear hb hA2
  obtain ⟨x6, v9, ex, ev, st3⟩ := (unhide st2).new (Obj.cells #[.string ⟨R.toArray⟩, .string ⟨S.toArray⟩] 27)
  clear st2
  replace ex := hide ex; replace ev := hide ev
  have d0 := st3.cell 0 rfl 0 rfl
  have d1 := st3.cell 0 rfl 1 rfl
  replace st3 := hide st3
  go_upto_region 5 with fail
  rw [unhide ev]
  try rw [unhide ex]
  clear ex ev
  go_wp2_with fail
  refine (unhide hC2 _).mono ?_
  rintro e w10 ⟨rfl, hb⟩
  replace st3 := hide ((unhide st3).call hb)
  clear hb hC2 d0 d1
  go_wp2_with fail
  refine (unhide hO2 _).mono ?_
  rintro e w11 ⟨vm, rfl, htm, hb⟩
  replace st3 := hide ((unhide st3).call hb)
  clear hb hO2
  obtain ⟨am, cm, evm, hcm, hlm⟩ := htm
  subst evm
  replace hlm := hide hlm
  obtain ⟨x9, v12, ex, ev, st4⟩ := (unhide st3).new (Obj.cells #[.string ⟨R.toArray⟩, .string ⟨#[]⟩] 27)
  clear st3
  have hb12 : Below w11.heap.size w11 v12 := by rw [← ev]; exact (Below.refl _ _).alloc (Nat.le_refl _) _
  have hlm12 := hide ((unhide hlm).under hb12)
  clear hlm hb12
  replace ex := hide ex; replace ev := hide ev; replace st4 := hide st4
  go_upto_region 6 with fail
  rw [unhide ev]
  try rw [unhide ex]
  clear ex ev
  go_wp2_with fail
  refine (unhide hA3 _).mono ?_
  rintro e w13 ⟨rfl, hb⟩
  have hlm13 := hide ((unhide hlm12).under hb)
  replace st4 := hide ((unhide st4).call hb)
  clear hb hlm12 hA3
  obtain ⟨x10, v14, ex, ev, st5⟩ := (unhide st4).new (Obj.cells #[.string ⟨#[]⟩, .string ⟨#[]⟩] 27)
  clear st4
  have hb14 : Below w13.heap.size w13 v14 := by rw [← ev]; exact (Below.refl _ _).alloc (Nat.le_refl _) _
  have hlm14 := hide ((unhide hlm13).under hb14)
  clear hlm13 hb14
  replace ex := hide ex; replace ev := hide ev
  have d0 := st5.cell 4 rfl 0 rfl
  have d1 := st5.cell 4 rfl 1 rfl
  have d2 := st5.cell 3 rfl 0 rfl
  have d3 := st5.cell 3 rfl 1 rfl
  replace st5 := hide st5
  have t1 : (R == R) = true := beq_self_eq_true _
  go_upto_region 7 with fail
  rw [unhide ev]
  try rw [unhide ex]
  clear ex ev
  go_wp2_with fail
  refine (unhide hC1 _).mono ?_
  rintro e w15 ⟨rfl, hb⟩
  have hlm15 := hide ((unhide hlm14).under hb)
  have st6 := (unhide st5).call hb
  clear hb hlm14 st5 d0 d1 d2 d3 hC1
  have d0 := st6.cell 3 rfl 0 rfl
  have d1 := st6.cell 3 rfl 1 rfl
  have d2 := st6.cell 2 rfl 0 rfl
  have d3 := st6.cell 2 rfl 1 rfl
  have d4 := st6.cell 1 rfl 0 rfl
  have d5 := st6.cell 1 rfl 1 rfl
  replace st6 := hide st6
  have hff := fun w => dk_f0 ⟨T.toArray⟩ ⟨#[]⟩ w
  go_upto_region 8 with fail
  have hb16 : Below w15.heap.size w15 (w15.alloc (Obj.cells #[.string ⟨#[97]⟩] 9)) := (Below.refl _ _).alloc (Nat.le_refl _) _
  have hlit : Lst Enc.str (w15.alloc (Obj.cells #[.string ⟨#[97]⟩] 9)) (fun b => b < (w15.alloc (Obj.cells #[.string ⟨#[97]⟩] 9)).heap.size) (some ⟨w15.heap.size, 0, none⟩) 1 (bs [[97]]) := lst_strs (l := [⟨#[97]⟩]) (heap_alloc_new _ _) (fun x hx => by simp at hx; subst hx; decide) (by simp)
  have hsm := same_any (.slice am 1 cm) (.slice (some ⟨w15.heap.size, 0, none⟩) 1 1) [[97]] [[97]] _ ⟨am, cm, rfl, hcm, (unhide hlm15).under hb16⟩ ⟨_, _, rfl, Nat.le_refl _, hlit⟩ (by decide) (by decide)
  rw [decide_eq_true rfl] at hsm
  replace hsm := hide hsm; replace hb16 := hide hb16
  clear hlit hlm15
  go_wp2_with fail
  refine (unhide hsm).mono ?_
  rintro e w17 ⟨rfl, hb⟩
  have st7 := ((unhide st6).call (unhide hb16)).call hb
  clear hb hsm hb16 st6 d0 d1 d2 d3 d4 d5
  have d4 := st7.cell 1 rfl 0 rfl
  have d5 := st7.cell 1 rfl 1 rfl
  have hz : B ≤ w3.heap.size := by have := (unhide hbw).size; have := unhide hB; omega
  have hfin := (unhide hbw).trans (st7.below.mono hz)
  clear st7 hbw
  rw [← unhide hB] at hfin
  replace hfin := hide hfin
  go_wp2_with fail
  go_ret
  exact ⟨rfl, unhide hfin⟩
end Go.Proofs.Ytcliegeooooonaa
