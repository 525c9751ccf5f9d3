/- JournalKeeps: its walk. -/
import Derived.Test.YtcliegeooooonaaJnB
namespace Go.Proofs.Ytcliegeooooonaa
open Go.RowKit
theorem bs_take (M : List (List UInt8)) (k : Nat) : (bs M).take k = bs (M.take k) := by unfold bs; rw [List.map_take]
theorem Tx.take {w : World} {a : Option Addr} {c n : Nat} {M : List (List UInt8)} (h : Tx w (.slice a n c) M) {k : Nat} (hk : k ≤ n) : Tx w (.slice a k c) (M.take k) := by
  obtain ⟨a', c', e, h0, h1⟩ := h
  injection e with e1 e2 e3
  subst e1; subst e2; subst e3
  have h2 := h1.take hk
  rw [bs_take] at h2
  have hl : (M.take k).length = k := by rw [List.length_take]; omega
  exact ⟨a, c, by rw [hl], by rw [hl]; omega, by rw [hl]; exact h2⟩
theorem begins_any (v v' : Value) (L M : List (List UInt8)) (w : World) (h : Tx w v L) (h' : Tx w v' M) (hn : L.length ≤ 1000000000) (_ : M.length ≤ 1000000000) :
    Calls Try.prog 23 #[v, v'] w fun e w' => e = .returned (.bool (decide (L <+: M))) ∧ Below w.heap.size w w' := by
  obtain ⟨a, c, rfl, h0, h1⟩ := h
  obtain ⟨a', c', rfl, h0', h2⟩ := h'
  by_cases hl : L.length ≤ M.length
  · have ht : Tx w (.slice a' L.length c') (M.take L.length) := Tx.take ⟨a', c', rfl, h0', h2⟩ hl
    have hs := same_any (.slice a L.length c) (.slice a' L.length c') L (M.take L.length) w ⟨a, c, rfl, h0, h1⟩ ht hn (by rw [List.length_take]; omega)
    have hd : decide (L = M.take L.length) = decide (L <+: M) := decide_eq_decide.2 List.prefix_iff_eq_take.symm
    rw [hd] at hs
    obtain ⟨d, hdd⟩ : ∃ d, decide (L <+: M) = d := ⟨_, rfl⟩
    rw [hdd] at hs ⊢
    have t1 : (L.length : Int) ≤ (M.length : Int) := by omega
    have t2 : decide (L.length ≤ M.length) = true := by simpa using hl
    have hcap : (L.length : Int) ≤ (c' : Int) := by omega
    clear hd hdd
    replace hs := hide hs
    go_enter Try.func23, Try.ntmps23
    go_wp2_with fail
    refine (unhide hs).mono ?_
    rintro e w1 ⟨rfl, hb⟩
    cases d <;> (go_wp2_with fail; go_ret; exact ⟨rfl, hb⟩)
  · have hd : decide (L <+: M) = false := decide_eq_false fun h => hl h.length_le
    rw [hd]
    have t1 : ¬ (L.length : Int) ≤ (M.length : Int) := by omega
    go_enter Try.func23, Try.ntmps23
    go_wp2_with fail
    go_ret
    exact ⟨rfl, Below.refl _ _⟩
theorem open_tx (s p : List UInt8) (w : World) (hs : s.length ≤ 100000000) (hp : p.length ≤ 100000000) :
    Calls Try.prog 19 #[dk s p] w fun e w' => ∃ v, e = .returned (.tuple #[v, dk ((s ++ p).take (opK s p)) (((s ++ p).drop (opK s p)).take (opN (s ++ p) - opK s p))]) ∧ Tx w' v (Jn.good b0L (s ++ p)).1 ∧ Below w.heap.size w w' :=
  (open_any s p w hs hp).mono fun e w' ⟨v, h1, h2, h3⟩ => ⟨v, h1, tx_own h2 (good_sml _ _ (by rw [List.length_append]; omega)), h3⟩
/-! ### the plain law -/
theorem keeps_1 {L : List Stp} (h20 : ∀ x ∈ L, x.1.length ≤ 20) (q : Nat) : (Jn.good b0L ((wrS L).1 ++ (wrS L).2.1.take q)).1 <+: (wrS L).2.2.1 ∧ (wrS L).2.2.2 ≤ (Jn.good b0L ((wrS L).1 ++ (wrS L).2.1.take q)).1.length := by
  have h := wrI L
  have hsm : Jn.Small (wrS L).2.2.1 := fun s hs => by
    rw [h.all] at hs
    obtain ⟨y, hy, rfl⟩ := List.mem_map.1 hs
    have := h20 y hy
    omega
  constructor
  · have e : (wrS L).1 ++ (wrS L).2.1.take q = (Jn.recs b0L (wrS L).2.2.1).take ((wrS L).1.length + q) := by
      rw [← h.con, List.take_append, Nat.add_sub_cancel_left, List.take_of_length_le (l := (wrS L).1) (Nat.le_add_right _ _)]
    rw [e]
    exact Jn.good_take _ _ hsm _
  · rw [h.safe, Jn.good_recs _ _ (fun s hs => by have := hsm s (List.mem_of_mem_take hs); omega)]
    simp only [List.length_append, List.length_take]
    have := h.le
    omega
theorem keeps_2 {L : List Stp} (h20 : ∀ x ∈ L, x.1.length ≤ 20) : (Jn.good b0L ((wrS L).1 ++ (wrS L).2.1)).1 = (wrS L).2.2.1 ∧ ((wrS L).1 ++ (wrS L).2.1).take (opK (wrS L).1 (wrS L).2.1) = (wrS L).1 ∧ (((wrS L).1 ++ (wrS L).2.1).drop (opK (wrS L).1 (wrS L).2.1)).take (opN ((wrS L).1 ++ (wrS L).2.1) - opK (wrS L).1 (wrS L).2.1) = (wrS L).2.1 := by
  have h := wrI L
  have hg : Jn.good b0L ((wrS L).1 ++ (wrS L).2.1) = ((wrS L).2.2.1, [], Jn.lastb b0L (wrS L).2.2.1) := by
    rw [h.con]
    exact Jn.good_all b0L _ (fun s hs => by
      rw [h.all] at hs
      obtain ⟨y, hy, rfl⟩ := List.mem_map.1 hs
      have := h20 y hy
      omega)
  have hN : opN ((wrS L).1 ++ (wrS L).2.1) = ((wrS L).1 ++ (wrS L).2.1).length := by unfold opN; rw [hg]; rfl
  have hK : opK (wrS L).1 (wrS L).2.1 = (wrS L).1.length := by
    unfold opK
    rw [hN, List.length_append]
    omega
  rw [hg, hK, hN]
  refine ⟨rfl, by simp, ?_⟩
  rw [List.drop_left, List.length_append, Nat.add_sub_cancel_left, List.take_length]
set_option maxRecDepth 100000 in
set_option maxHeartbeats 4000000 in
theorem journalKeeps_any (a : Option Addr) (len cap : Nat) (l : List (ByteArray × Bool)) (n : Int) (w : World) (hl : Lst (Enc.pair Enc.str Enc.bool) w (fun b => b < w.heap.size) a len l) (h1 : len ≤ cap) (h2 : cap ≤ maxLen) (hn : (-32768) ≤ n ∧ n ≤ 32767) :
    Calls Try.prog 5 #[.slice a len cap, .int .i16 n] w fun e w' => e = .returned (.bool true) ∧ Below w.heap.size w w' := by
  obtain ⟨hst, hml⟩ := stl_lst hl
  have hsa := sanity_any w
  have hfe := fun w' (hb : Below w.heap.size w w') => few_any a len cap (unstp l) w' (hst.call hb) h1 h2 hml
  obtain ⟨L, hL⟩ : ∃ L, fewS (unstp l) = L := ⟨_, rfl⟩
  have hL8 : L.length ≤ 8 := by rw [← hL]; exact fewS_len _
  have hL20 : ∀ x ∈ L, x.1.length ≤ 20 := by rw [← hL]; exact fewS_20 _
  unfold FewPost at hfe
  simp only [hL] at hfe
  have hwr := fun a c w h => written_any a L.length c L w h hL8 hL20
  unfold WrPost at hwr
  have hbd := wr_bd L hL8 hL20
  have hk1 := keeps_1 hL20
  have hk2 := keeps_2 hL20
  obtain ⟨s, hs⟩ : ∃ s, (wrS L).1 = s := ⟨_, rfl⟩
  obtain ⟨p, hp⟩ : ∃ s, (wrS L).2.1 = s := ⟨_, rfl⟩
  obtain ⟨A, hA⟩ : ∃ s, (wrS L).2.2.1 = s := ⟨_, rfl⟩
  obtain ⟨f, hf⟩ : ∃ s, (wrS L).2.2.2 = s := ⟨_, rfl⟩
  simp only [hs, hp, hA, hf] at hwr hbd hk1 hk2
  have hcr := fun w => crash_any s p n w ⟨by omega, by omega⟩ (by omega) (by omega)
  have hcn := crN_le p n
  obtain ⟨q, hq⟩ : ∃ q, crN p n = q := ⟨_, rfl⟩
  simp only [hq] at hcr hcn
  have hk1q := hk1 q
  have hAn : A.length ≤ 8 := by omega
  have hAs : Sml A := fun s hs => by have := hbd.2.2.2 s hs; omega
  have ho1 := fun w => open_tx (s ++ p.take q) [] w (by rw [List.length_append, List.length_take]; omega) (by decide)
  have ho2 := fun w => open_tx s p w (by omega) (by omega)
  simp only [List.append_nil] at ho1
  obtain ⟨k2a, k2b, k2c⟩ := hk2
  simp only [k2a, k2b, k2c] at ho2
  obtain ⟨F, hF⟩ : ∃ F, (Jn.good b0L (s ++ p.take q)).1 = F := ⟨_, rfl⟩
  have hFn : F.length ≤ 1000000000 := by have := hk1q.1.length_le; rw [← hF]; omega
  simp only [hF] at ho1 hk1q
  obtain ⟨X, hX⟩ : ∃ X, (s ++ p.take q).take (opK (s ++ p.take q) []) = X := ⟨_, rfl⟩
  obtain ⟨Y, hY⟩ : ∃ Y, ((s ++ p.take q).drop (opK (s ++ p.take q) [])).take (opN (s ++ p.take q) - opK (s ++ p.take q) []) = Y := ⟨_, rfl⟩
  simp only [hX, hY] at ho1
  obtain ⟨C, hC⟩ : ∃ C, s ++ p.take q = C := ⟨_, rfl⟩
  simp only [hC] at ho1 hcr
  have hbg : decide (F <+: A) = true := decide_eq_true hk1q.1
  have hfl : (f : Int) ≤ (F.length : Int) := by have := hk1q.2; omega
  have hfl' : decide (f ≤ F.length) = true := by simpa using hk1q.2
  have u16 : IntKind.i64.wrap n = n := IntWalk.i64_in _ (by omega)
  unfold dk at hwr hcr ho1 ho2
  clear hL hml hk1 hk1q hst hs hp hA hf hq hcn k2a k2b k2c hF hX hY hC hL20 hbd hl
  replace hsa := hide hsa; replace hfe := hide hfe; replace hwr := hide hwr; replace hcr := hide hcr; replace ho1 := hide ho1; replace ho2 := hide ho2; replace hAs := hide hAs; replace hbg := hide hbg; replace hL8 := hide hL8
  go_enter Try.func5, Try.ntmps5
  go_wp2_with fail
  refine (unhide hsa).mono ?_
  rintro e w1 ⟨rfl, hz1⟩
  clear hsa
  replace hz1 := hide hz1
  go_wp2_with fail
  refine (unhide hfe w1 (unhide hz1)).mono ?_
  rintro e w2 ⟨fa, fc, rfl, hfs, hb⟩
  have hz2 := hide ((unhide hz1).trans (hb.mono (unhide hz1).size))
  have hw2 := hide (unhide hwr fa fc w2 hfs)
  clear hfe hz1 hfs hb hwr
  go_wp2_with fail
  refine (unhide hw2).mono ?_
  rintro e w3 ⟨v, rfl, hrow, hb⟩
  have htA := tx_own hrow (unhide hAs)
  obtain ⟨ta, tc, rfl, htc, htl⟩ := htA
  have hz3 := (unhide hz2).trans (hb.mono (unhide hz2).size)
  obtain ⟨x6, v4, ex, ev, st⟩ := (St.start w3).new (Obj.cells #[.string ⟨s.toArray⟩, .string ⟨p.toArray⟩] 27)
  have d0 := st.cell 0 rfl 0 rfl
  have d1 := st.cell 0 rfl 1 rfl
  have htA : Tx v4 (.slice ta A.length tc) A := Tx.call ⟨ta, tc, rfl, htc, htl⟩ st.below
  clear hw2 hz2 hrow hb htl
  replace ex := hide ex; replace ev := hide ev; replace st := hide st; replace hz3 := hide hz3; replace htA := hide htA
  go_upto_region 5 with fail
  rw [unhide ev]
  try rw [unhide ex]
  clear ev ex
  go_wp2_with fail
  refine (unhide hcr v4).mono ?_
  rintro e w5 ⟨rfl, hb⟩
  replace st := hide ((unhide st).call hb)
  replace htA := hide ((unhide htA).call hb)
  clear hb d0 d1 hcr
  go_wp2_with fail
  refine (unhide ho1 w5).mono ?_
  rintro e w6 ⟨vf, rfl, htf, hb⟩
  obtain ⟨fa2, fc2, rfl, hfc2, hfl2⟩ := htf
  replace st := hide ((unhide st).call hb)
  replace htA := hide ((unhide htA).call hb)
  have htF : Tx w6 (.slice fa2 F.length fc2) F := ⟨fa2, fc2, rfl, hfc2, hfl2⟩
  clear hb ho1 hfl2
  replace htF := hide htF
  obtain ⟨x11, v7, ex, ev, st2⟩ := (unhide st).new (Obj.cells #[.string ⟨X.toArray⟩, .string ⟨Y.toArray⟩] 27)
  have hb7 : Below w6.heap.size w6 v7 := by rw [← ev]; exact (Below.refl _ _).alloc (Nat.le_refl _) _
  have d0 := st2.cell 1 rfl 0 rfl
  have d1 := st2.cell 1 rfl 1 rfl
  replace htA := hide ((unhide htA).call hb7)
  replace htF := hide ((unhide htF).call hb7)
  clear hb7 st
  replace ex := hide ex; replace ev := hide ev; replace st2 := hide st2
  go_upto_region 6 with fail
  rw [unhide ev]
  try rw [unhide ex]
  clear ev ex
  go_wp2_with fail
  refine (unhide ho2 v7).mono ?_
  rintro e w8 ⟨vg, rfl, htg, hb⟩
  obtain ⟨ga, gc, rfl, hgc, hgl⟩ := htg
  replace st2 := hide ((unhide st2).call hb)
  replace htA := hide ((unhide htA).call hb)
  replace htF := hide ((unhide htF).call hb)
  have htG : Tx w8 (.slice ga A.length gc) A := ⟨ga, gc, rfl, hgc, hgl⟩
  clear hb ho2 hgl d0 d1
  replace htG := hide htG
  obtain ⟨x13, v9, ex, ev, st3⟩ := (unhide st2).new (Obj.cells #[.string ⟨s.toArray⟩, .string ⟨p.toArray⟩] 27)
  have hb9 : Below w8.heap.size w8 v9 := by rw [← ev]; exact (Below.refl _ _).alloc (Nat.le_refl _) _
  replace htA := hide ((unhide htA).call hb9)
  replace htF := hide ((unhide htF).call hb9)
  replace htG := hide ((unhide htG).call hb9)
  clear hb9 st2
  have hbe := begins_any _ _ F A v9 (unhide htF) (unhide htA) hFn (by omega)
  rw [unhide hbg] at hbe
  replace ex := hide ex; replace ev := hide ev; replace st3 := hide st3; replace hbe := hide hbe
  go_upto_region 7 with fail
  rw [unhide ev]
  try rw [unhide ex]
  clear ev ex
  go_wp2_with fail
  refine (unhide hbe).mono ?_
  rintro e w10 ⟨rfl, hb⟩
  replace st3 := hide ((unhide st3).call hb)
  have hsm := same_any _ _ A A w10 ((unhide htG).call hb) ((unhide htA).call hb) (by omega) (by omega)
  rw [decide_eq_true rfl] at hsm
  clear hb hbe htA htF htG
  replace hsm := hide hsm
  go_wp2_with fail
  refine (unhide hsm).mono ?_
  rintro e w11 ⟨rfl, hb⟩
  have st4 := (unhide st3).call hb
  have d0 := st4.cell 0 rfl 0 rfl
  have d1 := st4.cell 0 rfl 1 rfl
  have d2 := st4.cell 2 rfl 0 rfl
  have d3 := st4.cell 2 rfl 1 rfl
  have t1 : (s == s) = true := beq_self_eq_true _
  have t2 : (p == p) = true := beq_self_eq_true _
  have hfin := (unhide hz3).trans (st4.below.mono (unhide hz3).size)
  clear hb hsm st3 st4 hz3
  replace hfin := hide hfin
  go_wp2_with fail
  go_ret
  exact ⟨rfl, unhide hfin⟩
end Go.Proofs.Ytcliegeooooonaa
