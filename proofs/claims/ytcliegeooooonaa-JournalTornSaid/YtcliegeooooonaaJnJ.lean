/- JournalTorn: its walk. -/
import Derived.Test.YtcliegeooooonaaJnI
import Derived.Test.YtcliegeooooonaaJnF
namespace Go.Proofs.Ytcliegeooooonaa
open Go.RowKit
theorem tx_get {w : World} {ad : Option Addr} {n c k : Nat} {L : List (List UInt8)} {x : List UInt8} (h : Tx w (.slice ad n c) L) (hx : L[k]? = some x) : ∃ b off, ad = some ⟨b, off, none⟩ ∧ w.cell? ⟨b, off + k, none⟩ = some (.string ⟨x.toArray⟩) := by
  obtain ⟨a', c', e, _, h2⟩ := h
  injection e with e1 e2 e3
  have hk := (List.getElem?_eq_some_iff.1 hx).1
  obtain ⟨b', off', x', e4, _, h5, _, h6⟩ := lst_str h2 hk
  have hb : (bs L)[k]? = some ⟨x.toArray⟩ := by unfold bs; rw [List.getElem?_map, hx]; rfl
  rw [hb] at h5
  injection h5 with h5
  subst h5
  exact ⟨b', off', e1.trans e4, h6⟩
theorem Tx.lens {w : World} {ad : Option Addr} {n c : Nat} {L : List (List UInt8)} (h : Tx w (.slice ad n c) L) : n = L.length ∧ n ≤ c := by
  obtain ⟨a', c', e, h0, _⟩ := h
  injection e with e1 e2 e3
  exact ⟨e2, by omega⟩
theorem xor_u8 (x m : Nat) (hx : x < 256) (hm : m < 256) : bits .xor .u8 (x : Int) (m : Int) = ((x ^^^ m : Nat) : Int) := by
  have hlt : x ^^^ m < 256 := Nat.xor_lt_two_pow (n := 8) hx hm
  show IntKind.u8.wrap ((BitVec.ofInt 8 (x : Int) ^^^ BitVec.ofInt 8 (m : Int)).toNat : Int) = _
  have e1 : BitVec.ofInt 8 (x : Int) = BitVec.ofNat 8 x := by simp
  have e2 : BitVec.ofInt 8 (m : Int) = BitVec.ofNat 8 m := by simp
  rw [e1, e2, BitVec.toNat_xor, BitVec.toNat_ofNat, BitVec.toNat_ofNat, Nat.mod_eq_of_lt hx, Nat.mod_eq_of_lt hm]
  show (((x ^^^ m : Nat) : Int) % 256) = _
  omega
theorem xor_ne (x m : Nat) (hm : m ≠ 0) : x ^^^ m ≠ x := fun h => by
  have h2 : x ^^^ (x ^^^ m) = x ^^^ x := by rw [h]
  rw [← Nat.xor_assoc, Nat.xor_self, Nat.zero_xor] at h2
  exact hm h2
set_option maxRecDepth 100000 in
set_option maxHeartbeats 8000000 in
theorem journalTorn_any (a : Option Addr) (len cap : Nat) (l : List (ByteArray × Bool)) (at0 b0 : Int) (w : World) (hl : Lst (Enc.pair Enc.str Enc.bool) w (fun b => b < w.heap.size) a len l) (h1 : len ≤ cap) (h2 : cap ≤ maxLen) (hat : 0 ≤ at0 ∧ at0 ≤ 65535) (hb0 : 0 ≤ b0 ∧ b0 ≤ 255) :
    Calls Try.prog 7 #[.slice a len cap, .int .u16 at0, .int .u8 b0] w fun e w' => e = .returned (.bool true) ∧ Below w.heap.size w w' := by
  obtain ⟨at_, rfl⟩ : ∃ n : Nat, at0 = (n : Int) := ⟨at0.toNat, by omega⟩
  obtain ⟨bb, rfl⟩ : ∃ n : Nat, b0 = (n : Int) := ⟨b0.toNat, by omega⟩
  obtain ⟨hst, hml⟩ := stl_lst hl
  have hfe := fun w' (hb : Below w.heap.size w w') => few_any a len cap (unstp l) w' (hst.call hb) h1 h2 hml
  obtain ⟨L, hL⟩ : ∃ L, fewS (unstp l) = L := ⟨_, rfl⟩
  have hL8 : L.length ≤ 8 := by rw [← hL]; exact fewS_len _
  have hL20 : ∀ x ∈ L, x.1.length ≤ 20 := by rw [← hL]; exact fewS_20 _
  unfold FewPost at hfe
  simp only [hL] at hfe
  have hwr := fun a c w h => written_any a L.length c L w h hL8 hL20
  unfold WrPost at hwr
  have hbd := wr_bd L hL8 hL20
  have hinv := wrI L
  obtain ⟨s, hs⟩ : ∃ s, (wrS L).1 = s := ⟨_, rfl⟩
  obtain ⟨p, hp⟩ : ∃ s, (wrS L).2.1 = s := ⟨_, rfl⟩
  obtain ⟨A, hA⟩ : ∃ s, (wrS L).2.2.1 = s := ⟨_, rfl⟩
  obtain ⟨f, hf⟩ : ∃ s, (wrS L).2.2.2 = s := ⟨_, rfl⟩
  have hcon := hinv.con
  simp only [hs, hp, hA, hf] at hwr hbd hcon
  have hsl := hbd.1
  have hpl := hbd.2.1
  have hAn : A.length ≤ 8 := by omega
  have hA20 := hbd.2.2.2
  have hAs : Sml A := fun s hs => by have := hA20 s hs; omega
  have hAf : Jn.Fit A := fun s hs => by have := hA20 s hs; omega
  have a1 : ∀ w, (Op.stringOp .add ⟨s.toArray⟩ ⟨p.toArray⟩).run Try.prog w = .ok (.string ⟨(s ++ p).toArray⟩) w := fun w => str_add2 _ _ (by omega)
  have hSl : (s ++ p).length ≤ 800 := by rw [List.length_append]; omega
  obtain ⟨S, hS⟩ : ∃ S, s ++ p = S := ⟨_, rfl⟩
  rw [hS] at hcon hSl
  simp only [hS] at a1
  have zS : (⟨S.toArray⟩ : ByteArray).size = S.length := ba_size S
  unfold dk at hwr
  clear hL hml hst hs hp hA hf hbd hL20 hl hinv hS
  replace hfe := hide hfe; replace hwr := hide hwr; replace hAs := hide hAs; replace hL8 := hide hL8; replace hcon := hide hcon; replace hA20 := hide hA20; replace hAf := hide hAf
  have hof0 := fun w => rOf_any ⟨#[]⟩ w (by decide)
  rw [show (Dg.dig (⟨#[]⟩ : ByteArray).data.toList) = b0L from rfl] at hof0
  replace hof0 := hide hof0
  go_enter Try.func7, Try.ntmps7
  go_wp2_with fail
  refine (sanity_any w).mono ?_
  rintro e w1 ⟨rfl, hz1⟩
  replace hz1 := hide hz1
  go_wp2_with fail
  refine (unhide hfe w1 (unhide hz1)).mono ?_
  rintro e w2 ⟨fa0, fc0, rfl, hfs, hb⟩
  have hz2 := hide ((unhide hz1).trans (hb.mono (unhide hz1).size))
  have hw2 := hide (unhide hwr fa0 fc0 w2 hfs)
  clear hfe hz1 hfs hb hwr
  go_wp2_with fail
  refine (unhide hw2).mono ?_
  rintro e w3 ⟨v, rfl, hrow, hb⟩
  have htA := tx_own hrow (unhide hAs)
  obtain ⟨ta, tc, rfl, htc, htl⟩ := htA
  have hz3 := (unhide hz2).trans (hb.mono (unhide hz2).size)
  obtain ⟨x8, v4, ex, ev, st⟩ := (St.start w3).new (Obj.cells #[.string ⟨s.toArray⟩, .string ⟨p.toArray⟩] 27)
  have d0 := st.cell 0 rfl 0 rfl
  have d1 := st.cell 0 rfl 1 rfl
  have htA : Tx v4 (.slice ta A.length tc) A := Tx.call ⟨ta, tc, rfl, htc, htl⟩ st.below
  have hz4 := hz3.trans (st.below.mono hz3.size)
  clear hw2 hz2 hrow hb htl hz3 st
  replace ex := hide ex; replace ev := hide ev; replace hz4 := hide hz4; replace htA := hide htA
  go_upto_region 3 with fail
  rw [unhide ev]
  try rw [unhide ex]
  clear ev ex
  by_cases hS0 : S.length = 0
  · have t1 : ((S.length : Int) == 0) = true := by simp [hS0]
    have t2 : (S.length == 0) = true := by simp [hS0]
    clear htA
    go_wp2_with fail
    go_ret
    exact ⟨rfl, unhide hz4⟩
  · have t1 : ((S.length : Int) == 0) = false := beq_eq_false_iff_ne.2 (by omega)
    have t2 : (S.length == 0) = false := beq_eq_false_iff_ne.2 hS0
    obtain ⟨k, hk⟩ : ∃ k, at_ % S.length = k := ⟨_, rfl⟩
    have hkl : k < S.length := by rw [← hk]; exact Nat.mod_lt _ (by omega)
    have t4 : (at_ : Int) % (S.length : Int) = (k : Int) := by rw [← hk]; simp
    have t3 : (at_ : Int).tmod (S.length : Int) = (k : Int) := by rw [Int.tmod_eq_emod_of_nonneg (by omega)]; exact t4
    have w16 : IntKind.i64.wrap (at_ : Int) = (at_ : Int) := IntWalk.i64_in _ (by omega)
    have hnz : (S.length : Int) ≠ 0 := by omega
    have hnz2 : ((S.length : Int) == 0) = false := t1
    go_upto_region 7 with fail
    clear t3 t4 w16 hk d0 d1
    obtain ⟨V, rfl⟩ : ∃ V : World, V = v4 := ⟨_, rfl⟩
    obtain ⟨x, hx⟩ : ∃ x, S[k]? = some x := ⟨_, List.getElem?_eq_getElem hkl⟩
    obtain ⟨m, hm⟩ : ∃ m, max bb 1 = m := ⟨_, rfl⟩
    have hm' : max (bb : Int) 1 = (m : Int) := by
      rw [← hm]
      rcases Nat.le_total bb 1 with h | h
      · rw [Nat.max_eq_right h, Int.max_eq_right (by omega)]
        rfl
      · rw [Nat.max_eq_left h, Int.max_eq_left (by omega)]
    have hm1 : 1 ≤ m := by rw [← hm]; exact Nat.le_max_right _ _
    have hmb : m < 256 := by
      rw [← hm]
      exact Nat.max_lt.2 ⟨by omega, by omega⟩
    obtain ⟨y, hy⟩ : ∃ y, x.toNat ^^^ m = y := ⟨_, rfl⟩
    have hyb : y < 256 := by rw [← hy]; exact Nat.xor_lt_two_pow (n := 8) x.toNat_lt hmb
    have hxor : bits .xor .u8 (x.toNat : Int) (m : Int) = (y : Int) := by rw [xor_u8 _ _ x.toNat_lt hmb, hy]
    have hyx : UInt8.ofNat y ≠ x := fun e => by
      have h1 := xor_ne x.toNat m (by omega)
      rw [hy] at h1
      exact h1 (by rw [← e, UInt8.toNat_ofNat_of_lt' hyb])
    have hSk : ∀ h : k < (⟨S.toArray⟩ : ByteArray).size, (⟨S.toArray⟩ : ByteArray)[k] = x := fun h => by
      show S.toArray[k] = x
      obtain ⟨h1, h2⟩ := List.getElem?_eq_some_iff.1 hx
      simpa using h2
    have x1 : (⟨S.toArray⟩ : ByteArray).extract 0 k = ⟨(S.take k).toArray⟩ := ba_take S k
    have x2 : (⟨S.toArray⟩ : ByteArray).extract (k + 1) S.length = ⟨(S.drop (k + 1)).toArray⟩ := ba_drop S (k + 1)
    have a2 : ∀ w, (Op.stringOp .add ⟨(S.take k).toArray⟩ ⟨[UInt8.ofNat y].toArray⟩).run Try.prog w = .ok (.string ⟨(S.take k ++ [UInt8.ofNat y]).toArray⟩) w := fun w => str_add2 _ _ (by rw [List.length_take, List.length_singleton]; omega)
    have a3 : ∀ w, (Op.stringOp .add ⟨(S.take k ++ [UInt8.ofNat y]).toArray⟩ ⟨(S.drop (k + 1)).toArray⟩).run Try.prog w = .ok (.string ⟨(S.take k ++ [UInt8.ofNat y] ++ S.drop (k + 1)).toArray⟩) w := fun w => str_add2 _ _ (by rw [List.length_append, List.length_take, List.length_singleton, List.length_drop]; omega)
    obtain ⟨T, hT⟩ : ∃ T, S.take k ++ [UInt8.ofNat y] ++ S.drop (k + 1) = T := ⟨_, rfl⟩
    have hTl : T.length = S.length := by
      rw [← hT]
      simp only [List.length_append, List.length_take, List.length_drop, List.length_cons, List.length_nil]
      omega
    simp only [hT] at a3
    obtain ⟨T1, hT1⟩ : ∃ T, S.take k = T := ⟨_, rfl⟩
    obtain ⟨T2, hT2⟩ : ∃ T, T1 ++ [UInt8.ofNat y] = T := ⟨_, rfl⟩
    obtain ⟨T3, hT3⟩ : ∃ T, S.drop (k + 1) = T := ⟨_, rfl⟩
    simp only [hT1, hT2, hT3] at x1 x2 a2 a3
    have j1 : (0 : Int) ≤ (k : Int) := by omega
    have j2 : (k : Int) < (S.length : Int) := by omega
    have j3 : (k : Int) + 1 ≤ (S.length : Int) := by omega
    have j4 : (k : Int) ≤ (S.length : Int) := by omega
    have j5 : ((k : Int) + 1).toNat = k + 1 := by omega
    clear hT1 hT2 hT3 hm
    replace hy := hide hy; replace hyx := hide hyx; replace hxor := hide hxor; replace hx := hide hx; replace hT := hide hT; replace hm' := hide hm'; replace hSk := hide hSk; replace hTl := hide hTl
    refine wp_region_frontG 17 (fun _ _ w' => Below V.heap.size V w') (fun wa wb => Below wa.heap.size wa wb)
      (fun ix v w' => match ix with
        | 0 => v = .string ⟨S.toArray⟩
        | 1 => v = .int .i64 (k : Int)
        | 2 => v = .string ⟨T1.toArray⟩
        | 3 => v = .string ⟨S.toArray⟩
        | 4 => v = .int .i64 (k : Int)
        | 5 => v = .int .u8 (x.toNat : Int)
        | 6 => v = .int .u8 (bb : Int)
        | 7 => v = .int .u8 (m : Int)
        | 8 => v = .int .u8 (y : Int)
        | 9 => ∃ b, v = .slice (some ⟨b, 0, none⟩) 1 1 ∧ w'.heap[b]? = some (.cells #[.int .u8 (y : Int)] 5 (0, 0))
        | 10 => v = .string ⟨[UInt8.ofNat y].toArray⟩
        | 11 => v = .string ⟨T2.toArray⟩
        | 12 => v = .string ⟨S.toArray⟩
        | 13 => v = .int .i64 (k : Int)
        | 14 => v = .int .i64 ((k : Int) + 1)
        | 15 => v = .string ⟨T3.toArray⟩
        | 16 => v = .string ⟨T.toArray⟩
        | _ => True) (by rfl) (by kernel_rfl) ?_ ?_ ?_ ?_
    · exact (Below.refl _ _).drew
    · intro wa wb hR ix v hv
      match ix, hv with
      | 0, h => exact h
      | 1, h => exact h
      | 2, h => exact h
      | 3, h => exact h
      | 4, h => exact h
      | 5, h => exact h
      | 6, h => exact h
      | 7, h => exact h
      | 8, h => exact h
      | 9, h => obtain ⟨b, h1, h2⟩ := h; exact ⟨b, h1, (hR.block b (Array.getElem?_eq_some_iff.1 h2).1).trans h2⟩
      | 10, h => exact h
      | 11, h => exact h
      | 12, h => exact h
      | 13, h => exact h
      | 14, h => exact h
      | 15, h => exact h
      | 16, h => exact h
      | _ + 17, _ => trivial
    · intro ix hix
      obtain rfl | rfl | rfl | rfl | rfl | rfl | rfl | rfl | rfl | rfl | rfl | rfl | rfl | rfl | rfl | rfl | rfl : ix = 0 ∨ ix = 1 ∨ ix = 2 ∨ ix = 3 ∨ ix = 4 ∨ ix = 5 ∨ ix = 6 ∨ ix = 7 ∨ ix = 8 ∨ ix = 9 ∨ ix = 10 ∨ ix = 11 ∨ ix = 12 ∨ ix = 13 ∨ ix = 14 ∨ ix = 15 ∨ ix = 16 := by omega
      · refine FrontStep.of [] _ rfl (by kernel_rfl) ?_
        intro vs LL wq hLL hC hf
        simp only [putL, List.foldl_nil]
        go_wp2_with fail
        first | exact Below.refl _ _ | exact ⟨Below.refl _ _, by omega⟩
      · refine FrontStep.of [] _ rfl (by kernel_rfl) ?_
        intro vs LL wq hLL hC hf
        simp only [putL, List.foldl_nil]
        go_wp2_with fail
        first | exact Below.refl _ _ | exact ⟨Below.refl _ _, by omega⟩
      · refine FrontStep.of [0, 1] _ rfl (by kernel_rfl) ?_
        intro vs LL wq hLL hC hf
        simp only [putL, List.foldl_nil, List.foldl_cons, List.getElem?_cons_zero, List.getElem?_cons_succ]
        have e0 : vs 0 = _ := hf 0 (by simp)
        rw [e0]
        have e1 : vs 1 = _ := hf 1 (by simp)
        rw [e1]
        go_wp2_with fail
        first | exact Below.refl _ _ | exact ⟨Below.refl _ _, by omega⟩
      · refine FrontStep.of [] _ rfl (by kernel_rfl) ?_
        intro vs LL wq hLL hC hf
        simp only [putL, List.foldl_nil]
        go_wp2_with fail
        first | exact Below.refl _ _ | exact ⟨Below.refl _ _, by omega⟩
      · refine FrontStep.of [] _ rfl (by kernel_rfl) ?_
        intro vs LL wq hLL hC hf
        simp only [putL, List.foldl_nil]
        go_wp2_with fail
        first | exact Below.refl _ _ | exact ⟨Below.refl _ _, by omega⟩
      · refine FrontStep.of [3, 4] _ rfl (by kernel_rfl) ?_
        intro vs LL wq hLL hC hf
        simp only [putL, List.foldl_nil, List.foldl_cons, List.getElem?_cons_zero, List.getElem?_cons_succ]
        have e3 : vs 3 = _ := hf 3 (by simp)
        rw [e3]
        have e4 : vs 4 = _ := hf 4 (by simp)
        rw [e4]
        go_wp2_with fail
        exact ⟨Below.refl _ _, by rw [unhide hSk]⟩
      · refine FrontStep.of [] _ rfl (by kernel_rfl) ?_
        intro vs LL wq hLL hC hf
        simp only [putL, List.foldl_nil]
        go_wp2_with fail
        first | exact Below.refl _ _ | exact ⟨Below.refl _ _, by omega⟩
      · refine FrontStep.of [6] _ rfl (by kernel_rfl) ?_
        intro vs LL wq hLL hC hf
        simp only [putL, List.foldl_nil, List.foldl_cons, List.getElem?_cons_zero, List.getElem?_cons_succ]
        have e6 : vs 6 = _ := hf 6 (by simp)
        rw [e6]
        have hm2 := unhide hm'
        go_wp2_with fail
        first | exact Below.refl _ _ | exact ⟨Below.refl _ _, by omega⟩
      · refine FrontStep.of [5, 7] _ rfl (by kernel_rfl) ?_
        intro vs LL wq hLL hC hf
        simp only [putL, List.foldl_nil, List.foldl_cons, List.getElem?_cons_zero, List.getElem?_cons_succ]
        have e5 : vs 5 = _ := hf 5 (by simp)
        rw [e5]
        have e7 : vs 7 = _ := hf 7 (by simp)
        rw [e7]
        have hxo := unhide hxor
        go_wp2_with fail
        first | exact Below.refl _ _ | exact ⟨Below.refl _ _, by omega⟩
      · refine FrontStep.of [8] _ rfl (by kernel_rfl) ?_
        intro vs LL wq hLL hC hf
        simp only [putL, List.foldl_nil, List.foldl_cons, List.getElem?_cons_zero, List.getElem?_cons_succ]
        have e8 : vs 8 = _ := hf 8 (by simp)
        rw [e8]
        go_wp2_with fail
        exact ⟨hC.alloc hC.size _, (Below.refl _ _).alloc (Nat.le_refl _) _, (Array.getElem?_eq_some_iff.1 (heap_alloc_new _ _)).2⟩
      · refine FrontStep.of [9] _ rfl (by kernel_rfl) ?_
        intro vs LL wq hLL hC hf
        simp only [putL, List.foldl_nil, List.foldl_cons, List.getElem?_cons_zero, List.getElem?_cons_succ]
        obtain ⟨b61, e61, h61⟩ := hf 9 (by simp)
        rw [e61]
        have hcv : (convert 51 9 (.slice (some ⟨b61, 0, none⟩) 1 1)).run Try.prog wq = .ok (.string ⟨[UInt8.ofNat y].toArray⟩) wq := run_convert_bytes_back (P := Try.prog) wq 51 9 5 ⟨b61, 0, none⟩ 1 [UInt8.ofNat y] Try.underlying51 Try.underlying5 Try.underlying9 (by
          intro t ht
          have ht0 : t = 0 := by simp at ht; omega
          subst ht0
          rw [Addr.add_lit, cell_of_row _ _ _ _ _ _ h61]
          simp only [List.getElem_cons_zero]
          rw [show ((UInt8.ofNat y).toNat : Int) = (y : Int) by rw [UInt8.toNat_ofNat_of_lt' hyb]]
          rfl)
        go_wp2_with fail
        first | exact Below.refl _ _ | exact ⟨Below.refl _ _, by omega⟩
      · refine FrontStep.of [2, 10] _ rfl (by kernel_rfl) ?_
        intro vs LL wq hLL hC hf
        simp only [putL, List.foldl_nil, List.foldl_cons, List.getElem?_cons_zero, List.getElem?_cons_succ]
        have e2 : vs 2 = _ := hf 2 (by simp)
        rw [e2]
        have e10 : vs 10 = _ := hf 10 (by simp)
        rw [e10]
        go_wp2_with fail
        first | exact Below.refl _ _ | exact ⟨Below.refl _ _, by omega⟩
      · refine FrontStep.of [] _ rfl (by kernel_rfl) ?_
        intro vs LL wq hLL hC hf
        simp only [putL, List.foldl_nil]
        go_wp2_with fail
        first | exact Below.refl _ _ | exact ⟨Below.refl _ _, by omega⟩
      · refine FrontStep.of [] _ rfl (by kernel_rfl) ?_
        intro vs LL wq hLL hC hf
        simp only [putL, List.foldl_nil]
        go_wp2_with fail
        first | exact Below.refl _ _ | exact ⟨Below.refl _ _, by omega⟩
      · refine FrontStep.of [13] _ rfl (by kernel_rfl) ?_
        intro vs LL wq hLL hC hf
        simp only [putL, List.foldl_nil, List.foldl_cons, List.getElem?_cons_zero, List.getElem?_cons_succ]
        have e13 : vs 13 = _ := hf 13 (by simp)
        rw [e13]
        go_wp2_with fail
        first | exact Below.refl _ _ | exact ⟨Below.refl _ _, by omega⟩
      · refine FrontStep.of [12, 14] _ rfl (by kernel_rfl) ?_
        intro vs LL wq hLL hC hf
        simp only [putL, List.foldl_nil, List.foldl_cons, List.getElem?_cons_zero, List.getElem?_cons_succ]
        have e12 : vs 12 = _ := hf 12 (by simp)
        rw [e12]
        have e14 : vs 14 = _ := hf 14 (by simp)
        rw [e14]
        go_wp2_with fail
        first | exact Below.refl _ _ | exact ⟨Below.refl _ _, by omega⟩
      · refine FrontStep.of [11, 15] _ rfl (by kernel_rfl) ?_
        intro vs LL wq hLL hC hf
        simp only [putL, List.foldl_nil, List.foldl_cons, List.getElem?_cons_zero, List.getElem?_cons_succ]
        have e11 : vs 11 = _ := hf 11 (by simp)
        rw [e11]
        have e15 : vs 15 = _ := hf 15 (by simp)
        rw [e15]
        go_wp2_with fail
        first | exact Below.refl _ _ | exact ⟨Below.refl _ _, by omega⟩
    · intro vs LL wq hLL hC hf
      have e16 : vs 16 = _ := hf 16 (by decide)
      have hz5 := (unhide hz4).trans (hC.mono (unhide hz4).size)
      have htA5 := (unhide htA).call hC
      rw [putSome_all]
      simp only [putL, List.range, List.range.loop, List.foldl_nil, List.foldl_cons, List.getElem?_cons_zero, List.getElem?_cons_succ, List.drop_succ_cons, List.drop_zero]
      rw [e16]
      obtain ⟨V2, rfl⟩ : ∃ W : World, W = wq := ⟨_, rfl⟩
      clear hf hLL hC e16 hz4 htA a2 a3 x1 x2 j5 hSk hxor hm' hy j1 j3
      replace hz5 := hide hz5; replace htA5 := hide htA5
      go_simp
      have ho := open_tx T [] V2 (by have := unhide hTl; omega) (by decide)
      simp only [List.append_nil] at ho
      have hGs := good_sml b0L T (by have := unhide hTl; omega)
      have hGn : (Jn.good b0L T).1.length ≤ 800 := by have := good_cnt b0L T; have := unhide hTl; omega
      have htorn : ∀ q a, A[q]? = some a → En A q ≤ k → k < En A (q + 1) → Torn A (Jn.good b0L T).1 S T q := fun q a h1 h2 h3 => torn_law (unhide hAf) h1 h2 h3 (unhide hcon).symm (unhide hx) (unhide hyx) (unhide hT)
      obtain ⟨G, hG⟩ : ∃ G, (Jn.good b0L T).1 = G := ⟨_, rfl⟩
      rw [hG] at ho hGs hGn
      simp only [hG] at htorn
      have hXN : T.take (opK T []) = T.take (opN T) := by
        unfold opK
        rw [List.append_nil, Nat.min_eq_left (by unfold opN; omega)]
      have hYN : (T.drop (opK T [])).take (opN T - opK T []) = [] := by
        have : opK T [] = opN T := by
          unfold opK
          rw [List.append_nil, Nat.min_eq_left (by unfold opN; omega)]
        rw [this, Nat.sub_self, List.take_zero]
      rw [hXN, hYN] at ho
      obtain ⟨X, hX⟩ : ∃ X, T.take (opN T) = X := ⟨_, rfl⟩
      rw [hX] at ho
      unfold dk at ho
      have hEall : En A A.length = S.length := by rw [En_all, ← unhide hcon]
      clear hG hXN hYN
      replace ho := hide ho; replace hGs := hide hGs; replace htorn := hide htorn; replace hX := hide hX; replace hEall := hide hEall
      go_wp2_with fail
      refine (unhide ho).mono ?_
      rintro e w6 ⟨vf, rfl, htf, hb⟩
      obtain ⟨fa, fc, rfl, hfc, hfl⟩ := htf
      have htG : Tx w6 (.slice fa G.length fc) G := ⟨fa, fc, rfl, hfc, hfl⟩
      have hz6 := (unhide hz5).trans (hb.mono (unhide hz5).size)
      have htA6 := (unhide htA5).call hb
      obtain ⟨x16, v7, ex, ev, st⟩ := (St.start w6).new (Obj.cells #[.string ⟨X.toArray⟩, .string ⟨#[]⟩] 27)
      have hz7 := hz6.trans (st.below.mono hz6.size)
      have htA7 := htA6.call st.below
      have htG7 := htG.call st.below
      have hb16 : BoxD v7 x16 X [] := st.get 0 rfl
      clear st hz6 hz5 htA6 htA5 htG hb ho hfl
      replace ex := hide ex; replace ev := hide ev; replace hz7 := hide hz7; replace htA7 := hide htA7; replace htG7 := hide htG7; replace hb16 := hide hb16
      go_upto_region 11 with fail
      rw [unhide ev]
      try rw [unhide ex]
      clear ex ev
      go_wp2_with fail
      refine (unhide hof0 _).mono ?_
      rintro e V3 ⟨rfl, hb⟩
      have hz8 := hide ((unhide hz7).trans (hb.mono (unhide hz7).size))
      have htA8 := hide ((unhide htA7).call hb)
      have htG8 := hide ((unhide htG7).call hb)
      have hb18 := hide ((unhide hb16).call hb)
      clear hb hz7 htA7 htG7 hb16 hof0
      obtain ⟨W0, hW0⟩ : ∃ n, w.heap.size = n := ⟨_, rfl⟩
      replace hW0 := hide hW0
      go_wp2_with fail
      go_loopw [17, 18, 19] (fun v17 v18 v19 wr => ∃ q : Nat, q ≤ A.length ∧ v17 = .int .i64 (q : Int) ∧ v18 = .int .i64 (En A q : Int) ∧ v19 = .string ⟨(Jn.lastb b0L (A.take q)).toArray⟩ ∧ En A q ≤ k ∧ Below V3.heap.size V3 wr) (fun v _ _ _ => A.length - (intOf v).toNat)
      case atStart => exact ⟨0, by omega, rfl, rfl, rfl, by rw [En_zero]; omega, Below.refl _ _⟩
      case round =>
        obtain ⟨q, hq, rfl, rfl, rfl, hE, hV3⟩ := hrel
        obtain ⟨wo, rfl⟩ : ∃ W : World, W = wr := ⟨_, rfl⟩
        have hqA : q < A.length := by
          rcases Nat.lt_or_ge q A.length with h | h
          · exact h
          · obtain rfl : q = A.length := by omega
            rw [unhide hEall] at hE
            omega
        obtain ⟨aq, haq⟩ : ∃ a, A[q]? = some a := ⟨_, List.getElem?_eq_getElem hqA⟩
        have haql := unhide hA20 aq (List.mem_of_getElem? haq)
        have hes := En_succ haq
        have hls := lastb_succ haq
        have hel : (Jn.lastb b0L (A.take q)).length = 8 := Jn.lastb_len _ rfl _
        obtain ⟨eb, heb⟩ : ∃ e, Jn.lastb b0L (A.take q) = e := ⟨_, rfl⟩
        rw [heb] at hes hls hel ⊢
        have hrec := fun z w (hz : (z : List UInt8).length ≤ 1000000000) => rrecord_any eb z w (by omega) hz
        have hch := fun w => rChain_any ⟨eb.toArray⟩ ⟨aq.toArray⟩ w (by rw [ba_size]; omega) (by rw [ba_size]; omega)
        simp only [chain_ba, ← hls] at hch
        obtain ⟨En1, hEn1⟩ : ∃ n, En A q = n := ⟨_, rfl⟩
        obtain ⟨En2, hEn2⟩ : ∃ n, En A (q + 1) = n := ⟨_, rfl⟩
        have hto := fun h => unhide htorn q aq haq (by omega) h
        rw [hEn1] at hE hes ⊢
        rw [hEn2] at hes
        simp only [hEn2] at hto
        obtain ⟨RD, hRD⟩ : ∃ r, Jn.recd eb aq = r := ⟨_, rfl⟩
        rw [hRD] at hes
        have hr1 := fun w => hrec aq w (by omega)
        simp only [hRD] at hr1
        have zRD : (⟨RD.toArray⟩ : ByteArray).size = RD.length := ba_size RD
        have hRDl : RD.length ≤ 100 := by rw [← hRD, Jn.recd_len]; have := txt_len aq; omega
        have htAo := (unhide htA8).call hV3
        obtain ⟨tb, toff, rfl, hca⟩ := tx_get htAo haq
        have i1 : (0 : Int) ≤ (q : Int) := by omega
        have i2 : (q : Int) < (A.length : Int) := by omega
        have i3 : decide ((q : Int) < (A.length : Int)) = true := by simp; omega
        have hsum : (En1 : Int) + (RD.length : Int) = (En2 : Int) := by omega
        have hWo : W0 ≤ V3.heap.size := by rw [← unhide hW0]; exact (unhide hz8).size
        replace hV3 := hide hV3; replace htAo := hide htAo; replace hes := hide hes; replace hls := hide hls; replace hel := hide hel; replace heb := hide heb; replace hrec := hide hrec; replace hch := hide hch; replace hto := hide hto; replace hr1 := hide hr1; replace hEn1 := hide hEn1; replace hEn2 := hide hEn2; replace haq := hide haq; replace hRD := hide hRD; replace hsum := hide hsum
        go_wp2_with fail
        refine (unhide hr1 _).mono ?_
        rintro e w9 ⟨rfl, hb⟩
        have hV9 := (unhide hV3).trans (hb.mono (unhide hV3).size)
        have hca9 := cell_under hca hb
        clear hb hca hV3 htAo
        replace hV9 := hide hV9
        have hsum' := unhide hsum
        by_cases hgt : k < En2
        · have hlaw := unhide hto hgt
          have t5 : (k : Int) < (En2 : Int) := by omega
          have t6 : ((q : Int) == (A.length : Int)) = false := by simp; omega
          have t7 : (q == A.length) = false := by simp; omega
          have hgl := hlaw.le
          have hsame := hlaw.same
          have hstop := hlaw.stop
          have hother := hlaw.other
          rw [unhide hEn1] at hstop
          rw [unhide heb] at hother
          simp only [unhide hEn1] at hother
          clear hlaw hto hch hr1 hls
          replace hsame := hide hsame; replace hstop := hide hstop; replace hother := hide hother
          go_upto_region 20 with fail
          clear hsum' t5 t6 t7
          obtain ⟨V5, rfl⟩ : ∃ W : World, W = w9 := ⟨_, rfl⟩
          have htA9 := (unhide htA8).call (unhide hV9)
          have htG9 := (unhide htG8).call (unhide hV9)
          have hb19 := (unhide hb18).call (unhide hV9)
          have hz9 := (unhide hz8).trans ((unhide hV9).mono (unhide hz8).size)
          have hfc2 := htG9.lens.2
          have htc2 := htA9.lens.2
          have hsm := fun w' (hb : Below V5.heap.size V5 w') => same_any (.slice fa q fc) (.slice (some ⟨tb, toff, none⟩) q tc) (G.take q) (A.take q) w' ((htG9.take hgl).call hb) ((htA9.take hq).call hb) (by rw [List.length_take]; omega) (by rw [List.length_take]; omega)
          simp only [unhide hsame] at hsm
          have k1 : (0 : Int) ≤ (q : Int) := by omega
          have k2 : (q : Int) ≤ (fc : Int) := by omega
          have k3 : (q : Int) ≤ (tc : Int) := by omega
          have k4 : decide ((G.length : Int) < (q : Int)) = false := by simp; omega
          have k5 : ¬ (G.length : Int) < (q : Int) := by omega
          replace hsm := hide hsm; replace htA9 := hide htA9; replace htG9 := hide htG9; replace hb19 := hide hb19; replace hz9 := hide hz9
          clear hV9 hca9 htA8 htG8 hb18 hz8 htorn hrec
          refine wp_region_frontG 14 (fun _ _ w' => Below V5.heap.size V5 w') (fun wa wb => Below wa.heap.size wa wb)
            (fun ix v w' => match ix with
              | 0 => v = .slice fa G.length fc
              | 1 => v = .int .i64 (G.length : Int)
              | 2 => v = .int .i64 (q : Int)
              | 3 => v = .bool false
              | 4 => v = .bool false
              | 5 => v = .slice fa G.length fc
              | 6 => v = .int .i64 (q : Int)
              | 7 => v = .slice fa q fc
              | 8 => v = .slice (some ⟨tb, toff, none⟩) A.length tc
              | 9 => v = .int .i64 (q : Int)
              | 10 => v = .slice (some ⟨tb, toff, none⟩) q tc
              | 11 => v = .bool true
              | 12 => v = .bool false
              | 13 => v = .bool false
              | _ => True) (by rfl) (by kernel_rfl) ?_ ?_ ?_ ?_
          · exact (Below.refl _ _).drew
          · intro wa wb hR ix v hv
            match ix, hv with
            | 0, h => exact h
            | 1, h => exact h
            | 2, h => exact h
            | 3, h => exact h
            | 4, h => exact h
            | 5, h => exact h
            | 6, h => exact h
            | 7, h => exact h
            | 8, h => exact h
            | 9, h => exact h
            | 10, h => exact h
            | 11, h => exact h
            | 12, h => exact h
            | 13, h => exact h
            | _ + 14, _ => trivial
          · intro ix hix
            obtain rfl | rfl | rfl | rfl | rfl | rfl | rfl | rfl | rfl | rfl | rfl | rfl | rfl | rfl : ix = 0 ∨ ix = 1 ∨ ix = 2 ∨ ix = 3 ∨ ix = 4 ∨ ix = 5 ∨ ix = 6 ∨ ix = 7 ∨ ix = 8 ∨ ix = 9 ∨ ix = 10 ∨ ix = 11 ∨ ix = 12 ∨ ix = 13 := by omega
            · refine FrontStep.of [] _ rfl (by kernel_rfl) ?_
              intro vs LL wq hLL hC hf
              simp only [putL, List.foldl_nil]
              go_wp2_with fail
              first | exact Below.refl _ _ | exact ⟨Below.refl _ _, by omega⟩
            · refine FrontStep.of [0] _ rfl (by kernel_rfl) ?_
              intro vs LL wq hLL hC hf
              simp only [putL, List.foldl_nil, List.foldl_cons, List.getElem?_cons_zero]
              have e0 : vs 0 = _ := hf 0 (by simp)
              rw [e0]
              go_wp2_with fail
              first | exact Below.refl _ _ | exact ⟨Below.refl _ _, by omega⟩
            · refine FrontStep.of [] _ rfl (by kernel_rfl) ?_
              intro vs LL wq hLL hC hf
              simp only [putL, List.foldl_nil]
              go_wp2_with fail
              first | exact Below.refl _ _ | exact ⟨Below.refl _ _, by omega⟩
            · refine FrontStep.of [1, 2] _ rfl (by kernel_rfl) ?_
              intro vs LL wq hLL hC hf
              simp only [putL, List.foldl_nil, List.foldl_cons, List.getElem?_cons_zero, List.getElem?_cons_succ]
              have e1 : vs 1 = _ := hf 1 (by simp)
              rw [e1]
              have e2 : vs 2 = _ := hf 2 (by simp)
              rw [e2]
              go_wp2_with fail
              first | exact Below.refl _ _ | exact ⟨Below.refl _ _, by omega⟩
            · refine FrontStep.of [3] _ rfl (by kernel_rfl) ?_
              intro vs LL wq hLL hC hf
              simp only [putL, List.foldl_nil, List.foldl_cons, List.getElem?_cons_zero, List.getElem?_cons_succ]
              have e3 : vs 3 = _ := hf 3 (by simp)
              rw [e3]
              go_wp2_with fail
              first | exact Below.refl _ _ | exact ⟨Below.refl _ _, by omega⟩
            · refine FrontStep.of [4] _ rfl (by kernel_rfl) ?_
              intro vs LL wq hLL hC hf
              simp only [putL, List.foldl_nil, List.foldl_cons, List.getElem?_cons_zero, List.getElem?_cons_succ]
              have e4 : vs 4 = _ := hf 4 (by simp)
              rw [e4]
              go_wp2_with fail
              first | exact Below.refl _ _ | exact ⟨Below.refl _ _, by omega⟩
            · refine FrontStep.of [4] _ rfl (by kernel_rfl) ?_
              intro vs LL wq hLL hC hf
              simp only [putL, List.foldl_nil, List.foldl_cons, List.getElem?_cons_zero, List.getElem?_cons_succ]
              have e4 : vs 4 = _ := hf 4 (by simp)
              rw [e4]
              go_wp2_with fail
              first | exact Below.refl _ _ | exact ⟨Below.refl _ _, by omega⟩
            · refine FrontStep.of [4, 5, 6] _ rfl (by kernel_rfl) ?_
              intro vs LL wq hLL hC hf
              simp only [putL, List.foldl_nil, List.foldl_cons, List.getElem?_cons_zero, List.getElem?_cons_succ]
              have e4 : vs 4 = _ := hf 4 (by simp)
              rw [e4]
              have e5 : vs 5 = _ := hf 5 (by simp)
              rw [e5]
              have e6 : vs 6 = _ := hf 6 (by simp)
              rw [e6]
              go_wp2_with fail
              first | exact Below.refl _ _ | exact ⟨Below.refl _ _, by omega⟩
            · refine FrontStep.of [4] _ rfl (by kernel_rfl) ?_
              intro vs LL wq hLL hC hf
              simp only [putL, List.foldl_nil, List.foldl_cons, List.getElem?_cons_zero, List.getElem?_cons_succ]
              have e4 : vs 4 = _ := hf 4 (by simp)
              rw [e4]
              go_wp2_with fail
              first | exact Below.refl _ _ | exact ⟨Below.refl _ _, by omega⟩
            · refine FrontStep.of [4] _ rfl (by kernel_rfl) ?_
              intro vs LL wq hLL hC hf
              simp only [putL, List.foldl_nil, List.foldl_cons, List.getElem?_cons_zero, List.getElem?_cons_succ]
              have e4 : vs 4 = _ := hf 4 (by simp)
              rw [e4]
              go_wp2_with fail
              first | exact Below.refl _ _ | exact ⟨Below.refl _ _, by omega⟩
            · refine FrontStep.of [4, 8, 9] _ rfl (by kernel_rfl) ?_
              intro vs LL wq hLL hC hf
              simp only [putL, List.foldl_nil, List.foldl_cons, List.getElem?_cons_zero, List.getElem?_cons_succ]
              have e4 : vs 4 = _ := hf 4 (by simp)
              rw [e4]
              have e8 : vs 8 = _ := hf 8 (by simp)
              rw [e8]
              have e9 : vs 9 = _ := hf 9 (by simp)
              rw [e9]
              go_wp2_with fail
              first | exact Below.refl _ _ | exact ⟨Below.refl _ _, by omega⟩
            · refine FrontStep.of [4, 7, 10] _ rfl (by kernel_rfl) ?_
              intro vs LL wq hLL hC hf
              simp only [putL, List.foldl_nil, List.foldl_cons, List.getElem?_cons_zero, List.getElem?_cons_succ]
              have e4 : vs 4 = _ := hf 4 (by simp)
              rw [e4]
              have e7 : vs 7 = _ := hf 7 (by simp)
              rw [e7]
              have e10 : vs 10 = _ := hf 10 (by simp)
              rw [e10]
              go_wp2_with fail
              refine (unhide hsm _ hC).mono ?_
              rintro e w2 ⟨rfl, hb2⟩
              have q1 := hide (hC.trans (hb2.mono hC.size))
              have q2 := hide hb2
              clear hC hb2
              go_wp2_with fail
              exact ⟨unhide q1, unhide q2⟩
            · refine FrontStep.of [4, 11] _ rfl (by kernel_rfl) ?_
              intro vs LL wq hLL hC hf
              simp only [putL, List.foldl_nil, List.foldl_cons, List.getElem?_cons_zero, List.getElem?_cons_succ]
              have e4 : vs 4 = _ := hf 4 (by simp)
              rw [e4]
              have e11 : vs 11 = _ := hf 11 (by simp)
              rw [e11]
              go_wp2_with fail
              first | exact Below.refl _ _ | exact ⟨Below.refl _ _, by omega⟩
            · refine FrontStep.of [4, 12] _ rfl (by kernel_rfl) ?_
              intro vs LL wq hLL hC hf
              simp only [putL, List.foldl_nil, List.foldl_cons, List.getElem?_cons_zero, List.getElem?_cons_succ]
              have e4 : vs 4 = _ := hf 4 (by simp)
              rw [e4]
              have e12 : vs 12 = _ := hf 12 (by simp)
              rw [e12]
              go_wp2_with fail
              first | exact Below.refl _ _ | exact ⟨Below.refl _ _, by omega⟩
          · intro vs LL wq hLL hC hf
            have e13 : vs 13 = _ := hf 13 (by decide)
            have hz10 := (unhide hz9).trans (hC.mono (unhide hz9).size)
            have htA10 := (unhide htA9).call hC
            have htG10 := (unhide htG9).call hC
            have hb20 := (unhide hb19).call hC
            rw [putSome_all]
            simp only [putL, List.range, List.range.loop, List.foldl_nil, List.foldl_cons, List.getElem?_cons_zero, List.getElem?_cons_succ, List.drop_succ_cons, List.drop_zero]
            rw [e13]
            obtain ⟨V6, rfl⟩ : ∃ W : World, W = wq := ⟨_, rfl⟩
            clear hf hLL hC e13 hz9 htA9 htG9 hb19 hsm k2 k3 k4 k5
            replace hz10 := hide hz10; replace htA10 := hide htA10; replace htG10 := hide htG10; replace hb20 := hide hb20
            go_simp
            by_cases hGq : G.length = q
            · obtain ⟨hN, hTk⟩ := unhide hstop hGq
              have hXS : X = S.take En1 := by rw [← unhide hX, hN, hTk]
              have m1 : ((G.length : Int) == (q : Int)) = true := by simp [hGq]
              have m2 : (G.length == q) = true := by simp [hGq]
              have m3 : (En1 : Int) ≤ (S.length : Int) := by omega
              have x9 : (⟨S.toArray⟩ : ByteArray).extract 0 En1 = ⟨X.toArray⟩ := by rw [hXS]; exact ba_take S En1
              have m4 : (X == X) = true := beq_self_eq_true _
              clear hN hTk hXS hGq htA10 htG10 hsame hstop hother
              go_upto_region 23 with fail
              refine wp_region_frontG 9 (fun _ _ w' => Below V6.heap.size V6 w') (fun wa wb => Below wa.heap.size wa wb)
                (fun ix v w' => match ix with
                  | 0 => v = .bool true
                  | 1 => v = .bool true
                  | 2 => v = .agg #[.string ⟨X.toArray⟩, .string ⟨#[]⟩]
                  | 3 => v = .string ⟨S.toArray⟩
                  | 4 => v = .int .i64 (En1 : Int)
                  | 5 => v = .string ⟨X.toArray⟩
                  | 6 => v = .agg #[.string ⟨X.toArray⟩, .string ⟨#[]⟩]
                  | 7 => v = .bool true
                  | 8 => v = .bool true
                  | _ => True) (by rfl) (by kernel_rfl) ?_ ?_ ?_ ?_
              · exact (Below.refl _ _).drew
              · intro wa wb hR ix v hv
                match ix, hv with
                | 0, h => exact h
                | 1, h => exact h
                | 2, h => exact h
                | 3, h => exact h
                | 4, h => exact h
                | 5, h => exact h
                | 6, h => exact h
                | 7, h => exact h
                | 8, h => exact h
                | _ + 9, _ => trivial
              · intro ix hix
                obtain rfl | rfl | rfl | rfl | rfl | rfl | rfl | rfl | rfl : ix = 0 ∨ ix = 1 ∨ ix = 2 ∨ ix = 3 ∨ ix = 4 ∨ ix = 5 ∨ ix = 6 ∨ ix = 7 ∨ ix = 8 := by omega
                · refine FrontStep.of [] _ rfl (by kernel_rfl) ?_
                  intro vs LL wq hLL hC hf
                  simp only [putL, List.foldl_nil]
                  go_wp2_with fail
                  first | exact Below.refl _ _ | exact ⟨Below.refl _ _, by omega⟩
                · refine FrontStep.of [0] _ rfl (by kernel_rfl) ?_
                  intro vs LL wq hLL hC hf
                  simp only [putL, List.foldl_nil, List.foldl_cons, List.getElem?_cons_zero]
                  have e0 : vs 0 = _ := hf 0 (by simp)
                  rw [e0]
                  go_wp2_with fail
                  first | exact Below.refl _ _ | exact ⟨Below.refl _ _, by omega⟩
                · refine FrontStep.of [1] _ rfl (by kernel_rfl) ?_
                  intro vs LL wq hLL hC hf
                  simp only [putL, List.foldl_nil, List.foldl_cons, List.getElem?_cons_zero, List.getElem?_cons_succ]
                  have e1 : vs 1 = _ := hf 1 (by simp)
                  rw [e1]
                  have y0 := ((unhide hb20).call hC).c0
                  have y1 := ((unhide hb20).call hC).c1
                  go_wp2_with fail
                  first | exact Below.refl _ _ | exact ⟨Below.refl _ _, by omega⟩
                · refine FrontStep.of [1] _ rfl (by kernel_rfl) ?_
                  intro vs LL wq hLL hC hf
                  simp only [putL, List.foldl_nil, List.foldl_cons, List.getElem?_cons_zero, List.getElem?_cons_succ]
                  have e1 : vs 1 = _ := hf 1 (by simp)
                  rw [e1]
                  go_wp2_with fail
                  first | exact Below.refl _ _ | exact ⟨Below.refl _ _, by omega⟩
                · refine FrontStep.of [1] _ rfl (by kernel_rfl) ?_
                  intro vs LL wq hLL hC hf
                  simp only [putL, List.foldl_nil, List.foldl_cons, List.getElem?_cons_zero, List.getElem?_cons_succ]
                  have e1 : vs 1 = _ := hf 1 (by simp)
                  rw [e1]
                  go_wp2_with fail
                  first | exact Below.refl _ _ | exact ⟨Below.refl _ _, by omega⟩
                · refine FrontStep.of [1, 3, 4] _ rfl (by kernel_rfl) ?_
                  intro vs LL wq hLL hC hf
                  simp only [putL, List.foldl_nil, List.foldl_cons, List.getElem?_cons_zero, List.getElem?_cons_succ]
                  have e1 : vs 1 = _ := hf 1 (by simp)
                  rw [e1]
                  have e3 : vs 3 = _ := hf 3 (by simp)
                  rw [e3]
                  have e4 : vs 4 = _ := hf 4 (by simp)
                  rw [e4]
                  go_wp2_with fail
                  first | exact Below.refl _ _ | exact ⟨Below.refl _ _, by omega⟩
                · refine FrontStep.of [1, 5] _ rfl (by kernel_rfl) ?_
                  intro vs LL wq hLL hC hf
                  simp only [putL, List.foldl_nil, List.foldl_cons, List.getElem?_cons_zero, List.getElem?_cons_succ]
                  have e1 : vs 1 = _ := hf 1 (by simp)
                  rw [e1]
                  have e5 : vs 5 = _ := hf 5 (by simp)
                  rw [e5]
                  go_wp2_with fail
                  first | exact Below.refl _ _ | exact ⟨Below.refl _ _, by omega⟩
                · refine FrontStep.of [1, 2, 6] _ rfl (by kernel_rfl) ?_
                  intro vs LL wq hLL hC hf
                  simp only [putL, List.foldl_nil, List.foldl_cons, List.getElem?_cons_zero, List.getElem?_cons_succ]
                  have e1 : vs 1 = _ := hf 1 (by simp)
                  rw [e1]
                  have e2 : vs 2 = _ := hf 2 (by simp)
                  rw [e2]
                  have e6 : vs 6 = _ := hf 6 (by simp)
                  rw [e6]
                  go_wp2_with fail
                  first | exact Below.refl _ _ | exact ⟨Below.refl _ _, by omega⟩
                · refine FrontStep.of [1, 7] _ rfl (by kernel_rfl) ?_
                  intro vs LL wq hLL hC hf
                  simp only [putL, List.foldl_nil, List.foldl_cons, List.getElem?_cons_zero, List.getElem?_cons_succ]
                  have e1 : vs 1 = _ := hf 1 (by simp)
                  rw [e1]
                  have e7 : vs 7 = _ := hf 7 (by simp)
                  rw [e7]
                  go_wp2_with fail
                  first | exact Below.refl _ _ | exact ⟨Below.refl _ _, by omega⟩
              · intro vs LL wq hLL hC hf
                have e8 : vs 8 = _ := hf 8 (by decide)
                have hzz := hide ((unhide hz10).trans (hC.mono (unhide hz10).size))
                rw [putSome_all]
                simp only [putL, List.range, List.range.loop, List.foldl_nil, List.foldl_cons, List.getElem?_cons_zero, List.getElem?_cons_succ, List.drop_succ_cons, List.drop_zero]
                rw [e8]
                clear hf hLL hC e8 hz10
                go_simp
                go_wp2_with fail
                go_ret
                exact ⟨rfl, unhide hzz⟩
            · have m1 : ((G.length : Int) == (q : Int)) = false := by simp; omega
              have m2 : (G.length == q) = false := by simp [hGq]
              obtain ⟨zq, hzq⟩ : ∃ z, G[q]? = some z := ⟨_, List.getElem?_eq_getElem (by omega)⟩
              obtain ⟨o1, o2, o3⟩ := unhide hother zq hzq
              have hzl := unhide hGs zq (List.mem_of_getElem? hzq)
              obtain ⟨gb, goff, rfl, hcg⟩ := tx_get (unhide htG10) hzq
              obtain ⟨tb2, toff2, etb, hcA⟩ := tx_get (unhide htA10) (unhide haq)
              injection etb with etb
              injection etb with e1 e2
              rw [← e1, ← e2] at hcA
              clear e1 e2
              have hne : (zq == aq) = false := beq_eq_false_iff_ne.2 (fun e => o1 (by rw [e]; exact unhide haq))
              have hr2 := rrecord_any eb zq V6 (by rw [unhide hel]; omega) hzl
              obtain ⟨R2, hR2⟩ : ∃ r, Jn.recd eb zq = r := ⟨_, rfl⟩
              rw [hR2] at hr2 o2 o3
              have zR2 : (⟨R2.toArray⟩ : ByteArray).size = R2.length := ba_size R2
              have zT : (⟨T.toArray⟩ : ByteArray).size = T.length := ba_size T
              have hTl2 := unhide hTl
              have m0 : (0 : Int) ≤ (En1 : Int) := by omega
              have m3 : (En1 : Int) ≤ (T.length : Int) := by omega
              have m4 : (R2.length : Int) ≤ (T.length : Int) - (En1 : Int) := by omega
              have m5 : (En1 : Int) + (R2.length : Int) ≤ (T.length : Int) := by omega
              have m6 : (En1 : Int) ≤ (En1 : Int) + (R2.length : Int) := by omega
              have m7 : ((En1 : Int) + (R2.length : Int)).toNat = En1 + R2.length := by omega
              have m11 : (T.length : Int) ≤ 800 := by omega
              clear hTl2
              have m8 : (q : Int) < (G.length : Int) := by omega
              have m9 : decide ((R2.length : Int) ≤ (T.length : Int) - (En1 : Int)) = true := by simp; omega
              have x9 : (⟨T.toArray⟩ : ByteArray).extract En1 (En1 + R2.length) = ⟨R2.toArray⟩ := by
                have := ba_mid ⟨T.toArray⟩ En1 R2.length
                rw [ba_list, o3] at this
                exact this
              have m10 : (R2 == R2) = true := beq_self_eq_true _
              clear o1 o2 o3 hR2 htA10 htG10 hb20 hsame hstop hother hGq
              replace hr2 := hide hr2; replace hzl := hide hzl; replace hzq := hide hzq
              go_wp2_with fail
              refine (unhide hr2).mono ?_
              rintro e V7 ⟨rfl, hb⟩
              have hz11 := hide ((unhide hz10).trans (hb.mono (unhide hz10).size))
              have hcg7 := hide (cell_under hcg hb)
              have hcA7 := hide (cell_under hcA hb)
              clear hb hcg hcA hr2 hz10
              go_upto_region 25 with fail
              refine wp_region_frontG 32 (fun _ _ w' => Below V7.heap.size V7 w') (fun wa wb => Below wa.heap.size wa wb)
                (fun ix v w' => match ix with
                  | 0 => v = .bool true
                  | 1 => v = .bool true
                  | 2 => v = .slice (some ⟨gb, goff, none⟩) G.length fc
                  | 3 => v = .int .i64 (q : Int)
                  | 4 => v = .pointer (some ⟨gb, goff + q, none⟩)
                  | 5 => v = .string ⟨zq.toArray⟩
                  | 6 => v = .slice (some ⟨tb, toff, none⟩) A.length tc
                  | 7 => v = .int .i64 (q : Int)
                  | 8 => v = .pointer (some ⟨tb, toff + q, none⟩)
                  | 9 => v = .string ⟨aq.toArray⟩
                  | 10 => v = .bool true
                  | 11 => v = .bool true
                  | 12 => v = .bool true
                  | 13 => v = .string ⟨R2.toArray⟩
                  | 14 => v = .int .i64 (R2.length : Int)
                  | 15 => v = .string ⟨T.toArray⟩
                  | 16 => v = .int .i64 (T.length : Int)
                  | 17 => v = .int .i64 (En1 : Int)
                  | 18 => v = .int .i64 ((T.length : Int) - (En1 : Int))
                  | 19 => v = .bool true
                  | 20 => v = .bool true
                  | 21 => v = .bool true
                  | 22 => v = .string ⟨T.toArray⟩
                  | 23 => v = .int .i64 (En1 : Int)
                  | 24 => v = .int .i64 (En1 : Int)
                  | 25 => v = .string ⟨R2.toArray⟩
                  | 26 => v = .int .i64 (R2.length : Int)
                  | 27 => v = .int .i64 ((En1 : Int) + (R2.length : Int))
                  | 28 => v = .string ⟨R2.toArray⟩
                  | 29 => v = .string ⟨R2.toArray⟩
                  | 30 => v = .bool true
                  | 31 => v = .bool true
                  | _ => True) (by rfl) (by kernel_rfl) ?_ ?_ ?_ ?_
              · exact (Below.refl _ _).drew
              · intro wa wb hR ix v hv
                match ix, hv with
                | 0, h => exact h
                | 1, h => exact h
                | 2, h => exact h
                | 3, h => exact h
                | 4, h => exact h
                | 5, h => exact h
                | 6, h => exact h
                | 7, h => exact h
                | 8, h => exact h
                | 9, h => exact h
                | 10, h => exact h
                | 11, h => exact h
                | 12, h => exact h
                | 13, h => exact h
                | 14, h => exact h
                | 15, h => exact h
                | 16, h => exact h
                | 17, h => exact h
                | 18, h => exact h
                | 19, h => exact h
                | 20, h => exact h
                | 21, h => exact h
                | 22, h => exact h
                | 23, h => exact h
                | 24, h => exact h
                | 25, h => exact h
                | 26, h => exact h
                | 27, h => exact h
                | 28, h => exact h
                | 29, h => exact h
                | 30, h => exact h
                | 31, h => exact h
                | _ + 32, _ => trivial
              · intro ix hix
                obtain rfl | rfl | rfl | rfl | rfl | rfl | rfl | rfl | rfl | rfl | rfl | rfl | rfl | rfl | rfl | rfl | rfl | rfl | rfl | rfl | rfl | rfl | rfl | rfl | rfl | rfl | rfl | rfl | rfl | rfl | rfl | rfl : ix = 0 ∨ ix = 1 ∨ ix = 2 ∨ ix = 3 ∨ ix = 4 ∨ ix = 5 ∨ ix = 6 ∨ ix = 7 ∨ ix = 8 ∨ ix = 9 ∨ ix = 10 ∨ ix = 11 ∨ ix = 12 ∨ ix = 13 ∨ ix = 14 ∨ ix = 15 ∨ ix = 16 ∨ ix = 17 ∨ ix = 18 ∨ ix = 19 ∨ ix = 20 ∨ ix = 21 ∨ ix = 22 ∨ ix = 23 ∨ ix = 24 ∨ ix = 25 ∨ ix = 26 ∨ ix = 27 ∨ ix = 28 ∨ ix = 29 ∨ ix = 30 ∨ ix = 31 := by omega
                · refine FrontStep.of [] _ rfl (by kernel_rfl) ?_
                  intro vs LL wq hLL hC hf
                  simp only [putL, List.foldl_nil]
                  go_wp2_with fail
                  first | exact Below.refl _ _ | exact ⟨Below.refl _ _, by omega⟩
                · refine FrontStep.of [0] _ rfl (by kernel_rfl) ?_
                  intro vs LL wq hLL hC hf
                  simp only [putL, List.foldl_nil, List.foldl_cons, List.getElem?_cons_zero]
                  have e0 : vs 0 = _ := hf 0 (by simp)
                  rw [e0]
                  go_wp2_with fail
                  first | exact Below.refl _ _ | exact ⟨Below.refl _ _, by omega⟩
                · refine FrontStep.of [1] _ rfl (by kernel_rfl) ?_
                  intro vs LL wq hLL hC hf
                  simp only [putL, List.foldl_nil, List.foldl_cons, List.getElem?_cons_zero, List.getElem?_cons_succ]
                  have e1 : vs 1 = _ := hf 1 (by simp)
                  rw [e1]
                  go_wp2_with fail
                  first | exact Below.refl _ _ | exact ⟨Below.refl _ _, by omega⟩
                · refine FrontStep.of [1] _ rfl (by kernel_rfl) ?_
                  intro vs LL wq hLL hC hf
                  simp only [putL, List.foldl_nil, List.foldl_cons, List.getElem?_cons_zero, List.getElem?_cons_succ]
                  have e1 : vs 1 = _ := hf 1 (by simp)
                  rw [e1]
                  go_wp2_with fail
                  first | exact Below.refl _ _ | exact ⟨Below.refl _ _, by omega⟩
                · refine FrontStep.of [1, 2, 3] _ rfl (by kernel_rfl) ?_
                  intro vs LL wq hLL hC hf
                  simp only [putL, List.foldl_nil, List.foldl_cons, List.getElem?_cons_zero, List.getElem?_cons_succ]
                  have e1 : vs 1 = _ := hf 1 (by simp)
                  rw [e1]
                  have e2 : vs 2 = _ := hf 2 (by simp)
                  rw [e2]
                  have e3 : vs 3 = _ := hf 3 (by simp)
                  rw [e3]
                  go_wp2_with fail
                  first | exact Below.refl _ _ | exact ⟨Below.refl _ _, by omega⟩
                · refine FrontStep.of [1, 4] _ rfl (by kernel_rfl) ?_
                  intro vs LL wq hLL hC hf
                  simp only [putL, List.foldl_nil, List.foldl_cons, List.getElem?_cons_zero, List.getElem?_cons_succ]
                  have e1 : vs 1 = _ := hf 1 (by simp)
                  rw [e1]
                  have e4 : vs 4 = _ := hf 4 (by simp)
                  rw [e4]
                  have yy := cell_under (unhide hcg7) hC
                  go_wp2_with fail
                  first | exact Below.refl _ _ | exact ⟨Below.refl _ _, by omega⟩
                · refine FrontStep.of [1] _ rfl (by kernel_rfl) ?_
                  intro vs LL wq hLL hC hf
                  simp only [putL, List.foldl_nil, List.foldl_cons, List.getElem?_cons_zero, List.getElem?_cons_succ]
                  have e1 : vs 1 = _ := hf 1 (by simp)
                  rw [e1]
                  go_wp2_with fail
                  first | exact Below.refl _ _ | exact ⟨Below.refl _ _, by omega⟩
                · refine FrontStep.of [1] _ rfl (by kernel_rfl) ?_
                  intro vs LL wq hLL hC hf
                  simp only [putL, List.foldl_nil, List.foldl_cons, List.getElem?_cons_zero, List.getElem?_cons_succ]
                  have e1 : vs 1 = _ := hf 1 (by simp)
                  rw [e1]
                  go_wp2_with fail
                  first | exact Below.refl _ _ | exact ⟨Below.refl _ _, by omega⟩
                · refine FrontStep.of [1, 6, 7] _ rfl (by kernel_rfl) ?_
                  intro vs LL wq hLL hC hf
                  simp only [putL, List.foldl_nil, List.foldl_cons, List.getElem?_cons_zero, List.getElem?_cons_succ]
                  have e1 : vs 1 = _ := hf 1 (by simp)
                  rw [e1]
                  have e6 : vs 6 = _ := hf 6 (by simp)
                  rw [e6]
                  have e7 : vs 7 = _ := hf 7 (by simp)
                  rw [e7]
                  go_wp2_with fail
                  first | exact Below.refl _ _ | exact ⟨Below.refl _ _, by omega⟩
                · refine FrontStep.of [1, 8] _ rfl (by kernel_rfl) ?_
                  intro vs LL wq hLL hC hf
                  simp only [putL, List.foldl_nil, List.foldl_cons, List.getElem?_cons_zero, List.getElem?_cons_succ]
                  have e1 : vs 1 = _ := hf 1 (by simp)
                  rw [e1]
                  have e8 : vs 8 = _ := hf 8 (by simp)
                  rw [e8]
                  have yy := cell_under (unhide hcA7) hC
                  go_wp2_with fail
                  first | exact Below.refl _ _ | exact ⟨Below.refl _ _, by omega⟩
                · refine FrontStep.of [1, 5, 9] _ rfl (by kernel_rfl) ?_
                  intro vs LL wq hLL hC hf
                  simp only [putL, List.foldl_nil, List.foldl_cons, List.getElem?_cons_zero, List.getElem?_cons_succ]
                  have e1 : vs 1 = _ := hf 1 (by simp)
                  rw [e1]
                  have e5 : vs 5 = _ := hf 5 (by simp)
                  rw [e5]
                  have e9 : vs 9 = _ := hf 9 (by simp)
                  rw [e9]
                  go_wp2_with fail
                  first | exact Below.refl _ _ | exact ⟨Below.refl _ _, by omega⟩
                · refine FrontStep.of [1, 10] _ rfl (by kernel_rfl) ?_
                  intro vs LL wq hLL hC hf
                  simp only [putL, List.foldl_nil, List.foldl_cons, List.getElem?_cons_zero, List.getElem?_cons_succ]
                  have e1 : vs 1 = _ := hf 1 (by simp)
                  rw [e1]
                  have e10 : vs 10 = _ := hf 10 (by simp)
                  rw [e10]
                  go_wp2_with fail
                  first | exact Below.refl _ _ | exact ⟨Below.refl _ _, by omega⟩
                · refine FrontStep.of [1, 11] _ rfl (by kernel_rfl) ?_
                  intro vs LL wq hLL hC hf
                  simp only [putL, List.foldl_nil, List.foldl_cons, List.getElem?_cons_zero, List.getElem?_cons_succ]
                  have e1 : vs 1 = _ := hf 1 (by simp)
                  rw [e1]
                  have e11 : vs 11 = _ := hf 11 (by simp)
                  rw [e11]
                  go_wp2_with fail
                  first | exact Below.refl _ _ | exact ⟨Below.refl _ _, by omega⟩
                · refine FrontStep.of [12] _ rfl (by kernel_rfl) ?_
                  intro vs LL wq hLL hC hf
                  simp only [putL, List.foldl_nil, List.foldl_cons, List.getElem?_cons_zero, List.getElem?_cons_succ]
                  have e12 : vs 12 = _ := hf 12 (by simp)
                  rw [e12]
                  go_wp2_with fail
                  first | exact Below.refl _ _ | exact ⟨Below.refl _ _, by omega⟩
                · refine FrontStep.of [12, 13] _ rfl (by kernel_rfl) ?_
                  intro vs LL wq hLL hC hf
                  simp only [putL, List.foldl_nil, List.foldl_cons, List.getElem?_cons_zero, List.getElem?_cons_succ]
                  have e12 : vs 12 = _ := hf 12 (by simp)
                  rw [e12]
                  have e13 : vs 13 = _ := hf 13 (by simp)
                  rw [e13]
                  go_wp2_with fail
                  first | exact Below.refl _ _ | exact ⟨Below.refl _ _, by omega⟩
                · refine FrontStep.of [12] _ rfl (by kernel_rfl) ?_
                  intro vs LL wq hLL hC hf
                  simp only [putL, List.foldl_nil, List.foldl_cons, List.getElem?_cons_zero, List.getElem?_cons_succ]
                  have e12 : vs 12 = _ := hf 12 (by simp)
                  rw [e12]
                  go_wp2_with fail
                  first | exact Below.refl _ _ | exact ⟨Below.refl _ _, by omega⟩
                · refine FrontStep.of [12, 15] _ rfl (by kernel_rfl) ?_
                  intro vs LL wq hLL hC hf
                  simp only [putL, List.foldl_nil, List.foldl_cons, List.getElem?_cons_zero, List.getElem?_cons_succ]
                  have e12 : vs 12 = _ := hf 12 (by simp)
                  rw [e12]
                  have e15 : vs 15 = _ := hf 15 (by simp)
                  rw [e15]
                  go_wp2_with fail
                  first | exact Below.refl _ _ | exact ⟨Below.refl _ _, by omega⟩
                · refine FrontStep.of [12] _ rfl (by kernel_rfl) ?_
                  intro vs LL wq hLL hC hf
                  simp only [putL, List.foldl_nil, List.foldl_cons, List.getElem?_cons_zero, List.getElem?_cons_succ]
                  have e12 : vs 12 = _ := hf 12 (by simp)
                  rw [e12]
                  go_wp2_with fail
                  first | exact Below.refl _ _ | exact ⟨Below.refl _ _, by omega⟩
                · refine FrontStep.of [12, 16, 17] _ rfl (by kernel_rfl) ?_
                  intro vs LL wq hLL hC hf
                  simp only [putL, List.foldl_nil, List.foldl_cons, List.getElem?_cons_zero, List.getElem?_cons_succ]
                  have e12 : vs 12 = _ := hf 12 (by simp)
                  rw [e12]
                  have e16 : vs 16 = _ := hf 16 (by simp)
                  rw [e16]
                  have e17 : vs 17 = _ := hf 17 (by simp)
                  rw [e17]
                  go_wp2_with fail
                  first | exact Below.refl _ _ | exact ⟨Below.refl _ _, by omega⟩
                · refine FrontStep.of [12, 14, 18] _ rfl (by kernel_rfl) ?_
                  intro vs LL wq hLL hC hf
                  simp only [putL, List.foldl_nil, List.foldl_cons, List.getElem?_cons_zero, List.getElem?_cons_succ]
                  have e12 : vs 12 = _ := hf 12 (by simp)
                  rw [e12]
                  have e14 : vs 14 = _ := hf 14 (by simp)
                  rw [e14]
                  have e18 : vs 18 = _ := hf 18 (by simp)
                  rw [e18]
                  go_wp2_with fail
                  first | exact Below.refl _ _ | exact ⟨Below.refl _ _, by omega⟩
                · refine FrontStep.of [12, 19] _ rfl (by kernel_rfl) ?_
                  intro vs LL wq hLL hC hf
                  simp only [putL, List.foldl_nil, List.foldl_cons, List.getElem?_cons_zero, List.getElem?_cons_succ]
                  have e12 : vs 12 = _ := hf 12 (by simp)
                  rw [e12]
                  have e19 : vs 19 = _ := hf 19 (by simp)
                  rw [e19]
                  go_wp2_with fail
                  first | exact Below.refl _ _ | exact ⟨Below.refl _ _, by omega⟩
                · refine FrontStep.of [12, 20] _ rfl (by kernel_rfl) ?_
                  intro vs LL wq hLL hC hf
                  simp only [putL, List.foldl_nil, List.foldl_cons, List.getElem?_cons_zero, List.getElem?_cons_succ]
                  have e12 : vs 12 = _ := hf 12 (by simp)
                  rw [e12]
                  have e20 : vs 20 = _ := hf 20 (by simp)
                  rw [e20]
                  go_wp2_with fail
                  first | exact Below.refl _ _ | exact ⟨Below.refl _ _, by omega⟩
                · refine FrontStep.of [21] _ rfl (by kernel_rfl) ?_
                  intro vs LL wq hLL hC hf
                  simp only [putL, List.foldl_nil, List.foldl_cons, List.getElem?_cons_zero, List.getElem?_cons_succ]
                  have e21 : vs 21 = _ := hf 21 (by simp)
                  rw [e21]
                  go_wp2_with fail
                  first | exact Below.refl _ _ | exact ⟨Below.refl _ _, by omega⟩
                · refine FrontStep.of [21] _ rfl (by kernel_rfl) ?_
                  intro vs LL wq hLL hC hf
                  simp only [putL, List.foldl_nil, List.foldl_cons, List.getElem?_cons_zero, List.getElem?_cons_succ]
                  have e21 : vs 21 = _ := hf 21 (by simp)
                  rw [e21]
                  go_wp2_with fail
                  first | exact Below.refl _ _ | exact ⟨Below.refl _ _, by omega⟩
                · refine FrontStep.of [21] _ rfl (by kernel_rfl) ?_
                  intro vs LL wq hLL hC hf
                  simp only [putL, List.foldl_nil, List.foldl_cons, List.getElem?_cons_zero, List.getElem?_cons_succ]
                  have e21 : vs 21 = _ := hf 21 (by simp)
                  rw [e21]
                  go_wp2_with fail
                  first | exact Below.refl _ _ | exact ⟨Below.refl _ _, by omega⟩
                · refine FrontStep.of [21] _ rfl (by kernel_rfl) ?_
                  intro vs LL wq hLL hC hf
                  simp only [putL, List.foldl_nil, List.foldl_cons, List.getElem?_cons_zero, List.getElem?_cons_succ]
                  have e21 : vs 21 = _ := hf 21 (by simp)
                  rw [e21]
                  go_wp2_with fail
                  first | exact Below.refl _ _ | exact ⟨Below.refl _ _, by omega⟩
                · refine FrontStep.of [21, 25] _ rfl (by kernel_rfl) ?_
                  intro vs LL wq hLL hC hf
                  simp only [putL, List.foldl_nil, List.foldl_cons, List.getElem?_cons_zero, List.getElem?_cons_succ]
                  have e21 : vs 21 = _ := hf 21 (by simp)
                  rw [e21]
                  have e25 : vs 25 = _ := hf 25 (by simp)
                  rw [e25]
                  go_wp2_with fail
                  first | exact Below.refl _ _ | exact ⟨Below.refl _ _, by omega⟩
                · refine FrontStep.of [21, 24, 26] _ rfl (by kernel_rfl) ?_
                  intro vs LL wq hLL hC hf
                  simp only [putL, List.foldl_nil, List.foldl_cons, List.getElem?_cons_zero, List.getElem?_cons_succ]
                  have e21 : vs 21 = _ := hf 21 (by simp)
                  rw [e21]
                  have e24 : vs 24 = _ := hf 24 (by simp)
                  rw [e24]
                  have e26 : vs 26 = _ := hf 26 (by simp)
                  rw [e26]
                  go_wp2_with fail
                  first | exact Below.refl _ _ | exact ⟨Below.refl _ _, by omega⟩
                · refine FrontStep.of [21, 22, 23, 27] _ rfl (by kernel_rfl) ?_
                  intro vs LL wq hLL hC hf
                  simp only [putL, List.foldl_nil, List.foldl_cons, List.getElem?_cons_zero, List.getElem?_cons_succ]
                  have e21 : vs 21 = _ := hf 21 (by simp)
                  rw [e21]
                  have e22 : vs 22 = _ := hf 22 (by simp)
                  rw [e22]
                  have e23 : vs 23 = _ := hf 23 (by simp)
                  rw [e23]
                  have e27 : vs 27 = _ := hf 27 (by simp)
                  rw [e27]
                  go_wp2_with fail
                  first | exact Below.refl _ _ | exact ⟨Below.refl _ _, by omega⟩
                · refine FrontStep.of [21] _ rfl (by kernel_rfl) ?_
                  intro vs LL wq hLL hC hf
                  simp only [putL, List.foldl_nil, List.foldl_cons, List.getElem?_cons_zero, List.getElem?_cons_succ]
                  have e21 : vs 21 = _ := hf 21 (by simp)
                  rw [e21]
                  go_wp2_with fail
                  first | exact Below.refl _ _ | exact ⟨Below.refl _ _, by omega⟩
                · refine FrontStep.of [21, 28, 29] _ rfl (by kernel_rfl) ?_
                  intro vs LL wq hLL hC hf
                  simp only [putL, List.foldl_nil, List.foldl_cons, List.getElem?_cons_zero, List.getElem?_cons_succ]
                  have e21 : vs 21 = _ := hf 21 (by simp)
                  rw [e21]
                  have e28 : vs 28 = _ := hf 28 (by simp)
                  rw [e28]
                  have e29 : vs 29 = _ := hf 29 (by simp)
                  rw [e29]
                  go_wp2_with fail
                  first | exact Below.refl _ _ | exact ⟨Below.refl _ _, by omega⟩
                · refine FrontStep.of [21, 30] _ rfl (by kernel_rfl) ?_
                  intro vs LL wq hLL hC hf
                  simp only [putL, List.foldl_nil, List.foldl_cons, List.getElem?_cons_zero, List.getElem?_cons_succ]
                  have e21 : vs 21 = _ := hf 21 (by simp)
                  rw [e21]
                  have e30 : vs 30 = _ := hf 30 (by simp)
                  rw [e30]
                  go_wp2_with fail
                  first | exact Below.refl _ _ | exact ⟨Below.refl _ _, by omega⟩
              · intro vs LL wq hLL hC hf
                have e31 : vs 31 = _ := hf 31 (by decide)
                have hzz := hide ((unhide hz11).trans (hC.mono (unhide hz11).size))
                rw [putSome_all]
                simp only [putL, List.range, List.range.loop, List.foldl_nil, List.foldl_cons, List.getElem?_cons_zero, List.getElem?_cons_succ, List.drop_succ_cons, List.drop_zero]
                rw [e31]
                clear hf hLL hC e31 hz11
                go_simp
                go_wp2_with fail
                go_ret
                exact ⟨rfl, unhide hzz⟩
        · have t5 : ¬ (k : Int) < (En2 : Int) := by omega
          go_wp2_with fail
          refine (unhide hch _).mono ?_
          rintro e w10 ⟨rfl, hb⟩
          have hV10 := (unhide hV9).trans (hb.mono (unhide hV9).size)
          clear hb hch hV9 hto hr1 hrec hca9
          replace hV10 := hide hV10; replace hsum := hsum'
          clear hsum'
          go_wp2_with fail
          go_roundw
          case rel => exact ⟨q + 1, by omega, by go_num, by rw [unhide hEn2], rfl, by rw [unhide hEn2]; omega, unhide hV10⟩
          case measure => simp [intOf]; omega
end Go.Proofs.Ytcliegeooooonaa
