/- JournalOpens: its walk. -/
import Derived.Test.YtcliegeooooonaaJnE
import Derived.Test.YtcliegeooooonaaJnC
namespace Go.Proofs.Ytcliegeooooonaa
open Go.RowKit
abbrev Enc.chg : Enc (Int × Int × Int) := Enc.pair (Enc.num .u16 0 65535) (Enc.pair (Enc.num .u8 0 255) (Enc.num .u8 0 255))
theorem ch_of {w : World} {P : Nat → Prop} {cs : Array Value} {y : Int × Int × Int} (h : Enc.chg.rep w P cs.toList y) : ∃ at_ b d : Nat, at_ < 65536 ∧ b < 256 ∧ d < 256 ∧ cs = #[.int .u16 (at_ : Int), .int .u8 (b : Int), .int .u8 (d : Int)] := by
  obtain ⟨u1, v1, e1, ⟨rfl, i1⟩, u2, v2, rfl, ⟨rfl, i2⟩, rfl, i3⟩ := h
  refine ⟨y.1.toNat, y.2.1.toNat, y.2.2.toNat, by omega, by omega, by omega, ?_⟩
  rw [show ((y.1.toNat : Nat) : Int) = y.1 by omega, show ((y.2.1.toNat : Nat) : Int) = y.2.1 by omega, show ((y.2.2.toNat : Nat) : Int) = y.2.2 by omega]
  exact Array.toList_inj.1 e1
theorem dk_of {w : World} {P : Nat → Prop} {cs : Array Value} {z : ByteArray × ByteArray} (h : (Enc.pair Enc.str Enc.str).rep w P cs.toList z) : ∃ s p : List UInt8, s.length ≤ maxLen ∧ p.length ≤ maxLen ∧ cs = #[.string ⟨s.toArray⟩, .string ⟨p.toArray⟩] := by
  obtain ⟨u1, v1, e1, ⟨rfl, i1⟩, rfl, i2⟩ := h
  refine ⟨z.1.data.toList, z.2.data.toList, by simpa using i1, by simpa using i2, ?_⟩
  simp only [Array.toArray_toList]
  exact Array.toList_inj.1 e1
def BoxC (w : World) (b : Nat) (at_ c d : Nat) : Prop := w.heap[b]? = some (.cells #[.int .u16 (at_ : Int), .int .u8 (c : Int), .int .u8 (d : Int)] 25 (0, 0))
theorem BoxC.call {w w' : World} {b at_ c d : Nat} (h : BoxC w b at_ c d) (hb : Below w.heap.size w w') : BoxC w' b at_ c d := kept' hb h
theorem BoxC.cs {w : World} {b at_ c d : Nat} (h : BoxC w b at_ c d) : w.cell? ⟨b, 0, none⟩ = some (.int .u16 (at_ : Int)) ∧ w.cell? ⟨b, 1, none⟩ = some (.int .u8 (c : Int)) ∧ w.cell? ⟨b, 2, none⟩ = some (.int .u8 (d : Int)) := ⟨cell_of_row _ _ 0 _ _ _ h, cell_of_row _ _ 1 _ _ _ h, cell_of_row _ _ 2 _ _ _ h⟩
theorem dk_f1 (s p : ByteArray) (w : World) : (Instr.field 27 (.agg #[.string s, .string p]) 1).run Try.prog w = .ok (.string p) w := by kernel_rfl
theorem ropen_tx (s p : List UInt8) (w : World) (hs : s.length ≤ 100000000) (hp : p.length ≤ 100000000) :
    Calls Try.prog 20 #[dk s p] w fun e w' => ∃ v, e = .returned (.tuple #[v, dk ((s ++ p).take (opK s p)) (((s ++ p).drop (opK s p)).take (opN (s ++ p) - opK s p))]) ∧ Tx w' v (Jn.good b0L (s ++ p)).1 ∧ Below w.heap.size w w' :=
  (ropen_any s p w hs hp).mono fun e w' ⟨v, h1, h2, h3⟩ => ⟨v, h1, tx_own h2 (good_sml _ _ (by rw [List.length_append]; omega)), h3⟩
set_option maxRecDepth 100000 in
set_option maxHeartbeats 4000000 in
theorem journalOpens_any (a : Option Addr) (len cap : Nat) (l : List (ByteArray × Bool)) (cs : Array Value) (y : Int × Int × Int) (ds : Array Value) (z : ByteArray × ByteArray) (w : World) (hl : Lst (Enc.pair Enc.str Enc.bool) w (fun b => b < w.heap.size) a len l) (h1 : len ≤ cap) (h2 : cap ≤ maxLen) (hc : (Enc.pair (Enc.num .u16 0 65535) (Enc.pair (Enc.num .u8 0 255) (Enc.num .u8 0 255))).rep w (fun b => b < w.heap.size) cs.toList y) (hd : (Enc.pair Enc.str Enc.str).rep w (fun b => b < w.heap.size) ds.toList z) :
    Calls Try.prog 4 #[.slice a len cap, .agg cs, .agg ds] w fun e w' => e = .returned (.bool true) ∧ Below w.heap.size w w' := by
  obtain ⟨at_, cb, cd, ha1, ha2, ha3, rfl⟩ := ch_of hc
  obtain ⟨rs, rp, hrs, hrp, rfl⟩ := dk_of hd
  obtain ⟨hst, hml⟩ := stl_lst hl
  obtain ⟨x4, x5, w1, e1, e2, ew, st⟩ := St.new2 w (Obj.cells #[.int .u16 (at_ : Int), .int .u8 (cb : Int), .int .u8 (cd : Int)] 25) (Obj.cells #[.string ⟨rs.toArray⟩, .string ⟨rp.toArray⟩] 27)
  have hz1 := st.below
  have hb4 : BoxC w1 x4 at_ cb cd := st.get 1 rfl
  have hb5 : BoxD w1 x5 rs rp := st.get 0 rfl
  have hfe := fun w' (hb : Below w.heap.size w w') => few_any a len cap (unstp l) w' (hst.call hb) h1 h2 hml
  obtain ⟨L, hL⟩ : ∃ L, fewS (unstp l) = L := ⟨_, rfl⟩
  have hL8 : L.length ≤ 8 := by rw [← hL]; exact fewS_len _
  have hL20 : ∀ x ∈ L, x.1.length ≤ 20 := by rw [← hL]; exact fewS_20 _
  unfold FewPost at hfe
  simp only [hL] at hfe
  have hdi := fun a c w h => disk_any a L.length c L w h hL8 hL20
  have hbd := wr_bd L hL8 hL20
  obtain ⟨s, hs⟩ : ∃ s, (wrS L).1 = s := ⟨_, rfl⟩
  obtain ⟨p, hp⟩ : ∃ s, (wrS L).2.1 = s := ⟨_, rfl⟩
  simp only [hs, hp] at hdi hbd
  have hsl := hbd.1
  have hpl := hbd.2.1
  have hof := fun s w (h : (s : List UInt8).length ≤ 1000000) => chof_any at_ cb cd s w ha1 ha2 ha3 h
  have hcu := fun w => cut_any rs rp w hrs hrp
  obtain ⟨os, hos⟩ : ∃ x, ofS at_ (UInt8.ofNat cb) cd s = x := ⟨_, rfl⟩
  obtain ⟨op, hop⟩ : ∃ x, ofS at_ (UInt8.ofNat cb) cd p = x := ⟨_, rfl⟩
  have hosl : os.length ≤ 1000 := by rw [← hos]; have := ofS_len at_ (UInt8.ofNat cb) cd s; omega
  have hopl : op.length ≤ 1000 := by rw [← hop]; have := ofS_len at_ (UInt8.ofNat cb) cd p; omega
  have hof1 := fun w => hof s w (by omega)
  have hof2 := fun w => hof p w (by omega)
  simp only [hos] at hof1
  simp only [hop] at hof2
  obtain ⟨us, hus⟩ : ∃ x, cut60 rs = x := ⟨_, rfl⟩
  obtain ⟨up, hup⟩ : ∃ x, cut60 rp = x := ⟨_, rfl⟩
  have husl : us.length ≤ 60 := by rw [← hus]; exact cut60_len _
  have hupl : up.length ≤ 60 := by rw [← hup]; exact cut60_len _
  simp only [hus, hup] at hcu
  have a1 : ∀ w, (Op.stringOp .add ⟨s.toArray⟩ ⟨p.toArray⟩).run Try.prog w = .ok (.string ⟨(s ++ p).toArray⟩) w := fun w => str_add2 _ _ (by omega)
  have a2 : ∀ w, (Op.stringOp .add ⟨(s ++ p).toArray⟩ ⟨us.toArray⟩).run Try.prog w = .ok (.string ⟨(s ++ p ++ us).toArray⟩) w := fun w => str_add2 _ _ (by rw [List.length_append]; omega)
  obtain ⟨sp, hsp⟩ : ∃ x, s ++ p = x := ⟨_, rfl⟩
  have hspl : sp.length ≤ 800 := by rw [← hsp, List.length_append]; omega
  simp only [hsp] at a1 a2
  obtain ⟨sq, hsq⟩ : ∃ x, sp ++ us = x := ⟨_, rfl⟩
  have hsql : sq.length ≤ 900 := by rw [← hsq, List.length_append]; omega
  simp only [hsq] at a2
  have ff0 := fun w => dk_f0 ⟨us.toArray⟩ ⟨up.toArray⟩ w
  have ff1 := fun w => dk_f1 ⟨us.toArray⟩ ⟨up.toArray⟩ w
  unfold dk at hdi hcu
  unfold chV at hof1 hof2
  clear hL hml hst hl hs hp hbd hL20 hc hd hof hos hop hus hup hsp hsq st hrs hrp
  replace hfe := hide hfe; replace hdi := hide hdi; replace hof1 := hide hof1; replace hof2 := hide hof2; replace hcu := hide hcu; replace hz1 := hide hz1; replace hb4 := hide hb4; replace hb5 := hide hb5; replace e1 := hide e1; replace e2 := hide e2; replace ew := hide ew
  go_enter Try.func4, Try.ntmps4
  go_upto_region 1 with fail
  rw [unhide ew]
  try rw [unhide e2]
  try rw [unhide e1]
  clear ew e1 e2
  go_wp2_with fail
  refine (sanity_any w1).mono ?_
  rintro e w2 ⟨rfl, hb⟩
  replace hb4 := hide ((unhide hb4).call hb)
  replace hb5 := hide ((unhide hb5).call hb)
  replace hz1 := hide ((unhide hz1).trans (hb.mono (unhide hz1).size))
  clear hb
  go_wp2_with fail
  refine (unhide hfe w2 (unhide hz1)).mono ?_
  rintro e w3 ⟨fa, fc, rfl, hfs, hb⟩
  replace hb4 := hide ((unhide hb4).call hb)
  replace hb5 := hide ((unhide hb5).call hb)
  replace hz1 := hide ((unhide hz1).trans (hb.mono (unhide hz1).size))
  have hw3 := hide (unhide hdi fa fc w3 hfs)
  clear hb hfs hfe hdi
  go_wp2_with fail
  refine (unhide hw3).mono ?_
  rintro e w4 ⟨rfl, hb⟩
  replace hb4 := hide ((unhide hb4).call hb)
  replace hb5 := hide ((unhide hb5).call hb)
  replace hz1 := hide ((unhide hz1).trans (hb.mono (unhide hz1).size))
  clear hb hw3
  obtain ⟨x8, V, ex, ev, st⟩ := (St.start w4).new (Obj.cells #[.string ⟨s.toArray⟩, .string ⟨p.toArray⟩] 27)
  have hb := st.below
  replace hb4 := hide ((unhide hb4).call hb)
  replace hb5 := hide ((unhide hb5).call hb)
  replace hz1 := hide ((unhide hz1).trans (hb.mono (unhide hz1).size))
  have hb8 : BoxD V x8 s p := st.get 0 rfl
  clear hb st
  replace ex := hide ex; replace ev := hide ev; replace hb8 := hide hb8
  go_upto_region 3 with fail
  rw [unhide ev]
  try rw [unhide ex]
  clear ev ex
  refine wp_region_frontG 32 (fun _ _ w' => Below V.heap.size V w') (fun wa wb => Below wa.heap.size wa wb)
    (fun ix v w' => match ix with
      | 0 => v = .agg #[.string ⟨s.toArray⟩, .string ⟨p.toArray⟩]
      | 1 => v = .agg #[.int .u16 (at_ : Int), .int .u8 (cb : Int), .int .u8 (cd : Int)]
      | 2 => v = .pointer (some ⟨x8, 0, none⟩)
      | 3 => v = .string ⟨s.toArray⟩
      | 4 => v = .string ⟨os.toArray⟩
      | 5 => v = .pointer (some ⟨x8, 1, none⟩)
      | 6 => v = .string ⟨p.toArray⟩
      | 7 => v = .agg #[.string ⟨os.toArray⟩, .string ⟨p.toArray⟩]
      | 8 => v = .pointer (some ⟨x8, 0, none⟩)
      | 9 => v = .string ⟨s.toArray⟩
      | 10 => v = .agg #[.int .u16 (at_ : Int), .int .u8 (cb : Int), .int .u8 (cd : Int)]
      | 11 => v = .pointer (some ⟨x8, 1, none⟩)
      | 12 => v = .string ⟨p.toArray⟩
      | 13 => v = .string ⟨op.toArray⟩
      | 14 => v = .agg #[.string ⟨s.toArray⟩, .string ⟨op.toArray⟩]
      | 15 => v = .pointer (some ⟨x8, 0, none⟩)
      | 16 => v = .string ⟨s.toArray⟩
      | 17 => v = .pointer (some ⟨x8, 1, none⟩)
      | 18 => v = .string ⟨p.toArray⟩
      | 19 => v = .string ⟨sp.toArray⟩
      | 20 => v = .agg #[.string ⟨rs.toArray⟩, .string ⟨rp.toArray⟩]
      | 21 => v = .agg #[.string ⟨us.toArray⟩, .string ⟨up.toArray⟩]
      | 22 => v = .string ⟨us.toArray⟩
      | 23 => v = .string ⟨sq.toArray⟩
      | 24 => v = .agg #[.string ⟨rs.toArray⟩, .string ⟨rp.toArray⟩]
      | 25 => v = .agg #[.string ⟨us.toArray⟩, .string ⟨up.toArray⟩]
      | 26 => v = .string ⟨up.toArray⟩
      | 27 => v = .agg #[.string ⟨sq.toArray⟩, .string ⟨up.toArray⟩]
      | 28 => v = .agg #[.string ⟨rs.toArray⟩, .string ⟨rp.toArray⟩]
      | 29 => v = .agg #[.string ⟨us.toArray⟩, .string ⟨up.toArray⟩]
      | 30 => v = .agg #[.string ⟨s.toArray⟩, .string ⟨p.toArray⟩, .string ⟨os.toArray⟩, .string ⟨p.toArray⟩, .string ⟨s.toArray⟩, .string ⟨op.toArray⟩, .string ⟨sq.toArray⟩, .string ⟨up.toArray⟩, .string ⟨us.toArray⟩, .string ⟨up.toArray⟩]
      | 31 => v = .int .i64 0
      | _ => True) (by rfl) (by kernel_rfl) ?_ ?_ ?_ ?_
  · exact (Below.refl _ _).drew
  · intro wa wb hR ix v hv
    match ix, hv with
    | 0, h => exact h
    | 1, h => exact h
    | 2, h => exact h
    | 3, h => exact h
    | 4, h => exact h
    | 5, h => exact h
    | 6, h => exact h
    | 7, h => exact h
    | 8, h => exact h
    | 9, h => exact h
    | 10, h => exact h
    | 11, h => exact h
    | 12, h => exact h
    | 13, h => exact h
    | 14, h => exact h
    | 15, h => exact h
    | 16, h => exact h
    | 17, h => exact h
    | 18, h => exact h
    | 19, h => exact h
    | 20, h => exact h
    | 21, h => exact h
    | 22, h => exact h
    | 23, h => exact h
    | 24, h => exact h
    | 25, h => exact h
    | 26, h => exact h
    | 27, h => exact h
    | 28, h => exact h
    | 29, h => exact h
    | 30, h => exact h
    | 31, h => exact h
    | _ + 32, _ => trivial
  · intro ix hix
    obtain rfl | rfl | rfl | rfl | rfl | rfl | rfl | rfl | rfl | rfl | rfl | rfl | rfl | rfl | rfl | rfl | rfl | rfl | rfl | rfl | rfl | rfl | rfl | rfl | rfl | rfl | rfl | rfl | rfl | rfl | rfl | rfl : ix = 0 ∨ ix = 1 ∨ ix = 2 ∨ ix = 3 ∨ ix = 4 ∨ ix = 5 ∨ ix = 6 ∨ ix = 7 ∨ ix = 8 ∨ ix = 9 ∨ ix = 10 ∨ ix = 11 ∨ ix = 12 ∨ ix = 13 ∨ ix = 14 ∨ ix = 15 ∨ ix = 16 ∨ ix = 17 ∨ ix = 18 ∨ ix = 19 ∨ ix = 20 ∨ ix = 21 ∨ ix = 22 ∨ ix = 23 ∨ ix = 24 ∨ ix = 25 ∨ ix = 26 ∨ ix = 27 ∨ ix = 28 ∨ ix = 29 ∨ ix = 30 ∨ ix = 31 := by omega
    · refine FrontStep.of [] _ rfl (by kernel_rfl) ?_
      intro vs LL wq hLL hC hf
      simp only [putL, List.foldl_nil]
      have y0 := ((unhide hb8).call hC).c0
      have y1 := ((unhide hb8).call hC).c1
      go_wp2_with fail
      first | exact Below.refl _ _ | exact ⟨Below.refl _ _, by omega⟩
    · refine FrontStep.of [] _ rfl (by kernel_rfl) ?_
      intro vs LL wq hLL hC hf
      simp only [putL, List.foldl_nil]
      obtain ⟨y0, y1, y2⟩ := ((unhide hb4).call hC).cs
      go_wp2_with fail
      first | exact Below.refl _ _ | exact ⟨Below.refl _ _, by omega⟩
    · refine FrontStep.of [] _ rfl (by kernel_rfl) ?_
      intro vs LL wq hLL hC hf
      simp only [putL, List.foldl_nil]
      go_wp2_with fail
      first | exact Below.refl _ _ | exact ⟨Below.refl _ _, by omega⟩
    · refine FrontStep.of [2] _ rfl (by kernel_rfl) ?_
      intro vs LL wq hLL hC hf
      simp only [putL, List.foldl_nil, List.foldl_cons, List.getElem?_cons_zero, List.getElem?_cons_succ]
      have e2 : vs 2 = _ := hf 2 (by simp)
      rw [e2]
      have y0 := ((unhide hb8).call hC).c0
      have y1 := ((unhide hb8).call hC).c1
      go_wp2_with fail
      first | exact Below.refl _ _ | exact ⟨Below.refl _ _, by omega⟩
    · refine FrontStep.of [1, 3] _ rfl (by kernel_rfl) ?_
      intro vs LL wq hLL hC hf
      simp only [putL, List.foldl_nil, List.foldl_cons, List.getElem?_cons_zero, List.getElem?_cons_succ]
      have e1 : vs 1 = _ := hf 1 (by simp)
      rw [e1]
      have e3 : vs 3 = _ := hf 3 (by simp)
      rw [e3]
      go_wp2_with fail
      refine (unhide hof1 _).mono ?_
      rintro e w2 ⟨rfl, hb2⟩
      have q1 := hide (hC.trans (hb2.mono hC.size))
      have q2 := hide hb2
      clear hC hb2
      go_wp2_with fail
      exact ⟨unhide q1, unhide q2⟩
    · refine FrontStep.of [] _ rfl (by kernel_rfl) ?_
      intro vs LL wq hLL hC hf
      simp only [putL, List.foldl_nil]
      go_wp2_with fail
      first | exact Below.refl _ _ | exact ⟨Below.refl _ _, by omega⟩
    · refine FrontStep.of [5] _ rfl (by kernel_rfl) ?_
      intro vs LL wq hLL hC hf
      simp only [putL, List.foldl_nil, List.foldl_cons, List.getElem?_cons_zero, List.getElem?_cons_succ]
      have e5 : vs 5 = _ := hf 5 (by simp)
      rw [e5]
      have y0 := ((unhide hb8).call hC).c0
      have y1 := ((unhide hb8).call hC).c1
      go_wp2_with fail
      first | exact Below.refl _ _ | exact ⟨Below.refl _ _, by omega⟩
    · refine FrontStep.of [4, 6] _ rfl (by kernel_rfl) ?_
      intro vs LL wq hLL hC hf
      simp only [putL, List.foldl_nil, List.foldl_cons, List.getElem?_cons_zero, List.getElem?_cons_succ]
      have e4 : vs 4 = _ := hf 4 (by simp)
      rw [e4]
      have e6 : vs 6 = _ := hf 6 (by simp)
      rw [e6]
      go_wp2_with fail
      first | exact Below.refl _ _ | exact ⟨Below.refl _ _, by omega⟩
    · refine FrontStep.of [] _ rfl (by kernel_rfl) ?_
      intro vs LL wq hLL hC hf
      simp only [putL, List.foldl_nil]
      go_wp2_with fail
      first | exact Below.refl _ _ | exact ⟨Below.refl _ _, by omega⟩
    · refine FrontStep.of [8] _ rfl (by kernel_rfl) ?_
      intro vs LL wq hLL hC hf
      simp only [putL, List.foldl_nil, List.foldl_cons, List.getElem?_cons_zero, List.getElem?_cons_succ]
      have e8 : vs 8 = _ := hf 8 (by simp)
      rw [e8]
      have y0 := ((unhide hb8).call hC).c0
      have y1 := ((unhide hb8).call hC).c1
      go_wp2_with fail
      first | exact Below.refl _ _ | exact ⟨Below.refl _ _, by omega⟩
    · refine FrontStep.of [] _ rfl (by kernel_rfl) ?_
      intro vs LL wq hLL hC hf
      simp only [putL, List.foldl_nil]
      obtain ⟨y0, y1, y2⟩ := ((unhide hb4).call hC).cs
      go_wp2_with fail
      first | exact Below.refl _ _ | exact ⟨Below.refl _ _, by omega⟩
    · refine FrontStep.of [] _ rfl (by kernel_rfl) ?_
      intro vs LL wq hLL hC hf
      simp only [putL, List.foldl_nil]
      go_wp2_with fail
      first | exact Below.refl _ _ | exact ⟨Below.refl _ _, by omega⟩
    · refine FrontStep.of [11] _ rfl (by kernel_rfl) ?_
      intro vs LL wq hLL hC hf
      simp only [putL, List.foldl_nil, List.foldl_cons, List.getElem?_cons_zero, List.getElem?_cons_succ]
      have e11 : vs 11 = _ := hf 11 (by simp)
      rw [e11]
      have y0 := ((unhide hb8).call hC).c0
      have y1 := ((unhide hb8).call hC).c1
      go_wp2_with fail
      first | exact Below.refl _ _ | exact ⟨Below.refl _ _, by omega⟩
    · refine FrontStep.of [4, 10, 12] _ rfl (by kernel_rfl) ?_
      intro vs LL wq hLL hC hf
      simp only [putL, List.foldl_nil, List.foldl_cons, List.getElem?_cons_zero, List.getElem?_cons_succ]
      have e4 : vs 4 = _ := hf 4 (by simp)
      rw [e4]
      have e10 : vs 10 = _ := hf 10 (by simp)
      rw [e10]
      have e12 : vs 12 = _ := hf 12 (by simp)
      rw [e12]
      go_wp2_with fail
      refine (unhide hof2 _).mono ?_
      rintro e w2 ⟨rfl, hb2⟩
      have q1 := hide (hC.trans (hb2.mono hC.size))
      have q2 := hide hb2
      clear hC hb2
      go_wp2_with fail
      exact ⟨unhide q1, unhide q2⟩
    · refine FrontStep.of [9, 13] _ rfl (by kernel_rfl) ?_
      intro vs LL wq hLL hC hf
      simp only [putL, List.foldl_nil, List.foldl_cons, List.getElem?_cons_zero, List.getElem?_cons_succ]
      have e9 : vs 9 = _ := hf 9 (by simp)
      rw [e9]
      have e13 : vs 13 = _ := hf 13 (by simp)
      rw [e13]
      go_wp2_with fail
      first | exact Below.refl _ _ | exact ⟨Below.refl _ _, by omega⟩
    · refine FrontStep.of [] _ rfl (by kernel_rfl) ?_
      intro vs LL wq hLL hC hf
      simp only [putL, List.foldl_nil]
      go_wp2_with fail
      first | exact Below.refl _ _ | exact ⟨Below.refl _ _, by omega⟩
    · refine FrontStep.of [15] _ rfl (by kernel_rfl) ?_
      intro vs LL wq hLL hC hf
      simp only [putL, List.foldl_nil, List.foldl_cons, List.getElem?_cons_zero, List.getElem?_cons_succ]
      have e15 : vs 15 = _ := hf 15 (by simp)
      rw [e15]
      have y0 := ((unhide hb8).call hC).c0
      have y1 := ((unhide hb8).call hC).c1
      go_wp2_with fail
      first | exact Below.refl _ _ | exact ⟨Below.refl _ _, by omega⟩
    · refine FrontStep.of [] _ rfl (by kernel_rfl) ?_
      intro vs LL wq hLL hC hf
      simp only [putL, List.foldl_nil]
      go_wp2_with fail
      first | exact Below.refl _ _ | exact ⟨Below.refl _ _, by omega⟩
    · refine FrontStep.of [17] _ rfl (by kernel_rfl) ?_
      intro vs LL wq hLL hC hf
      simp only [putL, List.foldl_nil, List.foldl_cons, List.getElem?_cons_zero, List.getElem?_cons_succ]
      have e17 : vs 17 = _ := hf 17 (by simp)
      rw [e17]
      have y0 := ((unhide hb8).call hC).c0
      have y1 := ((unhide hb8).call hC).c1
      go_wp2_with fail
      first | exact Below.refl _ _ | exact ⟨Below.refl _ _, by omega⟩
    · refine FrontStep.of [16, 18] _ rfl (by kernel_rfl) ?_
      intro vs LL wq hLL hC hf
      simp only [putL, List.foldl_nil, List.foldl_cons, List.getElem?_cons_zero, List.getElem?_cons_succ]
      have e16 : vs 16 = _ := hf 16 (by simp)
      rw [e16]
      have e18 : vs 18 = _ := hf 18 (by simp)
      rw [e18]
      go_wp2_with fail
      first | exact Below.refl _ _ | exact ⟨Below.refl _ _, by omega⟩
    · refine FrontStep.of [] _ rfl (by kernel_rfl) ?_
      intro vs LL wq hLL hC hf
      simp only [putL, List.foldl_nil]
      have y0 := ((unhide hb5).call hC).c0
      have y1 := ((unhide hb5).call hC).c1
      go_wp2_with fail
      first | exact Below.refl _ _ | exact ⟨Below.refl _ _, by omega⟩
    · refine FrontStep.of [13, 20] _ rfl (by kernel_rfl) ?_
      intro vs LL wq hLL hC hf
      simp only [putL, List.foldl_nil, List.foldl_cons, List.getElem?_cons_zero, List.getElem?_cons_succ]
      have e13 : vs 13 = _ := hf 13 (by simp)
      rw [e13]
      have e20 : vs 20 = _ := hf 20 (by simp)
      rw [e20]
      go_wp2_with fail
      refine (unhide hcu _).mono ?_
      rintro e w2 ⟨rfl, hb2⟩
      have q1 := hide (hC.trans (hb2.mono hC.size))
      have q2 := hide hb2
      clear hC hb2
      go_wp2_with fail
      exact ⟨unhide q1, unhide q2⟩
    · refine FrontStep.of [21] _ rfl (by kernel_rfl) ?_
      intro vs LL wq hLL hC hf
      simp only [putL, List.foldl_nil, List.foldl_cons, List.getElem?_cons_zero, List.getElem?_cons_succ]
      have e21 : vs 21 = _ := hf 21 (by simp)
      rw [e21]
      go_wp2_with fail
      first | exact Below.refl _ _ | exact ⟨Below.refl _ _, by omega⟩
    · refine FrontStep.of [19, 22] _ rfl (by kernel_rfl) ?_
      intro vs LL wq hLL hC hf
      simp only [putL, List.foldl_nil, List.foldl_cons, List.getElem?_cons_zero, List.getElem?_cons_succ]
      have e19 : vs 19 = _ := hf 19 (by simp)
      rw [e19]
      have e22 : vs 22 = _ := hf 22 (by simp)
      rw [e22]
      go_wp2_with fail
      first | exact Below.refl _ _ | exact ⟨Below.refl _ _, by omega⟩
    · refine FrontStep.of [] _ rfl (by kernel_rfl) ?_
      intro vs LL wq hLL hC hf
      simp only [putL, List.foldl_nil]
      have y0 := ((unhide hb5).call hC).c0
      have y1 := ((unhide hb5).call hC).c1
      go_wp2_with fail
      first | exact Below.refl _ _ | exact ⟨Below.refl _ _, by omega⟩
    · refine FrontStep.of [21, 24] _ rfl (by kernel_rfl) ?_
      intro vs LL wq hLL hC hf
      simp only [putL, List.foldl_nil, List.foldl_cons, List.getElem?_cons_zero, List.getElem?_cons_succ]
      have e21 : vs 21 = _ := hf 21 (by simp)
      rw [e21]
      have e24 : vs 24 = _ := hf 24 (by simp)
      rw [e24]
      go_wp2_with fail
      refine (unhide hcu _).mono ?_
      rintro e w2 ⟨rfl, hb2⟩
      have q1 := hide (hC.trans (hb2.mono hC.size))
      have q2 := hide hb2
      clear hC hb2
      go_wp2_with fail
      exact ⟨unhide q1, unhide q2⟩
    · refine FrontStep.of [25] _ rfl (by kernel_rfl) ?_
      intro vs LL wq hLL hC hf
      simp only [putL, List.foldl_nil, List.foldl_cons, List.getElem?_cons_zero, List.getElem?_cons_succ]
      have e25 : vs 25 = _ := hf 25 (by simp)
      rw [e25]
      go_wp2_with fail
      first | exact Below.refl _ _ | exact ⟨Below.refl _ _, by omega⟩
    · refine FrontStep.of [23, 26] _ rfl (by kernel_rfl) ?_
      intro vs LL wq hLL hC hf
      simp only [putL, List.foldl_nil, List.foldl_cons, List.getElem?_cons_zero, List.getElem?_cons_succ]
      have e23 : vs 23 = _ := hf 23 (by simp)
      rw [e23]
      have e26 : vs 26 = _ := hf 26 (by simp)
      rw [e26]
      go_wp2_with fail
      first | exact Below.refl _ _ | exact ⟨Below.refl _ _, by omega⟩
    · refine FrontStep.of [] _ rfl (by kernel_rfl) ?_
      intro vs LL wq hLL hC hf
      simp only [putL, List.foldl_nil]
      have y0 := ((unhide hb5).call hC).c0
      have y1 := ((unhide hb5).call hC).c1
      go_wp2_with fail
      first | exact Below.refl _ _ | exact ⟨Below.refl _ _, by omega⟩
    · refine FrontStep.of [25, 28] _ rfl (by kernel_rfl) ?_
      intro vs LL wq hLL hC hf
      simp only [putL, List.foldl_nil, List.foldl_cons, List.getElem?_cons_zero, List.getElem?_cons_succ]
      have e25 : vs 25 = _ := hf 25 (by simp)
      rw [e25]
      have e28 : vs 28 = _ := hf 28 (by simp)
      rw [e28]
      go_wp2_with fail
      refine (unhide hcu _).mono ?_
      rintro e w2 ⟨rfl, hb2⟩
      have q1 := hide (hC.trans (hb2.mono hC.size))
      have q2 := hide hb2
      clear hC hb2
      go_wp2_with fail
      exact ⟨unhide q1, unhide q2⟩
    · refine FrontStep.of [0, 7, 14, 27, 29] _ rfl (by kernel_rfl) ?_
      intro vs LL wq hLL hC hf
      simp only [putL, List.foldl_nil, List.foldl_cons, List.getElem?_cons_zero, List.getElem?_cons_succ]
      have e0 : vs 0 = _ := hf 0 (by simp)
      rw [e0]
      have e7 : vs 7 = _ := hf 7 (by simp)
      rw [e7]
      have e14 : vs 14 = _ := hf 14 (by simp)
      rw [e14]
      have e27 : vs 27 = _ := hf 27 (by simp)
      rw [e27]
      have e29 : vs 29 = _ := hf 29 (by simp)
      rw [e29]
      go_wp2_with fail
      first | exact Below.refl _ _ | exact ⟨Below.refl _ _, by omega⟩
    · refine FrontStep.of [] _ rfl (by kernel_rfl) ?_
      intro vs LL wq hLL hC hf
      simp only [putL, List.foldl_nil]
      go_wp2_with fail
      first | exact Below.refl _ _ | exact ⟨Below.refl _ _, by omega⟩
  · intro vs LL wq hLL hC hf
    have e30 : vs 30 = _ := hf 30 (by decide)
    have e31 : vs 31 = _ := hf 31 (by decide)
    have hb8w := (unhide hb8).call hC
    have hz2 := (unhide hz1).trans (hC.mono (unhide hz1).size)
    rw [putSome_all]
    simp only [putL, List.range, List.range.loop, List.foldl_nil, List.foldl_cons, List.getElem?_cons_zero, List.getElem?_cons_succ, List.drop_succ_cons, List.drop_zero]
    rw [e30, e31]
    obtain ⟨V2, rfl⟩ : ∃ W : World, W = wq := ⟨_, rfl⟩
    clear hf hLL hC e30 e31 hb8 hb5 hb4 hz1 hcu hof1 hof2 ff0 ff1 a1 a2
    replace hb8w := hide hb8w; replace hz2 := hide hz2
    go_simp
    obtain ⟨W0, hW0⟩ : ∃ n, w.heap.size = n := ⟨_, rfl⟩
    rw [hW0] at hz2
    replace hW0 := hide hW0
    go_wp2_with fail
    go_loopw [50] (fun v wr => ∃ k : Nat, k ≤ 5 ∧ v = .int .i64 (k : Int) ∧ Below W0 w wr) (fun v _ => 5 - (intOf v).toNat)
    case atStart => exact ⟨0, by omega, rfl, unhide hz2⟩
    case round =>
      clear hz2
      obtain ⟨k, hk, rfl, hz⟩ := hrel
      obtain ⟨wo, rfl⟩ : ∃ W : World, W = wr := ⟨_, rfl⟩
      have hWo : W0 ≤ wo.heap.size := by rw [← unhide hW0]; exact hz.size
      by_cases hlt : k < 5
      · have hix : ∃ X Y : List UInt8, X.length ≤ 1000 ∧ Y.length ≤ 1000 ∧ ∀ w, (Instr.index 39 (.agg #[.string ⟨s.toArray⟩, .string ⟨p.toArray⟩, .string ⟨os.toArray⟩, .string ⟨p.toArray⟩, .string ⟨s.toArray⟩, .string ⟨op.toArray⟩, .string ⟨sq.toArray⟩, .string ⟨up.toArray⟩, .string ⟨us.toArray⟩, .string ⟨up.toArray⟩]) (.int .i64 (k : Int))).run Try.prog w = .ok (.agg #[.string ⟨X.toArray⟩, .string ⟨Y.toArray⟩]) w := by
          obtain rfl | rfl | rfl | rfl | rfl : k = 0 ∨ k = 1 ∨ k = 2 ∨ k = 3 ∨ k = 4 := by omega
          · exact ⟨s, p, by omega, by omega, fun w => by kernel_rfl⟩
          · exact ⟨os, p, by omega, by omega, fun w => by kernel_rfl⟩
          · exact ⟨s, op, by omega, by omega, fun w => by kernel_rfl⟩
          · exact ⟨sq, up, by omega, by omega, fun w => by kernel_rfl⟩
          · exact ⟨us, up, by omega, by omega, fun w => by kernel_rfl⟩
        obtain ⟨X, Y, hX, hY, hix⟩ := hix
        have i1 : (k : Int) < 5 := by omega
        replace hz := hide hz
        have ho := fun w => open_tx X Y w (by omega) (by omega)
        have hr := fun w => ropen_tx X Y w (by omega) (by omega)
        have hGn : (Jn.good b0L (X ++ Y)).1.length ≤ 1000000000 := by have := good_cnt b0L (X ++ Y); rw [List.length_append] at this; omega
        obtain ⟨G, hG⟩ : ∃ G, (Jn.good b0L (X ++ Y)).1 = G := ⟨_, rfl⟩
        obtain ⟨OX, hOX⟩ : ∃ G, (X ++ Y).take (opK X Y) = G := ⟨_, rfl⟩
        obtain ⟨OY, hOY⟩ : ∃ G, ((X ++ Y).drop (opK X Y)).take (opN (X ++ Y) - opK X Y) = G := ⟨_, rfl⟩
        simp only [hG, hOX, hOY] at ho hr hGn
        unfold dk at ho hr
        clear hG hOX hOY
        replace ho := hide ho; replace hr := hide hr
        have t1 : (OX == OX) = true := beq_self_eq_true _
        have t2 : (OY == OY) = true := beq_self_eq_true _
        obtain ⟨x10, v1, ex, ev, st⟩ := (St.start wo).new (Obj.cells #[.string ⟨X.toArray⟩, .string ⟨Y.toArray⟩] 27)
        have d0 := st.cell 0 rfl 0 rfl
        have d1 := st.cell 0 rfl 1 rfl
        replace ex := hide ex; replace ev := hide ev; replace st := hide st
        go_upto_region 6 with fail
        rw [unhide ev]
        try rw [unhide ex]
        clear ex ev
        go_wp2_with fail
        refine (unhide ho v1).mono ?_
        rintro e v2 ⟨vf, rfl, htf, hb⟩
        have st2 := (unhide st).call hb
        obtain ⟨fa2, fc2, rfl, hfc2, hfl2⟩ := htf
        have htF : Tx v2 (.slice fa2 G.length fc2) G := ⟨fa2, fc2, rfl, hfc2, hfl2⟩
        obtain ⟨x12, v3, ex, ev, st3⟩ := st2.new (Obj.cells #[.string ⟨OX.toArray⟩, .string ⟨OY.toArray⟩] 27)
        have hb3 : Below v2.heap.size v2 v3 := by rw [← ev]; exact (Below.refl _ _).alloc (Nat.le_refl _) _
        replace htF := htF.call hb3
        clear st st2 hfl2 hb hb3 d0 d1 ho
        have d0 := st3.cell 1 rfl 0 rfl
        have d1 := st3.cell 1 rfl 1 rfl
        replace ex := hide ex; replace ev := hide ev; replace st3 := hide st3; replace htF := hide htF
        go_upto_region 7 with fail
        rw [unhide ev]
        try rw [unhide ex]
        clear ex ev
        go_wp2_with fail
        refine (unhide hr v3).mono ?_
        rintro e v4 ⟨vg, rfl, htg, hb⟩
        have st4 := (unhide st3).call hb
        replace htF := (unhide htF).call hb
        obtain ⟨ga2, gc2, rfl, hgc2, hgl2⟩ := htg
        have htG : Tx v4 (.slice ga2 G.length gc2) G := ⟨ga2, gc2, rfl, hgc2, hgl2⟩
        obtain ⟨x14, v5, ex, ev, st5⟩ := st4.new (Obj.cells #[.string ⟨OX.toArray⟩, .string ⟨OY.toArray⟩] 27)
        have hb5 : Below v4.heap.size v4 v5 := by rw [← ev]; exact (Below.refl _ _).alloc (Nat.le_refl _) _
        have hsm := same_any _ _ G G v5 (htF.call hb5) (htG.call hb5) hGn hGn
        rw [decide_eq_true rfl] at hsm
        clear st3 st4 hgl2 hb hb5 d0 d1 hr htF htG
        have d0 := st5.cell 0 rfl 0 rfl
        have d1 := st5.cell 0 rfl 1 rfl
        have d2 := st5.cell 1 rfl 0 rfl
        have d3 := st5.cell 1 rfl 1 rfl
        replace ex := hide ex; replace ev := hide ev; replace st5 := hide st5; replace hsm := hide hsm
        go_upto_region 8 with fail
        rw [unhide ev]
        try rw [unhide ex]
        clear ex ev
        go_wp2_with fail
        refine (unhide hsm).mono ?_
        rintro e v6 ⟨rfl, hb⟩
        have hend := (unhide hz).trans (((unhide st5).call hb).below.mono hWo)
        clear hb hsm st5 d0 d1 d2 d3 hz
        replace hend := hide hend
        go_wp2_with fail
        go_roundw
        case rel => exact ⟨k + 1, by omega, by go_num, unhide hend⟩
        case measure => simp [intOf]; omega
      · obtain rfl : k = 5 := by omega
        rw [← unhide hW0] at hz
        replace hz := hide hz
        go_wp2_with fail
        go_ret
        exact ⟨rfl, unhide hz⟩
end Go.Proofs.Ytcliegeooooonaa
