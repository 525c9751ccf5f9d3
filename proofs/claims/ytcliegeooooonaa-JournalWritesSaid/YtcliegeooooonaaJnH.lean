/- JournalWrites: its walk. -/
import Derived.Test.YtcliegeooooonaaJnF
namespace Go.Proofs.Ytcliegeooooonaa
open Go.RowKit
set_option maxRecDepth 100000 in
set_option maxHeartbeats 8000000 in
theorem journalWrites_any (a : Option Addr) (len cap : Nat) (l : List (ByteArray × Bool)) (cs : Array Value) (y : Int × Int × Int) (ds : Array Value) (z : ByteArray × ByteArray) (t : ByteArray) (num : Int) (w : World) (hl : Lst (Enc.pair Enc.str Enc.bool) w (fun b => b < w.heap.size) a len l) (h1 : len ≤ cap) (h2 : cap ≤ maxLen) (hc : (Enc.pair (Enc.num .u16 0 65535) (Enc.pair (Enc.num .u8 0 255) (Enc.num .u8 0 255))).rep w (fun b => b < w.heap.size) cs.toList y) (hd : (Enc.pair Enc.str Enc.str).rep w (fun b => b < w.heap.size) ds.toList z) (ht : t.size ≤ maxLen) (hnum : -9223372036854775808 ≤ num ∧ num ≤ 9223372036854775807) :
    Calls Try.prog 3 #[.slice a len cap, .agg cs, .agg ds, .string t, .int .i64 num] w fun e w' => e = .returned (.bool true) ∧ Below w.heap.size w w' := by
  obtain ⟨at_, cb, cd, ha1, ha2, ha3, rfl⟩ := ch_of hc
  obtain ⟨rs, rp, hrs, hrp, rfl⟩ := dk_of hd
  obtain ⟨hst, hml⟩ := stl_lst hl
  obtain ⟨x6, x7, w1, e1, e2, ew, st⟩ := St.new2 w (Obj.cells #[.int .u16 (at_ : Int), .int .u8 (cb : Int), .int .u8 (cd : Int)] 25) (Obj.cells #[.string ⟨rs.toArray⟩, .string ⟨rp.toArray⟩] 27)
  have hz1 := st.below
  have hb6 : BoxC w1 x6 at_ cb cd := st.get 1 rfl
  have hb7 : BoxD w1 x7 rs rp := st.get 0 rfl
  have hfe := fun w' (hb : Below w.heap.size w w') => few_any a len cap (unstp l) w' (hst.call hb) h1 h2 hml
  obtain ⟨L, hL⟩ : ∃ L, fewS (unstp l) = L := ⟨_, rfl⟩
  have hL8 : L.length ≤ 8 := by rw [← hL]; exact fewS_len _
  have hL20 : ∀ x ∈ L, x.1.length ≤ 20 := by rw [← hL]; exact fewS_20 _
  unfold FewPost at hfe
  simp only [hL] at hfe
  have hdi := fun a c w h => disk_any a L.length c L w h hL8 hL20
  have hbd := wr_bd L hL8 hL20
  obtain ⟨s, hs⟩ : ∃ s, (wrS L).1 = s := ⟨_, rfl⟩
  obtain ⟨p, hp⟩ : ∃ s, (wrS L).2.1 = s := ⟨_, rfl⟩
  simp only [hs, hp] at hdi hbd
  have hsl := hbd.1
  have hpl := hbd.2.1
  have hof := fun s w (h : (s : List UInt8).length ≤ 1000000) => chof_any at_ cb cd s w ha1 ha2 ha3 h
  have hcu := fun w => cut_any rs rp w hrs hrp
  obtain ⟨os, hos⟩ : ∃ x, ofS at_ (UInt8.ofNat cb) cd s = x := ⟨_, rfl⟩
  obtain ⟨op, hop⟩ : ∃ x, ofS at_ (UInt8.ofNat cb) cd p = x := ⟨_, rfl⟩
  have hosl : os.length ≤ 1000 := by rw [← hos]; have := ofS_len at_ (UInt8.ofNat cb) cd s; omega
  have hopl : op.length ≤ 1000 := by rw [← hop]; have := ofS_len at_ (UInt8.ofNat cb) cd p; omega
  have hof1 := fun w => hof s w (by omega)
  have hof2 := fun w => hof p w (by omega)
  simp only [hos] at hof1
  simp only [hop] at hof2
  obtain ⟨us, hus⟩ : ∃ x, cut60 rs = x := ⟨_, rfl⟩
  obtain ⟨up, hup⟩ : ∃ x, cut60 rp = x := ⟨_, rfl⟩
  have husl : us.length ≤ 60 := by rw [← hus]; exact cut60_len _
  have hupl : up.length ≤ 60 := by rw [← hup]; exact cut60_len _
  simp only [hus, hup] at hcu
  obtain ⟨tl, htl⟩ : ∃ tl, t.data.toList = tl := ⟨_, rfl⟩
  obtain rfl : t = ⟨tl.toArray⟩ := by rw [← htl]
  have zt : (⟨tl.toArray⟩ : ByteArray).size = tl.length := ba_size tl
  obtain ⟨tm, htm⟩ : ∃ m, min tl.length 20 = m := ⟨_, rfl⟩
  have htm' : min (tl.length : Int) 20 = (tm : Int) := by omega
  have i20 : (tm : Int) ≤ (tl.length : Int) := by omega
  obtain ⟨x, hx⟩ : ∃ x, tl.take tm = x := ⟨_, rfl⟩
  have hxl : x.length ≤ 20 := by rw [← hx, List.length_take]; omega
  have xe : (⟨tl.toArray⟩ : ByteArray).extract 0 tm = ⟨x.toArray⟩ := by rw [← hx]; exact ba_take tl tm
  rw [zt] at ht
  unfold maxLen at ht
  have w16 : IntKind.i64.wrap (at_ : Int) = (at_ : Int) := IntWalk.i64_in _ (by omega)
  unfold dk at hdi hcu
  unfold chV at hof1 hof2
  clear hL hml hst hl hs hp hbd hL20 hc hd hof hos hop hus hup st hrs hrp htl htm hx
  replace hfe := hide hfe; replace hdi := hide hdi; replace hof1 := hide hof1; replace hof2 := hide hof2; replace hcu := hide hcu; replace hz1 := hide hz1; replace hb6 := hide hb6; replace hb7 := hide hb7; replace e1 := hide e1; replace e2 := hide e2; replace ew := hide ew; replace htm' := hide htm'; replace w16 := hide w16
  go_enter Try.func3, Try.ntmps3
  go_upto_region 1 with fail
  rw [unhide ew]
  try rw [unhide e2]
  try rw [unhide e1]
  clear ew e1 e2
  go_wp2_with fail
  refine (sanity_any w1).mono ?_
  rintro e w2 ⟨rfl, hb⟩
  replace hb6 := hide ((unhide hb6).call hb)
  replace hb7 := hide ((unhide hb7).call hb)
  replace hz1 := hide ((unhide hz1).trans (hb.mono (unhide hz1).size))
  clear hb
  go_wp2_with fail
  refine (unhide hfe w2 (unhide hz1)).mono ?_
  rintro e w3 ⟨fa, fc, rfl, hfs, hb⟩
  replace hb6 := hide ((unhide hb6).call hb)
  replace hb7 := hide ((unhide hb7).call hb)
  replace hz1 := hide ((unhide hz1).trans (hb.mono (unhide hz1).size))
  have hw3 := hide (unhide hdi fa fc w3 hfs)
  clear hb hfs hfe hdi
  go_wp2_with fail
  refine (unhide hw3).mono ?_
  rintro e w4 ⟨rfl, hb⟩
  replace hb6 := hide ((unhide hb6).call hb)
  replace hb7 := hide ((unhide hb7).call hb)
  replace hz1 := hide ((unhide hz1).trans (hb.mono (unhide hz1).size))
  clear hb hw3
  obtain ⟨x12, V, ex, ev, st⟩ := (St.start w4).new (Obj.cells #[.string ⟨s.toArray⟩, .string ⟨p.toArray⟩] 27)
  have hb := st.below
  replace hb6 := hide ((unhide hb6).call hb)
  replace hb7 := hide ((unhide hb7).call hb)
  replace hz1 := hide ((unhide hz1).trans (hb.mono (unhide hz1).size))
  have hb8 : BoxD V x12 s p := st.get 0 rfl
  clear hb st
  replace ex := hide ex; replace ev := hide ev; replace hb8 := hide hb8
  go_upto_region 3 with fail
  rw [unhide ev]
  try rw [unhide ex]
  clear ev ex
  have htm2 := unhide htm'
  go_upto_region 4 with fail
  clear htm2
  refine wp_region_frontG 19 (fun _ _ w' => Below V.heap.size V w') (fun wa wb => Below wa.heap.size wa wb)
    (fun ix v w' => match ix with
      | 0 => v = .agg #[.string ⟨s.toArray⟩, .string ⟨p.toArray⟩]
      | 1 => v = .agg #[.int .u16 (at_ : Int), .int .u8 (cb : Int), .int .u8 (cd : Int)]
      | 2 => v = .pointer (some ⟨x12, 0, none⟩)
      | 3 => v = .string ⟨s.toArray⟩
      | 4 => v = .string ⟨os.toArray⟩
      | 5 => v = .pointer (some ⟨x12, 1, none⟩)
      | 6 => v = .string ⟨p.toArray⟩
      | 7 => v = .agg #[.string ⟨os.toArray⟩, .string ⟨p.toArray⟩]
      | 8 => v = .pointer (some ⟨x12, 0, none⟩)
      | 9 => v = .string ⟨s.toArray⟩
      | 10 => v = .agg #[.int .u16 (at_ : Int), .int .u8 (cb : Int), .int .u8 (cd : Int)]
      | 11 => v = .pointer (some ⟨x12, 1, none⟩)
      | 12 => v = .string ⟨p.toArray⟩
      | 13 => v = .string ⟨op.toArray⟩
      | 14 => v = .agg #[.string ⟨s.toArray⟩, .string ⟨op.toArray⟩]
      | 15 => v = .agg #[.string ⟨rs.toArray⟩, .string ⟨rp.toArray⟩]
      | 16 => v = .agg #[.string ⟨us.toArray⟩, .string ⟨up.toArray⟩]
      | 17 => v = .agg #[.string ⟨s.toArray⟩, .string ⟨p.toArray⟩, .string ⟨os.toArray⟩, .string ⟨p.toArray⟩, .string ⟨s.toArray⟩, .string ⟨op.toArray⟩, .string ⟨us.toArray⟩, .string ⟨up.toArray⟩]
      | 18 => v = .int .i64 0
      | _ => True) (by rfl) (by kernel_rfl) ?_ ?_ ?_ ?_
  · exact (Below.refl _ _).drew
  · intro wa wb hR ix v hv
    match ix, hv with
    | 0, h => exact h
    | 1, h => exact h
    | 2, h => exact h
    | 3, h => exact h
    | 4, h => exact h
    | 5, h => exact h
    | 6, h => exact h
    | 7, h => exact h
    | 8, h => exact h
    | 9, h => exact h
    | 10, h => exact h
    | 11, h => exact h
    | 12, h => exact h
    | 13, h => exact h
    | 14, h => exact h
    | 15, h => exact h
    | 16, h => exact h
    | 17, h => exact h
    | 18, h => exact h
    | _ + 19, _ => trivial
  · intro ix hix
    obtain rfl | rfl | rfl | rfl | rfl | rfl | rfl | rfl | rfl | rfl | rfl | rfl | rfl | rfl | rfl | rfl | rfl | rfl | rfl : ix = 0 ∨ ix = 1 ∨ ix = 2 ∨ ix = 3 ∨ ix = 4 ∨ ix = 5 ∨ ix = 6 ∨ ix = 7 ∨ ix = 8 ∨ ix = 9 ∨ ix = 10 ∨ ix = 11 ∨ ix = 12 ∨ ix = 13 ∨ ix = 14 ∨ ix = 15 ∨ ix = 16 ∨ ix = 17 ∨ ix = 18 := by omega
    · refine FrontStep.of [] _ rfl (by kernel_rfl) ?_
      intro vs LL wq hLL hC hf
      simp only [putL, List.foldl_nil]
      have y0 := ((unhide hb8).call hC).c0
      have y1 := ((unhide hb8).call hC).c1
      go_wp2_with fail
      first | exact Below.refl _ _ | exact ⟨Below.refl _ _, by omega⟩
    · refine FrontStep.of [] _ rfl (by kernel_rfl) ?_
      intro vs LL wq hLL hC hf
      simp only [putL, List.foldl_nil]
      obtain ⟨y0, y1, y2⟩ := ((unhide hb6).call hC).cs
      go_wp2_with fail
      first | exact Below.refl _ _ | exact ⟨Below.refl _ _, by omega⟩
    · refine FrontStep.of [] _ rfl (by kernel_rfl) ?_
      intro vs LL wq hLL hC hf
      simp only [putL, List.foldl_nil]
      go_wp2_with fail
      first | exact Below.refl _ _ | exact ⟨Below.refl _ _, by omega⟩
    · refine FrontStep.of [2] _ rfl (by kernel_rfl) ?_
      intro vs LL wq hLL hC hf
      simp only [putL, List.foldl_nil, List.foldl_cons, List.getElem?_cons_zero, List.getElem?_cons_succ]
      have e2 : vs 2 = _ := hf 2 (by simp)
      rw [e2]
      have y0 := ((unhide hb8).call hC).c0
      have y1 := ((unhide hb8).call hC).c1
      go_wp2_with fail
      first | exact Below.refl _ _ | exact ⟨Below.refl _ _, by omega⟩
    · refine FrontStep.of [1, 3] _ rfl (by kernel_rfl) ?_
      intro vs LL wq hLL hC hf
      simp only [putL, List.foldl_nil, List.foldl_cons, List.getElem?_cons_zero, List.getElem?_cons_succ]
      have e1 : vs 1 = _ := hf 1 (by simp)
      rw [e1]
      have e3 : vs 3 = _ := hf 3 (by simp)
      rw [e3]
      go_wp2_with fail
      refine (unhide hof1 _).mono ?_
      rintro e w2 ⟨rfl, hb2⟩
      have q1 := hide (hC.trans (hb2.mono hC.size))
      have q2 := hide hb2
      clear hC hb2
      go_wp2_with fail
      exact ⟨unhide q1, unhide q2⟩
    · refine FrontStep.of [] _ rfl (by kernel_rfl) ?_
      intro vs LL wq hLL hC hf
      simp only [putL, List.foldl_nil]
      go_wp2_with fail
      first | exact Below.refl _ _ | exact ⟨Below.refl _ _, by omega⟩
    · refine FrontStep.of [5] _ rfl (by kernel_rfl) ?_
      intro vs LL wq hLL hC hf
      simp only [putL, List.foldl_nil, List.foldl_cons, List.getElem?_cons_zero, List.getElem?_cons_succ]
      have e5 : vs 5 = _ := hf 5 (by simp)
      rw [e5]
      have y0 := ((unhide hb8).call hC).c0
      have y1 := ((unhide hb8).call hC).c1
      go_wp2_with fail
      first | exact Below.refl _ _ | exact ⟨Below.refl _ _, by omega⟩
    · refine FrontStep.of [4, 6] _ rfl (by kernel_rfl) ?_
      intro vs LL wq hLL hC hf
      simp only [putL, List.foldl_nil, List.foldl_cons, List.getElem?_cons_zero, List.getElem?_cons_succ]
      have e4 : vs 4 = _ := hf 4 (by simp)
      rw [e4]
      have e6 : vs 6 = _ := hf 6 (by simp)
      rw [e6]
      go_wp2_with fail
      first | exact Below.refl _ _ | exact ⟨Below.refl _ _, by omega⟩
    · refine FrontStep.of [] _ rfl (by kernel_rfl) ?_
      intro vs LL wq hLL hC hf
      simp only [putL, List.foldl_nil]
      go_wp2_with fail
      first | exact Below.refl _ _ | exact ⟨Below.refl _ _, by omega⟩
    · refine FrontStep.of [8] _ rfl (by kernel_rfl) ?_
      intro vs LL wq hLL hC hf
      simp only [putL, List.foldl_nil, List.foldl_cons, List.getElem?_cons_zero, List.getElem?_cons_succ]
      have e8 : vs 8 = _ := hf 8 (by simp)
      rw [e8]
      have y0 := ((unhide hb8).call hC).c0
      have y1 := ((unhide hb8).call hC).c1
      go_wp2_with fail
      first | exact Below.refl _ _ | exact ⟨Below.refl _ _, by omega⟩
    · refine FrontStep.of [] _ rfl (by kernel_rfl) ?_
      intro vs LL wq hLL hC hf
      simp only [putL, List.foldl_nil]
      obtain ⟨y0, y1, y2⟩ := ((unhide hb6).call hC).cs
      go_wp2_with fail
      first | exact Below.refl _ _ | exact ⟨Below.refl _ _, by omega⟩
    · refine FrontStep.of [] _ rfl (by kernel_rfl) ?_
      intro vs LL wq hLL hC hf
      simp only [putL, List.foldl_nil]
      go_wp2_with fail
      first | exact Below.refl _ _ | exact ⟨Below.refl _ _, by omega⟩
    · refine FrontStep.of [11] _ rfl (by kernel_rfl) ?_
      intro vs LL wq hLL hC hf
      simp only [putL, List.foldl_nil, List.foldl_cons, List.getElem?_cons_zero, List.getElem?_cons_succ]
      have e11 : vs 11 = _ := hf 11 (by simp)
      rw [e11]
      have y0 := ((unhide hb8).call hC).c0
      have y1 := ((unhide hb8).call hC).c1
      go_wp2_with fail
      first | exact Below.refl _ _ | exact ⟨Below.refl _ _, by omega⟩
    · refine FrontStep.of [4, 10, 12] _ rfl (by kernel_rfl) ?_
      intro vs LL wq hLL hC hf
      simp only [putL, List.foldl_nil, List.foldl_cons, List.getElem?_cons_zero, List.getElem?_cons_succ]
      have e4 : vs 4 = _ := hf 4 (by simp)
      rw [e4]
      have e10 : vs 10 = _ := hf 10 (by simp)
      rw [e10]
      have e12 : vs 12 = _ := hf 12 (by simp)
      rw [e12]
      go_wp2_with fail
      refine (unhide hof2 _).mono ?_
      rintro e w2 ⟨rfl, hb2⟩
      have q1 := hide (hC.trans (hb2.mono hC.size))
      have q2 := hide hb2
      clear hC hb2
      go_wp2_with fail
      exact ⟨unhide q1, unhide q2⟩
    · refine FrontStep.of [9, 13] _ rfl (by kernel_rfl) ?_
      intro vs LL wq hLL hC hf
      simp only [putL, List.foldl_nil, List.foldl_cons, List.getElem?_cons_zero, List.getElem?_cons_succ]
      have e9 : vs 9 = _ := hf 9 (by simp)
      rw [e9]
      have e13 : vs 13 = _ := hf 13 (by simp)
      rw [e13]
      go_wp2_with fail
      first | exact Below.refl _ _ | exact ⟨Below.refl _ _, by omega⟩
    · refine FrontStep.of [] _ rfl (by kernel_rfl) ?_
      intro vs LL wq hLL hC hf
      simp only [putL, List.foldl_nil]
      have y0 := ((unhide hb7).call hC).c0
      have y1 := ((unhide hb7).call hC).c1
      go_wp2_with fail
      first | exact Below.refl _ _ | exact ⟨Below.refl _ _, by omega⟩
    · refine FrontStep.of [13, 15] _ rfl (by kernel_rfl) ?_
      intro vs LL wq hLL hC hf
      simp only [putL, List.foldl_nil, List.foldl_cons, List.getElem?_cons_zero, List.getElem?_cons_succ]
      have e13 : vs 13 = _ := hf 13 (by simp)
      rw [e13]
      have e15 : vs 15 = _ := hf 15 (by simp)
      rw [e15]
      go_wp2_with fail
      refine (unhide hcu _).mono ?_
      rintro e w2 ⟨rfl, hb2⟩
      have q1 := hide (hC.trans (hb2.mono hC.size))
      have q2 := hide hb2
      clear hC hb2
      go_wp2_with fail
      exact ⟨unhide q1, unhide q2⟩
    · refine FrontStep.of [0, 7, 14, 16] _ rfl (by kernel_rfl) ?_
      intro vs LL wq hLL hC hf
      simp only [putL, List.foldl_nil, List.foldl_cons, List.getElem?_cons_zero, List.getElem?_cons_succ]
      have e0 : vs 0 = _ := hf 0 (by simp)
      rw [e0]
      have e7 : vs 7 = _ := hf 7 (by simp)
      rw [e7]
      have e14 : vs 14 = _ := hf 14 (by simp)
      rw [e14]
      have e16 : vs 16 = _ := hf 16 (by simp)
      rw [e16]
      go_wp2_with fail
      first | exact Below.refl _ _ | exact ⟨Below.refl _ _, by omega⟩
    · refine FrontStep.of [] _ rfl (by kernel_rfl) ?_
      intro vs LL wq hLL hC hf
      simp only [putL, List.foldl_nil]
      go_wp2_with fail
      first | exact Below.refl _ _ | exact ⟨Below.refl _ _, by omega⟩
  · intro vs LL wq hLL hC hf
    have e17 : vs 17 = _ := hf 17 (by decide)
    have e18 : vs 18 = _ := hf 18 (by decide)
    have hz2 := (unhide hz1).trans (hC.mono (unhide hz1).size)
    have hb6w := (unhide hb6).call hC
    rw [putSome_all]
    simp only [putL, List.range, List.range.loop, List.foldl_nil, List.foldl_cons, List.getElem?_cons_zero, List.getElem?_cons_succ, List.drop_succ_cons, List.drop_zero]
    rw [e17, e18]
    obtain ⟨V2, rfl⟩ : ∃ W : World, W = wq := ⟨_, rfl⟩
    clear hf hLL hC e17 e18 hb8 hb6 hb7 hz1 hof1 hof2 hcu htm' i20 xe
    replace hz2 := hide hz2
    go_simp
    obtain ⟨W0, hW0⟩ : ∃ n, w.heap.size = n := ⟨_, rfl⟩
    rw [hW0] at hz2
    replace hW0 := hide hW0; replace hb6w := hide hb6w
    go_wp2_with fail
    go_loopw [46] (fun v wr => ∃ k : Nat, k ≤ 4 ∧ v = .int .i64 (k : Int) ∧ Below W0 w wr ∧ Below V2.heap.size V2 wr) (fun v _ => 4 - (intOf v).toNat)
    case atStart => exact ⟨0, by omega, rfl, unhide hz2, Below.refl _ _⟩
    case round =>
      clear hz2
      obtain ⟨k, hk, rfl, hz, hV2⟩ := hrel
      obtain ⟨wo, rfl⟩ : ∃ W : World, W = wr := ⟨_, rfl⟩
      have hWo : W0 ≤ wo.heap.size := by rw [← unhide hW0]; exact hz.size
      have h6w := (unhide hb6w).call hV2
      by_cases hlt : k < 4
      · have hix : ∃ X Y : List UInt8, X.length ≤ 1000 ∧ Y.length ≤ 1000 ∧ ∀ w, (Instr.index 33 (.agg #[.string ⟨s.toArray⟩, .string ⟨p.toArray⟩, .string ⟨os.toArray⟩, .string ⟨p.toArray⟩, .string ⟨s.toArray⟩, .string ⟨op.toArray⟩, .string ⟨us.toArray⟩, .string ⟨up.toArray⟩]) (.int .i64 (k : Int))).run Try.prog w = .ok (.agg #[.string ⟨X.toArray⟩, .string ⟨Y.toArray⟩]) w := by
          obtain rfl | rfl | rfl | rfl : k = 0 ∨ k = 1 ∨ k = 2 ∨ k = 3 := by omega
          · exact ⟨s, p, by omega, by omega, fun w => by kernel_rfl⟩
          · exact ⟨os, p, by omega, by omega, fun w => by kernel_rfl⟩
          · exact ⟨s, op, by omega, by omega, fun w => by kernel_rfl⟩
          · exact ⟨us, up, by omega, by omega, fun w => by kernel_rfl⟩
        obtain ⟨X, Y, hX, hY, hix⟩ := hix
        have i1 : (k : Int) < 4 := by omega
        replace hz := hide hz; replace h6w := hide h6w; replace hV2 := hide hV2
        have hap := fun w => append_any X Y x w (by omega) (by omega) (by omega)
        have hra := fun w => rappend_any X Y x w (by omega) (by omega) (by omega)
        have hsy := fun w => sync_any X Y w (by omega) (by omega)
        have hrs2 := fun w => rsync_any X Y w (by omega) (by omega)
        have hc1 := fun w => crash_any X Y num w ⟨hnum.1, hnum.2⟩ (by omega) (by omega)
        have hr1 := fun w => rcrash_any X Y num w ⟨hnum.1, hnum.2⟩ (by omega) (by omega)
        have hc2 := fun w => crash_any X Y (at_ : Int) w ⟨by omega, by omega⟩ (by omega) (by omega)
        have hr2 := fun w => rcrash_any X Y (at_ : Int) w ⟨by omega, by omega⟩ (by omega) (by omega)
        obtain ⟨A, hA⟩ : ∃ z, (apS X Y x).1 = z := ⟨_, rfl⟩
        obtain ⟨B, hB⟩ : ∃ z, (apS X Y x).2.1 = z := ⟨_, rfl⟩
        obtain ⟨E, hE⟩ : ∃ z, (apS X Y x).2.2 = z := ⟨_, rfl⟩
        simp only [hA, hB, hE] at hap hra
        obtain ⟨SY, hSY⟩ : ∃ z, X ++ Y = z := ⟨_, rfl⟩
        simp only [hSY] at hsy hrs2
        obtain ⟨C1, hC1⟩ : ∃ z, X ++ Y.take (crN Y num) = z := ⟨_, rfl⟩
        simp only [hC1] at hc1 hr1
        obtain ⟨C2, hC2⟩ : ∃ z, X ++ Y.take (crN Y (at_ : Int)) = z := ⟨_, rfl⟩
        simp only [hC2] at hc2 hr2
        unfold dk at hap hra hsy hrs2 hc1 hr1 hc2 hr2
        clear hA hB hE hSY hC1 hC2
        replace hap := hide hap; replace hra := hide hra; replace hsy := hide hsy; replace hrs2 := hide hrs2; replace hc1 := hide hc1; replace hr1 := hide hr1; replace hc2 := hide hc2; replace hr2 := hide hr2
        have t1 : (A == A) = true := beq_self_eq_true _
        have t2 : (B == B) = true := beq_self_eq_true _
        have t3 : (E == E) = true := beq_self_eq_true _
        have t4 : (SY == SY) = true := beq_self_eq_true _
        have t5 : (C1 == C1) = true := beq_self_eq_true _
        have t6 : (C2 == C2) = true := beq_self_eq_true _
        obtain ⟨x14, v1, ex, ev, st⟩ := (St.start wo).new (Obj.cells #[.string ⟨X.toArray⟩, .string ⟨Y.toArray⟩] 27)
        have d0 := st.cell 0 rfl 0 rfl
        have d1 := st.cell 0 rfl 1 rfl
        replace ex := hide ex; replace ev := hide ev; replace st := hide st
        go_upto_region 7 with fail
        rw [unhide ev]
        try rw [unhide ex]
        clear ex ev
        go_wp2_with fail
        refine (unhide hap v1).mono ?_
        rintro e v2 ⟨rfl, hb⟩
        have st2 := (unhide st).call hb
        obtain ⟨x15, v3, ex, ev, st3⟩ := st2.new (Obj.cells #[.string ⟨A.toArray⟩, .string ⟨B.toArray⟩] 27)
        clear st st2 hb d0 d1 hap
        have d0 := st3.cell 1 rfl 0 rfl
        have d1 := st3.cell 1 rfl 1 rfl
        replace ex := hide ex; replace ev := hide ev; replace st3 := hide st3
        go_upto_region 8 with fail
        rw [unhide ev]
        try rw [unhide ex]
        clear ex ev
        go_wp2_with fail
        refine (unhide hra v3).mono ?_
        rintro e v4 ⟨rfl, hb⟩
        have st4 := (unhide st3).call hb
        obtain ⟨x17, V3, ex, ev, st5⟩ := st4.new (Obj.cells #[.string ⟨A.toArray⟩, .string ⟨B.toArray⟩] 27)
        have h14 : BoxD V3 x14 X Y := st5.get 2 rfl
        have h15 : BoxD V3 x15 A B := st5.get 1 rfl
        have h17 : BoxD V3 x17 A B := st5.get 0 rfl
        have h14b := st5.below
        have h6 := (unhide h6w).call h14b
        have h6o := hide ((unhide hV2).trans (h14b.mono (unhide hV2).size))
        have hWV : W0 ≤ V3.heap.size := Nat.le_trans hWo h14b.size
        clear st3 st4 st5 hb d0 d1 hra h6w hV2
        replace ex := hide ex; replace ev := hide ev; replace h14 := hide h14; replace h15 := hide h15; replace h17 := hide h17; replace h14b := hide h14b; replace h6 := hide h6
        go_upto_region 9 with fail
        rw [unhide ev]
        try rw [unhide ex]
        clear ex ev
        refine wp_region_frontG 37 (fun _ _ w' => Below V3.heap.size V3 w') (fun wa wb => Below wa.heap.size wa wb)
          (fun ix v w' => match ix with
            | 0 => v = .agg #[.string ⟨A.toArray⟩, .string ⟨B.toArray⟩]
            | 1 => v = .agg #[.string ⟨A.toArray⟩, .string ⟨B.toArray⟩]
            | 2 => v = .bool false
            | 3 => v = .bool false
            | 4 => v = .int .i64 E
            | 5 => v = .int .i64 E
            | 6 => v = .bool false
            | 7 => v = .bool false
            | 8 => v = .bool false
            | 9 => v = .agg #[.string ⟨X.toArray⟩, .string ⟨Y.toArray⟩]
            | 10 => v = .agg #[.string ⟨SY.toArray⟩, .string ⟨#[]⟩]
            | 11 => v = .agg #[.string ⟨X.toArray⟩, .string ⟨Y.toArray⟩]
            | 12 => v = .agg #[.string ⟨SY.toArray⟩, .string ⟨#[]⟩]
            | 13 => v = .bool false
            | 14 => v = .bool false
            | 15 => v = .bool false
            | 16 => v = .agg #[.string ⟨X.toArray⟩, .string ⟨Y.toArray⟩]
            | 17 => v = .int .i64 num
            | 18 => v = .agg #[.string ⟨C1.toArray⟩, .string ⟨#[]⟩]
            | 19 => v = .agg #[.string ⟨X.toArray⟩, .string ⟨Y.toArray⟩]
            | 20 => v = .int .i64 num
            | 21 => v = .agg #[.string ⟨C1.toArray⟩, .string ⟨#[]⟩]
            | 22 => v = .bool false
            | 23 => v = .bool false
            | 24 => v = .bool false
            | 25 => v = .agg #[.string ⟨X.toArray⟩, .string ⟨Y.toArray⟩]
            | 26 => v = .pointer (some ⟨x6, 0, none⟩)
            | 27 => v = .int .u16 (at_ : Int)
            | 28 => v = .int .i64 (at_ : Int)
            | 29 => v = .agg #[.string ⟨C2.toArray⟩, .string ⟨#[]⟩]
            | 30 => v = .agg #[.string ⟨X.toArray⟩, .string ⟨Y.toArray⟩]
            | 31 => v = .pointer (some ⟨x6, 0, none⟩)
            | 32 => v = .int .u16 (at_ : Int)
            | 33 => v = .int .i64 (at_ : Int)
            | 34 => v = .agg #[.string ⟨C2.toArray⟩, .string ⟨#[]⟩]
            | 35 => v = .bool false
            | 36 => v = .bool false
            | _ => True) (by rfl) (by kernel_rfl) ?_ ?_ ?_ ?_
        · exact (Below.refl _ _).drew
        · intro wa wb hR ix v hv
          match ix, hv with
          | 0, h => exact h
          | 1, h => exact h
          | 2, h => exact h
          | 3, h => exact h
          | 4, h => exact h
          | 5, h => exact h
          | 6, h => exact h
          | 7, h => exact h
          | 8, h => exact h
          | 9, h => exact h
          | 10, h => exact h
          | 11, h => exact h
          | 12, h => exact h
          | 13, h => exact h
          | 14, h => exact h
          | 15, h => exact h
          | 16, h => exact h
          | 17, h => exact h
          | 18, h => exact h
          | 19, h => exact h
          | 20, h => exact h
          | 21, h => exact h
          | 22, h => exact h
          | 23, h => exact h
          | 24, h => exact h
          | 25, h => exact h
          | 26, h => exact h
          | 27, h => exact h
          | 28, h => exact h
          | 29, h => exact h
          | 30, h => exact h
          | 31, h => exact h
          | 32, h => exact h
          | 33, h => exact h
          | 34, h => exact h
          | 35, h => exact h
          | 36, h => exact h
          | _ + 37, _ => trivial
        · intro ix hix
          obtain rfl | rfl | rfl | rfl | rfl | rfl | rfl | rfl | rfl | rfl | rfl | rfl | rfl | rfl | rfl | rfl | rfl | rfl | rfl | rfl | rfl | rfl | rfl | rfl | rfl | rfl | rfl | rfl | rfl | rfl | rfl | rfl | rfl | rfl | rfl | rfl | rfl : ix = 0 ∨ ix = 1 ∨ ix = 2 ∨ ix = 3 ∨ ix = 4 ∨ ix = 5 ∨ ix = 6 ∨ ix = 7 ∨ ix = 8 ∨ ix = 9 ∨ ix = 10 ∨ ix = 11 ∨ ix = 12 ∨ ix = 13 ∨ ix = 14 ∨ ix = 15 ∨ ix = 16 ∨ ix = 17 ∨ ix = 18 ∨ ix = 19 ∨ ix = 20 ∨ ix = 21 ∨ ix = 22 ∨ ix = 23 ∨ ix = 24 ∨ ix = 25 ∨ ix = 26 ∨ ix = 27 ∨ ix = 28 ∨ ix = 29 ∨ ix = 30 ∨ ix = 31 ∨ ix = 32 ∨ ix = 33 ∨ ix = 34 ∨ ix = 35 ∨ ix = 36 := by omega
          · refine FrontStep.of [] _ rfl (by kernel_rfl) ?_
            intro vs LL wq hLL hC hf
            simp only [putL, List.foldl_nil]
            have y0 := ((unhide h15).call hC).c0
            have y1 := ((unhide h15).call hC).c1
            go_wp2_with fail
            first | exact Below.refl _ _ | exact ⟨Below.refl _ _, by omega⟩
          · refine FrontStep.of [] _ rfl (by kernel_rfl) ?_
            intro vs LL wq hLL hC hf
            simp only [putL, List.foldl_nil]
            have y0 := ((unhide h17).call hC).c0
            have y1 := ((unhide h17).call hC).c1
            go_wp2_with fail
            first | exact Below.refl _ _ | exact ⟨Below.refl _ _, by omega⟩
          · refine FrontStep.of [0, 1] _ rfl (by kernel_rfl) ?_
            intro vs LL wq hLL hC hf
            simp only [putL, List.foldl_nil, List.foldl_cons, List.getElem?_cons_zero, List.getElem?_cons_succ]
            have e0 : vs 0 = _ := hf 0 (by simp)
            rw [e0]
            have e1 : vs 1 = _ := hf 1 (by simp)
            rw [e1]
            go_wp2_with fail
            first | exact Below.refl _ _ | exact ⟨Below.refl _ _, by omega⟩
          · refine FrontStep.of [2] _ rfl (by kernel_rfl) ?_
            intro vs LL wq hLL hC hf
            simp only [putL, List.foldl_nil, List.foldl_cons, List.getElem?_cons_zero, List.getElem?_cons_succ]
            have e2 : vs 2 = _ := hf 2 (by simp)
            rw [e2]
            go_wp2_with fail
            first | exact Below.refl _ _ | exact ⟨Below.refl _ _, by omega⟩
          · refine FrontStep.of [3] _ rfl (by kernel_rfl) ?_
            intro vs LL wq hLL hC hf
            simp only [putL, List.foldl_nil, List.foldl_cons, List.getElem?_cons_zero, List.getElem?_cons_succ]
            have e3 : vs 3 = _ := hf 3 (by simp)
            rw [e3]
            go_wp2_with fail
            first | exact Below.refl _ _ | exact ⟨Below.refl _ _, by omega⟩
          · refine FrontStep.of [3] _ rfl (by kernel_rfl) ?_
            intro vs LL wq hLL hC hf
            simp only [putL, List.foldl_nil, List.foldl_cons, List.getElem?_cons_zero, List.getElem?_cons_succ]
            have e3 : vs 3 = _ := hf 3 (by simp)
            rw [e3]
            go_wp2_with fail
            first | exact Below.refl _ _ | exact ⟨Below.refl _ _, by omega⟩
          · refine FrontStep.of [3, 4, 5] _ rfl (by kernel_rfl) ?_
            intro vs LL wq hLL hC hf
            simp only [putL, List.foldl_nil, List.foldl_cons, List.getElem?_cons_zero, List.getElem?_cons_succ]
            have e3 : vs 3 = _ := hf 3 (by simp)
            rw [e3]
            have e4 : vs 4 = _ := hf 4 (by simp)
            rw [e4]
            have e5 : vs 5 = _ := hf 5 (by simp)
            rw [e5]
            go_wp2_with fail
            first | exact Below.refl _ _ | exact ⟨Below.refl _ _, by omega⟩
          · refine FrontStep.of [3, 6] _ rfl (by kernel_rfl) ?_
            intro vs LL wq hLL hC hf
            simp only [putL, List.foldl_nil, List.foldl_cons, List.getElem?_cons_zero, List.getElem?_cons_succ]
            have e3 : vs 3 = _ := hf 3 (by simp)
            rw [e3]
            have e6 : vs 6 = _ := hf 6 (by simp)
            rw [e6]
            go_wp2_with fail
            first | exact Below.refl _ _ | exact ⟨Below.refl _ _, by omega⟩
          · refine FrontStep.of [3, 7] _ rfl (by kernel_rfl) ?_
            intro vs LL wq hLL hC hf
            simp only [putL, List.foldl_nil, List.foldl_cons, List.getElem?_cons_zero, List.getElem?_cons_succ]
            have e3 : vs 3 = _ := hf 3 (by simp)
            rw [e3]
            have e7 : vs 7 = _ := hf 7 (by simp)
            rw [e7]
            go_wp2_with fail
            first | exact Below.refl _ _ | exact ⟨Below.refl _ _, by omega⟩
          · refine FrontStep.of [8] _ rfl (by kernel_rfl) ?_
            intro vs LL wq hLL hC hf
            simp only [putL, List.foldl_nil, List.foldl_cons, List.getElem?_cons_zero, List.getElem?_cons_succ]
            have e8 : vs 8 = _ := hf 8 (by simp)
            rw [e8]
            have y0 := ((unhide h14).call hC).c0
            have y1 := ((unhide h14).call hC).c1
            go_wp2_with fail
            first | exact Below.refl _ _ | exact ⟨Below.refl _ _, by omega⟩
          · refine FrontStep.of [8, 9] _ rfl (by kernel_rfl) ?_
            intro vs LL wq hLL hC hf
            simp only [putL, List.foldl_nil, List.foldl_cons, List.getElem?_cons_zero, List.getElem?_cons_succ]
            have e8 : vs 8 = _ := hf 8 (by simp)
            rw [e8]
            have e9 : vs 9 = _ := hf 9 (by simp)
            rw [e9]
            go_wp2_with fail
            refine (unhide hsy _).mono ?_
            rintro e w2 ⟨rfl, hb2⟩
            have q1 := hide (hC.trans (hb2.mono hC.size))
            have q2 := hide hb2
            clear hC hb2
            go_wp2_with fail
            exact ⟨unhide q1, unhide q2⟩
          · refine FrontStep.of [8] _ rfl (by kernel_rfl) ?_
            intro vs LL wq hLL hC hf
            simp only [putL, List.foldl_nil, List.foldl_cons, List.getElem?_cons_zero, List.getElem?_cons_succ]
            have e8 : vs 8 = _ := hf 8 (by simp)
            rw [e8]
            have y0 := ((unhide h14).call hC).c0
            have y1 := ((unhide h14).call hC).c1
            go_wp2_with fail
            first | exact Below.refl _ _ | exact ⟨Below.refl _ _, by omega⟩
          · refine FrontStep.of [8, 10, 11] _ rfl (by kernel_rfl) ?_
            intro vs LL wq hLL hC hf
            simp only [putL, List.foldl_nil, List.foldl_cons, List.getElem?_cons_zero, List.getElem?_cons_succ]
            have e8 : vs 8 = _ := hf 8 (by simp)
            rw [e8]
            have e10 : vs 10 = _ := hf 10 (by simp)
            rw [e10]
            have e11 : vs 11 = _ := hf 11 (by simp)
            rw [e11]
            go_wp2_with fail
            refine (unhide hrs2 _).mono ?_
            rintro e w2 ⟨rfl, hb2⟩
            have q1 := hide (hC.trans (hb2.mono hC.size))
            have q2 := hide hb2
            clear hC hb2
            go_wp2_with fail
            exact ⟨unhide q1, unhide q2⟩
          · refine FrontStep.of [8, 10, 12] _ rfl (by kernel_rfl) ?_
            intro vs LL wq hLL hC hf
            simp only [putL, List.foldl_nil, List.foldl_cons, List.getElem?_cons_zero, List.getElem?_cons_succ]
            have e8 : vs 8 = _ := hf 8 (by simp)
            rw [e8]
            have e10 : vs 10 = _ := hf 10 (by simp)
            rw [e10]
            have e12 : vs 12 = _ := hf 12 (by simp)
            rw [e12]
            go_wp2_with fail
            first | exact Below.refl _ _ | exact ⟨Below.refl _ _, by omega⟩
          · refine FrontStep.of [8, 13] _ rfl (by kernel_rfl) ?_
            intro vs LL wq hLL hC hf
            simp only [putL, List.foldl_nil, List.foldl_cons, List.getElem?_cons_zero, List.getElem?_cons_succ]
            have e8 : vs 8 = _ := hf 8 (by simp)
            rw [e8]
            have e13 : vs 13 = _ := hf 13 (by simp)
            rw [e13]
            go_wp2_with fail
            first | exact Below.refl _ _ | exact ⟨Below.refl _ _, by omega⟩
          · refine FrontStep.of [12, 14] _ rfl (by kernel_rfl) ?_
            intro vs LL wq hLL hC hf
            simp only [putL, List.foldl_nil, List.foldl_cons, List.getElem?_cons_zero, List.getElem?_cons_succ]
            have e12 : vs 12 = _ := hf 12 (by simp)
            rw [e12]
            have e14 : vs 14 = _ := hf 14 (by simp)
            rw [e14]
            go_wp2_with fail
            first | exact Below.refl _ _ | exact ⟨Below.refl _ _, by omega⟩
          · refine FrontStep.of [15] _ rfl (by kernel_rfl) ?_
            intro vs LL wq hLL hC hf
            simp only [putL, List.foldl_nil, List.foldl_cons, List.getElem?_cons_zero, List.getElem?_cons_succ]
            have e15 : vs 15 = _ := hf 15 (by simp)
            rw [e15]
            have y0 := ((unhide h14).call hC).c0
            have y1 := ((unhide h14).call hC).c1
            go_wp2_with fail
            first | exact Below.refl _ _ | exact ⟨Below.refl _ _, by omega⟩
          · refine FrontStep.of [15] _ rfl (by kernel_rfl) ?_
            intro vs LL wq hLL hC hf
            simp only [putL, List.foldl_nil, List.foldl_cons, List.getElem?_cons_zero, List.getElem?_cons_succ]
            have e15 : vs 15 = _ := hf 15 (by simp)
            rw [e15]
            go_wp2_with fail
            first | exact Below.refl _ _ | exact ⟨Below.refl _ _, by omega⟩
          · refine FrontStep.of [15, 16, 17] _ rfl (by kernel_rfl) ?_
            intro vs LL wq hLL hC hf
            simp only [putL, List.foldl_nil, List.foldl_cons, List.getElem?_cons_zero, List.getElem?_cons_succ]
            have e15 : vs 15 = _ := hf 15 (by simp)
            rw [e15]
            have e16 : vs 16 = _ := hf 16 (by simp)
            rw [e16]
            have e17 : vs 17 = _ := hf 17 (by simp)
            rw [e17]
            go_wp2_with fail
            refine (unhide hc1 _).mono ?_
            rintro e w2 ⟨rfl, hb2⟩
            have q1 := hide (hC.trans (hb2.mono hC.size))
            have q2 := hide hb2
            clear hC hb2
            go_wp2_with fail
            exact ⟨unhide q1, unhide q2⟩
          · refine FrontStep.of [15] _ rfl (by kernel_rfl) ?_
            intro vs LL wq hLL hC hf
            simp only [putL, List.foldl_nil, List.foldl_cons, List.getElem?_cons_zero, List.getElem?_cons_succ]
            have e15 : vs 15 = _ := hf 15 (by simp)
            rw [e15]
            have y0 := ((unhide h14).call hC).c0
            have y1 := ((unhide h14).call hC).c1
            go_wp2_with fail
            first | exact Below.refl _ _ | exact ⟨Below.refl _ _, by omega⟩
          · refine FrontStep.of [15] _ rfl (by kernel_rfl) ?_
            intro vs LL wq hLL hC hf
            simp only [putL, List.foldl_nil, List.foldl_cons, List.getElem?_cons_zero, List.getElem?_cons_succ]
            have e15 : vs 15 = _ := hf 15 (by simp)
            rw [e15]
            go_wp2_with fail
            first | exact Below.refl _ _ | exact ⟨Below.refl _ _, by omega⟩
          · refine FrontStep.of [15, 18, 19, 20] _ rfl (by kernel_rfl) ?_
            intro vs LL wq hLL hC hf
            simp only [putL, List.foldl_nil, List.foldl_cons, List.getElem?_cons_zero, List.getElem?_cons_succ]
            have e15 : vs 15 = _ := hf 15 (by simp)
            rw [e15]
            have e18 : vs 18 = _ := hf 18 (by simp)
            rw [e18]
            have e19 : vs 19 = _ := hf 19 (by simp)
            rw [e19]
            have e20 : vs 20 = _ := hf 20 (by simp)
            rw [e20]
            go_wp2_with fail
            refine (unhide hr1 _).mono ?_
            rintro e w2 ⟨rfl, hb2⟩
            have q1 := hide (hC.trans (hb2.mono hC.size))
            have q2 := hide hb2
            clear hC hb2
            go_wp2_with fail
            exact ⟨unhide q1, unhide q2⟩
          · refine FrontStep.of [15, 18, 21] _ rfl (by kernel_rfl) ?_
            intro vs LL wq hLL hC hf
            simp only [putL, List.foldl_nil, List.foldl_cons, List.getElem?_cons_zero, List.getElem?_cons_succ]
            have e15 : vs 15 = _ := hf 15 (by simp)
            rw [e15]
            have e18 : vs 18 = _ := hf 18 (by simp)
            rw [e18]
            have e21 : vs 21 = _ := hf 21 (by simp)
            rw [e21]
            go_wp2_with fail
            first | exact Below.refl _ _ | exact ⟨Below.refl _ _, by omega⟩
          · refine FrontStep.of [15, 22] _ rfl (by kernel_rfl) ?_
            intro vs LL wq hLL hC hf
            simp only [putL, List.foldl_nil, List.foldl_cons, List.getElem?_cons_zero, List.getElem?_cons_succ]
            have e15 : vs 15 = _ := hf 15 (by simp)
            rw [e15]
            have e22 : vs 22 = _ := hf 22 (by simp)
            rw [e22]
            go_wp2_with fail
            first | exact Below.refl _ _ | exact ⟨Below.refl _ _, by omega⟩
          · refine FrontStep.of [21, 23] _ rfl (by kernel_rfl) ?_
            intro vs LL wq hLL hC hf
            simp only [putL, List.foldl_nil, List.foldl_cons, List.getElem?_cons_zero, List.getElem?_cons_succ]
            have e21 : vs 21 = _ := hf 21 (by simp)
            rw [e21]
            have e23 : vs 23 = _ := hf 23 (by simp)
            rw [e23]
            go_wp2_with fail
            first | exact Below.refl _ _ | exact ⟨Below.refl _ _, by omega⟩
          · refine FrontStep.of [24] _ rfl (by kernel_rfl) ?_
            intro vs LL wq hLL hC hf
            simp only [putL, List.foldl_nil, List.foldl_cons, List.getElem?_cons_zero, List.getElem?_cons_succ]
            have e24 : vs 24 = _ := hf 24 (by simp)
            rw [e24]
            have y0 := ((unhide h14).call hC).c0
            have y1 := ((unhide h14).call hC).c1
            go_wp2_with fail
            first | exact Below.refl _ _ | exact ⟨Below.refl _ _, by omega⟩
          · refine FrontStep.of [24] _ rfl (by kernel_rfl) ?_
            intro vs LL wq hLL hC hf
            simp only [putL, List.foldl_nil, List.foldl_cons, List.getElem?_cons_zero, List.getElem?_cons_succ]
            have e24 : vs 24 = _ := hf 24 (by simp)
            rw [e24]
            go_wp2_with fail
            first | exact Below.refl _ _ | exact ⟨Below.refl _ _, by omega⟩
          · refine FrontStep.of [24, 26] _ rfl (by kernel_rfl) ?_
            intro vs LL wq hLL hC hf
            simp only [putL, List.foldl_nil, List.foldl_cons, List.getElem?_cons_zero, List.getElem?_cons_succ]
            have e24 : vs 24 = _ := hf 24 (by simp)
            rw [e24]
            have e26 : vs 26 = _ := hf 26 (by simp)
            rw [e26]
            obtain ⟨y0, y1, y2⟩ := ((unhide h6).call hC).cs
            go_wp2_with fail
            first | exact Below.refl _ _ | exact ⟨Below.refl _ _, by omega⟩
          · refine FrontStep.of [24, 27] _ rfl (by kernel_rfl) ?_
            intro vs LL wq hLL hC hf
            simp only [putL, List.foldl_nil, List.foldl_cons, List.getElem?_cons_zero, List.getElem?_cons_succ]
            have e24 : vs 24 = _ := hf 24 (by simp)
            rw [e24]
            have e27 : vs 27 = _ := hf 27 (by simp)
            rw [e27]
            have w16' := unhide w16
            go_wp2_with fail
            first | exact Below.refl _ _ | exact ⟨Below.refl _ _, by omega⟩
          · refine FrontStep.of [24, 25, 28] _ rfl (by kernel_rfl) ?_
            intro vs LL wq hLL hC hf
            simp only [putL, List.foldl_nil, List.foldl_cons, List.getElem?_cons_zero, List.getElem?_cons_succ]
            have e24 : vs 24 = _ := hf 24 (by simp)
            rw [e24]
            have e25 : vs 25 = _ := hf 25 (by simp)
            rw [e25]
            have e28 : vs 28 = _ := hf 28 (by simp)
            rw [e28]
            go_wp2_with fail
            refine (unhide hc2 _).mono ?_
            rintro e w2 ⟨rfl, hb2⟩
            have q1 := hide (hC.trans (hb2.mono hC.size))
            have q2 := hide hb2
            clear hC hb2
            go_wp2_with fail
            exact ⟨unhide q1, unhide q2⟩
          · refine FrontStep.of [24] _ rfl (by kernel_rfl) ?_
            intro vs LL wq hLL hC hf
            simp only [putL, List.foldl_nil, List.foldl_cons, List.getElem?_cons_zero, List.getElem?_cons_succ]
            have e24 : vs 24 = _ := hf 24 (by simp)
            rw [e24]
            have y0 := ((unhide h14).call hC).c0
            have y1 := ((unhide h14).call hC).c1
            go_wp2_with fail
            first | exact Below.refl _ _ | exact ⟨Below.refl _ _, by omega⟩
          · refine FrontStep.of [24] _ rfl (by kernel_rfl) ?_
            intro vs LL wq hLL hC hf
            simp only [putL, List.foldl_nil, List.foldl_cons, List.getElem?_cons_zero, List.getElem?_cons_succ]
            have e24 : vs 24 = _ := hf 24 (by simp)
            rw [e24]
            go_wp2_with fail
            first | exact Below.refl _ _ | exact ⟨Below.refl _ _, by omega⟩
          · refine FrontStep.of [24, 31] _ rfl (by kernel_rfl) ?_
            intro vs LL wq hLL hC hf
            simp only [putL, List.foldl_nil, List.foldl_cons, List.getElem?_cons_zero, List.getElem?_cons_succ]
            have e24 : vs 24 = _ := hf 24 (by simp)
            rw [e24]
            have e31 : vs 31 = _ := hf 31 (by simp)
            rw [e31]
            obtain ⟨y0, y1, y2⟩ := ((unhide h6).call hC).cs
            go_wp2_with fail
            first | exact Below.refl _ _ | exact ⟨Below.refl _ _, by omega⟩
          · refine FrontStep.of [24, 32] _ rfl (by kernel_rfl) ?_
            intro vs LL wq hLL hC hf
            simp only [putL, List.foldl_nil, List.foldl_cons, List.getElem?_cons_zero, List.getElem?_cons_succ]
            have e24 : vs 24 = _ := hf 24 (by simp)
            rw [e24]
            have e32 : vs 32 = _ := hf 32 (by simp)
            rw [e32]
            have w16' := unhide w16
            go_wp2_with fail
            first | exact Below.refl _ _ | exact ⟨Below.refl _ _, by omega⟩
          · refine FrontStep.of [24, 29, 30, 33] _ rfl (by kernel_rfl) ?_
            intro vs LL wq hLL hC hf
            simp only [putL, List.foldl_nil, List.foldl_cons, List.getElem?_cons_zero, List.getElem?_cons_succ]
            have e24 : vs 24 = _ := hf 24 (by simp)
            rw [e24]
            have e29 : vs 29 = _ := hf 29 (by simp)
            rw [e29]
            have e30 : vs 30 = _ := hf 30 (by simp)
            rw [e30]
            have e33 : vs 33 = _ := hf 33 (by simp)
            rw [e33]
            go_wp2_with fail
            refine (unhide hr2 _).mono ?_
            rintro e w2 ⟨rfl, hb2⟩
            have q1 := hide (hC.trans (hb2.mono hC.size))
            have q2 := hide hb2
            clear hC hb2
            go_wp2_with fail
            exact ⟨unhide q1, unhide q2⟩
          · refine FrontStep.of [24, 29, 34] _ rfl (by kernel_rfl) ?_
            intro vs LL wq hLL hC hf
            simp only [putL, List.foldl_nil, List.foldl_cons, List.getElem?_cons_zero, List.getElem?_cons_succ]
            have e24 : vs 24 = _ := hf 24 (by simp)
            rw [e24]
            have e29 : vs 29 = _ := hf 29 (by simp)
            rw [e29]
            have e34 : vs 34 = _ := hf 34 (by simp)
            rw [e34]
            go_wp2_with fail
            first | exact Below.refl _ _ | exact ⟨Below.refl _ _, by omega⟩
          · refine FrontStep.of [24, 35] _ rfl (by kernel_rfl) ?_
            intro vs LL wq hLL hC hf
            simp only [putL, List.foldl_nil, List.foldl_cons, List.getElem?_cons_zero, List.getElem?_cons_succ]
            have e24 : vs 24 = _ := hf 24 (by simp)
            rw [e24]
            have e35 : vs 35 = _ := hf 35 (by simp)
            rw [e35]
            go_wp2_with fail
            first | exact Below.refl _ _ | exact ⟨Below.refl _ _, by omega⟩
        · intro vs LL wq hLL hC hf
          have e36 : vs 36 = _ := hf 36 (by decide)
          have hend := (unhide hz).trans ((unhide h14b).mono hWo |>.trans (hC.mono hWV))
          rw [putSome_all]
          simp only [putL, List.range, List.range.loop, List.foldl_nil, List.foldl_cons, List.getElem?_cons_zero, List.getElem?_cons_succ, List.drop_succ_cons, List.drop_zero]
          rw [e36]
          obtain ⟨V4, rfl⟩ : ∃ W : World, W = wq := ⟨_, rfl⟩
          have h6z := hide ((unhide h6o).trans (hC.mono (unhide h6o).size))
          clear hf hLL hC e36 hz h14b h6o
          replace hend := hide hend
          go_simp
          go_wp2_with fail
          go_roundw
          case rel => exact ⟨k + 1, by omega, by go_num, unhide hend, unhide h6z⟩
          case measure => simp [intOf]; omega
      · obtain rfl : k = 4 := by omega
        rw [← unhide hW0] at hz
        replace hz := hide hz
        clear hV2 h6w
        go_wp2_with fail
        go_ret
        exact ⟨rfl, unhide hz⟩
end Go.Proofs.Ytcliegeooooonaa
