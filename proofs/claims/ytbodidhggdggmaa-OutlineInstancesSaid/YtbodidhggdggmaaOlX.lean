/- Outline's sanity. -/
import Derived.Test.YtbodidhggdggmaaOlW
import Derived.Test.YtbodidhggdggmaaOl1
import Derived.Test.YtbodidhggdggmaaOl7
import Derived.Test.YtbodidhggdggmaaOl8
import Derived.Test.YtbodidhggdggmaaOl9
namespace Go.Proofs.Ytbodidhggdggmaa
open Go.RowKit
theorem i64_small {x : Int} (h1 : -1000 ≤ x) (h2 : x ≤ 1000) : I64 x := ⟨by omega, by omega⟩
theorem exP : AllP [(0, 0, true), (4, 8, false), (8, 0, true)] := fun p hp => by simp at hp; rcases hp with rfl | rfl | rfl <;> exact ⟨i64_small (by decide) (by decide), i64_small (by decide) (by decide)⟩
theorem exP2 : AllP [(0, 0, true), (4, 8, false)] := fun p hp => by simp at hp; rcases hp with rfl | rfl <;> exact ⟨i64_small (by decide) (by decide), i64_small (by decide) (by decide)⟩
theorem exP3 : AllP [(4, 8, false), (8, 0, true)] := fun p hp => by simp at hp; rcases hp with rfl | rfl <;> exact ⟨i64_small (by decide) (by decide), i64_small (by decide) (by decide)⟩
theorem exPF : AllP [(0, 0, true), (64, 96, true), (128, 128, true), (192, 96, true), (256, 0, true)] := fun p hp => by simp at hp; rcases hp with rfl | rfl | rfl | rfl | rfl <;> exact ⟨i64_small (by decide) (by decide), i64_small (by decide) (by decide)⟩
theorem exPW : AllP [(0, 0, true), (9, 8, false), (10, -1, true)] := fun p hp => by simp at hp; rcases hp with rfl | rfl | rfl <;> exact ⟨i64_small (by decide) (by decide), i64_small (by decide) (by decide)⟩
theorem exS : Sml exO := ⟨by decide, by decide⟩
theorem exS2 : Sml [[(0, 0, true), (4, 8, false)]] := ⟨by decide, by decide⟩
theorem exS3 : Sml [[(4, 8, false), (8, 0, true)]] := ⟨by decide, by decide⟩
theorem exS250 : ∀ c ∈ exO, c.length ≤ 250 := by decide
theorem exDl : ∀ d ∈ exD, d.1.length ≤ 1000 ∧ d.2.length ≤ 1000000 := by decide
theorem ex_cut0 (j : Nat) (hj : j < 2 * 3) : (pcells [(0, 0, true), (4, 8, false), (8, 0, true)]).toArray[0 + j]? = (pcells [(0, 0, true), (4, 8, false)])[j]? := by
  have : j = 0 ∨ j = 1 ∨ j = 2 ∨ j = 3 ∨ j = 4 ∨ j = 5 := by omega
  rcases this with rfl | rfl | rfl | rfl | rfl | rfl <;> rfl
theorem ex_cut1 (j : Nat) (hj : j < 2 * 3) : (pcells [(0, 0, true), (4, 8, false), (8, 0, true)]).toArray[3 + j]? = (pcells [(4, 8, false), (8, 0, true)])[j]? := by
  have : j = 0 ∨ j = 1 ∨ j = 2 ∨ j = 3 ∨ j = 4 ∨ j = 5 := by omega
  rcases this with rfl | rfl | rfl | rfl | rfl | rfl <;> rfl
theorem lst_ints_blk {w : World} {g T : Nat} {cs : Array Value} {l : List Int} {n : Nat} (h : w.heap[g]? = some (.cells cs T (0, 0))) (hc : cs.toList = vints l) (ha : ∀ x ∈ l, I64 x) (hn : l.length = n := by rfl) : Lst Enc.int w (· < w.heap.size) (some ⟨g, 0, none⟩) n l := by
  refine ⟨hn, fun _ => ⟨g, 0, rfl, (Array.getElem?_eq_some_iff.1 h).1, fun i x hx => ⟨[.int .i64 x], ⟨rfl, ha x (List.mem_of_getElem? hx)⟩, fun j u hj => ?_⟩⟩⟩
  have hj1 := (List.getElem?_eq_some_iff.1 hj).1
  simp at hj1
  subst hj1
  have e : Enc.int.n = 1 := rfl
  rw [e, cell_of_row _ _ _ _ _ _ h, ← Array.getElem?_toList, hc]
  unfold vints
  rw [List.getElem?_map, show 0 + i * 1 + 0 = i by omega, hx]
  exact hj
set_option maxHeartbeats 8000000 in
set_option maxRecDepth 100000 in
theorem sanity6_any (w : World) : Calls Try.prog 9 #[] w fun e w' => e = .returned (.bool true) ∧ Below w.heap.size w w' := by
  have hc := example_any w
  replace hc := hide hc
  go_enter Try.func9, Try.ntmps9
  go_wp2_with fail
  refine (unhide hc).mono ?_
  rintro e w1 ⟨g, r, d, rfl, hg, hr, hdl, hz⟩
  clear hc
  have hgl := lst_pts_blk (off := 0) (len := 3) hg (c := [(0, 0, true), (4, 8, false), (8, 0, true)]) (fun j hj => by rw [Nat.zero_add]; simp) rfl exP
  have ho := lst_cts_one hr hgl (by omega) (by decide)
  have hs := exS
  have hg2 := lst_pts_blk (off := 0) (len := 2) hg (c := [(0, 0, true), (4, 8, false)]) (fun j hj => ex_cut0 j hj) rfl exP2
  have hg3 := lst_pts_blk (off := 3) (len := 2) hg (c := [(4, 8, false), (8, 0, true)]) (fun j hj => ex_cut1 j hj) rfl exP3
  replace hz := hide hz; replace hdl := hide hdl; replace ho := hide ho; replace hr := hide hr; replace hg2 := hide hg2; replace hg3 := hide hg3
  clear hgl hg
  have hc := checkO_any (some ⟨r, 0, none⟩) 1 1 exO w1 (unhide ho) hs
  rw [ex_check] at hc
  replace hc := hide hc
  go_wp2_with fail
  refine (unhide hc).mono ?_
  rintro e w2 ⟨rfl, hb⟩
  clear hc
  replace hdl := hide ((unhide hdl).under hb)
  replace ho := hide ((unhide ho).under hb)
  replace hg2 := hide ((unhide hg2).under hb)
  replace hg3 := hide ((unhide hg3).under hb)
  replace hr := hide ((hb.block _ (Array.getElem?_eq_some_iff.1 (unhide hr)).1).trans (unhide hr))
  replace hz := hide ((unhide hz).trans (hb.mono (unhide hz).size))
  clear hb
  have hc := count_any (some ⟨r, 0, none⟩) 1 1 exO w2 (unhide ho) hs
  rw [ex_count] at hc
  replace hc := hide hc
  go_wp2_with fail
  refine (unhide hc).mono ?_
  rintro e w3 ⟨rfl, hb⟩
  clear hc
  replace hdl := hide ((unhide hdl).under hb)
  replace ho := hide ((unhide ho).under hb)
  replace hg2 := hide ((unhide hg2).under hb)
  replace hg3 := hide ((unhide hg3).under hb)
  replace hr := hide ((hb.block _ (Array.getElem?_eq_some_iff.1 (unhide hr)).1).trans (unhide hr))
  replace hz := hide ((unhide hz).trans (hb.mono (unhide hz).size))
  clear hb
  have hc := box_any (some ⟨r, 0, none⟩) 1 1 exO w3 (unhide ho) hs
  rw [ex_box] at hc
  replace hc := hide hc
  go_wp2_with fail
  refine (unhide hc).mono ?_
  rintro e w4 ⟨rfl, hb⟩
  clear hc
  replace hdl := hide ((unhide hdl).under hb)
  replace ho := hide ((unhide ho).under hb)
  replace hg2 := hide ((unhide hg2).under hb)
  replace hg3 := hide ((unhide hg3).under hb)
  replace hr := hide ((hb.block _ (Array.getElem?_eq_some_iff.1 (unhide hr)).1).trans (unhide hr))
  replace hz := hide ((unhide hz).trans (hb.mono (unhide hz).size))
  clear hb
  have cr := (cell_of_row _ _ 0 _ _ _ (unhide hr)).trans rfl
  obtain ⟨b5, V5, eb5, eV5, nb5, kb5, sb5⟩ := al1 w4 (.cells #[.slice (some ⟨g, 0, none⟩) 2 3] 54)
  replace hdl := hide ((unhide hdl).under kb5)
  replace ho := hide ((unhide ho).under kb5)
  replace hg2 := hide ((unhide hg2).under kb5)
  replace hg3 := hide ((unhide hg3).under kb5)
  replace hr := hide ((kb5.block _ (Array.getElem?_eq_some_iff.1 (unhide hr)).1).trans (unhide hr))
  replace hz := hide ((unhide hz).trans (kb5.mono (unhide hz).size))
  clear kb5 sb5
  have ho5 := lst_cts_one nb5 (unhide hg2) (by omega) (by decide)
  clear nb5
  have hc := checkO_any (some ⟨b5, 0, none⟩) 1 1 _ V5 ho5 exS2
  rw [ex_check2] at hc
  clear ho5
  replace hc := hide hc
  go_wp2_with fail
  refine (unhide hc).mono ?_
  rintro e w6 ⟨rfl, hb⟩
  clear hc
  clear eb5 eV5 cr
  replace hdl := hide ((unhide hdl).under hb)
  replace ho := hide ((unhide ho).under hb)
  replace hg2 := hide ((unhide hg2).under hb)
  replace hg3 := hide ((unhide hg3).under hb)
  replace hr := hide ((hb.block _ (Array.getElem?_eq_some_iff.1 (unhide hr)).1).trans (unhide hr))
  replace hz := hide ((unhide hz).trans (hb.mono (unhide hz).size))
  clear hb
  have cr := (cell_of_row _ _ 0 _ _ _ (unhide hr)).trans rfl
  obtain ⟨b7, V7, eb7, eV7, nb7, kb7, sb7⟩ := al1 w6 (.cells #[.slice (some ⟨g, 3, none⟩) 2 2] 54)
  replace hdl := hide ((unhide hdl).under kb7)
  replace ho := hide ((unhide ho).under kb7)
  replace hg2 := hide ((unhide hg2).under kb7)
  replace hg3 := hide ((unhide hg3).under kb7)
  replace hr := hide ((kb7.block _ (Array.getElem?_eq_some_iff.1 (unhide hr)).1).trans (unhide hr))
  replace hz := hide ((unhide hz).trans (kb7.mono (unhide hz).size))
  clear kb7 sb7
  have ho7 := lst_cts_one nb7 (unhide hg3) (by omega) (by decide)
  clear nb7
  have hc := checkO_any (some ⟨b7, 0, none⟩) 1 1 _ V7 ho7 exS3
  rw [ex_check3] at hc
  clear ho7
  replace hc := hide hc
  go_wp2_with fail
  refine (unhide hc).mono ?_
  rintro e w8 ⟨rfl, hb⟩
  clear hc
  clear eb7 eV7 cr
  replace hdl := hide ((unhide hdl).under hb)
  replace ho := hide ((unhide ho).under hb)
  replace hg2 := hide ((unhide hg2).under hb)
  replace hg3 := hide ((unhide hg3).under hb)
  replace hr := hide ((hb.block _ (Array.getElem?_eq_some_iff.1 (unhide hr)).1).trans (unhide hr))
  replace hz := hide ((unhide hz).trans (hb.mono (unhide hz).size))
  clear hb
  clear hg2 hg3 hr
  obtain ⟨b9, V9, eb9, eV9, nb9, kb9, sb9⟩ := al1 w8 (.cells #[.int .i64 0, .int .i64 0, .bool true, .int .i64 64, .int .i64 96, .bool true, .int .i64 128, .int .i64 128, .bool true, .int .i64 192, .int .i64 96, .bool true, .int .i64 256, .int .i64 0, .bool true] 56)
  obtain ⟨b10, V10, eb10, eV10, nb10, kb10, sb10⟩ := al1 V9 (.cells #[.slice (some ⟨b9, 0, none⟩) 5 5] 54)
  have hbb := kb9.trans (kb10.mono kb9.size)
  replace hdl := hide ((unhide hdl).under hbb)
  replace ho := hide ((unhide ho).under hbb)
  replace hz := hide ((unhide hz).trans (hbb.mono (unhide hz).size))
  have hfl := hide (lst_cts_one nb10 ((lst_pts_blk (off := 0) (len := 5) nb9 (c := [(0, 0, true), (64, 96, true), (128, 128, true), (192, 96, true), (256, 0, true)]) (fun j _ => by rw [Nat.zero_add, ← Array.getElem?_toList]; rfl) rfl exPF).under kb10) (by omega) (by decide))
  clear nb9 kb9 sb9 nb10 kb10 sb10 hbb
  obtain ⟨b11, V11, eb11, eV11, nb11, kb11, sb11⟩ := al1 V10 (.cells #[.int .i64 32] 3)
  replace hdl := hide ((unhide hdl).under kb11)
  replace ho := hide ((unhide ho).under kb11)
  replace hfl := hide ((unhide hfl).under kb11)
  replace hz := hide ((unhide hz).trans (kb11.mono (unhide hz).size))
  clear kb11 sb11
  have hu := lst_ints_blk (l := [32]) nb11 rfl (fun x hx => by simp at hx; subst hx; exact ⟨by decide, by decide⟩)
  clear nb11
  have hc := inst_any (some ⟨r, 0, none⟩) 1 1 exO (some ⟨d, 0, none⟩) 1 1 exD (some ⟨b11, 0, none⟩) 1 1 [32] V11 (unhide ho) hs (unhide hdl) hu (by omega) exDl
  rw [ex_inst] at hc
  clear hu
  replace hc := hide hc
  go_wp2_with fail
  refine (unhide hc).mono ?_
  rintro e w12 ⟨v5, rfl, hoo, hb⟩
  clear hc
  obtain ⟨a5, c5, ev5, _, _, hv5⟩ := hoo.lst
  replace ev5 : v5 = .slice a5 1 c5 := ev5
  subst ev5
  replace hv5 := hide (hv5.wide (fun b hb => hb.2))
  replace hv5 : Hid (Lst Enc.ct w12 (· < w12.heap.size) a5 1 exW) := hv5
  clear hoo eb9 eV9 eb10 eV10 eb11 eV11
  replace hdl := hide ((unhide hdl).under hb)
  replace ho := hide ((unhide ho).under hb)
  replace hfl := hide ((unhide hfl).under hb)
  replace hz := hide ((unhide hz).trans (hb.mono (unhide hz).size))
  clear hb
  obtain ⟨b13, V13, eb13, eV13, nb13, kb13, sb13⟩ := al1 w12 (.cells #[.int .i64 32, .int .i64 0] 3)
  replace hdl := hide ((unhide hdl).under kb13)
  replace ho := hide ((unhide ho).under kb13)
  replace hfl := hide ((unhide hfl).under kb13)
  replace hv5 := hide ((unhide hv5).under kb13)
  replace hz := hide ((unhide hz).trans (kb13.mono (unhide hz).size))
  clear kb13 sb13
  have hu := lst_ints_blk (l := [32, 0]) nb13 rfl (fun x hx => by simp at hx; rcases hx with rfl | rfl <;> exact ⟨by decide, by decide⟩)
  clear nb13
  have hc := inst_any (some ⟨r, 0, none⟩) 1 1 exO (some ⟨d, 0, none⟩) 1 1 exD (some ⟨b13, 0, none⟩) 2 2 [32, 0] V13 (unhide ho) hs (unhide hdl) hu (by omega) exDl
  rw [ex_inst2] at hc
  clear hu
  replace hc := hide hc
  go_wp2_with fail
  refine (unhide hc).mono ?_
  rintro e w14 ⟨v7, rfl, hoo, hb⟩
  clear hc
  clear hoo eb13 eV13
  replace hdl := hide ((unhide hdl).under hb)
  replace ho := hide ((unhide ho).under hb)
  replace hfl := hide ((unhide hfl).under hb)
  replace hv5 := hide ((unhide hv5).under hb)
  replace hz := hide ((unhide hz).trans (hb.mono (unhide hz).size))
  clear hb
  obtain ⟨b15, V15, eb15, eV15, nb15, kb15, sb15⟩ := al1 w14 (.cells #[.int .i64 0, .int .i64 0, .bool true, .int .i64 9, .int .i64 8, .bool false, .int .i64 10, .int .i64 (-1), .bool true] 56)
  obtain ⟨b16, V16, eb16, eV16, nb16, kb16, sb16⟩ := al1 V15 (.cells #[.slice (some ⟨b15, 0, none⟩) 3 3] 54)
  have hbb := kb15.trans (kb16.mono kb15.size)
  replace hdl := hide ((unhide hdl).under hbb)
  replace ho := hide ((unhide ho).under hbb)
  replace hfl := hide ((unhide hfl).under hbb)
  replace hv5 := hide ((unhide hv5).under hbb)
  replace hz := hide ((unhide hz).trans (hbb.mono (unhide hz).size))
  have hwn := hide (lst_cts_one nb16 ((lst_pts_blk (off := 0) (len := 3) nb15 (c := [(0, 0, true), (9, 8, false), (10, -1, true)]) (fun j _ => by rw [Nat.zero_add, ← Array.getElem?_toList]; rfl) rfl exPW).under kb16) (by omega) (by decide))
  clear nb15 kb15 sb15 nb16 kb16 sb16 hbb
  have hc := rsame_any a5 1 c5 exW (some ⟨b16, 0, none⟩) 1 1 exW V16 (unhide hv5) (unhide hwn) (by omega) (by omega)
  rw [show decide (exW = exW) = true by decide] at hc
  replace hc := hide hc
  go_wp2_with fail
  refine (unhide hc).mono ?_
  rintro e w17 ⟨rfl, q, hq⟩
  clear hc
  have hb : Below V16.heap.size V16 w17 := by rw [hq]; exact blw_drewN (Below.refl _ _) _
  clear hq
  replace hdl := hide ((unhide hdl).under hb)
  replace ho := hide ((unhide ho).under hb)
  replace hfl := hide ((unhide hfl).under hb)
  replace hv5 := hide ((unhide hv5).under hb)
  replace hwn := hide ((unhide hwn).under hb)
  replace hz := hide ((unhide hz).trans (hb.mono (unhide hz).size))
  clear hb
  clear eb15 eV15 eb16 eV16
  have hc := flat_any (some ⟨r, 0, none⟩) 1 1 exO w17 (unhide ho) hs exS250
  rw [ex_flat] at hc
  replace hc := hide hc
  go_wp2_with fail
  refine (unhide hc).mono ?_
  rintro e w18 ⟨vf, rfl, hoo, hb⟩
  clear hc
  obtain ⟨af, cf, evf, _, _, hvf⟩ := hoo.lst
  replace evf : vf = .slice af 1 cf := evf
  subst evf
  replace hvf := hide (hvf.wide (fun b hb => hb.2))
  replace hvf : Hid (Lst Enc.ct w18 (· < w18.heap.size) af 1 exF) := hvf
  clear hoo
  replace hdl := hide ((unhide hdl).under hb)
  replace ho := hide ((unhide ho).under hb)
  replace hfl := hide ((unhide hfl).under hb)
  replace hv5 := hide ((unhide hv5).under hb)
  replace hwn := hide ((unhide hwn).under hb)
  replace hz := hide ((unhide hz).trans (hb.mono (unhide hz).size))
  clear hb
  have hc := rsame_any af 1 cf exF (some ⟨b10, 0, none⟩) 1 1 exF w18 (unhide hvf) (unhide hfl) (by omega) (by omega)
  rw [show decide (exF = exF) = true by decide] at hc
  replace hc := hide hc
  go_wp2_with fail
  refine (unhide hc).mono ?_
  rintro e w19 ⟨rfl, q, hq⟩
  clear hc
  have hb : Below w18.heap.size w18 w19 := by rw [hq]; exact blw_drewN (Below.refl _ _) _
  clear hq
  replace hdl := hide ((unhide hdl).under hb)
  replace ho := hide ((unhide ho).under hb)
  replace hfl := hide ((unhide hfl).under hb)
  replace hv5 := hide ((unhide hv5).under hb)
  replace hwn := hide ((unhide hwn).under hb)
  replace hz := hide ((unhide hz).trans (hb.mono (unhide hz).size))
  clear hb
  have hc := sameO_any a5 1 c5 exW (some ⟨b16, 0, none⟩) 1 1 exW w19 (unhide hv5) (unhide hwn) (by omega) (by omega)
  rw [show decide (exW = exW) = true by decide] at hc
  replace hc := hide hc
  go_wp2_with fail
  refine (unhide hc).mono ?_
  rintro e w20 ⟨rfl, q, hq⟩
  clear hc
  have hb : Below w19.heap.size w19 w20 := by rw [hq]; exact blw_drewN (Below.refl _ _) _
  clear hq
  replace hdl := hide ((unhide hdl).under hb)
  replace ho := hide ((unhide ho).under hb)
  replace hfl := hide ((unhide hfl).under hb)
  replace hv5 := hide ((unhide hv5).under hb)
  replace hwn := hide ((unhide hwn).under hb)
  replace hz := hide ((unhide hz).trans (hb.mono (unhide hz).size))
  clear hb
  have hc := sameO_any a5 1 c5 exW (some ⟨r, 0, none⟩) 1 1 exO w20 (unhide hv5) (unhide ho) (by omega) (by omega)
  rw [show decide (exW = exO) = false by decide] at hc
  replace hc := hide hc
  go_wp2_with fail
  refine (unhide hc).mono ?_
  rintro e w21 ⟨rfl, q, hq⟩
  clear hc
  have hb : Below w20.heap.size w20 w21 := by rw [hq]; exact blw_drewN (Below.refl _ _) _
  clear hq
  replace hdl := hide ((unhide hdl).under hb)
  replace ho := hide ((unhide ho).under hb)
  replace hfl := hide ((unhide hfl).under hb)
  replace hv5 := hide ((unhide hv5).under hb)
  replace hwn := hide ((unhide hwn).under hb)
  replace hz := hide ((unhide hz).trans (hb.mono (unhide hz).size))
  clear hb
  go_wp2_with fail
  go_ret
  exact ⟨rfl, unhide hz⟩
end Go.Proofs.Ytbodidhggdggmaa
