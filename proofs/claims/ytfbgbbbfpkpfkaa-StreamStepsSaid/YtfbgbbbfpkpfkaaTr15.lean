/- Streams: the sanity of the laws. -/
import Derived.Test.YtfbgbbbfpkpfkaaTr14
import Derived.Test.YtfbgbbbfpkpfkaaSb15
namespace Go.Proofs.Ytfbgbbbfpkpfkaa
open Go.RowKit
def tX : List Sub := [([], [1, 2], [3], 9), ([1], [2], [], 8)]
set_option maxRecDepth 100000 in
set_option maxHeartbeats 8000000 in
theorem sanity_any (w : World) : Calls Try.prog 9 #[] w fun e w' => e = .returned (.bool true) ∧ Below w.heap.size w w' := by
  go_enter Try.func9, Try.ntmps9
  have hz := Below.refl w.heap.size w
  obtain ⟨b0_0, V0_0, hb0_0, hV0_0, st⟩ := (St.start w).new (Obj.cells #[.int .i64 1, .int .i64 2] 3)
  obtain ⟨b0_1, V0_1, hb0_1, hV0_1, st⟩ := st.new (Obj.cells #[.int .i64 3] 3)
  have hcb0_1 : b0_0 + 1 = b0_1 := by rw [← hb0_1, ← hV0_0, World.size_alloc, hb0_0]
  obtain ⟨b0_2, V0_2, hb0_2, hV0_2, st⟩ := st.new (Obj.cells #[.int .i64 1] 3)
  have hcb0_2 : b0_1 + 1 = b0_2 := by rw [← hb0_2, ← hV0_1, World.size_alloc, hb0_1]
  obtain ⟨b0_3, V0_3, hb0_3, hV0_3, st⟩ := st.new (Obj.cells #[.int .i64 2] 3)
  have hcb0_3 : b0_2 + 1 = b0_3 := by rw [← hb0_3, ← hV0_2, World.size_alloc, hb0_2]
  obtain ⟨b0_4, V0_4, hb0_4, hV0_4, st⟩ := st.new (Obj.cells #[.slice none 0 0, .slice (some ⟨b0_0, 0, none⟩) 2 2, .slice (some ⟨b0_1, 0, none⟩) 1 1, .int .i64 9, .slice (some ⟨b0_2, 0, none⟩) 1 1, .slice (some ⟨b0_3, 0, none⟩) 1 1, .slice none 0 0, .int .i64 8] 56)
  have hcb0_4 : b0_3 + 1 = b0_4 := by rw [← hb0_4, ← hV0_3, World.size_alloc, hb0_3]
  obtain ⟨b0_5, V0_5, hb0_5, hV0_5, st⟩ := st.new (Obj.cells #[.slice (some ⟨b0_4, 0, none⟩) 2 2] 37)
  have hcb0_5 : b0_4 + 1 = b0_5 := by rw [← hb0_5, ← hV0_4, World.size_alloc, hb0_4]
  have kb0_0 := st.get 5 rfl
  have kb0_1 := st.get 4 rfl
  have kb0_2 := st.get 3 rfl
  have kb0_3 := st.get 2 rfl
  have kb0_4 := st.get 1 rfl
  have kb0_5 := st.get 0 rfl
  have hbb := st.below
  replace hz := hz.trans (hbb.mono hz.size)
  clear st hbb
  have hX : Lst Enc.sub V0_5 (fun b => b < V0_5.heap.size) (some ⟨b0_4, 0, none⟩) 2 tX := lst_flatw (l := tX) (cs := [.slice none 0 0, .slice (some ⟨b0_0, 0, none⟩) 2 2, .slice (some ⟨b0_1, 0, none⟩) 1 1, .int .i64 9, .slice (some ⟨b0_2, 0, none⟩) 1 1, .slice (some ⟨b0_3, 0, none⟩) 1 1, .slice none 0 0, .int .i64 8]) kb0_4
    ⟨[.slice none 0 0, .slice (some ⟨b0_0, 0, none⟩) 2 2, .slice (some ⟨b0_1, 0, none⟩) 1 1, .int .i64 9], [.slice (some ⟨b0_2, 0, none⟩) 1 1, .slice (some ⟨b0_3, 0, none⟩) 1 1, .slice none 0 0, .int .i64 8], rfl, rep_sub (s := ([], [1, 2], [3], 9)) rep_nil (rep_lits kb0_0 rfl (by decide) (i64_lit _ (by decide))) (rep_lits kb0_1 rfl (by decide) (i64_lit _ (by decide))) ⟨by decide, by decide⟩, _, [], rfl, rep_sub (s := ([1], [2], [], 8)) (rep_lits kb0_2 rfl (by decide) (i64_lit _ (by decide))) (rep_lits kb0_3 rfl (by decide) (i64_lit _ (by decide))) rep_nil ⟨by decide, by decide⟩, rfl⟩
  have hL : Lst Enc.lk V0_5 (fun b => b < V0_5.heap.size) (some ⟨b0_5, 0, none⟩) 1 [tX] := lst_flatw (l := [tX]) (cs := [.slice (some ⟨b0_4, 0, none⟩) 2 2]) kb0_5 ⟨[.slice (some ⟨b0_4, 0, none⟩) 2 2], [], rfl, ⟨_, _, _, rfl, by decide, by decide, hX⟩, rfl⟩
  clear kb0_0 kb0_1 kb0_2 kb0_3 kb0_4
  replace hz := hide hz; replace hX := hide hX; replace hL := hide hL; replace kb0_5 := hide kb0_5
  replace hV0_0 := hide hV0_0; replace hV0_1 := hide hV0_1; replace hV0_2 := hide hV0_2; replace hV0_3 := hide hV0_3; replace hV0_4 := hide hV0_4; replace hV0_5 := hide hV0_5; replace hb0_0 := hide hb0_0; replace hb0_1 := hide hb0_1; replace hb0_2 := hide hb0_2; replace hb0_3 := hide hb0_3; replace hb0_4 := hide hb0_4; replace hb0_5 := hide hb0_5; replace hcb0_1 := hide hcb0_1; replace hcb0_2 := hide hcb0_2; replace hcb0_3 := hide hcb0_3; replace hcb0_4 := hide hcb0_4; replace hcb0_5 := hide hcb0_5
  go_upto_region 2 with fail
  replace hz := unhide hz; replace hX := unhide hX; replace hL := unhide hL; replace kb0_5 := unhide kb0_5
  try rw [unhide hb0_0]
  try rw [unhide hcb0_1]
  try rw [unhide hcb0_2]
  try rw [unhide hcb0_3]
  try rw [unhide hcb0_4]
  try rw [unhide hcb0_5]
  rw [unhide hV0_0]
  rw [unhide hV0_1]
  rw [unhide hV0_2]
  rw [unhide hV0_3]
  rw [unhide hV0_4]
  rw [unhide hV0_5]
  clear hV0_0 hb0_0 hV0_1 hb0_1 hcb0_1 hV0_2 hb0_2 hcb0_2 hV0_3 hb0_3 hcb0_3 hV0_4 hb0_4 hcb0_4 hV0_5 hb0_5 hcb0_5
  obtain ⟨b1_0, V1_0, hb1_0, hV1_0, st⟩ := (St.start V0_5).new (Obj.cells #[.int .i64 1, .int .i64 2, .int .i64 3] 3)
  have kb1_0 := st.get 0 rfl
  have hbb := st.below
  replace hz := hz.trans (hbb.mono hz.size)
  replace hX := hX.under hbb
  replace hL := hL.under hbb
  replace kb0_5 := kept' hbb kb0_5
  clear st hbb
  have hg := lst_lits (l := [1, 2, 3]) kb1_0 (i64_lit _ (by decide))
  have hr : (feedAll [tX] (startS [tX]) [1, 2, 3]).2 = [9] := by decide +kernel
  have hnl := feedAll_len [tX] [1, 2, 3] (startS [tX]) (startS_len _)
  have htl := feedAll_tot [tX] [1, 2, 3] (startS [tX]) (startS_len _)
  have hbk := feedAll_back [tX] 300000 (by omega) [1, 2, 3] (startS [tX]) (startS_len _) (back_start _ _)
  have hcf := fed_any _ 1 1 [tX] _ 3 3 [1, 2, 3] V1_0 hL (by intro x hx; simp at hx; subst hx; unfold Small; decide) (by intro x hx; simp at hx; subst hx; unfold ToI I64; decide) hg (by decide) (by decide)
  rw [hr] at hcf
  obtain ⟨S0, hS0⟩ : ∃ s, (feedAll [tX] (startS [tX]) [1, 2, 3]).1 = s := ⟨_, rfl⟩
  rw [hS0] at hcf hnl htl hbk
  rw [tot_start, hr] at htl
  clear hr hS0 hg kb1_0
  replace hnl := hide hnl; replace htl := hide htl; replace hbk := hide hbk
  have hcq := hcf
  replace hcq := hide hcq
  replace hz := hide hz; replace hX := hide hX; replace hL := hide hL; replace kb0_5 := hide kb0_5
  replace hV1_0 := hide hV1_0; replace hb1_0 := hide hb1_0
  go_wp2_with fail
  replace hz := unhide hz; replace hX := unhide hX; replace hL := unhide hL; replace kb0_5 := unhide kb0_5
  try rw [unhide hb1_0]
  rw [unhide hV1_0]
  clear hV1_0 hb1_0
  refine (unhide hcq).mono ?_
  rintro e w0x ⟨a0, c0, v0, rfl, q0, hown, hb⟩
  clear hcq
  replace hz := hz.trans (hb.mono hz.size)
  replace hX := hX.under hb
  replace hL := hL.under hb
  replace kb0_5 := kept' hb kb0_5
  obtain ⟨o0, d0, rfl, -, r0⟩ := own_lst hown (i64_lit [9] (by decide))
  clear hown hb hcf
  have hnl0 := hnl; have htl0 := htl; have hbk0 := hbk
  clear hnl htl hbk
  obtain ⟨b2_0, V2_0, hb2_0, hV2_0, st⟩ := (St.start w0x).new (Obj.cells #[.slice a0 1 c0] 29)
  have kb2_0 := st.get 0 rfl
  have hbb := st.below
  replace hz := hz.trans (hbb.mono hz.size)
  replace hX := hX.under hbb
  replace hL := hL.under hbb
  replace kb0_5 := kept' hbb kb0_5
  replace q0 := q0.under hbb
  replace r0 := r0.under hbb
  clear st hbb
  replace hz := hide hz; replace hX := hide hX; replace hL := hide hL; replace kb0_5 := hide kb0_5; replace q0 := hide q0; replace r0 := hide r0
  replace hV2_0 := hide hV2_0; replace hb2_0 := hide hb2_0
  go_upto_region 3 with fail
  replace hz := unhide hz; replace hX := unhide hX; replace hL := unhide hL; replace kb0_5 := unhide kb0_5; replace q0 := unhide q0; replace r0 := unhide r0
  try rw [unhide hb2_0]
  rw [unhide hV2_0]
  clear hV2_0 hb2_0
  obtain ⟨b3_0, V3_0, hb3_0, hV3_0, st⟩ := (St.start V2_0).new (Obj.cells #[.int .i64 1, .int .i64 2, .int .i64 3, .int .i64 4] 3)
  have kb3_0 := st.get 0 rfl
  have hbb := st.below
  replace hz := hz.trans (hbb.mono hz.size)
  replace hX := hX.under hbb
  replace hL := hL.under hbb
  replace kb0_5 := kept' hbb kb0_5
  replace q0 := q0.under hbb
  replace r0 := r0.under hbb
  replace kb2_0 := kept' hbb kb2_0
  clear st hbb
  have hg := lst_lits (l := [1, 2, 3, 4]) kb3_0 (i64_lit _ (by decide))
  have hr : (feedAll [tX] (startS [tX]) [1, 2, 3, 4]).2 = [9] := by decide +kernel
  have hnl := feedAll_len [tX] [1, 2, 3, 4] (startS [tX]) (startS_len _)
  have htl := feedAll_tot [tX] [1, 2, 3, 4] (startS [tX]) (startS_len _)
  have hbk := feedAll_back [tX] 300000 (by omega) [1, 2, 3, 4] (startS [tX]) (startS_len _) (back_start _ _)
  have hE1 : endS [tX] (feedAll [tX] (startS [tX]) [1, 2, 3, 4]).1 = [3, 4] := by decide +kernel
  have hcf := fed_any _ 1 1 [tX] _ 4 4 [1, 2, 3, 4] V3_0 hL (by intro x hx; simp at hx; subst hx; unfold Small; decide) (by intro x hx; simp at hx; subst hx; unfold ToI I64; decide) hg (by decide) (by decide)
  rw [hr] at hcf
  obtain ⟨S1, hS1⟩ : ∃ s, (feedAll [tX] (startS [tX]) [1, 2, 3, 4]).1 = s := ⟨_, rfl⟩
  rw [hS1] at hcf hnl htl hbk hE1
  rw [tot_start, hr] at htl
  clear hr hS1 hg kb3_0
  replace hnl := hide hnl; replace htl := hide htl; replace hbk := hide hbk; replace hE1 := hide hE1
  have hcq := hcf
  replace hcq := hide hcq
  replace hz := hide hz; replace hX := hide hX; replace hL := hide hL; replace kb0_5 := hide kb0_5; replace q0 := hide q0; replace r0 := hide r0; replace kb2_0 := hide kb2_0
  replace hV3_0 := hide hV3_0; replace hb3_0 := hide hb3_0
  go_wp2_with fail
  replace hz := unhide hz; replace hX := unhide hX; replace hL := unhide hL; replace kb0_5 := unhide kb0_5; replace q0 := unhide q0; replace r0 := unhide r0; replace kb2_0 := unhide kb2_0
  try rw [unhide hb3_0]
  rw [unhide hV3_0]
  clear hV3_0 hb3_0
  refine (unhide hcq).mono ?_
  rintro e w1x ⟨a1, c1, v1, rfl, q1, hown, hb⟩
  clear hcq
  replace hz := hz.trans (hb.mono hz.size)
  replace hX := hX.under hb
  replace hL := hL.under hb
  replace kb0_5 := kept' hb kb0_5
  replace q0 := q0.under hb
  replace r0 := r0.under hb
  replace kb2_0 := kept' hb kb2_0
  obtain ⟨o1, d1, rfl, -, r1⟩ := own_lst hown (i64_lit [9] (by decide))
  clear hown hb hcf
  have hnl1 := hnl; have htl1 := htl; have hbk1 := hbk
  clear hnl htl hbk
  obtain ⟨b4_0, V4_0, hb4_0, hV4_0, st⟩ := (St.start w1x).new (Obj.cells #[.slice a1 1 c1] 29)
  have kb4_0 := st.get 0 rfl
  have hbb := st.below
  replace hz := hz.trans (hbb.mono hz.size)
  replace hX := hX.under hbb
  replace hL := hL.under hbb
  replace kb0_5 := kept' hbb kb0_5
  replace q0 := q0.under hbb
  replace r0 := r0.under hbb
  replace kb2_0 := kept' hbb kb2_0
  replace q1 := q1.under hbb
  replace r1 := r1.under hbb
  clear st hbb
  replace hz := hide hz; replace hX := hide hX; replace hL := hide hL; replace kb0_5 := hide kb0_5; replace q0 := hide q0; replace r0 := hide r0; replace kb2_0 := hide kb2_0; replace q1 := hide q1; replace r1 := hide r1
  replace hV4_0 := hide hV4_0; replace hb4_0 := hide hb4_0
  go_upto_region 4 with fail
  replace hz := unhide hz; replace hX := unhide hX; replace hL := unhide hL; replace kb0_5 := unhide kb0_5; replace q0 := unhide q0; replace r0 := unhide r0; replace kb2_0 := unhide kb2_0; replace q1 := unhide q1; replace r1 := unhide r1
  try rw [unhide hb4_0]
  rw [unhide hV4_0]
  clear hV4_0 hb4_0
  obtain ⟨b5_0, V5_0, hb5_0, hV5_0, st⟩ := (St.start V4_0).new (Obj.cells #[.int .i64 1, .int .i64 2, .int .i64 4] 3)
  have kb5_0 := st.get 0 rfl
  have hbb := st.below
  replace hz := hz.trans (hbb.mono hz.size)
  replace hX := hX.under hbb
  replace hL := hL.under hbb
  replace kb0_5 := kept' hbb kb0_5
  replace q0 := q0.under hbb
  replace r0 := r0.under hbb
  replace kb2_0 := kept' hbb kb2_0
  replace q1 := q1.under hbb
  replace r1 := r1.under hbb
  replace kb4_0 := kept' hbb kb4_0
  clear st hbb
  have hg := lst_lits (l := [1, 2, 4]) kb5_0 (i64_lit _ (by decide))
  have hr : (feedAll [tX] (startS [tX]) [1, 2, 4]).2 = [1] := by decide +kernel
  have hnl := feedAll_len [tX] [1, 2, 4] (startS [tX]) (startS_len _)
  have htl := feedAll_tot [tX] [1, 2, 4] (startS [tX]) (startS_len _)
  have hbk := feedAll_back [tX] 300000 (by omega) [1, 2, 4] (startS [tX]) (startS_len _) (back_start _ _)
  have hE2 : endS [tX] (feedAll [tX] (startS [tX]) [1, 2, 4]).1 = [8, 4] := by decide +kernel
  have hcf := fed_any _ 1 1 [tX] _ 3 3 [1, 2, 4] V5_0 hL (by intro x hx; simp at hx; subst hx; unfold Small; decide) (by intro x hx; simp at hx; subst hx; unfold ToI I64; decide) hg (by decide) (by decide)
  rw [hr] at hcf
  obtain ⟨S2, hS2⟩ : ∃ s, (feedAll [tX] (startS [tX]) [1, 2, 4]).1 = s := ⟨_, rfl⟩
  rw [hS2] at hcf hnl htl hbk hE2
  rw [tot_start, hr] at htl
  clear hr hS2 hg kb5_0
  replace hnl := hide hnl; replace htl := hide htl; replace hbk := hide hbk; replace hE2 := hide hE2
  have hcq := hcf
  replace hcq := hide hcq
  replace hz := hide hz; replace hX := hide hX; replace hL := hide hL; replace kb0_5 := hide kb0_5; replace q0 := hide q0; replace r0 := hide r0; replace kb2_0 := hide kb2_0; replace q1 := hide q1; replace r1 := hide r1; replace kb4_0 := hide kb4_0
  replace hV5_0 := hide hV5_0; replace hb5_0 := hide hb5_0
  go_wp2_with fail
  replace hz := unhide hz; replace hX := unhide hX; replace hL := unhide hL; replace kb0_5 := unhide kb0_5; replace q0 := unhide q0; replace r0 := unhide r0; replace kb2_0 := unhide kb2_0; replace q1 := unhide q1; replace r1 := unhide r1; replace kb4_0 := unhide kb4_0
  try rw [unhide hb5_0]
  rw [unhide hV5_0]
  clear hV5_0 hb5_0
  refine (unhide hcq).mono ?_
  rintro e w2x ⟨a2, c2, v2, rfl, q2, hown, hb⟩
  clear hcq
  replace hz := hz.trans (hb.mono hz.size)
  replace hX := hX.under hb
  replace hL := hL.under hb
  replace kb0_5 := kept' hb kb0_5
  replace q0 := q0.under hb
  replace r0 := r0.under hb
  replace kb2_0 := kept' hb kb2_0
  replace q1 := q1.under hb
  replace r1 := r1.under hb
  replace kb4_0 := kept' hb kb4_0
  obtain ⟨o2, d2, rfl, -, r2⟩ := own_lst hown (i64_lit [1] (by decide))
  clear hown hb hcf
  have hnl2 := hnl; have htl2 := htl; have hbk2 := hbk
  clear hnl htl hbk
  obtain ⟨b6_0, V6_0, hb6_0, hV6_0, st⟩ := (St.start w2x).new (Obj.cells #[.slice a2 1 c2] 29)
  have kb6_0 := st.get 0 rfl
  have hbb := st.below
  replace hz := hz.trans (hbb.mono hz.size)
  replace hX := hX.under hbb
  replace hL := hL.under hbb
  replace kb0_5 := kept' hbb kb0_5
  replace q0 := q0.under hbb
  replace r0 := r0.under hbb
  replace kb2_0 := kept' hbb kb2_0
  replace q1 := q1.under hbb
  replace r1 := r1.under hbb
  replace kb4_0 := kept' hbb kb4_0
  replace q2 := q2.under hbb
  replace r2 := r2.under hbb
  clear st hbb
  replace hz := hide hz; replace hX := hide hX; replace hL := hide hL; replace kb0_5 := hide kb0_5; replace q0 := hide q0; replace r0 := hide r0; replace kb2_0 := hide kb2_0; replace q1 := hide q1; replace r1 := hide r1; replace kb4_0 := hide kb4_0; replace q2 := hide q2; replace r2 := hide r2
  replace hV6_0 := hide hV6_0; replace hb6_0 := hide hb6_0
  go_upto_region 5 with fail
  replace hz := unhide hz; replace hX := unhide hX; replace hL := unhide hL; replace kb0_5 := unhide kb0_5; replace q0 := unhide q0; replace r0 := unhide r0; replace kb2_0 := unhide kb2_0; replace q1 := unhide q1; replace r1 := unhide r1; replace kb4_0 := unhide kb4_0; replace q2 := unhide q2; replace r2 := unhide r2
  try rw [unhide hb6_0]
  rw [unhide hV6_0]
  clear hV6_0 hb6_0
  obtain ⟨b7_0, V7_0, hb7_0, hV7_0, st⟩ := (St.start V6_0).new (Obj.cells #[.int .i64 1, .int .i64 2] 3)
  have kb7_0 := st.get 0 rfl
  have hbb := st.below
  replace hz := hz.trans (hbb.mono hz.size)
  replace hX := hX.under hbb
  replace hL := hL.under hbb
  replace kb0_5 := kept' hbb kb0_5
  replace q0 := q0.under hbb
  replace r0 := r0.under hbb
  replace kb2_0 := kept' hbb kb2_0
  replace q1 := q1.under hbb
  replace r1 := r1.under hbb
  replace kb4_0 := kept' hbb kb4_0
  replace q2 := q2.under hbb
  replace r2 := r2.under hbb
  replace kb6_0 := kept' hbb kb6_0
  clear st hbb
  have hg := lst_lits (l := [1, 2]) kb7_0 (i64_lit _ (by decide))
  have hr : (feedAll [tX] (startS [tX]) [1, 2]).2 = [] := by decide +kernel
  have hnl := feedAll_len [tX] [1, 2] (startS [tX]) (startS_len _)
  have htl := feedAll_tot [tX] [1, 2] (startS [tX]) (startS_len _)
  have hbk := feedAll_back [tX] 300000 (by omega) [1, 2] (startS [tX]) (startS_len _) (back_start _ _)
  have hcf := fed_any _ 1 1 [tX] _ 2 2 [1, 2] V7_0 hL (by intro x hx; simp at hx; subst hx; unfold Small; decide) (by intro x hx; simp at hx; subst hx; unfold ToI I64; decide) hg (by decide) (by decide)
  rw [hr] at hcf
  obtain ⟨S3, hS3⟩ : ∃ s, (feedAll [tX] (startS [tX]) [1, 2]).1 = s := ⟨_, rfl⟩
  rw [hS3] at hcf hnl htl hbk
  rw [tot_start, hr] at htl
  clear hr hS3 hg kb7_0
  replace hnl := hide hnl; replace htl := hide htl; replace hbk := hide hbk
  have hcq := hcf
  replace hcq := hide hcq
  replace hz := hide hz; replace hX := hide hX; replace hL := hide hL; replace kb0_5 := hide kb0_5; replace q0 := hide q0; replace r0 := hide r0; replace kb2_0 := hide kb2_0; replace q1 := hide q1; replace r1 := hide r1; replace kb4_0 := hide kb4_0; replace q2 := hide q2; replace r2 := hide r2; replace kb6_0 := hide kb6_0
  replace hV7_0 := hide hV7_0; replace hb7_0 := hide hb7_0
  go_wp2_with fail
  replace hz := unhide hz; replace hX := unhide hX; replace hL := unhide hL; replace kb0_5 := unhide kb0_5; replace q0 := unhide q0; replace r0 := unhide r0; replace kb2_0 := unhide kb2_0; replace q1 := unhide q1; replace r1 := unhide r1; replace kb4_0 := unhide kb4_0; replace q2 := unhide q2; replace r2 := unhide r2; replace kb6_0 := unhide kb6_0
  try rw [unhide hb7_0]
  rw [unhide hV7_0]
  clear hV7_0 hb7_0
  refine (unhide hcq).mono ?_
  rintro e w3x ⟨a3, c3, v3, rfl, q3, hown, hb⟩
  clear hcq
  replace hz := hz.trans (hb.mono hz.size)
  replace hX := hX.under hb
  replace hL := hL.under hb
  replace kb0_5 := kept' hb kb0_5
  replace q0 := q0.under hb
  replace r0 := r0.under hb
  replace kb2_0 := kept' hb kb2_0
  replace q1 := q1.under hb
  replace r1 := r1.under hb
  replace kb4_0 := kept' hb kb4_0
  replace q2 := q2.under hb
  replace r2 := r2.under hb
  replace kb6_0 := kept' hb kb6_0
  obtain ⟨o3, d3, rfl, -, r3⟩ := own_lst hown (i64_lit [] (by decide))
  clear hown hb hcf
  have hnl3 := hnl; have htl3 := htl; have hbk3 := hbk
  clear hnl htl hbk
  obtain ⟨b8_0, V8_0, hb8_0, hV8_0, st⟩ := (St.start w3x).new (Obj.cells #[.slice a3 1 c3] 29)
  have kb8_0 := st.get 0 rfl
  have hbb := st.below
  replace hz := hz.trans (hbb.mono hz.size)
  replace hX := hX.under hbb
  replace hL := hL.under hbb
  replace kb0_5 := kept' hbb kb0_5
  replace q0 := q0.under hbb
  replace r0 := r0.under hbb
  replace kb2_0 := kept' hbb kb2_0
  replace q1 := q1.under hbb
  replace r1 := r1.under hbb
  replace kb4_0 := kept' hbb kb4_0
  replace q2 := q2.under hbb
  replace r2 := r2.under hbb
  replace kb6_0 := kept' hbb kb6_0
  replace q3 := q3.under hbb
  replace r3 := r3.under hbb
  clear st hbb
  replace hz := hide hz; replace hX := hide hX; replace hL := hide hL; replace kb0_5 := hide kb0_5; replace q0 := hide q0; replace r0 := hide r0; replace kb2_0 := hide kb2_0; replace q1 := hide q1; replace r1 := hide r1; replace kb4_0 := hide kb4_0; replace q2 := hide q2; replace r2 := hide r2; replace kb6_0 := hide kb6_0; replace q3 := hide q3; replace r3 := hide r3
  replace hV8_0 := hide hV8_0; replace hb8_0 := hide hb8_0
  go_upto_region 6 with fail
  replace hz := unhide hz; replace hX := unhide hX; replace hL := unhide hL; replace kb0_5 := unhide kb0_5; replace q0 := unhide q0; replace r0 := unhide r0; replace kb2_0 := unhide kb2_0; replace q1 := unhide q1; replace r1 := unhide r1; replace kb4_0 := unhide kb4_0; replace q2 := unhide q2; replace r2 := unhide r2; replace kb6_0 := unhide kb6_0; replace q3 := unhide q3; replace r3 := unhide r3
  try rw [unhide hb8_0]
  rw [unhide hV8_0]
  clear hV8_0 hb8_0
  clear kb8_0
  clear q3
  obtain ⟨b9_0, V9_0, hb9_0, hV9_0, st⟩ := (St.start V8_0).new (Obj.cells #[.int .i64 9] 3)
  have kb9_0 := st.get 0 rfl
  have hbb := st.below
  replace hz := hz.trans (hbb.mono hz.size)
  replace hX := hX.under hbb
  replace hL := hL.under hbb
  replace kb0_5 := kept' hbb kb0_5
  replace q0 := q0.under hbb
  replace r0 := r0.under hbb
  replace kb2_0 := kept' hbb kb2_0
  replace q1 := q1.under hbb
  replace r1 := r1.under hbb
  replace kb4_0 := kept' hbb kb4_0
  replace q2 := q2.under hbb
  replace r2 := r2.under hbb
  replace kb6_0 := kept' hbb kb6_0
  replace r3 := r3.under hbb
  clear st hbb
  have hq := lst_lits (l := [9]) kb9_0 (i64_lit _ (by decide))
  have hcs := sameInts_blw o0 1 d0 [9] _ 1 1 [9] V9_0 r0 hq (by decide) (by decide)
  rw [decide_eq_true rfl] at hcs
  clear hq kb9_0
  have hcq := hcs
  replace hcq := hide hcq
  replace hz := hide hz; replace hX := hide hX; replace hL := hide hL; replace kb0_5 := hide kb0_5; replace q0 := hide q0; replace r0 := hide r0; replace kb2_0 := hide kb2_0; replace q1 := hide q1; replace r1 := hide r1; replace kb4_0 := hide kb4_0; replace q2 := hide q2; replace r2 := hide r2; replace kb6_0 := hide kb6_0; replace r3 := hide r3
  replace hV9_0 := hide hV9_0; replace hb9_0 := hide hb9_0
  go_wp2_with fail
  replace hz := unhide hz; replace hX := unhide hX; replace hL := unhide hL; replace kb0_5 := unhide kb0_5; replace q0 := unhide q0; replace r0 := unhide r0; replace kb2_0 := unhide kb2_0; replace q1 := unhide q1; replace r1 := unhide r1; replace kb4_0 := unhide kb4_0; replace q2 := unhide q2; replace r2 := unhide r2; replace kb6_0 := unhide kb6_0; replace r3 := unhide r3
  try rw [unhide hb9_0]
  rw [unhide hV9_0]
  clear hV9_0 hb9_0
  refine (unhide hcq).mono ?_
  rintro e y1 ⟨rfl, hb⟩
  clear hcq
  replace hz := hz.trans (hb.mono hz.size)
  replace hX := hX.under hb
  replace hL := hL.under hb
  replace kb0_5 := kept' hb kb0_5
  replace q0 := q0.under hb
  replace r0 := r0.under hb
  replace kb2_0 := kept' hb kb2_0
  replace q1 := q1.under hb
  replace r1 := r1.under hb
  replace kb4_0 := kept' hb kb4_0
  replace q2 := q2.under hb
  replace r2 := r2.under hb
  replace kb6_0 := kept' hb kb6_0
  replace r3 := r3.under hb
  clear hb hcs
  obtain ⟨b10_0, V10_0, hb10_0, hV10_0, st⟩ := (St.start y1).new (Obj.cells #[.int .i64 9] 3)
  have kb10_0 := st.get 0 rfl
  have hbb := st.below
  replace hz := hz.trans (hbb.mono hz.size)
  replace hX := hX.under hbb
  replace hL := hL.under hbb
  replace kb0_5 := kept' hbb kb0_5
  replace q0 := q0.under hbb
  replace r0 := r0.under hbb
  replace kb2_0 := kept' hbb kb2_0
  replace q1 := q1.under hbb
  replace r1 := r1.under hbb
  replace kb4_0 := kept' hbb kb4_0
  replace q2 := q2.under hbb
  replace r2 := r2.under hbb
  replace kb6_0 := kept' hbb kb6_0
  replace r3 := r3.under hbb
  clear st hbb
  have hq := lst_lits (l := [9]) kb10_0 (i64_lit _ (by decide))
  have hcs := sameInts_blw o1 1 d1 [9] _ 1 1 [9] V10_0 r1 hq (by decide) (by decide)
  rw [decide_eq_true rfl] at hcs
  clear hq kb10_0
  have hcq := hcs
  replace hcq := hide hcq
  replace hz := hide hz; replace hX := hide hX; replace hL := hide hL; replace kb0_5 := hide kb0_5; replace q0 := hide q0; replace r0 := hide r0; replace kb2_0 := hide kb2_0; replace q1 := hide q1; replace r1 := hide r1; replace kb4_0 := hide kb4_0; replace q2 := hide q2; replace r2 := hide r2; replace kb6_0 := hide kb6_0; replace r3 := hide r3
  replace hV10_0 := hide hV10_0; replace hb10_0 := hide hb10_0
  go_wp2_with fail
  replace hz := unhide hz; replace hX := unhide hX; replace hL := unhide hL; replace kb0_5 := unhide kb0_5; replace q0 := unhide q0; replace r0 := unhide r0; replace kb2_0 := unhide kb2_0; replace q1 := unhide q1; replace r1 := unhide r1; replace kb4_0 := unhide kb4_0; replace q2 := unhide q2; replace r2 := unhide r2; replace kb6_0 := unhide kb6_0; replace r3 := unhide r3
  try rw [unhide hb10_0]
  rw [unhide hV10_0]
  clear hV10_0 hb10_0
  refine (unhide hcq).mono ?_
  rintro e y2 ⟨rfl, hb⟩
  clear hcq
  replace hz := hz.trans (hb.mono hz.size)
  replace hX := hX.under hb
  replace hL := hL.under hb
  replace kb0_5 := kept' hb kb0_5
  replace q0 := q0.under hb
  replace r0 := r0.under hb
  replace kb2_0 := kept' hb kb2_0
  replace q1 := q1.under hb
  replace r1 := r1.under hb
  replace kb4_0 := kept' hb kb4_0
  replace q2 := q2.under hb
  replace r2 := r2.under hb
  replace kb6_0 := kept' hb kb6_0
  replace r3 := r3.under hb
  clear hb hcs
  have db1 := blk_cell kb4_0
  have hce := end_any _ 1 1 [tX] a1 c1 S1 y2 hL (by intro x hx; simp at hx; subst hx; unfold Small; decide) (by intro x hx; simp at hx; subst hx; unfold ToI I64; decide) q1 (by decide) (unhide hbk1) (by have := unhide htl1; unfold tot at *; simp only [List.length_nil, List.length_cons] at *; omega)
  rw [unhide hE1] at hce
  have hcq := hce
  replace hcq := hide hcq
  replace hz := hide hz; replace hX := hide hX; replace hL := hide hL; replace kb0_5 := hide kb0_5; replace q0 := hide q0; replace r0 := hide r0; replace kb2_0 := hide kb2_0; replace q1 := hide q1; replace r1 := hide r1; replace kb4_0 := hide kb4_0; replace q2 := hide q2; replace r2 := hide r2; replace kb6_0 := hide kb6_0; replace r3 := hide r3
  go_wp2_with fail
  replace hz := unhide hz; replace hX := unhide hX; replace hL := unhide hL; replace kb0_5 := unhide kb0_5; replace q0 := unhide q0; replace r0 := unhide r0; replace kb2_0 := unhide kb2_0; replace q1 := unhide q1; replace r1 := unhide r1; replace kb4_0 := unhide kb4_0; replace q2 := unhide q2; replace r2 := unhide r2; replace kb6_0 := unhide kb6_0; replace r3 := unhide r3
  refine (unhide hcq).mono ?_
  rintro e z1 ⟨oe, ce, rfl, he, -, hb⟩
  clear hcq
  replace hz := hz.trans (hb.mono hz.size)
  replace hX := hX.under hb
  replace hL := hL.under hb
  replace kb0_5 := kept' hb kb0_5
  replace q0 := q0.under hb
  replace r0 := r0.under hb
  replace kb2_0 := kept' hb kb2_0
  replace q1 := q1.under hb
  replace r1 := r1.under hb
  replace kb4_0 := kept' hb kb4_0
  replace q2 := q2.under hb
  replace r2 := r2.under hb
  replace kb6_0 := kept' hb kb6_0
  replace r3 := r3.under hb
  clear hb hce db1
  obtain ⟨b11_0, V11_0, hb11_0, hV11_0, st⟩ := (St.start z1).new (Obj.cells #[.int .i64 3, .int .i64 4] 3)
  have kb11_0 := st.get 0 rfl
  have hbb := st.below
  replace hz := hz.trans (hbb.mono hz.size)
  replace hX := hX.under hbb
  replace hL := hL.under hbb
  replace kb0_5 := kept' hbb kb0_5
  replace q0 := q0.under hbb
  replace r0 := r0.under hbb
  replace kb2_0 := kept' hbb kb2_0
  replace q1 := q1.under hbb
  replace r1 := r1.under hbb
  replace kb4_0 := kept' hbb kb4_0
  replace q2 := q2.under hbb
  replace r2 := r2.under hbb
  replace kb6_0 := kept' hbb kb6_0
  replace r3 := r3.under hbb
  replace he := he.under hbb
  clear st hbb
  have hq := lst_lits (l := [3, 4]) kb11_0 (i64_lit _ (by decide))
  have hcs := sameInts_blw oe 2 ce [3, 4] _ 2 2 [3, 4] V11_0 he hq (by decide) (by decide)
  rw [decide_eq_true rfl] at hcs
  clear hq kb11_0
  have hcq := hcs
  replace hcq := hide hcq
  replace hz := hide hz; replace hX := hide hX; replace hL := hide hL; replace kb0_5 := hide kb0_5; replace q0 := hide q0; replace r0 := hide r0; replace kb2_0 := hide kb2_0; replace q1 := hide q1; replace r1 := hide r1; replace kb4_0 := hide kb4_0; replace q2 := hide q2; replace r2 := hide r2; replace kb6_0 := hide kb6_0; replace r3 := hide r3; replace he := hide he
  replace hV11_0 := hide hV11_0; replace hb11_0 := hide hb11_0
  go_wp2_with fail
  replace hz := unhide hz; replace hX := unhide hX; replace hL := unhide hL; replace kb0_5 := unhide kb0_5; replace q0 := unhide q0; replace r0 := unhide r0; replace kb2_0 := unhide kb2_0; replace q1 := unhide q1; replace r1 := unhide r1; replace kb4_0 := unhide kb4_0; replace q2 := unhide q2; replace r2 := unhide r2; replace kb6_0 := unhide kb6_0; replace r3 := unhide r3; replace he := unhide he
  try rw [unhide hb11_0]
  rw [unhide hV11_0]
  clear hV11_0 hb11_0
  refine (unhide hcq).mono ?_
  rintro e y3 ⟨rfl, hb⟩
  clear hcq
  replace hz := hz.trans (hb.mono hz.size)
  replace hX := hX.under hb
  replace hL := hL.under hb
  replace kb0_5 := kept' hb kb0_5
  replace q0 := q0.under hb
  replace r0 := r0.under hb
  replace kb2_0 := kept' hb kb2_0
  replace q1 := q1.under hb
  replace r1 := r1.under hb
  replace kb4_0 := kept' hb kb4_0
  replace q2 := q2.under hb
  replace r2 := r2.under hb
  replace kb6_0 := kept' hb kb6_0
  replace r3 := r3.under hb
  replace he := he.under hb
  clear hb hcs
  clear he
  obtain ⟨b12_0, V12_0, hb12_0, hV12_0, st⟩ := (St.start y3).new (Obj.cells #[.int .i64 1] 3)
  have kb12_0 := st.get 0 rfl
  have hbb := st.below
  replace hz := hz.trans (hbb.mono hz.size)
  replace hX := hX.under hbb
  replace hL := hL.under hbb
  replace kb0_5 := kept' hbb kb0_5
  replace q0 := q0.under hbb
  replace r0 := r0.under hbb
  replace kb2_0 := kept' hbb kb2_0
  replace q1 := q1.under hbb
  replace r1 := r1.under hbb
  replace kb4_0 := kept' hbb kb4_0
  replace q2 := q2.under hbb
  replace r2 := r2.under hbb
  replace kb6_0 := kept' hbb kb6_0
  replace r3 := r3.under hbb
  clear st hbb
  have hq := lst_lits (l := [1]) kb12_0 (i64_lit _ (by decide))
  have hcs := sameInts_blw o2 1 d2 [1] _ 1 1 [1] V12_0 r2 hq (by decide) (by decide)
  rw [decide_eq_true rfl] at hcs
  clear hq kb12_0
  have hcq := hcs
  replace hcq := hide hcq
  replace hz := hide hz; replace hX := hide hX; replace hL := hide hL; replace kb0_5 := hide kb0_5; replace q0 := hide q0; replace r0 := hide r0; replace kb2_0 := hide kb2_0; replace q1 := hide q1; replace r1 := hide r1; replace kb4_0 := hide kb4_0; replace q2 := hide q2; replace r2 := hide r2; replace kb6_0 := hide kb6_0; replace r3 := hide r3
  replace hV12_0 := hide hV12_0; replace hb12_0 := hide hb12_0
  go_wp2_with fail
  replace hz := unhide hz; replace hX := unhide hX; replace hL := unhide hL; replace kb0_5 := unhide kb0_5; replace q0 := unhide q0; replace r0 := unhide r0; replace kb2_0 := unhide kb2_0; replace q1 := unhide q1; replace r1 := unhide r1; replace kb4_0 := unhide kb4_0; replace q2 := unhide q2; replace r2 := unhide r2; replace kb6_0 := unhide kb6_0; replace r3 := unhide r3
  try rw [unhide hb12_0]
  rw [unhide hV12_0]
  clear hV12_0 hb12_0
  refine (unhide hcq).mono ?_
  rintro e y4 ⟨rfl, hb⟩
  clear hcq
  replace hz := hz.trans (hb.mono hz.size)
  replace hX := hX.under hb
  replace hL := hL.under hb
  replace kb0_5 := kept' hb kb0_5
  replace q0 := q0.under hb
  replace r0 := r0.under hb
  replace kb2_0 := kept' hb kb2_0
  replace q1 := q1.under hb
  replace r1 := r1.under hb
  replace kb4_0 := kept' hb kb4_0
  replace q2 := q2.under hb
  replace r2 := r2.under hb
  replace kb6_0 := kept' hb kb6_0
  replace r3 := r3.under hb
  clear hb hcs
  have db2 := blk_cell kb6_0
  have hce := end_any _ 1 1 [tX] a2 c2 S2 y4 hL (by intro x hx; simp at hx; subst hx; unfold Small; decide) (by intro x hx; simp at hx; subst hx; unfold ToI I64; decide) q2 (by decide) (unhide hbk2) (by have := unhide htl2; unfold tot at *; simp only [List.length_nil, List.length_cons] at *; omega)
  rw [unhide hE2] at hce
  have hcq := hce
  replace hcq := hide hcq
  replace hz := hide hz; replace hX := hide hX; replace hL := hide hL; replace kb0_5 := hide kb0_5; replace q0 := hide q0; replace r0 := hide r0; replace kb2_0 := hide kb2_0; replace q1 := hide q1; replace r1 := hide r1; replace kb4_0 := hide kb4_0; replace q2 := hide q2; replace r2 := hide r2; replace kb6_0 := hide kb6_0; replace r3 := hide r3
  go_wp2_with fail
  replace hz := unhide hz; replace hX := unhide hX; replace hL := unhide hL; replace kb0_5 := unhide kb0_5; replace q0 := unhide q0; replace r0 := unhide r0; replace kb2_0 := unhide kb2_0; replace q1 := unhide q1; replace r1 := unhide r1; replace kb4_0 := unhide kb4_0; replace q2 := unhide q2; replace r2 := unhide r2; replace kb6_0 := unhide kb6_0; replace r3 := unhide r3
  refine (unhide hcq).mono ?_
  rintro e z2 ⟨oe, ce, rfl, he, -, hb⟩
  clear hcq
  replace hz := hz.trans (hb.mono hz.size)
  replace hX := hX.under hb
  replace hL := hL.under hb
  replace kb0_5 := kept' hb kb0_5
  replace q0 := q0.under hb
  replace r0 := r0.under hb
  replace kb2_0 := kept' hb kb2_0
  replace q1 := q1.under hb
  replace r1 := r1.under hb
  replace kb4_0 := kept' hb kb4_0
  replace q2 := q2.under hb
  replace r2 := r2.under hb
  replace kb6_0 := kept' hb kb6_0
  replace r3 := r3.under hb
  clear hb hce db2
  obtain ⟨b13_0, V13_0, hb13_0, hV13_0, st⟩ := (St.start z2).new (Obj.cells #[.int .i64 8, .int .i64 4] 3)
  have kb13_0 := st.get 0 rfl
  have hbb := st.below
  replace hz := hz.trans (hbb.mono hz.size)
  replace hX := hX.under hbb
  replace hL := hL.under hbb
  replace kb0_5 := kept' hbb kb0_5
  replace q0 := q0.under hbb
  replace r0 := r0.under hbb
  replace kb2_0 := kept' hbb kb2_0
  replace q1 := q1.under hbb
  replace r1 := r1.under hbb
  replace kb4_0 := kept' hbb kb4_0
  replace q2 := q2.under hbb
  replace r2 := r2.under hbb
  replace kb6_0 := kept' hbb kb6_0
  replace r3 := r3.under hbb
  replace he := he.under hbb
  clear st hbb
  have hq := lst_lits (l := [8, 4]) kb13_0 (i64_lit _ (by decide))
  have hcs := sameInts_blw oe 2 ce [8, 4] _ 2 2 [8, 4] V13_0 he hq (by decide) (by decide)
  rw [decide_eq_true rfl] at hcs
  clear hq kb13_0
  have hcq := hcs
  replace hcq := hide hcq
  replace hz := hide hz; replace hX := hide hX; replace hL := hide hL; replace kb0_5 := hide kb0_5; replace q0 := hide q0; replace r0 := hide r0; replace kb2_0 := hide kb2_0; replace q1 := hide q1; replace r1 := hide r1; replace kb4_0 := hide kb4_0; replace q2 := hide q2; replace r2 := hide r2; replace kb6_0 := hide kb6_0; replace r3 := hide r3; replace he := hide he
  replace hV13_0 := hide hV13_0; replace hb13_0 := hide hb13_0
  go_wp2_with fail
  replace hz := unhide hz; replace hX := unhide hX; replace hL := unhide hL; replace kb0_5 := unhide kb0_5; replace q0 := unhide q0; replace r0 := unhide r0; replace kb2_0 := unhide kb2_0; replace q1 := unhide q1; replace r1 := unhide r1; replace kb4_0 := unhide kb4_0; replace q2 := unhide q2; replace r2 := unhide r2; replace kb6_0 := unhide kb6_0; replace r3 := unhide r3; replace he := unhide he
  try rw [unhide hb13_0]
  rw [unhide hV13_0]
  clear hV13_0 hb13_0
  refine (unhide hcq).mono ?_
  rintro e y5 ⟨rfl, hb⟩
  clear hcq
  replace hz := hz.trans (hb.mono hz.size)
  replace hX := hX.under hb
  replace hL := hL.under hb
  replace kb0_5 := kept' hb kb0_5
  replace q0 := q0.under hb
  replace r0 := r0.under hb
  replace kb2_0 := kept' hb kb2_0
  replace q1 := q1.under hb
  replace r1 := r1.under hb
  replace kb4_0 := kept' hb kb4_0
  replace q2 := q2.under hb
  replace r2 := r2.under hb
  replace kb6_0 := kept' hb kb6_0
  replace r3 := r3.under hb
  replace he := he.under hb
  clear hb hcs
  clear he
  have hcst := start_any none 0 0 y5 (by decide)
  have hcq := hcst
  replace hcq := hide hcq
  replace hz := hide hz; replace hX := hide hX; replace hL := hide hL; replace kb0_5 := hide kb0_5; replace q0 := hide q0; replace r0 := hide r0; replace kb2_0 := hide kb2_0; replace q1 := hide q1; replace r1 := hide r1; replace kb4_0 := hide kb4_0; replace q2 := hide q2; replace r2 := hide r2; replace kb6_0 := hide kb6_0; replace r3 := hide r3
  go_wp2_with fail
  replace hz := unhide hz; replace hX := unhide hX; replace hL := unhide hL; replace kb0_5 := unhide kb0_5; replace q0 := unhide q0; replace r0 := unhide r0; replace kb2_0 := unhide kb2_0; replace q1 := unhide q1; replace r1 := unhide r1; replace kb4_0 := unhide kb4_0; replace q2 := unhide q2; replace r2 := unhide r2; replace kb6_0 := unhide kb6_0; replace r3 := unhide r3
  refine (unhide hcq).mono ?_
  rintro e u1 ⟨a7, rfl, h7, hb⟩
  clear hcq
  replace hz := hz.trans (hb.mono hz.size)
  replace hX := hX.under hb
  replace hL := hL.under hb
  replace kb0_5 := kept' hb kb0_5
  replace q0 := q0.under hb
  replace r0 := r0.under hb
  replace kb2_0 := kept' hb kb2_0
  replace q1 := q1.under hb
  replace r1 := r1.under hb
  replace kb4_0 := kept' hb kb4_0
  replace q2 := q2.under hb
  replace r2 := r2.under hb
  replace kb6_0 := kept' hb kb6_0
  replace r3 := r3.under hb
  replace h7 := h7.wide (S' := fun b => b < u1.heap.size) (fun b hb => hb.2)
  clear hb hcst
  have hcf7 := feed_any none 0 0 [] a7 0 [] 7 u1 (Lst.nil _ _ _ _) (by intro x hx; cases hx) (by intro x hx; cases hx) h7 (by decide) ⟨by decide, by decide⟩ (by intro s hs; cases hs) (by decide)
  have hcq := hcf7
  replace hcq := hide hcq
  replace hz := hide hz; replace hX := hide hX; replace hL := hide hL; replace kb0_5 := hide kb0_5; replace q0 := hide q0; replace r0 := hide r0; replace kb2_0 := hide kb2_0; replace q1 := hide q1; replace r1 := hide r1; replace kb4_0 := hide kb4_0; replace q2 := hide q2; replace r2 := hide r2; replace kb6_0 := hide kb6_0; replace r3 := hide r3; replace h7 := hide h7
  go_wp2_with fail
  replace hz := unhide hz; replace hX := unhide hX; replace hL := unhide hL; replace kb0_5 := unhide kb0_5; replace q0 := unhide q0; replace r0 := unhide r0; replace kb2_0 := unhide kb2_0; replace q1 := unhide q1; replace r1 := unhide r1; replace kb4_0 := unhide kb4_0; replace q2 := unhide q2; replace r2 := unhide r2; replace kb6_0 := unhide kb6_0; replace r3 := unhide r3; replace h7 := unhide h7
  refine (unhide hcq).mono ?_
  rintro e u2 ⟨a8, o8, c8, rfl, h8, r8, hb⟩
  clear hcq
  replace hz := hz.trans (hb.mono hz.size)
  replace hX := hX.under hb
  replace hL := hL.under hb
  replace kb0_5 := kept' hb kb0_5
  replace q0 := q0.under hb
  replace r0 := r0.under hb
  replace kb2_0 := kept' hb kb2_0
  replace q1 := q1.under hb
  replace r1 := r1.under hb
  replace kb4_0 := kept' hb kb4_0
  replace q2 := q2.under hb
  replace r2 := r2.under hb
  replace kb6_0 := kept' hb kb6_0
  replace r3 := r3.under hb
  replace h7 := h7.under hb
  replace r8 := r8.wide (S' := fun b => b < u2.heap.size) (fun b hb => hb.2)
  clear hb hcf7 h8 h7
  obtain ⟨b14_0, V14_0, hb14_0, hV14_0, st⟩ := (St.start u2).new (Obj.cells #[.slice a8 0 0] 29)
  have kb14_0 := st.get 0 rfl
  have hbb := st.below
  replace hz := hz.trans (hbb.mono hz.size)
  replace hX := hX.under hbb
  replace hL := hL.under hbb
  replace kb0_5 := kept' hbb kb0_5
  replace q0 := q0.under hbb
  replace r0 := r0.under hbb
  replace kb2_0 := kept' hbb kb2_0
  replace q1 := q1.under hbb
  replace r1 := r1.under hbb
  replace kb4_0 := kept' hbb kb4_0
  replace q2 := q2.under hbb
  replace r2 := r2.under hbb
  replace kb6_0 := kept' hbb kb6_0
  replace r3 := r3.under hbb
  replace r8 := r8.under hbb
  clear st hbb
  replace hz := hide hz; replace hX := hide hX; replace hL := hide hL; replace kb0_5 := hide kb0_5; replace q0 := hide q0; replace r0 := hide r0; replace kb2_0 := hide kb2_0; replace q1 := hide q1; replace r1 := hide r1; replace kb4_0 := hide kb4_0; replace q2 := hide q2; replace r2 := hide r2; replace kb6_0 := hide kb6_0; replace r3 := hide r3; replace r8 := hide r8
  replace hV14_0 := hide hV14_0; replace hb14_0 := hide hb14_0
  go_upto_region 8 with fail
  replace hz := unhide hz; replace hX := unhide hX; replace hL := unhide hL; replace kb0_5 := unhide kb0_5; replace q0 := unhide q0; replace r0 := unhide r0; replace kb2_0 := unhide kb2_0; replace q1 := unhide q1; replace r1 := unhide r1; replace kb4_0 := unhide kb4_0; replace q2 := unhide q2; replace r2 := unhide r2; replace kb6_0 := unhide kb6_0; replace r3 := unhide r3; replace r8 := unhide r8
  try rw [unhide hb14_0]
  rw [unhide hV14_0]
  clear hV14_0 hb14_0
  clear kb14_0
  have dl := blk_cell kb0_5
  have hcw := window_any _ 2 2 tX V14_0 hX (by unfold Small; decide)
  rw [show winS tX = 3 by decide +kernel] at hcw
  have hcq := hcw
  replace hcq := hide hcq
  replace hz := hide hz; replace hX := hide hX; replace hL := hide hL; replace kb0_5 := hide kb0_5; replace q0 := hide q0; replace r0 := hide r0; replace kb2_0 := hide kb2_0; replace q1 := hide q1; replace r1 := hide r1; replace kb4_0 := hide kb4_0; replace q2 := hide q2; replace r2 := hide r2; replace kb6_0 := hide kb6_0; replace r3 := hide r3; replace r8 := hide r8
  go_wp2_with fail
  replace hz := unhide hz; replace hX := unhide hX; replace hL := unhide hL; replace kb0_5 := unhide kb0_5; replace q0 := unhide q0; replace r0 := unhide r0; replace kb2_0 := unhide kb2_0; replace q1 := unhide q1; replace r1 := unhide r1; replace kb4_0 := unhide kb4_0; replace q2 := unhide q2; replace r2 := unhide r2; replace kb6_0 := unhide kb6_0; replace r3 := unhide r3; replace r8 := unhide r8
  refine (unhide hcq).mono ?_
  rintro e u4 ⟨rfl, hb⟩
  clear hcq
  replace hz := hz.trans (hb.mono hz.size)
  replace hX := hX.under hb
  replace hL := hL.under hb
  replace kb0_5 := kept' hb kb0_5
  replace q0 := q0.under hb
  replace r0 := r0.under hb
  replace kb2_0 := kept' hb kb2_0
  replace q1 := q1.under hb
  replace r1 := r1.under hb
  replace kb4_0 := kept' hb kb4_0
  replace q2 := q2.under hb
  replace r2 := r2.under hb
  replace kb6_0 := kept' hb kb6_0
  replace r3 := r3.under hb
  replace r8 := r8.under hb
  clear hb hcw dl
  have hcw := window_any none 0 0 [] u4 (Lst.nil _ _ _ _) (by unfold Small; simp)
  rw [show winS [] = 1 from rfl] at hcw
  have hcv := hcw
  replace hcv := hide hcv
  replace hz := hide hz; replace hX := hide hX; replace hL := hide hL; replace kb0_5 := hide kb0_5; replace q0 := hide q0; replace r0 := hide r0; replace kb2_0 := hide kb2_0; replace q1 := hide q1; replace r1 := hide r1; replace kb4_0 := hide kb4_0; replace q2 := hide q2; replace r2 := hide r2; replace kb6_0 := hide kb6_0; replace r3 := hide r3; replace r8 := hide r8
  go_wp2_with fail
  replace hz := unhide hz; replace hX := unhide hX; replace hL := unhide hL; replace kb0_5 := unhide kb0_5; replace q0 := unhide q0; replace r0 := unhide r0; replace kb2_0 := unhide kb2_0; replace q1 := unhide q1; replace r1 := unhide r1; replace kb4_0 := unhide kb4_0; replace q2 := unhide q2; replace r2 := unhide r2; replace kb6_0 := unhide kb6_0; replace r3 := unhide r3; replace r8 := unhide r8
  refine (unhide hcv).mono ?_
  rintro e u5 ⟨rfl, hb⟩
  clear hcv
  replace hz := hz.trans (hb.mono hz.size)
  replace hX := hX.under hb
  replace hL := hL.under hb
  replace kb0_5 := kept' hb kb0_5
  replace q0 := q0.under hb
  replace r0 := r0.under hb
  replace kb2_0 := kept' hb kb2_0
  replace q1 := q1.under hb
  replace r1 := r1.under hb
  replace kb4_0 := kept' hb kb4_0
  replace q2 := q2.under hb
  replace r2 := r2.under hb
  replace kb6_0 := kept' hb kb6_0
  replace r3 := r3.under hb
  replace r8 := r8.under hb
  clear hb hcw
  have r9 : Lst Enc.int u5 (fun b => b < u5.heap.size) o8 1 [7] := r8
  obtain ⟨b15_0, V15_0, hb15_0, hV15_0, st⟩ := (St.start u5).new (Obj.cells #[.int .i64 7] 3)
  have kb15_0 := st.get 0 rfl
  have hbb := st.below
  replace hz := hz.trans (hbb.mono hz.size)
  replace hX := hX.under hbb
  replace hL := hL.under hbb
  replace kb0_5 := kept' hbb kb0_5
  replace q0 := q0.under hbb
  replace r0 := r0.under hbb
  replace kb2_0 := kept' hbb kb2_0
  replace q1 := q1.under hbb
  replace r1 := r1.under hbb
  replace kb4_0 := kept' hbb kb4_0
  replace q2 := q2.under hbb
  replace r2 := r2.under hbb
  replace kb6_0 := kept' hbb kb6_0
  replace r3 := r3.under hbb
  replace r8 := r8.under hbb
  replace r9 := r9.under hbb
  clear st hbb
  have hq := lst_lits (l := [7]) kb15_0 (i64_lit _ (by decide))
  have hcs := sameInts_blw o8 1 c8 [7] _ 1 1 [7] V15_0 r9 hq (by decide) (by decide)
  rw [decide_eq_true rfl] at hcs
  clear hq kb15_0
  have hcq := hcs
  replace hcq := hide hcq
  replace hz := hide hz; replace hX := hide hX; replace hL := hide hL; replace kb0_5 := hide kb0_5; replace q0 := hide q0; replace r0 := hide r0; replace kb2_0 := hide kb2_0; replace q1 := hide q1; replace r1 := hide r1; replace kb4_0 := hide kb4_0; replace q2 := hide q2; replace r2 := hide r2; replace kb6_0 := hide kb6_0; replace r3 := hide r3; replace r8 := hide r8; replace r9 := hide r9
  replace hV15_0 := hide hV15_0; replace hb15_0 := hide hb15_0
  go_wp2_with fail
  replace hz := unhide hz; replace hX := unhide hX; replace hL := unhide hL; replace kb0_5 := unhide kb0_5; replace q0 := unhide q0; replace r0 := unhide r0; replace kb2_0 := unhide kb2_0; replace q1 := unhide q1; replace r1 := unhide r1; replace kb4_0 := unhide kb4_0; replace q2 := unhide q2; replace r2 := unhide r2; replace kb6_0 := unhide kb6_0; replace r3 := unhide r3; replace r8 := unhide r8; replace r9 := unhide r9
  try rw [unhide hb15_0]
  rw [unhide hV15_0]
  clear hV15_0 hb15_0
  refine (unhide hcq).mono ?_
  rintro e y6 ⟨rfl, hb⟩
  clear hcq
  replace hz := hz.trans (hb.mono hz.size)
  replace hX := hX.under hb
  replace hL := hL.under hb
  replace kb0_5 := kept' hb kb0_5
  replace q0 := q0.under hb
  replace r0 := r0.under hb
  replace kb2_0 := kept' hb kb2_0
  replace q1 := q1.under hb
  replace r1 := r1.under hb
  replace kb4_0 := kept' hb kb4_0
  replace q2 := q2.under hb
  replace r2 := r2.under hb
  replace kb6_0 := kept' hb kb6_0
  replace r3 := r3.under hb
  replace r8 := r8.under hb
  replace r9 := r9.under hb
  clear hb hcs
  have d0x := blk_cell kb2_0
  replace hz := hide hz; replace hX := hide hX; replace hL := hide hL; replace kb0_5 := hide kb0_5; replace q0 := hide q0; replace r0 := hide r0; replace kb2_0 := hide kb2_0; replace q1 := hide q1; replace r1 := hide r1; replace kb4_0 := hide kb4_0; replace q2 := hide q2; replace r2 := hide r2; replace kb6_0 := hide kb6_0; replace r3 := hide r3; replace r8 := hide r8; replace r9 := hide r9
  go_wp2_with fail
  replace hz := unhide hz; replace hX := unhide hX; replace hL := unhide hL; replace kb0_5 := unhide kb0_5; replace q0 := unhide q0; replace r0 := unhide r0; replace kb2_0 := unhide kb2_0; replace q1 := unhide q1; replace r1 := unhide r1; replace kb4_0 := unhide kb4_0; replace q2 := unhide q2; replace r2 := unhide r2; replace kb6_0 := unhide kb6_0; replace r3 := unhide r3; replace r8 := unhide r8; replace r9 := unhide r9
  go_ret
  exact ⟨rfl, hz⟩
end Go.Proofs.Ytfbgbbbfpkpfkaa
