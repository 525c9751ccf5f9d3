/- The law WireTruncated. -/
import Derived.Test.YtidbjccfkembeaaWi21
namespace Go.Proofs.Ytidbjccfkembeaa
open Go.RowKit

theorem dcd_trunc {q n : Int} {s : ByteArray} {l : List Int} {t : List ByteArray} (hn : I64 n) (hl : ∀ x ∈ l, I64 x) (m : Nat) (hm : m < (serV q n s l t).length) : dcd (q % 4) (some ((serV q n s l t).take m)) = (true, none) := by
  have hlen := (serV_len q n s l t).2
  obtain h | h | h | h : q % 4 = 0 ∨ q % 4 = 1 ∨ q % 4 = 2 ∨ q % 4 = 3 := by omega
  · rw [ser0 h] at *
    have hb := Wi.trunc (f := Wi.rInt) (ser := Wi.int) Wi.rInt_can (fun r => Wi.rInt_of hn r) m hm (by omega)
    rw [h]
    simp [dcd, hb, Wi.rInt_zero hb]
  · rw [ser1 h] at *
    have z := cut1_size s
    have hb := Wi.trunc (f := Wi.rText) (ser := Wi.txt) Wi.rText_can (fun r => Wi.rText_of (l := (cut1 s).data.toList) (by rw [data_len]; omega) r) m hm (by unfold Wi.btxt at hlen; omega)
    rw [h]
    unfold Wi.btxt
    simp [dcd, hb, Wi.rText_zero hb]
  · rw [ser2 h] at *
    have hb := Wi.trunc (f := Wi.rList Wi.rInt) (ser := Wi.ints) Wi.rInts_can (fun r => read_ints (fun x hx => hl x (List.mem_of_mem_take hx)) (by rw [List.length_take]; omega) r) m hm (by omega)
    rw [h]
    simp [dcd, hb, Wi.rList_zero hb]
  · rw [ser3 h, btxts_txts] at *
    have hz : ∀ x ∈ (cutL t).map (fun x => x.data.toList), x.length ≤ 1000000 := by
      intro x hx
      obtain ⟨y, hy, rfl⟩ := List.mem_map.1 hx
      rw [data_len]
      exact Nat.le_trans (cutL_size t y hy) (by omega)
    have hzl : ((cutL t).map (fun x => x.data.toList)).length ≤ 1000000 := by
      rw [List.length_map]
      exact Nat.le_trans (cutL_len t) (by omega)
    have hb := Wi.trunc (f := Wi.rList Wi.rText) (ser := Wi.txts) Wi.rTexts_can (fun r => read_txts hz hzl r) m hm (by omega)
    rw [h]
    simp [dcd, hb, Wi.rList_zero hb]
theorem dcd_bad (k : Int) (hk : 0 ≤ k ∧ k ≤ 3) : dcd k none = (true, none) := by
  obtain rfl | rfl | rfl | rfl : k = 0 ∨ k = 1 ∨ k = 2 ∨ k = 3 := by omega
  all_goals rfl
set_option maxRecDepth 100000 in
set_option maxHeartbeats 4000000 in
theorem truncated_any (cs : Array Value) (k n : Int) (s : ByteArray) (l : List Int) (t : List ByteArray) (z : Int) (w : World) (hv : Val w cs k n s l t) (hz : 0 ≤ z ∧ z ≤ 65535) :
    Calls Try.prog 7 #[.agg cs, .int .u16 z] w fun e w' => e = .returned (.bool true) ∧ Below w.heap.size w w' := by
  have hvv := hv
  obtain ⟨hk, hn, hs, a1, n1, c1, a2, n2, c2, rfl, q1, q2, q3, q4, l1, l2⟩ := hv
  have hl := l1.i64
  clear l1 l2 q1 q2 q3 q4 hs
  obtain ⟨X, hX⟩ : ∃ X, serV k n s l t = X := ⟨_, rfl⟩
  have hXl : 1 ≤ X.length ∧ X.length ≤ 100000000 := by rw [← hX]; exact serV_len _ _ _ _ _
  obtain ⟨hX1, hX2⟩ := hXl
  have md1 : 0 ≤ z % (X.length : Int) := Int.emod_nonneg _ (by omega)
  have md2 : z % (X.length : Int) < (X.length : Int) := Int.emod_lt_of_pos _ (by omega)
  obtain ⟨m, hm⟩ : ∃ m : Nat, (X.length : Int) - 1 - z % (X.length : Int) = (m : Int) := ⟨((X.length : Int) - 1 - z % (X.length : Int)).toNat, by omega⟩
  have hml : m < X.length := by omega
  have hd := dcd_trunc (q := k) (n := n) (s := s) (l := l) (t := t) hn hl m (by rw [hX]; exact hml)
  rw [hX] at hd
  obtain ⟨q, hq⟩ : ∃ q, k % 4 = q := ⟨_, rfl⟩
  have hq4 : 0 ≤ q ∧ q ≤ 3 := by omega
  rw [hq] at hd
  have sX := ba_size X
  have ht := ba_take X m
  have hTl : (X.take m).length ≤ 1000000000000 := by rw [List.length_take]; omega
  obtain ⟨T, hT⟩ : ∃ T, X.take m = T := ⟨_, rfl⟩
  rw [hT] at hd ht hTl
  obtain ⟨x1, w0, e1, e3, st⟩ := St.new1 w (Obj.cells #[.int .u8 k, .int .i64 n, .string s, .slice a1 n1 c1, .slice a2 n2 c2] 45)
  replace e1 := hide e1; replace e3 := hide e3; replace hT := hide hT; replace hd := hide hd; replace hTl := hide hTl
  replace hq := hide hq
  go_enter Try.func7, Try.ntmps7
  go_wp2_with fail
  rw [unhide e3, unhide e1]
  clear e1 e3
  refine (wsanity_any _).mono ?_
  rintro e wa ⟨rfl, hba⟩
  have hv0 := hvv.below st.below
  replace st := st.call hba
  have y0 := st.cell 0 rfl 0 rfl
  have y1 := st.cell 0 rfl 1 rfl
  have y2 := st.cell 0 rfl 2 rfl
  have y3 := st.cell 0 rfl 3 rfl
  have y4 := st.cell 0 rfl 4 rfl
  go_wp2_with fail
  have hby := bytes_any _ k n s l t k wa (hvv.below st.below) hk
  rw [hX] at hby
  refine hby.mono ?_
  rintro e wb ⟨rfl, hbb⟩
  replace st := st.call hbb
  clear y0 y1 y2 y3 y4 hby hX hl hv0 hvv hba hbb
  go_wp2_with fail
  refine (rnew_any T _).mono ?_
  rintro e w1 ⟨rfl, hw1⟩
  replace st := st.alloc (.cells #[.string ⟨T.toArray⟩, .bool false] 56)
  rw [← hw1] at st
  obtain ⟨b, hbe⟩ : ∃ b, wb.heap.size = b := ⟨_, rfl⟩
  rw [hbe] at st ⊢
  clear hw1 hbe
  have y0 := st.cell 1 rfl 0 rfl
  have hrd : Rd w1 b (some T) := st.get 0 rfl
  go_wp2_with fail
  rw [unhide hq]
  refine (decodes_any q b _ _ hq4 hrd (unhide hTl)).mono ?_
  rw [unhide hd]
  rintro e wc ⟨rfl, hr, hg⟩
  have hr0 : Rd wc b none := hr
  have hlb : w.heap.size ≤ b := st.lo _ (List.mem_of_getElem? (i := 0) rfl)
  have hb0 : Below w.heap.size w wc := st.below.grown hg st.size (fun k hk => by cases hk; exact hlb)
  clear hr hg hrd st y0 hd ht hTl hT hm hml
  go_wp2_with fail
  refine (rbad_any b none _ hr0).mono ?_
  rintro e w3 ⟨rfl, rfl⟩
  simp only [Option.isNone_none]
  go_wp2_with fail
  go_loopw [8] (fun v wr => ∃ j : Int, 0 ≤ j ∧ j ≤ 4 ∧ v = .int .i64 j ∧ Rd wr b none ∧ Below w.heap.size w wr) (fun v _ => (4 - intOf v).toNat)
  case atStart => exact ⟨0, by omega, by omega, rfl, hr0, hb0⟩
  case round =>
    obtain ⟨j, hj0, hj4, rfl, hr1, hb1⟩ := hrel
    clear hr0 hb0
    by_cases hlt : j < 4
    · go_wp2_with fail
      refine (decodes_any j b none _ ⟨hj0, by omega⟩ hr1 (by simp)).mono ?_
      rw [dcd_bad j ⟨hj0, by omega⟩]
      rintro e w4 ⟨rfl, hr4, hg4⟩
      have hr4' : Rd w4 b none := hr4
      have hb4 := hb1.grown hg4 hb1.size (fun k hk => by cases hk; exact hlb)
      clear hr4 hg4 hr1 hb1
      go_wp2_with fail
      refine (rbad_any b none _ hr4').mono ?_
      rintro e w5 ⟨rfl, rfl⟩
      simp only [Option.isNone_none]
      go_wp2_with fail
      refine (rleft_any b none _ hr4').mono ?_
      rintro e w5 ⟨rfl, rfl⟩
      simp only [Option.getD_none, List.length_nil]
      go_wp2_with fail
      go_roundw
      case rel => exact ⟨j + 1, by omega, by omega, rfl, hr4', hb4⟩
      case measure => simp [intOf]; omega
    · go_wp2_with fail
      go_ret
      exact ⟨rfl, hb1⟩
theorem truncated_law (cs : Array Value) (y : Int × Int × ByteArray × List Int × List ByteArray) (z : Int) (w : World)
    (h : (Enc.pair (Enc.num .u8 0 255) (Enc.pair Enc.int (Enc.pair Enc.str (Enc.pair (Enc.list Enc.int) (Enc.list Enc.str))))).rep w (fun b => b < w.heap.size) cs.toList y) (hz : 0 ≤ z ∧ z ≤ 65535) :
    Calls Try.prog 7 #[.agg cs, .int .u16 z] w fun e w' => e = .returned (.bool true) ∧ Below w.heap.size w w' :=
  truncated_any _ _ _ _ _ _ _ w (val_of h) hz
end Go.Proofs.Ytidbjccfkembeaa
