/- The method read of the laws' values. -/
import Derived.Test.YtidbjccfkembeaaWi21
namespace Go.Proofs.Ytidbjccfkembeaa
open Go.RowKit
attribute [local go_sem ↓] Go.wp_at_zero Go.wp_at_succ

theorem cell_grown {w w' : World} {x j b : Nat} {v : Value} (h : w.cell? ⟨x, j, none⟩ = some v) (hg : w.grownBy w' (some b)) (hne : x ≠ b) : w'.cell? ⟨x, j, none⟩ = some v :=
  (World.cell?_of_block (a := ⟨x, j, none⟩) (hg.block x (World.block_lt_of_cell? w ⟨x, j, none⟩ h) (by simp; exact hne))).trans h
theorem bs_map (l : List ByteArray) : bs (l.map fun x => x.data.toList) = l := by
  unfold bs
  rw [List.map_map]
  simp [Function.comp_def]
theorem rints_lst (b : Nat) (X R : List UInt8) (L : List Int) (w : World) (h : Rd w b (some X)) (hp : Wi.rList Wi.rInt (some X) = (L, some R)) (hlen : X.length ≤ 1000000000000) :
    Calls Try.prog 27 #[.pointer (some ⟨b, 0, none⟩)] w fun e w' => ∃ a c, e = .returned (.slice a L.length c) ∧ Lst Enc.int w' (fun x => x < w'.heap.size) a L.length L ∧ Rd w' b (some R) ∧ w.grownBy w' (some b) := by
  refine (rintsm_any b (some X) w h hlen).mono ?_
  have hi := rlist_ints (some X)
  rw [hp] at hi ⊢
  rintro e w1 ⟨v, rfl, hown, hr, hg⟩
  obtain ⟨a, c, rfl⟩ := own_shape hown
  exact ⟨a, c, rfl, (lst_own hown hi).1, hr, hg⟩
theorem rtexts_lst (b : Nat) (X R : List UInt8) (L : List ByteArray) (w : World) (h : Rd w b (some X)) (hp : Wi.rList Wi.rText (some X) = (L.map fun x => x.data.toList, some R)) (hlen : X.length ≤ 1000000000000) :
    Calls Try.prog 30 #[.pointer (some ⟨b, 0, none⟩)] w fun e w' => ∃ a c, e = .returned (.slice a L.length c) ∧ Lst Enc.str w' (fun x => x < w'.heap.size) a L.length L ∧ Rd w' b (some R) ∧ w.grownBy w' (some b) := by
  refine (rtextsm_any b (some X) w h hlen).mono ?_
  have hi := rlist_texts (some X)
  rw [hp] at hi ⊢
  rintro e w1 ⟨v, rfl, hown, hr, hg⟩
  obtain ⟨a, c, rfl⟩ := own_shape hown
  have := (lst_own_strs hown (fun x hx => Nat.le_trans (hi x hx) (Nat.le_trans hlen (by decide)))).1
  rw [bs_map] at this
  simp only [List.length_map] at this ⊢
  exact ⟨a, c, rfl, this, hr, hg⟩
theorem lst_grown {α : Type} {E : Enc α} {w w' : World} {a : Option Addr} {n b : Nat} {l : List α} {S : Nat → Prop} (h : Lst E w S a n l) (hg : w.grownBy w' (some b)) (hS : ∀ x, S x → x ≠ b ∧ x < w.heap.size) : Lst E w' S a n l :=
  h.same fun x hx => hg.block x (hS x hx).2 (by simp; exact (hS x hx).1)
set_option maxRecDepth 100000 in
set_option maxHeartbeats 4000000 in
theorem read_any (cs : Array Value) (k n : Int) (s : ByteArray) (l : List Int) (t : List ByteArray) (q : Int) (b : Nat) (X R : List UInt8) (wB w : World) (hv : Val wB cs k n s l t) (hB : Below wB.heap.size wB w) (hbB : wB.heap.size ≤ b) (hq : 0 ≤ q ∧ q ≤ 255)
    (hr : Rd w b (some X)) (hX : X = serV q n s l t ++ R) (hlen : X.length ≤ 1000000000000) :
    Calls Try.prog 37 #[.agg cs, .pointer (some ⟨b, 0, none⟩), .int .u8 q] w fun e w' => e = .returned (.bool true) ∧ Rd w' b (some R) ∧ w.grownBy w' (some b) := by
  obtain ⟨hk, hn, hs, a1, n1, c1, a2, n2, c2, rfl, q1, q2, q3, q4, l1, l2⟩ := hv
  have hl := l1.i64
  have hl1 := l1.1
  unfold maxLen at hs q2 q4
  have hbl : b < w.heap.size := (Array.getElem?_eq_some_iff.1 hr).1
  have m1 : (0 : Int) ≤ min (s.size : Int) 100 := by omega
  have m2 : min (s.size : Int) 100 ≤ (s.size : Int) := by omega
  have m3 : (0 : Int) ≤ min (n1 : Int) 20 := by omega
  have m4 : min (n1 : Int) 20 ≤ (n1 : Int) := by omega
  have m5 : min (n1 : Int) 20 ≤ (c1 : Int) := by omega
  obtain ⟨x1, w0, e1, e3, st⟩ := St.new1 w (Obj.cells #[.int .u8 k, .int .i64 n, .string s, .slice a1 n1 c1, .slice a2 n2 c2] 45)
  have hg0 : w.grownBy w0 (some b) := by rw [← e3]; exact World.grownBy_alloc _ _ _
  have hr0 : Rd w0 b (some X) := rd_below hr st.below hbl
  have hne : x1 ≠ b := by omega
  have d1 := st.cell 0 rfl 1 rfl
  have d2 := st.cell 0 rfl 2 rfl
  have d3 := st.cell 0 rfl 3 rfl
  have d4 := st.cell 0 rfl 4 rfl
  have hB0 : Below wB.heap.size wB w0 := hB.trans (st.below.mono hB.size)
  have under : ∀ w', w0.grownBy w' (some b) → Below wB.heap.size wB w' := fun w' hg => hB0.grown hg hB0.size (fun k hk => by cases hk; exact hbB)
  have k1 := l1.take (k := (min (n1 : Int) 20).toNat) (by omega)
  rw [take20 l1.1] at k1
  replace k1 := hide k1; replace l2 := hide l2; replace under := hide under
  clear l1
  replace e1 := hide e1; replace e3 := hide e3; replace hl1 := hide hl1
  obtain h | h | h | h : q % 4 = 0 ∨ q % 4 = 1 ∨ q % 4 = 2 ∨ q % 4 = 3 := by omega
  · have hp := Wi.rInt_of hn R
    rw [ser0 h] at hX
    have hc := rint2_any b (some X) w0.drew hr0 hlen
    rw [hX, hp] at hc
    replace hc := hide hc
    go_enter Try.func37, Try.ntmps37
    go_wp2_with fail
    rw [unhide e3, unhide e1]
    clear e1 e3
    go_region_held3 (fun w' => w'.cell? ⟨x1, 1, none⟩ = some (.int .i64 n)) (first | go_keep | exact cell_grown (w := w0.drew) d1 gA hne) ((go_at_call 22; (with_reducible refine (unhide hc).mono ?_); rintro e wA ⟨rfl, rA, gA⟩))
    go_wp2_with fail
    go_ret
    exact ⟨by first | rfl | simp, rA, grown_trans hg0 (grown_drew gA)⟩
  · rw [ser1 h] at hX
    have z := cut1_size s
    have hp := Wi.rText_of (l := (cut1 s).data.toList) (by rw [data_len]; omega) R
    have hc := rtextm_any b (some X) w0.drew hr0 hlen
    rw [hX] at hc
    unfold Wi.btxt at hc
    rw [hp] at hc
    simp only [ba_self] at hc
    have t1 : ((cut1 s).toList == (s.extract 0 (min (s.size : Int) 100).toNat).toList) = true := by rw [ba_dec]; simp [cut1]
    replace hc := hide hc
    go_enter Try.func37, Try.ntmps37
    go_wp2_with fail
    rw [unhide e3, unhide e1]
    clear e1 e3
    go_region_held3 (fun w' => w'.cell? ⟨x1, 2, none⟩ = some (.string s)) (first | go_keep | exact cell_grown (w := w0.drew) d2 gA hne) ((go_at_call 24; (with_reducible refine (unhide hc).mono ?_); rintro e wA ⟨rfl, rA, gA⟩))
    all_goals
      go_wp2_with fail
      go_ret
      exact ⟨ret_bool (by first | rfl | simp | exact t1), rA, grown_trans hg0 (grown_drew gA)⟩
  · rw [ser2 h] at hX
    have hp := read_ints (l := l.take 20) (fun x hx => hl x (List.mem_of_mem_take hx)) (by rw [List.length_take]; omega) R
    rw [← hX] at hp
    have hc := rints_lst b X R _ w0.drew hr0 hp hlen
    have hz : (l.take 20).length ≤ 1000000000000 := by rw [List.length_take]; omega
    replace k1 := unhide k1
    obtain ⟨L, hL⟩ : ∃ L, l.take 20 = L := ⟨_, rfl⟩
    rw [hL] at hc hz k1
    clear hL
    replace k1 := hide k1
    replace hc := hide hc
    replace hz := hide hz
    clear hp hX
    go_enter Try.func37, Try.ntmps37
    go_wp2_with fail
    rw [unhide e3, unhide e1]
    clear e1 e3
    go_region_held3 (fun w' => w'.cell? ⟨x1, 3, none⟩ = some (.slice a1 n1 c1)) (first | go_keep | exact cell_grown (w := w0.drew) d3 gA hne) (first
      | (go_at_call 27; (with_reducible refine (unhide hc).mono ?_); rintro e wA ⟨aA, cA, rfl, lA, rA, gA⟩)
      | (go_at_call 26; (with_reducible refine (sameInts_any aA _ cA L a1 _ c1 L _ lA ((unhide k1).under (unhide under _ (grown_drew gA))) (unhide hz) (by omega)).mono ?_); rintro e wC ⟨rfl, m, rfl⟩))
    all_goals
      go_wp2_with fail
      go_ret
      exact ⟨ret_bool (by first | rfl | simp), rA, grown_trans hg0 (grown_trans (grown_drew gA) (grown_of_below (blw_drewN (Below.refl _ wA) _) _))⟩
  · rw [ser3 h, btxts_txts] at hX
    have hp := read_txts (l := (cutL t).map fun x => x.data.toList) (fun x hx => by
      obtain ⟨y, hy, rfl⟩ := List.mem_map.1 hx
      rw [data_len]
      exact Nat.le_trans (cutL_size t y hy) (by omega)) (by rw [List.length_map]; exact Nat.le_trans (cutL_len t) (by omega)) R
    rw [← hX] at hp
    have hc := rtexts_lst b X R _ w0.drew hr0 hp hlen
    have hz := cutL_len t
    replace hc := hide hc
    clear hp hX
    go_enter Try.func37, Try.ntmps37
    go_wp2_with fail
    rw [unhide e3, unhide e1]
    clear e1 e3
    go_region_held3 (fun w' => w'.cell? ⟨x1, 4, none⟩ = some (.slice a2 n2 c2)) (first | go_keep | exact cell_grown (w := w0.drew) d4 gA hne | exact cell_under (cell_grown (w := w0.drew) d4 gA hne) bB) (first
      | (go_at_call 30; (with_reducible refine (unhide hc).mono ?_); rintro e wA ⟨aA, cA, rfl, lA, rA, gA⟩)
      | (go_at_call 11; (with_reducible refine (cut_lst a2 n2 c2 t _ ((unhide l2).under (unhide under _ (grown_drew gA))) (by unfold maxLen; omega)).mono ?_); rintro e wB2 ⟨aB, cB, rfl, lB, bB⟩)
      | (go_at_call 29; (with_reducible refine (sameTexts_any aA _ cA (cutL t) aB _ cB (cutL t) _ (lA.under bB) lB (by omega) (by omega)).mono ?_); rintro e wC ⟨rfl, m, rfl⟩))
    all_goals
      have rB := rd_below rA bB (Array.getElem?_eq_some_iff.1 rA).1
      go_wp2_with fail
      go_ret
      exact ⟨ret_bool (by first | rfl | simp), rB, grown_trans hg0 (grown_trans (grown_drew gA) (grown_of_below (blw_drewN bB _) _))⟩
end Go.Proofs.Ytidbjccfkembeaa
