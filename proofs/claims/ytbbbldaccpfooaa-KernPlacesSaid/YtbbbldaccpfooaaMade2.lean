/- The made font. -/
import Derived.Test.YtbbbldaccpfooaaMade1b
namespace Go.Proofs.Ytbbbldaccpfooaa
open Go.RowKit
def Sl (v : Value) : Prop := ∃ a n c, v = .slice a n c
theorem one_of_new (w : World) (v : Value) {T : Nat} : ∀ (j : Nat) (u : Value), [v][j]? = some u → (w.alloc (Obj.cells #[v] T)).cell? ((⟨w.heap.size, 0, none⟩ : Addr).add j) = some u := by
  intro j u hj
  cases j with
  | zero => simp at hj; subst hj; rw [Addr.add_lit, cell_of_row _ _ _ _ _ _ (heap_alloc_new w _)]; rfl
  | succ j => simp at hj
theorem seven_of_new (w : World) (v0 v1 v2 v3 v4 v5 v6 : Value) {T : Nat} : ∀ (j : Nat) (u : Value), [v0, v1, v2, v3, v4, v5, v6][j]? = some u → (w.alloc (Obj.cells #[v0, v1, v2, v3, v4, v5, v6] T)).cell? ((⟨w.heap.size, 0, none⟩ : Addr).add j) = some u := by
  intro j u hj
  have hj7 : j < 7 := (List.getElem?_eq_some_iff.1 hj).1
  rw [Addr.add_lit, Nat.zero_add, cell_of_row _ _ _ _ _ _ (heap_alloc_new w _), ← hj]
  obtain rfl | rfl | rfl | rfl | rfl | rfl | rfl : j = 0 ∨ j = 1 ∨ j = 2 ∨ j = 3 ∨ j = 4 ∨ j = 5 ∨ j = 6 := by omega
  all_goals rfl
theorem own_old {bf e sz e' sz' b0 n n' : Nat} {W0 w' : World} {v va : Value} {xs xs' : List Value} (h1 : W0.ownsRow (bf + 1) e sz v n xs) (h3 : W0.ownsRow (bf + 1) e' sz' va n' xs') (ho : Old W0 w' b0 va) (hne : e ≠ e') (hlt : b0 < bf) : w'.ownsRow (bf + 1) e sz v n xs := by
  refine ⟨h1.1, ?_⟩
  rcases h1.2 with hn | ⟨g, cap, cur, rfl, hb, hgg, rest⟩
  · exact .inl hn
  · refine .inr ⟨g, cap, cur, rfl, hb, ?_, rest⟩
    rw [ho.block g (Array.getElem?_eq_some_iff.1 hgg).1 (fun e => row_ne h1 h3 hne e rfl) (by omega)]
    exact hgg
theorem T.info78 : (Try.prog.info? 78).map (fun i => (i.zero, i.size, i.bytes)) = some (some (.agg #[.int .i64 0, .int .i64 0]), 2, 16) := by kernel_rfl

theorem T.info64 : (Try.prog.info? 64).map (fun i => (i.zero, i.size, i.bytes)) = some (some (.agg #[.string ⟨#[]⟩, .int .i64 0, .slice none 0 0, .slice none 0 0, .slice none 0 0, .slice none 0 0, .slice none 0 0]), 7, 144) := by kernel_rfl
theorem T.info69 : (Try.prog.info? 69).map (fun i => (i.zero, i.size, i.bytes)) = some (some (.agg #[.string ⟨#[]⟩, .int .i64 0, .int .i64 0, .int .i64 0]), 4, 40) := by kernel_rfl

set_option maxRecDepth 100000 in
set_option maxHeartbeats 8000000 in
theorem made_any (a : Option Addr) (len cap : Nat) (L : List (List Int)) (w : World) (hL : Lst (Enc.list Enc.int) w (· < w.heap.size) a len L) (hlen : len ≤ maxLen) :
    Calls Try.prog 19 #[.slice a len cap] w fun e w' => (∃ s n va0 vn0 vc0 ga gc qa n0 qc a5 n5 k5 ka kc ks xs, e = .returned (.agg #[.string s, .int .i64 n, .slice va0 vn0 vc0, .slice ga 9 gc, .slice qa n0 qc, .slice a5 n5 k5, .slice ka ks.length kc]) ∧ w'.ownsRow w.heap.size 64 7 (.slice ga 9 gc) 9 xs ∧ Advs 9 xs ∧ w'.ownsRow w.heap.size 53 3 (.slice ka ks.length kc) ks.length (kcells ks) ∧ ks.length ≤ 3 ∧ ∀ k ∈ ks, I64 k.1 ∧ I64 k.2.1 ∧ -20 ≤ k.2.2 ∧ k.2.2 ≤ 20) ∧ Below w.heap.size w w' := by
  obtain ⟨i4, hi4, hiz4, his4, hiy4⟩ := info_parts T.info78
  replace hi4 := hide hi4; replace hiz4 := hide hiz4; replace his4 := hide his4; replace hiy4 := hide hiy4
  obtain ⟨i2, hi2, hiz2, his2, hiy2⟩ := info_parts T.info64
  obtain ⟨i3, hi3, hiz3, his3, hiy3⟩ := info_parts T.info3
  replace hi2 := hide hi2; replace hiz2 := hide hiz2; replace his2 := hide his2; replace hiy2 := hide hiy2
  replace hi3 := hide hi3; replace hiz3 := hide hiz3; replace his3 := hide his3; replace hiy3 := hide hiy3
  obtain ⟨i1, hi1, hiz1, his1, hiy1⟩ := info_parts T.info69
  replace hi1 := hide hi1; replace hiz1 := hide hiz1; replace his1 := hide his1; replace hiy1 := hide hiy1
  go_enter Try.func19, Try.ntmps19
  go_wp2_with fail
  refine (draw_any (· < w.heap.size) a len cap L 0 _ (hL.below ((Below.refl _ _).alloc (Nat.le_refl _) _)) hlen (by omega) (fun c hc => by simp; omega)).mono ?_
  rintro e w1 ⟨b0, rfl, hd1, hb1, hl1, hl1'⟩
  have hres := (hb1.block w.heap.size (by simp)).trans (heap_alloc_new _ _)
  have hbel : Below w.heap.size w w1 := ((Below.refl _ _).alloc (Nat.le_refl _) _).trans (hb1.mono (by simp))
  clear hb1
  go_upto_region 2 with fail
  have hb0 : b0 < w1.heap.size := hd1.lt
  have hS1 : ∀ c, c < w.heap.size → c < w1.heap.size := fun c hc => Nat.lt_of_lt_of_le hc hbel.size
  go_cut [4] (fun v4 wr => ∃ (bf : Nat) (s : ByteArray) (v : Int), v4 = .pointer (some ⟨bf, 0, none⟩) ∧ wr.heap[bf]? = some (.cells #[.string s, .int .i64 v, .slice none 0 0, .slice none 0 0, .slice none 0 0, .slice none 0 0, .slice none 0 0] 33 (0, 0)) ∧
     DrawAt wr b0 (· < w.heap.size) ∧ w1.grownBy wr (some b0) ∧ w1.heap.size ≤ bf)
  case first =>
    refine wp_region_front 9 (fun _ _ w' => DrawAt w' b0 (· < w.heap.size) ∧ w1.grownBy w' (some b0)) (fun w w' => w.grownBy w' (some b0))
      (fun i v w' => match i with
        | 0 => ∃ bx : Nat, v = .slice (some ⟨bx, 0, none⟩) 3 3 ∧ w1.heap.size ≤ bx ∧ (∃ s0 s1 s2, w'.heap[bx]? = some (.cells #[.string s0, .string s1, .string s2] 9 (0, 0)))
        | 1 => v = .pointer (some ⟨b0, 0, none⟩)
        | 2 => ∃ n : Int, v = .int .i64 n ∧ 0 ≤ n ∧ n < 3
        | 3 => ∃ (bx k : Nat), v = .pointer (some ⟨bx, k, none⟩) ∧ k < 3 ∧ w1.heap.size ≤ bx ∧ (∃ s0 s1 s2, w'.heap[bx]? = some (.cells #[.string s0, .string s1, .string s2] 9 (0, 0)))
        | 4 => ∃ s, v = .string s
        | 5 => v = .pointer (some ⟨b0, 0, none⟩)
        | 6 => ∃ n : Int, v = .int .i64 n ∧ 0 ≤ n ∧ n < 4
        | 7 => ∃ s n, v = .agg #[.string s, .int .i64 n, .slice none 0 0, .slice none 0 0, .slice none 0 0, .slice none 0 0, .slice none 0 0]
        | 8 => ∃ bx : Nat, v = .pointer (some ⟨bx, 0, none⟩) ∧ w1.heap.size ≤ bx ∧ w'.heap[bx]? = some (.cells #[.string ⟨#[]⟩, .int .i64 0, .slice none 0 0, .slice none 0 0, .slice none 0 0, .slice none 0 0, .slice none 0 0] 33 (0, 0))
        | _ => True) (by rfl) (by kernel_rfl) ?_ ?_ ?_ ?_
    · exact ⟨hd1.drew, grown_of_below ((Below.refl _ _).drew) _⟩
    · intro wa wb hR i v hv
      have hk : ∀ (bx : Nat) (o : Obj), w1.heap.size ≤ bx → wa.heap[bx]? = some o → wb.heap[bx]? = some o := fun bx o h1 h2 =>
        (hR.block bx (Array.getElem?_eq_some_iff.1 h2).1 (fun e => by injection e with e; omega)).trans h2
      match i, hv with
      | 0, ⟨bx, h1, h2, s0, s1, s2, h3⟩ => exact ⟨bx, h1, h2, s0, s1, s2, hk _ _ h2 h3⟩
      | 1, h => exact h
      | 2, h => exact h
      | 3, ⟨bx, k, h1, h0, h2, s0, s1, s2, h3⟩ => exact ⟨bx, k, h1, h0, h2, s0, s1, s2, hk _ _ h2 h3⟩
      | 4, h => exact h
      | 5, h => exact h
      | 6, h => exact h
      | 7, h => exact h
      | 8, ⟨bx, h1, h2, h3⟩ => exact ⟨bx, h1, h2, hk _ _ h2 h3⟩
      | _ + 9, _ => trivial
    · have hSq : ∀ wq, w1.grownBy wq (some b0) → ∀ c, c < w.heap.size → c < wq.heap.size := fun wq hg c hc => Nat.lt_of_lt_of_le (hS1 c hc) hg.size
      intro i hi
      obtain rfl | rfl | rfl | rfl | rfl | rfl | rfl | rfl | rfl : i = 0 ∨ i = 1 ∨ i = 2 ∨ i = 3 ∨ i = 4 ∨ i = 5 ∨ i = 6 ∨ i = 7 ∨ i = 8 := by omega
      · refine FrontStep.of [] _ rfl (by kernel_rfl) ?_
        intro vs L wq hL hC hf
        simp only [putL, List.foldl_nil]
        go_wp2_with fail
        exact ⟨⟨hC.1.alloc1 (hSq _ hC.2), grown_trans hC.2 (World.grownBy_alloc _ _ _)⟩, World.grownBy_alloc _ _ _, hC.2.size, _, _, _, (Array.getElem?_eq_some_iff.1 (heap_alloc_new _ _)).2⟩
      · refine FrontStep.of [] _ rfl (by kernel_rfl) ?_
        intro vs L wq hL hC hf
        simp only [putL, List.foldl_nil]
        go_wp2_with fail
        first | exact grown_of_below (Below.refl _ _) _ | exact ⟨hC, grown_of_below (Below.refl _ _) _⟩
      · refine FrontStep.of [1] _ rfl (by kernel_rfl) ?_
        intro vs L wq hL hC hf
        simp only [putL, List.foldl_nil, List.foldl_cons, List.getElem?_cons_zero, List.getElem?_cons_succ]
        have h1 : vs 1 = _ := hf 1 (by simp)
        rw [h1]
        go_wp2_with fail
        refine (next_any b0 (· < w.heap.size) _ _ hC.1 (by omega) (by omega)).mono ?_
        rintro e w2 ⟨v, rfl, hv, hvv, hd2, hg2, hz2⟩
        go_wp2_with fail
        first | exact grown_trans hC.2 hg2 | exact hg2 | exact ⟨⟨hd2, grown_trans hC.2 hg2⟩, hg2, by omega⟩
      · refine FrontStep.of [0, 2] _ rfl (by kernel_rfl) ?_
        intro vs L wq hL hC hf
        simp only [putL, List.foldl_nil, List.foldl_cons, List.getElem?_cons_zero, List.getElem?_cons_succ]
        obtain ⟨bx, h0, hx, s0, s1, s2, hb⟩ := hf 0 (by simp)
        obtain ⟨n, h2, hn0, hn3⟩ := hf 2 (by simp)
        rw [h0, h2]
        obtain ⟨n, rfl⟩ := Int.eq_ofNat_of_zero_le hn0
        have hn' : n < 3 := by omega
        go_wp2_with fail
        all_goals first | exact grown_of_below (Below.refl _ _) _ | exact ⟨grown_of_below (Below.refl _ _) _, _, _, ⟨rfl, rfl⟩, hn', hx, _, _, _, hb⟩ | trace_state
        all_goals sorry
      · refine FrontStep.of [3] _ rfl (by kernel_rfl) ?_
        intro vs L wq hL hC hf
        simp only [putL, List.foldl_nil, List.foldl_cons, List.getElem?_cons_zero, List.getElem?_cons_succ]
        obtain ⟨bx, k, h0, hk, hx, s0, s1, s2, hb⟩ := hf 3 (by simp)
        rw [h0]
        obtain ⟨sv, hsv⟩ : ∃ sv, wq.cell? ⟨bx, k, none⟩ = some (.string sv) := by
          obtain rfl | rfl | rfl : k = 0 ∨ k = 1 ∨ k = 2 := by omega
          · exact ⟨s0, by simp [World.cell?, hb]⟩
          · exact ⟨s1, by simp [World.cell?, hb]⟩
          · exact ⟨s2, by simp [World.cell?, hb]⟩
        go_wp2_with fail
        all_goals first | exact grown_of_below (Below.refl _ _) _ | exact ⟨hC, grown_of_below (Below.refl _ _) _⟩ | trace_state
        all_goals sorry
      · refine FrontStep.of [] _ rfl (by kernel_rfl) ?_
        intro vs L wq hL hC hf
        simp only [putL, List.foldl_nil]
        go_wp2_with fail
        first | exact grown_of_below (Below.refl _ _) _ | exact ⟨hC, grown_of_below (Below.refl _ _) _⟩
      · refine FrontStep.of [2, 5] _ rfl (by kernel_rfl) ?_
        intro vs L wq hL hC hf
        simp only [putL, List.foldl_nil, List.foldl_cons, List.getElem?_cons_zero, List.getElem?_cons_succ]
        have h5 : vs 5 = _ := hf 5 (by simp)
        rw [h5]
        go_wp2_with fail
        refine (next_any b0 (· < w.heap.size) _ _ hC.1 (by omega) (by omega)).mono ?_
        rintro e w2 ⟨v, rfl, hv, hvv, hd2, hg2, hz2⟩
        go_wp2_with fail
        first | exact grown_trans hC.2 hg2 | exact hg2 | exact ⟨⟨hd2, grown_trans hC.2 hg2⟩, hg2, by omega⟩
      · refine FrontStep.of [4, 6] _ rfl (by kernel_rfl) ?_
        intro vs L wq hL hC hf
        simp only [putL, List.foldl_nil, List.foldl_cons, List.getElem?_cons_zero, List.getElem?_cons_succ]
        obtain ⟨sv, h4⟩ := hf 4 (by simp)
        obtain ⟨n, h6, hn0, hn3⟩ := hf 6 (by simp)
        rw [h4, h6]
        go_wp2_with fail
        all_goals first | exact grown_of_below (Below.refl _ _) _ | exact ⟨hC, grown_of_below (Below.refl _ _) _⟩ | trace_state
        all_goals sorry
      · refine FrontStep.of [] _ rfl (by kernel_rfl) ?_
        intro vs L wq hL hC hf
        simp only [putL, List.foldl_nil]
        go_wp2_with fail
        exact ⟨⟨hC.1.alloc1 (hSq _ hC.2), grown_trans hC.2 (World.grownBy_alloc _ _ _)⟩, World.grownBy_alloc _ _ _, hC.2.size, (Array.getElem?_eq_some_iff.1 (heap_alloc_new _ _)).2⟩
    · intro vs L wq hL hC hf
      rw [putSome_all]
      simp only [putL, List.range, List.range.loop, List.foldl_nil, List.foldl_cons, List.getElem?_cons_zero, List.getElem?_cons_succ, List.drop_succ_cons, List.drop_zero]
      obtain ⟨bx, h8, hx, hb⟩ := hf 8 (by omega)
      obtain ⟨sv, n, h7⟩ := hf 7 (by omega)
      rw [h8, h7]
      have hc0 : wq.cell? ⟨bx, 0, none⟩ = some (.string ⟨#[]⟩) := by simp [World.cell?, hb]
      have hc1 : wq.cell? ⟨bx, 1, none⟩ = some (.int .i64 0) := by simp [World.cell?, hb]
      have hc2 : wq.cell? ⟨bx, 2, none⟩ = some (.slice none 0 0) := by simp [World.cell?, hb]
      have hc3 : wq.cell? ⟨bx, 3, none⟩ = some (.slice none 0 0) := by simp [World.cell?, hb]
      have hc4 : wq.cell? ⟨bx, 4, none⟩ = some (.slice none 0 0) := by simp [World.cell?, hb]
      have hc5 : wq.cell? ⟨bx, 5, none⟩ = some (.slice none 0 0) := by simp [World.cell?, hb]
      have hc6 : wq.cell? ⟨bx, 6, none⟩ = some (.slice none 0 0) := by simp [World.cell?, hb]
      have hf0 : wq.frozen? ⟨bx, 0, none⟩ = false := by simp [World.frozen?, hb]
      have hf1 : wq.frozen? ⟨bx, 1, none⟩ = false := by simp [World.frozen?, hb]
      have hf2 : wq.frozen? ⟨bx, 2, none⟩ = false := by simp [World.frozen?, hb]
      have hf3 : wq.frozen? ⟨bx, 3, none⟩ = false := by simp [World.frozen?, hb]
      have hf4 : wq.frozen? ⟨bx, 4, none⟩ = false := by simp [World.frozen?, hb]
      have hf5 : wq.frozen? ⟨bx, 5, none⟩ = false := by simp [World.frozen?, hb]
      have hf6 : wq.frozen? ⟨bx, 6, none⟩ = false := by simp [World.frozen?, hb]
      go_wp2_with fail
      have hw := heap_set (off := 6) (heap_set (off := 5) (heap_set (off := 4) (heap_set (off := 3) (heap_set (off := 2) (heap_set (off := 1) (heap_set (off := 0) hb (.string sv)) (.int .i64 n)) (.slice none 0 0)) (.slice none 0 0)) (.slice none 0 0)) (.slice none 0 0)) (.slice none 0 0)
      have hs7 := sets7 wq bx (.string sv) (.int .i64 n) (.slice none 0 0) (.slice none 0 0) (.slice none 0 0) (.slice none 0 0) (.slice none 0 0)
      have hd' := hC.1.grown hs7 (fun e => by injection e; omega) hS1 hC.2.size (fun g e => by injection e; omega)
      have hg' := grown_own hC.2 hs7 (fun g e => by injection e; omega)
      go_meet
      first
        | exact ⟨bx, sv, n, rfl, hw, hd', hg', hx⟩
        | (refine ⟨bx, ⟨rfl, ?_⟩⟩; trace_state; sorry)
        | (trace_state; sorry)
  case rest =>
    obtain ⟨bf, sv, n, rfl, hf, hd, hg, hbf⟩ := hcut
    have hSc : ∀ c, c < w.heap.size → c < wc.heap.size := fun c hc => Nat.lt_of_lt_of_le (hS1 c hc) hg.size
    have hlf : bf < wc.heap.size := (Array.getElem?_eq_some_iff.1 hf).1
    go_wp2_with fail
    refine (next_any b0 (· < w.heap.size) _ _ (hd.alloc1 hSc) (by omega) (by omega)).mono ?_
    rintro e w3 ⟨t3, rfl, ht0, ht5, hd3, hg3, hz3⟩
    have hf3 := (hg3.block bf (by simp; omega) (fun e => by injection e; omega)).trans ((Below.heap_alloc _ _ _ hlf).trans hf)
    have hrow := next_blk1 hd hg3
    have hg4 := next_gr1 hg hg3
    obtain ⟨t3, rfl⟩ := Int.eq_ofNat_of_zero_le ht0
    obtain ⟨cnt, hcell, hcnt⟩ : ∃ cnt : Nat, w3.cell? ⟨wc.heap.size, t3, none⟩ = some (.int .i64 (cnt : Int)) ∧ cnt ≤ 2 := by
      obtain rfl | rfl | rfl | rfl | rfl : t3 = 0 ∨ t3 = 1 ∨ t3 = 2 ∨ t3 = 3 ∨ t3 = 4 := by omega
      · exact ⟨1, by simp [World.cell?, hrow], by omega⟩
      · exact ⟨0, by simp [World.cell?, hrow], by omega⟩
      · exact ⟨1, by simp [World.cell?, hrow], by omega⟩
      · exact ⟨1, by simp [World.cell?, hrow], by omega⟩
      · exact ⟨2, by simp [World.cell?, hrow], by omega⟩
    have ht5' : t3 < 5 := by omega
    have o1 : w.heap.size < b0 := by have := hl1'; simp at this; omega
    have o2 : b0 < bf := Nat.lt_of_lt_of_le hb0 hbf
    have hbel3 : Below w.heap.size w w3 := Below.grown hbel hg4 hbel.size (fun g e => by injection e with e; omega)
    have hK : MK w w3 b0 bf (.slice none 0 0) (.slice none 0 0) (.slice none 0 0) :=
      ⟨⟨sv, n, hf3⟩, ⟨_, _, _, _, _, _, _, (hg4.block _ (Nat.lt_of_lt_of_le (Nat.lt_of_lt_of_le (by omega) hb0) (Nat.le_refl _)) (fun e => by injection e; omega)).trans hres⟩, hd3, hbel3, o1, o2⟩
    clear hf3 hd3 hg4 hg3 hrow hz3 hf hd hg hbf hbel3 hbel hres hd1 hl1 hl1' hb0 hS1 hSc hlf
    replace hK := hide hK
    go_upto_region 5 with fail
    go_loopw [6] (fun v6 wr => ∃ (k : Nat) (va : Value), k ≤ cnt ∧ v6 = .int .i64 (k : Int) ∧ MK w wr b0 bf va (.slice none 0 0) (.slice none 0 0) ∧ Rw bf 69 4 k wr va) (fun v6 _ => cnt - (intOf v6).toNat)
    case atStart => exact ⟨0, _, Nat.zero_le _, rfl, unhide hK, 0, [], World.ownsRow_nil _ _ _ _, Nat.le_refl _⟩
    case round =>
      clear hK hcell
      obtain ⟨k, va, hk, rfl, hK, hrw⟩ := hrel
      obtain ⟨wo, hwo⟩ : ∃ wo : World, wo = wr := ⟨_, rfl⟩
      rw [← hwo] at hK hrw ⊢
      clear hwo
      by_cases hlt : k < cnt
      · obtain ⟨n0, xs0, hown0, hn0⟩ := id hrw
        have hvalt : ∀ g, va.ownBlock = some g → bf < g ∧ g < wo.heap.size := fun g e => ⟨(hown0.lt g e).1, (hown0.lt g e).2⟩
        have hne2 : va.ownBlock ≠ some bf := fun e => by have := (hvalt bf e).1; omega
        have hneb : va.ownBlock ≠ some b0 := fun e => by have := (hvalt b0 e).1; omega
        obtain ⟨sf, nf, hfont⟩ := id hK.font
        have hdr := hK.draw
        have hbs := hK.below.size
        have hlbf := hK.lt
        have tk : (k : Int) < (cnt : Int) := by omega
        clear hown0 hn0
        replace hK := hide hK; replace hfont := hide hfont; replace hvalt := hide hvalt; replace hrw := hide hrw; replace hdr := hide hdr
        go_upto_region 7 with fail
        refine wp_region_frontG 17 (fun LL vs w' => C7 wo b0 w.heap.size 69 4 k bf 15 va LL vs w') (RN wo)
          (fun ix v w' => match ix with
            | 0 => v = .pointer (some ⟨bf, 2, none⟩)
            | 1 => v = va
            | 2 => ∃ b, v = .slice (some ⟨b, 0, none⟩) 2 2 ∧ wo.heap.size ≤ b ∧ w'.heap[b]? = some (.cells #[.string ⟨#[119, 103, 104, 116]⟩, .string ⟨#[119, 100, 116, 104]⟩] 9 (0, 0))
            | 3 => v = .int .i64 (k : Int)
            | 4 => ∃ b, v = .pointer (some ⟨b, k, none⟩) ∧ wo.heap.size ≤ b ∧ w'.heap[b]? = some (.cells #[.string ⟨#[119, 103, 104, 116]⟩, .string ⟨#[119, 100, 116, 104]⟩] 9 (0, 0))
            | 5 => ∃ s : ByteArray, v = .string s
            | 6 => v = .pointer (some ⟨b0, 0, none⟩)
            | 7 => ∃ x : Int, v = .int .i64 x ∧ 0 ≤ x ∧ x < 2
            | 8 => ∃ x : Int, v = .int .i64 x
            | 9 => v = .pointer (some ⟨b0, 0, none⟩)
            | 10 => ∃ x : Int, v = .int .i64 x ∧ 0 ≤ x ∧ x < 2
            | 11 => ∃ x : Int, v = .int .i64 x
            | 12 => ∃ x : Int, v = .int .i64 x
            | 13 => ∃ (s : ByteArray) (x y : Int), v = .agg #[.string s, .int .i64 x, .int .i64 0, .int .i64 y]
            | 14 => ∃ (b : Nat) (s : ByteArray) (x y : Int), v = .slice (some ⟨b, 0, none⟩) 1 1 ∧ wo.heap.size ≤ b ∧ w'.heap[b]? = some (.cells #[.string s, .int .i64 x, .int .i64 0, .int .i64 y] 69 (0, 0))
            | 15 => v ≠ undef
            | 16 => v = .pointer (some ⟨bf, 2, none⟩)
            | _ => True) (by rfl) (by kernel_rfl) ?_ ?_ ?_ ?_
        · exact C7.start (unhide hdr) (unhide hrw)
        · intro wa wb hR ix v hv
          match ix, hv with
          | 0, h => exact h
          | 1, h => exact h
          | 2, h => obtain ⟨b, h1, h2, h3⟩ := h; exact ⟨b, h1, h2, hR.blk h2 h3⟩
          | 3, h => exact h
          | 4, h => obtain ⟨b, h1, h2, h3⟩ := h; exact ⟨b, h1, h2, hR.blk h2 h3⟩
          | 5, h => exact h
          | 6, h => exact h
          | 7, h => exact h
          | 8, h => exact h
          | 9, h => exact h
          | 10, h => exact h
          | 11, h => exact h
          | 12, h => exact h
          | 13, h => exact h
          | 14, h => obtain ⟨b, s, x, y, h1, h2, h3⟩ := h; exact ⟨b, s, x, y, h1, h2, hR.blk h2 h3⟩
          | 15, h => exact h
          | 16, h => exact h
          | _ + 17, _ => trivial
        · intro ix hix
          obtain rfl | rfl | rfl | rfl | rfl | rfl | rfl | rfl | rfl | rfl | rfl | rfl | rfl | rfl | rfl | rfl | rfl : ix = 0 ∨ ix = 1 ∨ ix = 2 ∨ ix = 3 ∨ ix = 4 ∨ ix = 5 ∨ ix = 6 ∨ ix = 7 ∨ ix = 8 ∨ ix = 9 ∨ ix = 10 ∨ ix = 11 ∨ ix = 12 ∨ ix = 13 ∨ ix = 14 ∨ ix = 15 ∨ ix = 16 := by omega
          · refine FrontStep.of [] _ rfl (by kernel_rfl) ?_
            intro vs LL wq hLL hC hf
            simp only [putL, List.foldl_nil]
            have hBq : ∀ c, c < w.heap.size → c < wq.heap.size := fun c hc => by have := hC.1.size; omega
            go_wp2_with fail
            first | exact ⟨hC.keep 0 _ (by omega) hBq (Below.refl _ _), RN.below (Below.refl _ _)⟩ | exact ⟨hC.keep 0 _ (by omega) hBq (Below.refl _ _), RN.below (Below.refl _ _), rfl⟩ | exact hC.keep 0 _ (by omega) hBq (Below.refl _ _)
          · refine FrontStep.of [0] _ rfl (by kernel_rfl) ?_
            intro vs LL wq hLL hC hf
            simp only [putL, List.foldl_nil, List.foldl_cons, List.getElem?_cons_zero]
            have e0 : vs 0 = _ := hf 0 (by simp)
            rw [e0]
            have hcf : wq.cell? ⟨bf, 2, none⟩ = some va := (World.cell?_of_block (a := ⟨bf, 2, none⟩) (hC.1.block bf hlbf hne2 (by omega))).trans ((cell_of_row _ bf 2 _ _ _ (unhide hfont)).trans rfl)
            have hBq : ∀ c, c < w.heap.size → c < wq.heap.size := fun c hc => by have := hC.1.size; omega
            go_wp2_with fail
            first | exact ⟨hC.keep 1 _ (by omega) hBq (Below.refl _ _), RN.below (Below.refl _ _)⟩ | exact ⟨hC.keep 1 _ (by omega) hBq (Below.refl _ _), RN.below (Below.refl _ _), rfl⟩ | exact hC.keep 1 _ (by omega) hBq (Below.refl _ _)
          · refine FrontStep.of [] _ rfl (by kernel_rfl) ?_
            intro vs LL wq hLL hC hf
            simp only [putL, List.foldl_nil]
            have hBq : ∀ c, c < w.heap.size → c < wq.heap.size := fun c hc => by have := hC.1.size; omega
            go_wp2_with fail
            exact ⟨hC.keep 2 _ (by omega) hBq ((Below.refl _ _).alloc (Nat.le_refl _) _), RN.below ((Below.refl _ _).alloc (Nat.le_refl _) _), hC.1.size, (Array.getElem?_eq_some_iff.1 (heap_alloc_new _ _)).2⟩
          · refine FrontStep.of [] _ rfl (by kernel_rfl) ?_
            intro vs LL wq hLL hC hf
            simp only [putL, List.foldl_nil]
            have hBq : ∀ c, c < w.heap.size → c < wq.heap.size := fun c hc => by have := hC.1.size; omega
            go_wp2_with fail
            first | exact ⟨hC.keep 3 _ (by omega) hBq (Below.refl _ _), RN.below (Below.refl _ _)⟩ | exact ⟨hC.keep 3 _ (by omega) hBq (Below.refl _ _), RN.below (Below.refl _ _), rfl⟩ | exact hC.keep 3 _ (by omega) hBq (Below.refl _ _)
          · refine FrontStep.of [2, 3] _ rfl (by kernel_rfl) ?_
            intro vs LL wq hLL hC hf
            simp only [putL, List.foldl_nil, List.foldl_cons, List.getElem?_cons_zero, List.getElem?_cons_succ]
            obtain ⟨b2, e36, hbb2, hrow2⟩ := hf 2 (by simp)
            rw [e36]
            have e3 : vs 3 = _ := hf 3 (by simp)
            rw [e3]
            have hBq : ∀ c, c < w.heap.size → c < wq.heap.size := fun c hc => by have := hC.1.size; omega
            have hk2 : k < 2 := by omega
            go_wp2_with fail
            first | exact ⟨hC.keep 4 _ (by omega) hBq (Below.refl _ _), RN.below (Below.refl _ _), _, ⟨rfl⟩, hbb2, hrow2⟩ | exact ⟨hC.keep 4 _ (by omega) hBq (Below.refl _ _), RN.below (Below.refl _ _), hbb2, hrow2⟩ | exact ⟨hC.keep 4 _ (by omega) hBq (Below.refl _ _), RN.below (Below.refl _ _)⟩ | trace_state
          · refine FrontStep.of [4] _ rfl (by kernel_rfl) ?_
            intro vs LL wq hLL hC hf
            simp only [putL, List.foldl_nil, List.foldl_cons, List.getElem?_cons_zero, List.getElem?_cons_succ]
            obtain ⟨b4, e38, hbb4, hrow4⟩ := hf 4 (by simp)
            rw [e38]
            have hBq : ∀ c, c < w.heap.size → c < wq.heap.size := fun c hc => by have := hC.1.size; omega
            obtain ⟨sx, hsx⟩ : ∃ sx, wq.cell? ⟨b4, k, none⟩ = some (.string sx) := by
              obtain rfl | rfl : k = 0 ∨ k = 1 := by omega
              · exact ⟨_, (cell_of_row _ b4 0 _ _ _ hrow4).trans rfl⟩
              · exact ⟨_, (cell_of_row _ b4 1 _ _ _ hrow4).trans rfl⟩
            go_wp2_with fail
            first | exact ⟨hC.keep 5 _ (by omega) hBq (Below.refl _ _), RN.below (Below.refl _ _)⟩ | trace_state
          · refine FrontStep.of [] _ rfl (by kernel_rfl) ?_
            intro vs LL wq hLL hC hf
            simp only [putL, List.foldl_nil]
            have hBq : ∀ c, c < w.heap.size → c < wq.heap.size := fun c hc => by have := hC.1.size; omega
            go_wp2_with fail
            first | exact ⟨hC.keep 6 _ (by omega) hBq (Below.refl _ _), RN.below (Below.refl _ _)⟩ | exact ⟨hC.keep 6 _ (by omega) hBq (Below.refl _ _), RN.below (Below.refl _ _), rfl⟩ | exact hC.keep 6 _ (by omega) hBq (Below.refl _ _)
          · refine FrontStep.of [6] _ rfl (by kernel_rfl) ?_
            intro vs LL wq hLL hC hf
            simp only [putL, List.foldl_nil, List.foldl_cons, List.getElem?_cons_zero, List.getElem?_cons_succ]
            have e6 : vs 6 = _ := hf 6 (by simp)
            rw [e6]
            have hb0q := hC.2.1.lt
            go_wp2_with fail
            refine (next_any b0 (· < w.heap.size) _ _ hC.2.1 (by omega) (by omega)).mono ?_
            rintro e w5 ⟨v, rfl, hv0, hv1, hd5, hg5, hz5⟩
            go_wp2_with fail
            exact ⟨hC.next 7 _ (by omega) hg5 hd5 o2, RN.grown hg5 (fun g e => by injection e with e; omega)⟩
          · refine FrontStep.of [7] _ rfl (by kernel_rfl) ?_
            intro vs LL wq hLL hC hf
            simp only [putL, List.foldl_nil, List.foldl_cons, List.getElem?_cons_zero, List.getElem?_cons_succ]
            obtain ⟨x7, e41, hx7, hx7'⟩ := hf 7 (by simp)
            rw [e41]
            have hBq : ∀ c, c < w.heap.size → c < wq.heap.size := fun c hc => by have := hC.1.size; omega
            go_wp2_with fail
            first | exact ⟨hC.keep 8 _ (by omega) hBq (Below.refl _ _), RN.below (Below.refl _ _)⟩ | exact ⟨hC.keep 8 _ (by omega) hBq (Below.refl _ _), RN.below (Below.refl _ _), rfl⟩ | exact hC.keep 8 _ (by omega) hBq (Below.refl _ _)
          · refine FrontStep.of [] _ rfl (by kernel_rfl) ?_
            intro vs LL wq hLL hC hf
            simp only [putL, List.foldl_nil]
            have hBq : ∀ c, c < w.heap.size → c < wq.heap.size := fun c hc => by have := hC.1.size; omega
            go_wp2_with fail
            first | exact ⟨hC.keep 9 _ (by omega) hBq (Below.refl _ _), RN.below (Below.refl _ _)⟩ | exact ⟨hC.keep 9 _ (by omega) hBq (Below.refl _ _), RN.below (Below.refl _ _), rfl⟩ | exact hC.keep 9 _ (by omega) hBq (Below.refl _ _)
          · refine FrontStep.of [7, 9] _ rfl (by kernel_rfl) ?_
            intro vs LL wq hLL hC hf
            simp only [putL, List.foldl_nil, List.foldl_cons, List.getElem?_cons_zero, List.getElem?_cons_succ]
            obtain ⟨x7, e41, hx7, hx7'⟩ := hf 7 (by simp)
            rw [e41]
            have e9 : vs 9 = _ := hf 9 (by simp)
            rw [e9]
            have hb0q := hC.2.1.lt
            go_wp2_with fail
            refine (next_any b0 (· < w.heap.size) _ _ hC.2.1 (by omega) (by omega)).mono ?_
            rintro e w5 ⟨v, rfl, hv0, hv1, hd5, hg5, hz5⟩
            go_wp2_with fail
            exact ⟨hC.next 10 _ (by omega) hg5 hd5 o2, RN.grown hg5 (fun g e => by injection e with e; omega)⟩
          · refine FrontStep.of [10] _ rfl (by kernel_rfl) ?_
            intro vs LL wq hLL hC hf
            simp only [putL, List.foldl_nil, List.foldl_cons, List.getElem?_cons_zero, List.getElem?_cons_succ]
            obtain ⟨x10, e44, hx10, hx10'⟩ := hf 10 (by simp)
            rw [e44]
            have hBq : ∀ c, c < w.heap.size → c < wq.heap.size := fun c hc => by have := hC.1.size; omega
            go_wp2_with fail
            first | exact ⟨hC.keep 11 _ (by omega) hBq (Below.refl _ _), RN.below (Below.refl _ _)⟩ | exact ⟨hC.keep 11 _ (by omega) hBq (Below.refl _ _), RN.below (Below.refl _ _), rfl⟩ | exact hC.keep 11 _ (by omega) hBq (Below.refl _ _)
          · refine FrontStep.of [11] _ rfl (by kernel_rfl) ?_
            intro vs LL wq hLL hC hf
            simp only [putL, List.foldl_nil, List.foldl_cons, List.getElem?_cons_zero, List.getElem?_cons_succ]
            obtain ⟨x11, e45⟩ := hf 11 (by simp)
            rw [e45]
            have hBq : ∀ c, c < w.heap.size → c < wq.heap.size := fun c hc => by have := hC.1.size; omega
            go_wp2_with fail
            first | exact ⟨hC.keep 12 _ (by omega) hBq (Below.refl _ _), RN.below (Below.refl _ _)⟩ | exact ⟨hC.keep 12 _ (by omega) hBq (Below.refl _ _), RN.below (Below.refl _ _), rfl⟩ | exact hC.keep 12 _ (by omega) hBq (Below.refl _ _)
          · refine FrontStep.of [5, 8, 12] _ rfl (by kernel_rfl) ?_
            intro vs LL wq hLL hC hf
            simp only [putL, List.foldl_nil, List.foldl_cons, List.getElem?_cons_zero, List.getElem?_cons_succ]
            obtain ⟨s5, e39⟩ := hf 5 (by simp)
            rw [e39]
            obtain ⟨x8, e42⟩ := hf 8 (by simp)
            rw [e42]
            obtain ⟨x12, e46⟩ := hf 12 (by simp)
            rw [e46]
            have hBq : ∀ c, c < w.heap.size → c < wq.heap.size := fun c hc => by have := hC.1.size; omega
            go_wp2_with fail
            first | exact ⟨hC.keep 13 _ (by omega) hBq (Below.refl _ _), RN.below (Below.refl _ _)⟩ | exact ⟨hC.keep 13 _ (by omega) hBq (Below.refl _ _), RN.below (Below.refl _ _), rfl⟩ | exact hC.keep 13 _ (by omega) hBq (Below.refl _ _)
          · refine FrontStep.of [13] _ rfl (by kernel_rfl) ?_
            intro vs LL wq hLL hC hf
            simp only [putL, List.foldl_nil, List.foldl_cons, List.getElem?_cons_zero, List.getElem?_cons_succ]
            obtain ⟨s13, x13, y13, e47⟩ := hf 13 (by simp)
            rw [e47]
            have hBq : ∀ c, c < w.heap.size → c < wq.heap.size := fun c hc => by have := hC.1.size; omega
            go_wp2_with fail
            exact ⟨hC.keep 14 _ (by omega) hBq ((Below.refl _ _).alloc (Nat.le_refl _) _), RN.below ((Below.refl _ _).alloc (Nat.le_refl _) _), hC.1.size, _, _, _, (Array.getElem?_eq_some_iff.1 (heap_alloc_new _ _)).2⟩
          · refine FrontStep.of [1, 10, 14] _ rfl (by kernel_rfl) ?_
            intro vs LL wq hLL hC hf
            simp only [putL, List.foldl_nil, List.foldl_cons, List.getElem?_cons_zero, List.getElem?_cons_succ]
            have e1 : vs 1 = _ := hf 1 (by simp)
            rw [e1]
            obtain ⟨x10, e44, hx10, hx10'⟩ := hf 10 (by simp)
            rw [e44]
            obtain ⟨b14, s14, x14, y14, e48, hbb14, hrow14⟩ := hf 14 (by simp)
            rw [e48]
            have hBq : ∀ c, c < w.heap.size → c < wq.heap.size := fun c hc => by have := hC.1.size; omega
            obtain ⟨n0, xs0, hown0, hn0⟩ := hC.2.2.2.1 (hC.2.2.1 15 hLL)
            have hszq := hC.1.size
            go_wp2_with (at_builtin; refine wpList_append_own _ rfl _ _ 28 rfl (bf + 1) 69 i1 _ 4 40 Try.underlying28 (unhide hi1) (unhide hiz1) (unhide his1) (unhide hiy1) rfl (by decide) _ _ _ rfl hown0 ⟨b14, 0, none⟩ 1 1 [.string s14, .int .i64 x14, .int .i64 0, .int .i64 y14] rfl rfl ?c1 ?c2 ?c3 ?c4 ?c5 ?_)
            case c1 =>
              intro j u hj
              have hj4 : j < 4 := (List.getElem?_eq_some_iff.1 hj).1
              rw [Addr.add_lit, Nat.zero_add, cell_of_row _ b14 j _ _ _ hrow14, ← hj]
              obtain rfl | rfl | rfl | rfl : j = 0 ∨ j = 1 ∨ j = 2 ∨ j = 3 := by omega
              all_goals rfl
            case c2 => intro u hu; simp at hu; rcases hu with rfl | rfl | rfl | rfl <;> rfl
            case c3 => unfold maxLen; omega
            case c4 => omega
            case c5 => omega
            intro v' w5 hown5 hg5 _
            obtain ⟨va', vc', rfl⟩ := own_shape hown5
            replace hown5 := hide hown5; replace hg5 := hide hg5; replace hown0 := hide hown0
            go_wp2_with fail
            exact ⟨hC.app _ (fun h => by cases h) (fun c hc => ⟨hBq c hc, fun e => by have := (unhide hvalt c e).1; omega⟩) (unhide hg5) hneb ⟨_, _, unhide hown5, by omega⟩, RN.grown (unhide hg5) (fun g e => (unhide hvalt g e).2), fun h => by cases h⟩
          · refine FrontStep.of [0, 1, 2, 3, 4, 5, 6, 7, 8, 9, 10, 11, 12, 13, 14, 15] _ rfl (by kernel_rfl) ?_
            intro vs LL wq hLL hC hf
            simp only [putL, List.foldl_nil, List.foldl_cons, List.getElem?_cons_zero, List.getElem?_cons_succ]
            have e0 : vs 0 = _ := hf 0 (by simp)
            rw [e0]
            have e1 : vs 1 = _ := hf 1 (by simp)
            rw [e1]
            obtain ⟨b2, e36, hbb2, hrow2⟩ := hf 2 (by simp)
            rw [e36]
            have e3 : vs 3 = _ := hf 3 (by simp)
            rw [e3]
            obtain ⟨b4, e38, hbb4, hrow4⟩ := hf 4 (by simp)
            rw [e38]
            obtain ⟨s5, e39⟩ := hf 5 (by simp)
            rw [e39]
            have e6 : vs 6 = _ := hf 6 (by simp)
            rw [e6]
            obtain ⟨x7, e41, hx7, hx7'⟩ := hf 7 (by simp)
            rw [e41]
            obtain ⟨x8, e42⟩ := hf 8 (by simp)
            rw [e42]
            have e9 : vs 9 = _ := hf 9 (by simp)
            rw [e9]
            obtain ⟨x10, e44, hx10, hx10'⟩ := hf 10 (by simp)
            rw [e44]
            obtain ⟨x11, e45⟩ := hf 11 (by simp)
            rw [e45]
            obtain ⟨x12, e46⟩ := hf 12 (by simp)
            rw [e46]
            obtain ⟨s13, x13, y13, e47⟩ := hf 13 (by simp)
            rw [e47]
            obtain ⟨b14, s14, x14, y14, e48, hbb14, hrow14⟩ := hf 14 (by simp)
            rw [e48]
            have e15 := hf 15 (by simp)
            have hBq : ∀ c, c < w.heap.size → c < wq.heap.size := fun c hc => by have := hC.1.size; omega
            go_wp2_with fail
            first | exact ⟨hC.keep 16 _ (by omega) hBq (Below.refl _ _), RN.below (Below.refl _ _)⟩ | exact ⟨hC.keep 16 _ (by omega) hBq (Below.refl _ _), RN.below (Below.refl _ _), rfl⟩ | exact hC.keep 16 _ (by omega) hBq (Below.refl _ _)
        · intro vs LL wq hLL hC hf
          have e16 : vs 16 = _ := hf 16 (by omega)
          have h15 := hf 15 (by omega)
          have hOld := hC.1
          have hD := hC.2.1
          obtain ⟨n1, xs1, hown1, hn1⟩ := hC.2.2.2.2 h15
          obtain ⟨xa, xc, hxe⟩ := own_shape hown1
          rw [putSome_all]
          simp only [putL, List.range, List.range.loop, List.foldl_nil, List.foldl_cons, List.getElem?_cons_zero, List.getElem?_cons_succ, List.drop_succ_cons, List.drop_zero]
          rw [e16, hxe]
          rw [hxe] at hown1
          clear e16 h15 hf hLL hC hxe
          have hKq := MK.old (unhide hK) hOld hD (fun g e => (unhide hvalt g e).1)
          have hfq := (hOld.block bf hlbf hne2 (by omega)).trans (unhide hfont)
          have hcq : wq.cell? ⟨bf, 2, none⟩ = some va := (cell_of_row _ bf 2 _ _ _ hfq).trans rfl
          have hzq : wq.frozen? ⟨bf, 2, none⟩ = false := by simp [World.frozen?, hfq]
          replace hKq := hide hKq; replace hown1 := hide hown1; replace hfq := hide hfq; replace hOld := hide hOld; replace hD := hide hD
          go_simp
          go_wp2_with fail
          go_roundw
          case rel => exact ⟨k + 1, _, by omega, by go_num, ((unhide hKq).set _).1, Rw.set ⟨n1, xs1, unhide hown1, hn1⟩⟩
          case measure => simp [intOf]; omega
      · obtain rfl : k = cnt := by omega
        obtain ⟨cnt', hcnt'⟩ : ∃ c, c = k := ⟨_, rfl⟩
        rw [← hcnt'] at hrw
        have tk : ¬ (k : Int) < (k : Int) := by omega
        replace hK := hide hK; replace hrw := hide hrw
        go_wp2_with fail
        refine (next_any b0 (· < w.heap.size) _ _ (unhide hK).draw (by omega) (by omega)).mono ?_
        rintro e w4 ⟨v8, rfl, hv80, hv81, hd4, hg4, hz4⟩
        have hK4 := (unhide hK).next hg4 hd4
        have hA4 := (unhide hrw).next hg4 o2
        obtain ⟨sf, nf, hf4⟩ := id hK4.font
        have hlf4 := hK4.lt
        have hcA : ∀ o, (w4.alloc o).cell? ⟨bf, 3, none⟩ = some (.slice none 0 0) := fun o => (cell_of_row _ bf 3 _ _ _ ((Below.heap_alloc _ _ _ hlf4).trans hf4)).trans rfl
        have hzA : ∀ o, (w4.alloc o).frozen? ⟨bf, 3, none⟩ = false := fun o => by simp [World.frozen?, (Below.heap_alloc w4 o bf hlf4).trans hf4]
        have hKA : ∀ o v, MK w ((w4.setCell ⟨bf, 3, none⟩ v).alloc o) b0 bf va v (.slice none 0 0) := fun o v => ((hK4.set v).2.1).upto ((Below.refl _ _).alloc (by simp [World.setCell]; omega) o)
        have hAA : ∀ o v, Rw bf 69 4 cnt' ((w4.setCell ⟨bf, 3, none⟩ v).alloc o) va := fun o v => (Rw.set hA4).below ((Below.refl _ _).alloc (Nat.le_refl _) o)
        have hGA : ∀ (cs : Array Value) v, cs.size = 7 → ((w4.setCell ⟨bf, 3, none⟩ v).alloc (Obj.cells cs 64)).ownsRow (bf + 1) 64 7 (.slice (some ⟨w4.heap.size, 0, none⟩) 1 1) 1 cs.toList := fun cs v hcs => by
          have hnew := heap_alloc_new (w4.setCell ⟨bf, 3, none⟩ v) (Obj.cells cs 64)
          rw [show (w4.setCell ⟨bf, 3, none⟩ v).heap.size = w4.heap.size by simp [World.setCell]] at hnew
          exact ⟨by simp [hcs], .inr ⟨w4.heap.size, 1, cs, rfl, by omega, hnew, Nat.le_refl _, by decide, by omega, List.take_of_length_le (by simp [hcs])⟩⟩
        clear hf4 hg4 hd4 hz4 hK4 hA4 hK hrw
        replace hKA := hide hKA; replace hAA := hide hAA; replace hGA := hide hGA
        go_wp2_with fail
        go_loopw [8] (fun v8 wr => ∃ (k : Nat) (v3 : Value) (xs : List Value), 1 ≤ k ∧ k ≤ 9 ∧ v8 = .int .i64 (k : Int) ∧ MK w wr b0 bf va v3 (.slice none 0 0) ∧ Rw bf 69 4 cnt' wr va ∧ wr.ownsRow (bf + 1) 64 7 v3 k xs ∧ Advs k xs) (fun v _ => (9 - intOf v).toNat)
        case atStart => exact ⟨1, _, _, by omega, by omega, rfl, unhide hKA _ _, unhide hAA _ _, unhide hGA _ _ rfl, advs_one⟩
        case round =>
          clear hcA hzA hKA hAA hGA
          obtain ⟨q, v3, xs, hq1, hq9, rfl, hK, hA, hG, hadv⟩ := hrel
          obtain ⟨wo, hwo⟩ : ∃ wo : World, wo = wr := ⟨_, rfl⟩
          rw [← hwo] at hK hA hG ⊢
          clear hwo
          by_cases hlt : q < 9
          · have tq : (q : Int) < 9 := by omega
            have hbs := hK.below.size
            have hlbf := hK.lt
            have hdw := draw_any (· < w.heap.size) a len cap L q wo (hL.below hK.below) hlen (by omega) (fun c hc => by omega)
            replace hK := hide hK; replace hA := hide hA; replace hG := hide hG; replace hadv := hide hadv; replace hdw := hide hdw
            go_wp2_with fail
            refine (unhide hdw).mono ?_
            rintro e w5 ⟨be, rfl, hde, hb5, hbe1, hbe2⟩
            clear hdw
            replace hde := hide hde; replace hb5 := hide hb5
            go_upto_region 14 with fail
            refine wp_region_frontG 12 (fun _ _ w' => w5.grownBy w' (some be) ∧ DrawAt w' be (· < w.heap.size)) (RN w5)
              (fun ix v w' => match ix with
                | 0 => v = .int .i64 (q : Int)
                | 1 => v = .int .i64 (48 + (q : Int))
                | 2 => v = .int .u8 ((48 + q : Nat) : Int)
                | 3 => ∃ b, v = .slice (some ⟨b, 0, none⟩) 1 1 ∧ w5.heap.size ≤ b ∧ w'.heap[b]? = some (.cells #[.int .u8 ((48 + q : Nat) : Int)] 5 (0, 0))
                | 4 => ∃ s : ByteArray, v = .string s ∧ s.size = 1
                | 5 => ∃ s : ByteArray, v = .string s
                | 6 => v = .pointer (some ⟨be, 0, none⟩)
                | 7 => ∃ x : Int, v = .int .i64 x ∧ 0 ≤ x ∧ x < 4
                | 8 => ∃ x : Int, v = .int .i64 x ∧ 0 ≤ x ∧ x ≤ 12
                | 9 => ∃ x : Int, v = .int .i64 x ∧ 40 ≤ x ∧ x ≤ 52
                | 10 => ∃ (s : ByteArray) (x : Int), v = .agg #[.string s, .int .i64 x, .slice none 0 0, .slice none 0 0, .slice none 0 0, .slice none 0 0, .slice none 0 0] ∧ 40 ≤ x ∧ x ≤ 52
                | 11 => ∃ b, v = .pointer (some ⟨b, 0, none⟩) ∧ w5.heap.size ≤ b ∧ w'.heap[b]? = some (.cells #[.string ⟨#[]⟩, .int .i64 0, .slice none 0 0, .slice none 0 0, .slice none 0 0, .slice none 0 0, .slice none 0 0] 64 (0, 0))
                | _ => True) (by rfl) (by kernel_rfl) ?_ ?_ ?_ ?_
            · exact ⟨grown_of_below ((Below.refl _ _).drew) _, (unhide hde).drew⟩
            · intro wa wb hR ix v hv
              match ix, hv with
              | 0, h => exact h
              | 1, h => exact h
              | 2, h => exact h
              | 3, h => obtain ⟨b, h1, h2, h3⟩ := h; exact ⟨b, h1, h2, hR.blk h2 h3⟩
              | 4, h => exact h
              | 5, h => exact h
              | 6, h => exact h
              | 7, h => exact h
              | 8, h => exact h
              | 9, h => exact h
              | 10, h => exact h
              | 11, h => obtain ⟨b, h1, h2, h3⟩ := h; exact ⟨b, h1, h2, hR.blk h2 h3⟩
              | _ + 12, _ => trivial
            · intro ix hix
              obtain rfl | rfl | rfl | rfl | rfl | rfl | rfl | rfl | rfl | rfl | rfl | rfl : ix = 0 ∨ ix = 1 ∨ ix = 2 ∨ ix = 3 ∨ ix = 4 ∨ ix = 5 ∨ ix = 6 ∨ ix = 7 ∨ ix = 8 ∨ ix = 9 ∨ ix = 10 ∨ ix = 11 := by omega
              · refine FrontStep.of [] _ rfl (by kernel_rfl) ?_
                intro vs LL wq hLL hC hf
                simp only [putL, List.foldl_nil]
                go_wp2_with fail
                first | exact ⟨hC, RN.below (Below.refl _ _)⟩ | exact RN.below (Below.refl _ _) | exact ⟨hC, RN.below (Below.refl _ _), rfl⟩ | exact ⟨RN.below (Below.refl _ _), by omega⟩
              · refine FrontStep.of [0] _ rfl (by kernel_rfl) ?_
                intro vs LL wq hLL hC hf
                simp only [putL, List.foldl_nil, List.foldl_cons, List.getElem?_cons_zero]
                have e0 : vs 0 = _ := hf 0 (by simp)
                rw [e0]
                go_wp2_with fail
                first | exact ⟨hC, RN.below (Below.refl _ _)⟩ | exact RN.below (Below.refl _ _) | exact ⟨hC, RN.below (Below.refl _ _), rfl⟩ | exact ⟨RN.below (Below.refl _ _), by omega⟩
              · refine FrontStep.of [1] _ rfl (by kernel_rfl) ?_
                intro vs LL wq hLL hC hf
                simp only [putL, List.foldl_nil, List.foldl_cons, List.getElem?_cons_zero, List.getElem?_cons_succ]
                have e1 : vs 1 = _ := hf 1 (by simp)
                rw [e1]
                go_wp2_with fail
                first | exact ⟨hC, RN.below (Below.refl _ _)⟩ | exact RN.below (Below.refl _ _) | exact ⟨RN.below (Below.refl _ _), by omega⟩ | trace_state
              · refine FrontStep.of [2] _ rfl (by kernel_rfl) ?_
                intro vs LL wq hLL hC hf
                simp only [putL, List.foldl_nil, List.foldl_cons, List.getElem?_cons_zero, List.getElem?_cons_succ]
                have e2 : vs 2 = _ := hf 2 (by simp)
                rw [e2]
                have hBq : ∀ c, c < w.heap.size → c < wq.heap.size := fun c hc => by have := hC.1.size; omega
                go_wp2_with fail
                exact ⟨⟨grown_trans hC.1 (World.grownBy_alloc _ _ _), hC.2.below hBq ((Below.refl _ _).alloc (Nat.le_refl _) _)⟩, RN.below ((Below.refl _ _).alloc (Nat.le_refl _) _), hC.1.size, (Array.getElem?_eq_some_iff.1 (heap_alloc_new _ _)).2⟩
              · refine FrontStep.of [3] _ rfl (by kernel_rfl) ?_
                intro vs LL wq hLL hC hf
                simp only [putL, List.foldl_nil, List.foldl_cons, List.getElem?_cons_zero, List.getElem?_cons_succ]
                obtain ⟨b3, e67, hbb3, hrow3⟩ := hf 3 (by simp)
                rw [e67]
                have hcv := mconv1 wq b3 (48 + q) (by omega) hrow3
                go_wp2_with fail
                first | exact ⟨RN.below (Below.refl _ _), rfl⟩ | exact ⟨hC, RN.below (Below.refl _ _), rfl⟩ | exact RN.below (Below.refl _ _) | trace_state
              · refine FrontStep.of [4] _ rfl (by kernel_rfl) ?_
                intro vs LL wq hLL hC hf
                simp only [putL, List.foldl_nil, List.foldl_cons, List.getElem?_cons_zero, List.getElem?_cons_succ]
                obtain ⟨s4, e68, hs4⟩ := hf 4 (by simp)
                rw [e68]
                go_wp2_with fail
                first | exact ⟨hC, RN.below (Below.refl _ _)⟩ | exact RN.below (Below.refl _ _) | exact ⟨hC, RN.below (Below.refl _ _), rfl⟩ | exact ⟨RN.below (Below.refl _ _), by omega⟩
              · refine FrontStep.of [] _ rfl (by kernel_rfl) ?_
                intro vs LL wq hLL hC hf
                simp only [putL, List.foldl_nil]
                go_wp2_with fail
                first | exact ⟨hC, RN.below (Below.refl _ _)⟩ | exact RN.below (Below.refl _ _) | exact ⟨hC, RN.below (Below.refl _ _), rfl⟩ | exact ⟨RN.below (Below.refl _ _), by omega⟩
              · refine FrontStep.of [6] _ rfl (by kernel_rfl) ?_
                intro vs LL wq hLL hC hf
                simp only [putL, List.foldl_nil, List.foldl_cons, List.getElem?_cons_zero, List.getElem?_cons_succ]
                have e6 : vs 6 = _ := hf 6 (by simp)
                rw [e6]
                have hb0q := hC.2.lt
                go_wp2_with fail
                refine (next_any be (· < w.heap.size) _ _ hC.2 (by omega) (by omega)).mono ?_
                rintro e w7 ⟨v, rfl, hv0, hv1, hd7, hg7, hz7⟩
                go_wp2_with fail
                exact ⟨grown_trans hC.1 hg7, RN.grown hg7 (fun g e => by injection e with e; omega)⟩
              · refine FrontStep.of [7] _ rfl (by kernel_rfl) ?_
                intro vs LL wq hLL hC hf
                simp only [putL, List.foldl_nil, List.foldl_cons, List.getElem?_cons_zero, List.getElem?_cons_succ]
                obtain ⟨x7, e71, hx7, hx7'⟩ := hf 7 (by simp)
                rw [e71]
                go_wp2_with fail
                first | exact ⟨hC, RN.below (Below.refl _ _)⟩ | exact RN.below (Below.refl _ _) | exact ⟨hC, RN.below (Below.refl _ _), rfl⟩ | exact ⟨RN.below (Below.refl _ _), by omega⟩
              · refine FrontStep.of [8] _ rfl (by kernel_rfl) ?_
                intro vs LL wq hLL hC hf
                simp only [putL, List.foldl_nil, List.foldl_cons, List.getElem?_cons_zero, List.getElem?_cons_succ]
                obtain ⟨x8, e72, hx8, hx8'⟩ := hf 8 (by simp)
                rw [e72]
                go_wp2_with fail
                first | exact ⟨hC, RN.below (Below.refl _ _)⟩ | exact RN.below (Below.refl _ _) | exact ⟨hC, RN.below (Below.refl _ _), rfl⟩ | exact ⟨RN.below (Below.refl _ _), by omega⟩
              · refine FrontStep.of [5, 9] _ rfl (by kernel_rfl) ?_
                intro vs LL wq hLL hC hf
                simp only [putL, List.foldl_nil, List.foldl_cons, List.getElem?_cons_zero, List.getElem?_cons_succ]
                obtain ⟨s5, e69⟩ := hf 5 (by simp)
                rw [e69]
                obtain ⟨x9, e73, hx9, hx9'⟩ := hf 9 (by simp)
                rw [e73]
                go_wp2_with fail
                exact ⟨RN.below (Below.refl _ _), _, _, ⟨rfl, rfl⟩, hx9, hx9'⟩
              · refine FrontStep.of [] _ rfl (by kernel_rfl) ?_
                intro vs LL wq hLL hC hf
                simp only [putL, List.foldl_nil]
                have hBq : ∀ c, c < w.heap.size → c < wq.heap.size := fun c hc => by have := hC.1.size; omega
                go_wp2_with fail
                exact ⟨⟨grown_trans hC.1 (World.grownBy_alloc _ _ _), hC.2.below hBq ((Below.refl _ _).alloc (Nat.le_refl _) _)⟩, RN.below ((Below.refl _ _).alloc (Nat.le_refl _) _), hC.1.size, (Array.getElem?_eq_some_iff.1 (heap_alloc_new _ _)).2⟩
            · intro vs LL wq hLL hC hf
              obtain ⟨bg, e11, hbg, hrowg⟩ := hf 11 (by omega)
              obtain ⟨s10, x, e10, hx1, hx2⟩ := hf 10 (by omega)
              rw [putSome_all]
              simp only [putL, List.range, List.range.loop, List.foldl_nil, List.foldl_cons, List.getElem?_cons_zero, List.getElem?_cons_succ, List.drop_succ_cons, List.drop_zero]
              rw [e11, e10]
              clear e11 e10 hf hLL
              have hc0 : wq.cell? ⟨bg, 0, none⟩ = some (.string ⟨#[]⟩) := (cell_of_row _ bg 0 _ _ _ hrowg).trans rfl
              have hc1 : wq.cell? ⟨bg, 1, none⟩ = some (.int .i64 0) := (cell_of_row _ bg 1 _ _ _ hrowg).trans rfl
              have hc2 : wq.cell? ⟨bg, 2, none⟩ = some (.slice none 0 0) := (cell_of_row _ bg 2 _ _ _ hrowg).trans rfl
              have hc3 : wq.cell? ⟨bg, 3, none⟩ = some (.slice none 0 0) := (cell_of_row _ bg 3 _ _ _ hrowg).trans rfl
              have hc4 : wq.cell? ⟨bg, 4, none⟩ = some (.slice none 0 0) := (cell_of_row _ bg 4 _ _ _ hrowg).trans rfl
              have hc5 : wq.cell? ⟨bg, 5, none⟩ = some (.slice none 0 0) := (cell_of_row _ bg 5 _ _ _ hrowg).trans rfl
              have hc6 : wq.cell? ⟨bg, 6, none⟩ = some (.slice none 0 0) := (cell_of_row _ bg 6 _ _ _ hrowg).trans rfl
              have hfz : ∀ i, wq.frozen? ⟨bg, i, none⟩ = false := fun i => by simp [World.frozen?, hrowg]
              have hz0 := hfz 0; have hz1 := hfz 1; have hz2 := hfz 2; have hz3 := hfz 3; have hz4 := hfz 4; have hz5 := hfz 5; have hz6 := hfz 6
              have hGK : GK w wo ((((((((wq.setCell ⟨bg, 0, none⟩ (.string s10)).setCell ⟨bg, 1, none⟩ (.int .i64 x)).setCell ⟨bg, 2, none⟩ (.slice none 0 0)).setCell ⟨bg, 3, none⟩ (.slice none 0 0)).setCell ⟨bg, 4, none⟩ (.slice none 0 0)).setCell ⟨bg, 5, none⟩ (.slice none 0 0)).setCell ⟨bg, 6, none⟩ (.slice none 0 0))) be bg x (.slice none 0 0) (.slice none 0 0) (.slice none 0 0) (.slice none 0 0) (.slice none 0 0) := by
                have hs7 := sets7 wq bg (.string s10) (.int .i64 x) (.slice none 0 0) (.slice none 0 0) (.slice none 0 0) (.slice none 0 0) (.slice none 0 0)
                have hw := heap_set (off := 6) (heap_set (off := 5) (heap_set (off := 4) (heap_set (off := 3) (heap_set (off := 2) (heap_set (off := 1) (heap_set (off := 0) hrowg (.string s10)) (.int .i64 x)) (.slice none 0 0)) (.slice none 0 0)) (.slice none 0 0)) (.slice none 0 0)) (.slice none 0 0)
                have hbew : be < wq.heap.size := hC.2.lt
                exact ⟨⟨s10, hw⟩, hC.2.same (hs7.block be hbew (fun e => by injection e; omega)) (fun c hc => hs7.block c (by have := hC.1.size; have := hc; omega) (fun e => by injection e; have := hc; omega)),
                  Below.grown (Below.grown (unhide hb5) hC.1 (unhide hb5).size (fun g e => by injection e with e; omega)) hs7 (by have := hC.1.size; have := (unhide hb5).size; omega) (fun g e => by injection e with e; have := (unhide hb5).size; omega), hbe2, by omega, hbs⟩
              replace hGK := hide hGK
              clear hfz hrowg hC
              go_simp
              go_upto_if 76 with fail
              obtain ⟨w6, hw6⟩ : ∃ w6, w6 = (((((((wq.setCell ⟨bg, 0, none⟩ (.string s10)).setCell ⟨bg, 1, none⟩ (.int .i64 x)).setCell ⟨bg, 2, none⟩ (.slice none 0 0)).setCell ⟨bg, 3, none⟩ (.slice none 0 0)).setCell ⟨bg, 4, none⟩ (.slice none 0 0)).setCell ⟨bg, 5, none⟩ (.slice none 0 0)).setCell ⟨bg, 6, none⟩ (.slice none 0 0)) := ⟨_, rfl⟩
              rw [← hw6] at hGK ⊢
              clear hw6 hc0 hc1 hc2 hc3 hc4 hc5 hc6 hz0 hz1 hz2 hz3 hz4 hz5 hz6
              go_cut [] (fun wx => ∃ u2 u3 u4 u5, Sl u2 ∧ Sl u3 ∧ Sl u4 ∧ Sl u5 ∧ GK w wo wx be bg x u2 u3 u4 u5 (.slice none 0 0))
              case first =>
                by_cases h6 : q = 6
                · have t6 : ((q : Int) == 6) = true := beq_iff_eq.2 (by omega)
                  replace h6 := hide h6
                  go_wp2_with fail
                  refine (next_any be (· < w.heap.size) _ _ (unhide hGK).draw (by omega) (by omega)).mono ?_
                  rintro e w7 ⟨n7, rfl, hn, hn', hdd, hgg, hzz⟩
                  have hG7 := hide ((unhide hGK).next hgg hdd)
                  clear hdd hgg hzz
                  go_wp2_with fail
                  refine (next_any be (· < w.heap.size) _ _ (unhide hG7).draw (by omega) (by omega)).mono ?_
                  rintro e w8 ⟨n8, rfl, hn, hn', hdd, hgg, hzz⟩
                  have hG8 := hide ((unhide hG7).next hgg hdd)
                  clear hdd hgg hzz
                  go_wp2_with fail
                  refine (next_any be (· < w.heap.size) _ _ (unhide hG8).draw (by omega) (by omega)).mono ?_
                  rintro e w9 ⟨n9, rfl, hn, hn', hdd, hgg, hzz⟩
                  have hG9 := hide ((unhide hG8).next hgg hdd)
                  clear hdd hgg hzz
                  go_wp2_with fail
                  refine (next_any be (· < w.heap.size) _ _ (unhide hG9).draw (by omega) (by omega)).mono ?_
                  rintro e w10 ⟨n10, rfl, hn, hn', hdd, hgg, hzz⟩
                  have hG10 := (unhide hG9).next hgg hdd
                  have hcA : ∀ o, (w10.alloc o).cell? ⟨bg, 4, none⟩ = some (.slice none 0 0) := fun o => by obtain ⟨_, _, _, _, _, h, _⟩ := (hG10.alloc o).cells; exact h
                  have hzA : ∀ o, (w10.alloc o).frozen? ⟨bg, 4, none⟩ = false := fun o => by obtain ⟨_, _, _, _, _, _, _, _, h⟩ := (hG10.alloc o).cells; exact h 4
                  replace hG10 := hide hG10
                  clear hdd hgg hzz hG7 hG8 hG9 hGK
                  go_wp2_with fail
                  go_meet
                  exact ⟨_, _, _, _, ⟨_, _, _, rfl⟩, ⟨_, _, _, rfl⟩, ⟨_, _, _, rfl⟩, ⟨_, _, _, rfl⟩, (((unhide hG10).alloc _).set _).2.2.1⟩
                · have t6 : ((q : Int) == 6) = false := beq_eq_false_iff_ne.2 (by omega)
                  replace h6 := hide h6
                  have hcall := outline_any be (· < w.heap.size) (q : Int) w6 (unhide hGK).draw (unhide hGK).hS (by omega) (by omega)
                  replace hcall := hide hcall
                  go_wp2_with fail
                  refine (unhide hcall).mono ?_
                  rintro e w7 ⟨oa, on, oc, ol, rfl, hd7, hg7, hon, hol⟩
                  have hG7 := (unhide hGK).next hg7 hd7
                  have hlt6 := (unhide hGK).lt
                  obtain ⟨_, _, _, hc2, _, _, _, _, hz⟩ := hG7.cells
                  have hz2 := hz 2
                  have hG7s := (hG7.set (.slice oa on oc)).1
                  have hol7 := hol.same (w' := w7.setCell ⟨bg, 2, none⟩ (.slice oa on oc)) (fun g hg => Below.heap_setCell w7 _ _ _ (fun e => by have := hg.1; simp at e; omega))
                  have hcall2 := hint_any be (· < w.heap.size) _ hG7s.draw hG7s.hS
                  replace hcall2 := hide hcall2; replace hG7s := hide hG7s; replace hol7 := hide hol7; replace hG7 := hide hG7
                  clear hcall hd7 hg7 hol hz
                  go_wp2_with fail
                  refine (unhide hcall2).mono ?_
                  rintro e w8 ⟨ha, hn, hc, rfl, hd8, hg8⟩
                  have hG8 := (unhide hG7s).next hg8 hd8
                  have hbe6 : be < w6.heap.size := by have := (unhide hGK).o2; omega
                  have hol8 := (unhide hol7).same (w' := w8) (fun g hg => hg8.block g (by simp [World.setCell]; exact hg.2) (fun e => by have := hg.1; injection e; omega))
                  obtain ⟨_, _, _, _, _, _, hc5, _, hz⟩ := hG8.cells
                  have hz5 := hz 5
                  have hG8s := (hG8.set (.slice ha hn hc)).2.2.2.1
                  have hol9 := hol8.same (w' := w8.setCell ⟨bg, 5, none⟩ (.slice ha hn hc)) (fun g hg => Below.heap_setCell w8 _ _ _ (fun e => by have := hg.1; simp at e; omega))
                  obtain ⟨_, _, _, hc2', _, _, _, _, hz'⟩ := hG8s.cells
                  have hz3 := hz' 3
                  have hcnt8 := count_any _ oa on oc ol _ hol9 hon
                  replace hG8s := hide hG8s; replace hG8 := hide hG8; replace hcnt8 := hide hcnt8
                  clear hcall2 hd8 hg8 hol8 hol9 hol7 hz hz' hc2 hz2 hG7s hG7 hGK
                  go_wp2_with fail
                  refine (unhide hcnt8).mono ?_
                  rintro e w9 ⟨m, rfl, hm8, rfl⟩
                  have hcall3 := deltas_any be (· < w.heap.size) m k _ (unhide hG8s).draw (unhide hG8s).hS hm8 (by omega)
                  replace hcall3 := hide hcall3
                  clear hcnt8
                  go_wp2_with fail
                  refine (unhide hcall3).mono ?_
                  rintro e w10 ⟨da, dn, dc, rfl, hd10, hg10⟩
                  have hG10 := (unhide hG8s).next hg10 hd10
                  obtain ⟨_, _, _, _, hc3, _, _, _, hz⟩ := hG10.cells
                  have hz3' := hz 3
                  replace hG10 := hide hG10
                  clear hcall3 hd10 hg10 hz hG8s hG8
                  go_wp2_with fail
                  go_meet
                  exact ⟨_, _, _, _, ⟨_, _, _, rfl⟩, ⟨_, _, _, rfl⟩, ⟨_, _, _, rfl⟩, ⟨_, _, _, rfl⟩, ((unhide hG10).set _).2.1⟩
              case rest =>
                obtain ⟨u2, u3, u4, u5, ⟨a2, n2, c2, rfl⟩, ⟨a3, n3, c3, rfl⟩, ⟨a4, n4, c4, rfl⟩, ⟨a5, n5, c5, rfl⟩, hGc⟩ := hcut
                obtain ⟨w10, hw10⟩ : ∃ w10, w10 = wc := ⟨_, rfl⟩
                rw [← hw10] at hGc ⊢
                clear hw10 hGK
                replace hGc := hide hGc
                go_wp2_with fail
                refine (next_any be (· < w.heap.size) _ _ (unhide hGc).draw (by omega) (by omega)).mono ?_
                rintro e w11 ⟨al, rfl, hal, hal', hdd, hgg, hzz⟩
                have hG11 := (unhide hGc).next hgg hdd
                obtain ⟨al, rfl⟩ := Int.eq_ofNat_of_zero_le hal
                have hal3 : al < 3 := by omega
                clear hdd hgg hzz hGc hal hal'
                replace hG11 := hide hG11
                go_wp2_with fail
                go_loopw [12] (fun v12 wx => ∃ (i : Nat) (v6 : Value) (ys : List Value), i ≤ al ∧ v12 = .int .i64 (i : Int) ∧ GK w wo wx be bg x (.slice a2 n2 c2) (.slice a3 n3 c3) (.slice a4 n4 c4) (.slice a5 n5 c5) v6 ∧ wx.ownsRow (bg + 1) 3 1 v6 i ys) (fun v _ => al - (intOf v).toNat)
                case atStart => exact ⟨0, _, [], Nat.zero_le _, rfl, unhide hG11, World.ownsRow_nil _ _ _ _⟩
                case round =>
                  clear hG11
                  obtain ⟨i, v6, ys, hi, rfl, hGx, hY⟩ := hrel
                  obtain ⟨wx, hwx⟩ : ∃ wx, wx = wr := ⟨_, rfl⟩
                  rw [← hwx] at hGx hY ⊢
                  clear hwx
                  obtain ⟨ya, yc, rfl⟩ := own_shape hY
                  obtain ⟨sx, hc0, hc1, hc2, hc3, hc4, hc5, hc6, hz⟩ := hGx.cells
                  have hltx := hGx.lt
                  by_cases hlta : i < al
                  · replace hGx := hide hGx
                    clear hc0 hc1 hc2 hc3 hc4 hc5 hz
                    have ti : (i : Int) < (al : Int) := by omega
                    go_wp2_with (at_builtin; refine wpList_append_own _ rfl _ _ 24 rfl (bg + 1) 3 i3 (.int .i64 0) 1 8 Try.underlying24 (unhide hi3) (unhide hiz3) (unhide his3) (unhide hiy3) rfl (by decide) _ _ _ rfl (hY.alloc _) ⟨wx.heap.size, 0, none⟩ 1 1 [?el] rfl rfl ?c1 ?c2 ?c3 ?c4 ?c5 ?_)
                    case c1 => exact one_of_new _ _
                    case c2 => intro u hu; simp at hu; subst hu; rfl
                    case c3 => unfold maxLen; omega
                    case c4 => omega
                    case c5 => simp; omega
                    intro v' w12 hown12 hg12 _
                    obtain ⟨va', vc', rfl⟩ := own_shape hown12
                    have hG12 := ((unhide hGx).alloc _).upto (Below.grown (Below.refl _ _) hg12 (by simp; omega) (fun g e => (hY.lt g e).1))
                    obtain ⟨_, _, _, _, _, _, _, hc6', hz'⟩ := hG12.cells
                    have hz6' := hz' 6
                    clear hg12 hz' hc6 hY
                    replace hG12 := hide hG12; replace hown12 := hide hown12
                    go_wp2_with fail
                    go_roundw
                    case rel => exact ⟨i + 1, _, _, by omega, by go_num, ((unhide hG12).set _).2.2.2.2, (unhide hown12).kept (grownBy_set _ bg 6 _) (.inr (fun e => by have := ((unhide hown12).lt bg e).1; omega))⟩
                    case measure => simp [intOf]; omega
                  · obtain rfl : i = al := by omega
                    have ti : ¬ (i : Int) < (i : Int) := by omega
                    have hbo := hGx.below
                    have hKx := (unhide hK).upto (hbo.mono (by omega))
                    have hAx := (unhide hA).below hbo
                    have hGr := (unhide hG).kept (grown_of_below hbo none) (by cases v3.ownBlock <;> simp)
                    obtain ⟨sk, nk, hfk⟩ := id hKx.font
                    have hck : wx.cell? ⟨bf, 3, none⟩ = some v3 := (cell_of_row _ bf 3 _ _ _ hfk).trans rfl
                    obtain ⟨ga, gc, hge⟩ := own_shape hGr
                    rw [hge] at hck
                    have hszx := hbo.size
                    have hGl := hGr.1
                    rw [hge] at hGr
                    clear hz hfk hbo
                    replace hKx := hide hKx; replace hAx := hide hAx; replace hGx := hide hGx; replace hge := hide hge
                    go_wp2_with (at_builtin; refine wpList_append_own _ rfl _ _ 29 rfl (bf + 1) 64 i2 _ 7 144 Try.underlying29 (unhide hi2) (unhide hiz2) (unhide his2) (unhide hiy2) rfl (by decide) _ _ _ rfl (hGr.alloc _) ⟨wx.heap.size, 0, none⟩ 1 1 [.string sx, .int .i64 x, .slice a2 n2 c2, .slice a3 n3 c3, .slice a4 n4 c4, .slice a5 n5 c5, .slice ya i yc] rfl rfl ?f1 ?f2 ?f3 ?f4 ?f5 ?_)
                    case f2 => first | exact ⟨rfl, rfl, rfl, rfl, rfl, rfl, rfl⟩ | (intro u hu; simp at hu; rcases hu with rfl | rfl | rfl | rfl | rfl | rfl | rfl <;> rfl)
                    case f3 => unfold maxLen; omega
                    case f4 => omega
                    case f5 => first | omega | (simp; omega)
                    intro v' w12 hown12 hg12 _
                    obtain ⟨va', vc', rfl⟩ := own_shape hown12
                    have hbg : Below (bf + 1) wx w12 := Below.grown ((Below.refl _ _).alloc (by omega) _) hg12 (by simp; omega) (fun g e => (hGr.lt g e).1)
                    have hK12 := (unhide hKx).upto hbg
                    obtain ⟨sk, nk, hfk⟩ := id hK12.font
                    have hck' : w12.cell? ⟨bf, 3, none⟩ = some v3 := (cell_of_row _ bf 3 _ _ _ hfk).trans rfl
                    have hzk' : w12.frozen? ⟨bf, 3, none⟩ = false := by simp [World.frozen?, hfk]
                    have hA12 : Rw bf 69 4 cnt' w12 va := by
                      obtain ⟨m, zs, h1, h2⟩ := unhide hAx
                      refine ⟨m, zs, (h1.alloc _).kept hg12 ?_, h2⟩
                      cases hvo : va.ownBlock with
                      | none => exact .inl rfl
                      | some g => exact .inr (fun e => row_ne hGr h1 (by decide) hvo e.symm)
                    clear hg12 hfk hbg hc0 hc1 hc2 hc3 hc4 hc5 hc6 hck hY
                    replace hK12 := hide hK12; replace hA12 := hide hA12; replace hown12 := hide hown12; replace hGr := hide hGr; replace hGl := hide hGl
                    rw [unhide hge] at hck'
                    go_wp2_with fail
                    go_roundw
                    case rel => exact ⟨q + 1, _, _, by omega, by omega, by go_num, ((unhide hK12).set _).2.1, Rw.set (unhide hA12), (unhide hown12).kept (grownBy_set _ bf 3 _) (.inr (fun e => by have := ((unhide hown12).lt bf e).1; omega)), Advs.snoc (unhide hadv) (unhide hGl) (by omega) (by omega)⟩
                    case measure => simp [intOf]; omega
          · obtain rfl : q = 9 := by omega
            obtain ⟨ga, gc, rfl⟩ := own_shape hG
            replace hK := hide hK; replace hA := hide hA; replace hG := hide hG; replace hadv := hide hadv
            clear hlt
            go_wp2_with fail
            go_loopw [13] (fun v13 wr => ∃ (k : Nat) (v4 : Value), k ≤ 9 ∧ v13 = .int .i64 (k : Int) ∧ MK w wr b0 bf va (.slice ga 9 gc) v4 ∧ Rw bf 69 4 cnt' wr va ∧ wr.ownsRow (bf + 1) 64 7 (.slice ga 9 gc) 9 xs ∧ Rw bf 78 2 k wr v4) (fun v _ => (9 - intOf v).toNat)
            case atStart => exact ⟨0, _, by omega, rfl, unhide hK, unhide hA, unhide hG, 0, [], World.ownsRow_nil _ _ _ _, Nat.le_refl _⟩
            case round =>
              clear hK hA hG
              obtain ⟨p, v4, hp, rfl, hK, hA, hG, hrw⟩ := hrel
              obtain ⟨wo, hwo⟩ : ∃ wo : World, wo = wr := ⟨_, rfl⟩
              rw [← hwo] at hK hA hG hrw ⊢
              clear hwo
              obtain ⟨n0, xs0, hown0, hn0⟩ := id hrw
              obtain ⟨qa, qc, hqe⟩ := own_shape hown0
              have hvalt : ∀ g, v4.ownBlock = some g → bf < g ∧ g < wo.heap.size := fun g e => ⟨(hown0.lt g e).1, (hown0.lt g e).2⟩
              have hne2 : v4.ownBlock ≠ some bf := fun e => by have := (hvalt bf e).1; omega
              have hneb : v4.ownBlock ≠ some b0 := fun e => by have := (hvalt b0 e).1; omega
              obtain ⟨sf, nf, hfont⟩ := id hK.font
              have hdr := hK.draw
              have hbs := hK.below.size
              have hlbf := hK.lt
              clear hn0 hown0
              by_cases hlt : p < 9
              · have tp : (p : Int) < 9 := by omega
                replace hK := hide hK; replace hfont := hide hfont; replace hvalt := hide hvalt; replace hrw := hide hrw; replace hdr := hide hdr; replace hA := hide hA; replace hG := hide hG; replace hqe := hide hqe
                go_upto_region 29 with fail
                refine wp_region_frontG 14 (fun LL vs w' => C7 wo b0 w.heap.size 78 2 p bf 12 v4 LL vs w') (RN wo)
                  (fun ix v w' => match ix with
                    | 0 => v = .pointer (some ⟨bf, 4, none⟩)
                    | 1 => v = v4
                    | 2 => v = .int .i64 (p : Int)
                    | 3 => ∃ x : Int, v = .int .u8 x ∧ 0 ≤ x ∧ x ≤ 255
                    | 4 => ∃ x : Int, v = .int .i64 x
                    | 5 => v = .int .i64 (1 + v8)
                    | 6 => ∃ b, v = .slice (some ⟨b, 0, none⟩) 9 9 ∧ wo.heap.size ≤ b ∧ w'.heap[b]? = some (.cells #[.int .i64 8, .int .i64 6, .int .i64 5, .int .i64 1, .int .i64 2, .int .i64 3, .int .i64 4, .int .i64 7, .int .i64 (1 + v8)] 3 (0, 0))
                    | 7 => v = .int .i64 (p : Int)
                    | 8 => ∃ b, v = .pointer (some ⟨b, p, none⟩) ∧ wo.heap.size ≤ b ∧ w'.heap[b]? = some (.cells #[.int .i64 8, .int .i64 6, .int .i64 5, .int .i64 1, .int .i64 2, .int .i64 3, .int .i64 4, .int .i64 7, .int .i64 (1 + v8)] 3 (0, 0))
                    | 9 => ∃ x : Int, v = .int .i64 x
                    | 10 => ∃ x y : Int, v = .agg #[.int .i64 x, .int .i64 y]
                    | 11 => ∃ (b : Nat) (x y : Int), v = .slice (some ⟨b, 0, none⟩) 1 1 ∧ wo.heap.size ≤ b ∧ w'.heap[b]? = some (.cells #[.int .i64 x, .int .i64 y] 78 (0, 0))
                    | 12 => v ≠ undef
                    | 13 => v = .pointer (some ⟨bf, 4, none⟩)
                    | _ => True) (by rfl) (by kernel_rfl) ?_ ?_ ?_ ?_
                · exact C7.start (unhide hdr) (unhide hrw)
                · intro wa wb hR ix v hv
                  match ix, hv with
                  | 0, h => exact h
                  | 1, h => exact h
                  | 2, h => exact h
                  | 3, h => exact h
                  | 4, h => exact h
                  | 5, h => exact h
                  | 6, h => obtain ⟨b, h1, h2, h3⟩ := h; exact ⟨b, h1, h2, hR.blk h2 h3⟩
                  | 7, h => exact h
                  | 8, h => obtain ⟨b, h1, h2, h3⟩ := h; exact ⟨b, h1, h2, hR.blk h2 h3⟩
                  | 9, h => exact h
                  | 10, h => exact h
                  | 11, h => obtain ⟨b, x, y, h1, h2, h3⟩ := h; exact ⟨b, x, y, h1, h2, hR.blk h2 h3⟩
                  | 12, h => exact h
                  | 13, h => exact h
                  | _ + 14, _ => trivial
                · intro ix hix
                  obtain rfl | rfl | rfl | rfl | rfl | rfl | rfl | rfl | rfl | rfl | rfl | rfl | rfl | rfl : ix = 0 ∨ ix = 1 ∨ ix = 2 ∨ ix = 3 ∨ ix = 4 ∨ ix = 5 ∨ ix = 6 ∨ ix = 7 ∨ ix = 8 ∨ ix = 9 ∨ ix = 10 ∨ ix = 11 ∨ ix = 12 ∨ ix = 13 := by omega
                  · refine FrontStep.of [] _ rfl (by kernel_rfl) ?_
                    intro vs LL wq hLL hC hf
                    simp only [putL, List.foldl_nil]
                    have hBq : ∀ c, c < w.heap.size → c < wq.heap.size := fun c hc => by have := hC.1.size; omega
                    go_wp2_with fail
                    first | exact ⟨hC.keep 0 _ (by omega) hBq (Below.refl _ _), RN.below (Below.refl _ _)⟩ | exact ⟨hC.keep 0 _ (by omega) hBq (Below.refl _ _), RN.below (Below.refl _ _), rfl⟩ | exact hC.keep 0 _ (by omega) hBq (Below.refl _ _)
                  · refine FrontStep.of [0] _ rfl (by kernel_rfl) ?_
                    intro vs LL wq hLL hC hf
                    simp only [putL, List.foldl_nil, List.foldl_cons, List.getElem?_cons_zero]
                    have e0 : vs 0 = _ := hf 0 (by simp)
                    rw [e0]
                    have hcf : wq.cell? ⟨bf, 4, none⟩ = some v4 := (World.cell?_of_block (a := ⟨bf, 4, none⟩) (hC.1.block bf hlbf hne2 (by omega))).trans ((cell_of_row _ bf 4 _ _ _ (unhide hfont)).trans rfl)
                    have hBq : ∀ c, c < w.heap.size → c < wq.heap.size := fun c hc => by have := hC.1.size; omega
                    go_wp2_with fail
                    first | exact ⟨hC.keep 1 _ (by omega) hBq (Below.refl _ _), RN.below (Below.refl _ _)⟩ | exact ⟨hC.keep 1 _ (by omega) hBq (Below.refl _ _), RN.below (Below.refl _ _), rfl⟩ | exact hC.keep 1 _ (by omega) hBq (Below.refl _ _)
                  · refine FrontStep.of [] _ rfl (by kernel_rfl) ?_
                    intro vs LL wq hLL hC hf
                    simp only [putL, List.foldl_nil]
                    have hBq : ∀ c, c < w.heap.size → c < wq.heap.size := fun c hc => by have := hC.1.size; omega
                    go_wp2_with fail
                    first | exact ⟨hC.keep 2 _ (by omega) hBq (Below.refl _ _), RN.below (Below.refl _ _)⟩ | exact ⟨hC.keep 2 _ (by omega) hBq (Below.refl _ _), RN.below (Below.refl _ _), rfl⟩ | exact hC.keep 2 _ (by omega) hBq (Below.refl _ _)
                  · refine FrontStep.of [2] _ rfl (by kernel_rfl) ?_
                    intro vs LL wq hLL hC hf
                    simp only [putL, List.foldl_nil, List.foldl_cons, List.getElem?_cons_zero, List.getElem?_cons_succ]
                    have e2 : vs 2 = _ := hf 2 (by simp)
                    rw [e2]
                    have hBq : ∀ c, c < w.heap.size → c < wq.heap.size := fun c hc => by have := hC.1.size; omega
                    have hp9 : p < 9 := hlt
                    obtain ⟨u, hu⟩ : ∃ u : UInt8, (⟨#[45, 48, 49, 97, 98, 99, 100, 101, 102]⟩ : ByteArray)[p]'(by show p < 9; exact hp9) = u := ⟨_, rfl⟩
                    have hul := u.toNat_lt
                    go_wp2_with fail
                    first | exact ⟨hC.keep 3 _ (by omega) hBq (Below.refl _ _), RN.below (Below.refl _ _), by omega⟩ | exact ⟨hC.keep 3 _ (by omega) hBq (Below.refl _ _), RN.below (Below.refl _ _)⟩ | trace_state
                  · refine FrontStep.of [3] _ rfl (by kernel_rfl) ?_
                    intro vs LL wq hLL hC hf
                    simp only [putL, List.foldl_nil, List.foldl_cons, List.getElem?_cons_zero, List.getElem?_cons_succ]
                    obtain ⟨x3, e139, hx3, hx3'⟩ := hf 3 (by simp)
                    rw [e139]
                    have hBq : ∀ c, c < w.heap.size → c < wq.heap.size := fun c hc => by have := hC.1.size; omega
                    go_wp2_with fail
                    first | exact ⟨hC.keep 4 _ (by omega) hBq (Below.refl _ _), RN.below (Below.refl _ _)⟩ | trace_state
                  · refine FrontStep.of [] _ rfl (by kernel_rfl) ?_
                    intro vs LL wq hLL hC hf
                    simp only [putL, List.foldl_nil]
                    have hBq : ∀ c, c < w.heap.size → c < wq.heap.size := fun c hc => by have := hC.1.size; omega
                    go_wp2_with fail
                    first | exact ⟨hC.keep 5 _ (by omega) hBq (Below.refl _ _), RN.below (Below.refl _ _)⟩ | exact ⟨hC.keep 5 _ (by omega) hBq (Below.refl _ _), RN.below (Below.refl _ _), rfl⟩ | exact hC.keep 5 _ (by omega) hBq (Below.refl _ _)
                  · refine FrontStep.of [5] _ rfl (by kernel_rfl) ?_
                    intro vs LL wq hLL hC hf
                    simp only [putL, List.foldl_nil, List.foldl_cons, List.getElem?_cons_zero, List.getElem?_cons_succ]
                    have e5 : vs 5 = _ := hf 5 (by simp)
                    rw [e5]
                    have hBq : ∀ c, c < w.heap.size → c < wq.heap.size := fun c hc => by have := hC.1.size; omega
                    go_wp2_with fail
                    exact ⟨hC.keep 6 _ (by omega) hBq ((Below.refl _ _).alloc (Nat.le_refl _) _), RN.below ((Below.refl _ _).alloc (Nat.le_refl _) _), hC.1.size, (Array.getElem?_eq_some_iff.1 (heap_alloc_new _ _)).2⟩
                  · refine FrontStep.of [] _ rfl (by kernel_rfl) ?_
                    intro vs LL wq hLL hC hf
                    simp only [putL, List.foldl_nil]
                    have hBq : ∀ c, c < w.heap.size → c < wq.heap.size := fun c hc => by have := hC.1.size; omega
                    go_wp2_with fail
                    first | exact ⟨hC.keep 7 _ (by omega) hBq (Below.refl _ _), RN.below (Below.refl _ _)⟩ | exact ⟨hC.keep 7 _ (by omega) hBq (Below.refl _ _), RN.below (Below.refl _ _), rfl⟩ | exact hC.keep 7 _ (by omega) hBq (Below.refl _ _)
                  · refine FrontStep.of [6, 7] _ rfl (by kernel_rfl) ?_
                    intro vs LL wq hLL hC hf
                    simp only [putL, List.foldl_nil, List.foldl_cons, List.getElem?_cons_zero, List.getElem?_cons_succ]
                    obtain ⟨b6, e142, hbb6, hrow6⟩ := hf 6 (by simp)
                    rw [e142]
                    have e7 : vs 7 = _ := hf 7 (by simp)
                    rw [e7]
                    have hBq : ∀ c, c < w.heap.size → c < wq.heap.size := fun c hc => by have := hC.1.size; omega
                    go_wp2_with fail
                    first | exact ⟨hC.keep 8 _ (by omega) hBq (Below.refl _ _), RN.below (Below.refl _ _), _, ⟨rfl⟩, hbb6, hrow6⟩ | exact ⟨hC.keep 8 _ (by omega) hBq (Below.refl _ _), RN.below (Below.refl _ _), hbb6, hrow6⟩ | exact ⟨hC.keep 8 _ (by omega) hBq (Below.refl _ _), RN.below (Below.refl _ _)⟩ | trace_state
                  · refine FrontStep.of [8] _ rfl (by kernel_rfl) ?_
                    intro vs LL wq hLL hC hf
                    simp only [putL, List.foldl_nil, List.foldl_cons, List.getElem?_cons_zero, List.getElem?_cons_succ]
                    obtain ⟨b8, e144, hbb8, hrow8⟩ := hf 8 (by simp)
                    rw [e144]
                    have hBq : ∀ c, c < w.heap.size → c < wq.heap.size := fun c hc => by have := hC.1.size; omega
                    obtain ⟨sx, hsx⟩ : ∃ sx : Int, wq.cell? ⟨b8, p, none⟩ = some (.int .i64 sx) := by
                      rw [cell_of_row _ b8 p _ _ _ hrow8]
                      obtain rfl | rfl | rfl | rfl | rfl | rfl | rfl | rfl | rfl : p = 0 ∨ p = 1 ∨ p = 2 ∨ p = 3 ∨ p = 4 ∨ p = 5 ∨ p = 6 ∨ p = 7 ∨ p = 8 := by omega
                      all_goals exact ⟨_, rfl⟩
                    go_wp2_with fail
                    first | exact ⟨hC.keep 9 _ (by omega) hBq (Below.refl _ _), RN.below (Below.refl _ _)⟩ | trace_state
                  · refine FrontStep.of [4, 9] _ rfl (by kernel_rfl) ?_
                    intro vs LL wq hLL hC hf
                    simp only [putL, List.foldl_nil, List.foldl_cons, List.getElem?_cons_zero, List.getElem?_cons_succ]
                    obtain ⟨x4, e140⟩ := hf 4 (by simp)
                    rw [e140]
                    obtain ⟨x9, e145⟩ := hf 9 (by simp)
                    rw [e145]
                    have hBq : ∀ c, c < w.heap.size → c < wq.heap.size := fun c hc => by have := hC.1.size; omega
                    go_wp2_with fail
                    first | exact ⟨hC.keep 10 _ (by omega) hBq (Below.refl _ _), RN.below (Below.refl _ _)⟩ | exact ⟨hC.keep 10 _ (by omega) hBq (Below.refl _ _), RN.below (Below.refl _ _), rfl⟩ | exact hC.keep 10 _ (by omega) hBq (Below.refl _ _)
                  · refine FrontStep.of [10] _ rfl (by kernel_rfl) ?_
                    intro vs LL wq hLL hC hf
                    simp only [putL, List.foldl_nil, List.foldl_cons, List.getElem?_cons_zero, List.getElem?_cons_succ]
                    obtain ⟨x10, y10, e146⟩ := hf 10 (by simp)
                    rw [e146]
                    have hBq : ∀ c, c < w.heap.size → c < wq.heap.size := fun c hc => by have := hC.1.size; omega
                    go_wp2_with fail
                    exact ⟨hC.keep 11 _ (by omega) hBq ((Below.refl _ _).alloc (Nat.le_refl _) _), RN.below ((Below.refl _ _).alloc (Nat.le_refl _) _), hC.1.size, _, _, (Array.getElem?_eq_some_iff.1 (heap_alloc_new _ _)).2⟩
                  · refine FrontStep.of [1, 11] _ rfl (by kernel_rfl) ?_
                    intro vs LL wq hLL hC hf
                    simp only [putL, List.foldl_nil, List.foldl_cons, List.getElem?_cons_zero, List.getElem?_cons_succ]
                    have e1 : vs 1 = _ := hf 1 (by simp)
                    rw [e1]
                    obtain ⟨b11, x11, y11, e147, hbb11, hrow11⟩ := hf 11 (by simp)
                    rw [e147]
                    have hBq : ∀ c, c < w.heap.size → c < wq.heap.size := fun c hc => by have := hC.1.size; omega
                    obtain ⟨n0, xs0, hown0, hn0⟩ := hC.2.2.2.1 (hC.2.2.1 12 hLL)
                    have hszq := hC.1.size
                    go_wp2_with (at_builtin; refine wpList_append_own _ rfl _ _ 30 rfl (bf + 1) 78 i4 _ 2 16 Try.underlying30 (unhide hi4) (unhide hiz4) (unhide his4) (unhide hiy4) rfl (by decide) _ _ _ rfl hown0 ⟨b11, 0, none⟩ 1 1 [.int .i64 x11, .int .i64 y11] rfl rfl ?c1 ?c2 ?c3 ?c4 ?c5 ?_)
                    case c1 =>
                      intro j u hj
                      have hj4 : j < 2 := (List.getElem?_eq_some_iff.1 hj).1
                      rw [Addr.add_lit, Nat.zero_add, cell_of_row _ b11 j _ _ _ hrow11, ← hj]
                      obtain rfl | rfl : j = 0 ∨ j = 1 := by omega
                      all_goals rfl
                    case c2 => intro u hu; simp at hu; rcases hu with rfl | rfl <;> rfl
                    case c3 => unfold maxLen; omega
                    case c4 => omega
                    case c5 => omega
                    intro v' w5 hown5 hg5 _
                    obtain ⟨va', vc', rfl⟩ := own_shape hown5
                    replace hown5 := hide hown5; replace hg5 := hide hg5; replace hown0 := hide hown0
                    go_wp2_with fail
                    exact ⟨hC.app _ (fun h => by cases h) (fun c hc => ⟨hBq c hc, fun e => by have := (unhide hvalt c e).1; omega⟩) (unhide hg5) hneb ⟨_, _, unhide hown5, by omega⟩, RN.grown (unhide hg5) (fun g e => (unhide hvalt g e).2), fun h => by cases h⟩
                  · refine FrontStep.of [0, 1, 2, 3, 4, 5, 6, 7, 8, 9, 10, 11, 12] _ rfl (by kernel_rfl) ?_
                    intro vs LL wq hLL hC hf
                    simp only [putL, List.foldl_nil, List.foldl_cons, List.getElem?_cons_zero, List.getElem?_cons_succ]
                    have e0 : vs 0 = _ := hf 0 (by simp)
                    rw [e0]
                    have e1 : vs 1 = _ := hf 1 (by simp)
                    rw [e1]
                    have e2 : vs 2 = _ := hf 2 (by simp)
                    rw [e2]
                    obtain ⟨x3, e139, hx3, hx3'⟩ := hf 3 (by simp)
                    rw [e139]
                    obtain ⟨x4, e140⟩ := hf 4 (by simp)
                    rw [e140]
                    have e5 : vs 5 = _ := hf 5 (by simp)
                    rw [e5]
                    obtain ⟨b6, e142, hbb6, hrow6⟩ := hf 6 (by simp)
                    rw [e142]
                    have e7 : vs 7 = _ := hf 7 (by simp)
                    rw [e7]
                    obtain ⟨b8, e144, hbb8, hrow8⟩ := hf 8 (by simp)
                    rw [e144]
                    obtain ⟨x9, e145⟩ := hf 9 (by simp)
                    rw [e145]
                    obtain ⟨x10, y10, e146⟩ := hf 10 (by simp)
                    rw [e146]
                    obtain ⟨b11, x11, y11, e147, hbb11, hrow11⟩ := hf 11 (by simp)
                    rw [e147]
                    have e12 := hf 12 (by simp)
                    have hBq : ∀ c, c < w.heap.size → c < wq.heap.size := fun c hc => by have := hC.1.size; omega
                    go_wp2_with fail
                    first | exact ⟨hC.keep 13 _ (by omega) hBq (Below.refl _ _), RN.below (Below.refl _ _)⟩ | exact ⟨hC.keep 13 _ (by omega) hBq (Below.refl _ _), RN.below (Below.refl _ _), rfl⟩ | exact hC.keep 13 _ (by omega) hBq (Below.refl _ _)
                · intro vs LL wq hLL hC hf
                  have e13 : vs 13 = _ := hf 13 (by omega)
                  have h12 := hf 12 (by omega)
                  have hOld := hC.1
                  have hD := hC.2.1
                  obtain ⟨n1, xs1, hown1, hn1⟩ := hC.2.2.2.2 h12
                  obtain ⟨xa, xc, hxe⟩ := own_shape hown1
                  rw [putSome_all]
                  simp only [putL, List.range, List.range.loop, List.foldl_nil, List.foldl_cons, List.getElem?_cons_zero, List.getElem?_cons_succ, List.drop_succ_cons, List.drop_zero]
                  rw [e13, hxe]
                  rw [hxe] at hown1
                  clear e13 h12 hf hLL hC hxe
                  have hKq := MK.old (unhide hK) hOld hD (fun g e => (unhide hvalt g e).1)
                  have hAq := Rw.old (unhide hA) (unhide hrw) hOld (by decide) o2
                  have hGq : wq.ownsRow (bf + 1) 64 7 (.slice ga 9 gc) 9 xs := by
                    obtain ⟨n', xs', h3, _⟩ := unhide hrw
                    exact own_old (unhide hG) h3 hOld (by decide) o2
                  have hfq := (hOld.block bf hlbf hne2 (by omega)).trans (unhide hfont)
                  have hcq : wq.cell? ⟨bf, 4, none⟩ = some v4 := (cell_of_row _ bf 4 _ _ _ hfq).trans rfl
                  have hzq : wq.frozen? ⟨bf, 4, none⟩ = false := by simp [World.frozen?, hfq]
                  rw [unhide hqe] at hcq
                  replace hKq := hide hKq; replace hown1 := hide hown1; replace hfq := hide hfq; replace hOld := hide hOld; replace hD := hide hD; replace hAq := hide hAq; replace hGq := hide hGq
                  go_simp
                  go_wp2_with fail
                  go_roundw
                  case rel =>
                    (repeat apply Exists.intro)
                    refine ⟨⟨p + 1, _, by omega, ?eq, ((unhide hKq).set _).2.2, Rw.set (unhide hAq), (unhide hGq).kept (grownBy_set _ bf 4 _) (.inr (fun e => by have := ((unhide hGq).lt bf e).1; omega)), Rw.set ⟨n1, xs1, unhide hown1, hn1⟩⟩, rfl⟩
                    exact by go_num
                  case measure => simp [intOf]; omega
              · obtain rfl : p = 9 := by omega
                have hdw := draw_any (· < w.heap.size) a len cap L 9 
                have hLw := hL.below hK.below
                have hrG := hG
                obtain ⟨zr0, zr1, zr2, zr3, zr4, zr5, zr6, hres⟩ := id hK.res
                have hd9 := fun (x : World) (hx : Below wo.heap.size wo x) => draw_any (· < w.heap.size) a len cap L 9 x ((hL.below hK.below).below (hx.mono (by omega))) hlen (by omega) (fun c hc => by have := hx.size; omega)
                obtain ⟨va0, vn0, vc0, rfl⟩ : Sl va := by
                  obtain ⟨n, zs, h, _⟩ := hA
                  obtain ⟨x, y, h⟩ := own_shape h
                  exact ⟨_, _, _, h⟩
                subst hqe
                clear hdw hLw hrG hvalt hne2 hneb hdr hlt
                replace hK := hide hK; replace hG := hide hG; replace hfont := hide hfont; replace hres := hide hres; replace hd9 := hide hd9
                clear hA hrw
                go_upto_region 30 with fail
                refine wp_region_frontG 3 (fun _ _ w' => Below wo.heap.size wo w') (fun wa wb => Below wa.heap.size wa wb)
                  (fun ix v w' => match ix with
                    | 0 => v = .slice a len cap
                    | 1 => ∃ be, v = .pointer (some ⟨be, 0, none⟩) ∧ DrawAt w' be (· < w.heap.size) ∧ wo.heap.size ≤ be
                    | 2 => v = .agg #[.string sf, .int .i64 nf, .slice va0 vn0 vc0, .slice ga 9 gc, .slice qa n0 qc, .slice none 0 0, .slice none 0 0]
                    | _ => True) (by rfl) (by kernel_rfl) ?_ ?_ ?_ ?_
                · exact (Below.refl _ _).drew
                · intro wa wb hR ix v hv
                  match ix, hv with
                  | 0, h => exact h
                  | 1, h => obtain ⟨be, h1, h2, h3⟩ := h; exact ⟨be, h1, h2.same (hR.block be h2.lt) (fun c hc => hR.block c (by have := h2.lt; omega)), h3⟩
                  | 2, h => exact h
                  | _ + 3, _ => trivial
                · intro ix hix
                  obtain rfl | rfl | rfl : ix = 0 ∨ ix = 1 ∨ ix = 2 := by omega
                  · refine FrontStep.of [] _ rfl (by kernel_rfl) ?_
                    intro vs LL wq hLL hC hf
                    simp only [putL, List.foldl_nil]
                    go_wp2_with fail
                    first | exact Below.refl _ _ | exact ⟨Below.refl _ _, by omega⟩
                  · refine FrontStep.of [0] _ rfl (by kernel_rfl) ?_
                    intro vs LL wq hLL hC hf
                    simp only [putL, List.foldl_nil, List.foldl_cons, List.getElem?_cons_zero]
                    have e0 : vs 0 = _ := hf 0 (by simp)
                    rw [e0]
                    go_wp2_with fail
                    refine (unhide hd9 wq hC).mono ?_
                    rintro e w7 ⟨be, rfl, hde, hb7, hlt7, hle7⟩
                    go_wp2_with fail
                    first | exact ⟨hC.trans (hb7.mono hC.size), hde, Nat.le_trans hC.size hle7⟩ | exact ⟨hC.trans (hb7.mono hC.size), Nat.le_trans hC.size hle7⟩
                  · refine FrontStep.of [] _ rfl (by kernel_rfl) ?_
                    intro vs LL wq hLL hC hf
                    simp only [putL, List.foldl_nil]
                    have hf9 := (hC.block bf hlbf).trans (unhide hfont)
                    have q0 : wq.cell? ⟨bf, 0, none⟩ = some (.string sf) := (cell_of_row _ bf 0 _ _ _ hf9).trans rfl
                    have q1 : wq.cell? ⟨bf, 1, none⟩ = some (.int .i64 nf) := (cell_of_row _ bf 1 _ _ _ hf9).trans rfl
                    have q2 : wq.cell? ⟨bf, 2, none⟩ = some (.slice va0 vn0 vc0) := (cell_of_row _ bf 2 _ _ _ hf9).trans rfl
                    have q3 : wq.cell? ⟨bf, 3, none⟩ = some (.slice ga 9 gc) := (cell_of_row _ bf 3 _ _ _ hf9).trans rfl
                    have q4 : wq.cell? ⟨bf, 4, none⟩ = some (.slice qa n0 qc) := (cell_of_row _ bf 4 _ _ _ hf9).trans rfl
                    have q5 : wq.cell? ⟨bf, 5, none⟩ = some (.slice none 0 0) := (cell_of_row _ bf 5 _ _ _ hf9).trans rfl
                    have q6 : wq.cell? ⟨bf, 6, none⟩ = some (.slice none 0 0) := (cell_of_row _ bf 6 _ _ _ hf9).trans rfl
                    clear hf9
                    go_wp2_with fail
                    first | exact Below.refl _ _ | exact ⟨Below.refl _ _, by omega⟩
                · intro vs LL wq hLL hC hf
                  obtain ⟨be, e1, hde, hbe⟩ := hf 1 (by omega)
                  have e2 : vs 2 = _ := hf 2 (by omega)
                  rw [putSome_all]
                  simp only [putL, List.range, List.range.loop, List.foldl_nil, List.foldl_cons, List.getElem?_cons_zero, List.getElem?_cons_succ, List.drop_succ_cons, List.drop_zero]
                  rw [e1, e2]
                  clear e1 e2 hf hLL
                  have hszq := hC.size
                  have htb := tables_any be (· < w.heap.size) (.string sf) (.int .i64 nf) (.slice va0 vn0 vc0) (.slice ga 9 gc) (.slice qa n0 qc) wq hde (fun c hc => by omega) (hide ⟨⟨_, rfl⟩, ⟨_, rfl⟩, ⟨_, _, _, rfl⟩, ⟨_, _, _, rfl⟩, ⟨_, _, _, rfl⟩⟩)
                  have hGq := (unhide hG).kept (grown_of_below hC none) (by simp [Value.ownBlock]; cases ga <;> simp)
                  have hKq := (unhide hK).upto (hC.mono (by omega))
                  have hresq := (hC.block w.heap.size (by omega)).trans (unhide hres)
                  replace hresq := hide hresq
                  replace htb := hide htb; replace hGq := hide hGq; replace hKq := hide hKq
                  clear hd9 hC
                  go_simp
                  go_wp2_with fail
                  refine (unhide htb).mono ?_
                  rintro e w7 ⟨a5, n5, k5, v6, ks, rfl, hg7, hks, hk3, hkb⟩
                  have hG7 := (unhide hGq).kept hg7 (.inr (fun e => by have := ((unhide hG).lt be e).2; omega))
                  have hr7 := (hg7.block _ (by omega) (fun e => by injection e; omega)).trans (unhide hresq)
                  have c0 : w7.cell? ⟨w.heap.size, 0, none⟩ = some zr0 := (cell_of_row _ _ 0 _ _ _ hr7).trans rfl
                  have c1 : w7.cell? ⟨w.heap.size, 1, none⟩ = some zr1 := (cell_of_row _ _ 1 _ _ _ hr7).trans rfl
                  have c2 : w7.cell? ⟨w.heap.size, 2, none⟩ = some zr2 := (cell_of_row _ _ 2 _ _ _ hr7).trans rfl
                  have c3 : w7.cell? ⟨w.heap.size, 3, none⟩ = some zr3 := (cell_of_row _ _ 3 _ _ _ hr7).trans rfl
                  have c4 : w7.cell? ⟨w.heap.size, 4, none⟩ = some zr4 := (cell_of_row _ _ 4 _ _ _ hr7).trans rfl
                  have c5 : w7.cell? ⟨w.heap.size, 5, none⟩ = some zr5 := (cell_of_row _ _ 5 _ _ _ hr7).trans rfl
                  have c6 : w7.cell? ⟨w.heap.size, 6, none⟩ = some zr6 := (cell_of_row _ _ 6 _ _ _ hr7).trans rfl
                  have hfz : ∀ i, w7.frozen? ⟨w.heap.size, i, none⟩ = false := fun i => by simp [World.frozen?, hr7]
                  have z0 := hfz 0; have z1 := hfz 1; have z2 := hfz 2; have z3 := hfz 3; have z4 := hfz 4; have z5 := hfz 5; have z6 := hfz 6
                  obtain ⟨ka, kc, rfl⟩ := own_shape hks
                  have hs7 := sets7 w7 w.heap.size (.string sf) (.int .i64 nf) (.slice va0 vn0 vc0) (.slice ga 9 gc) (.slice qa n0 qc) (.slice a5 n5 k5) (.slice ka ks.length kc)
                  have hBw := ((unhide hKq).below.grown hg7 (unhide hKq).below.size (fun g e => by injection e with e; omega)).grown hs7 (by have := hg7.size; have := (unhide hKq).below.size; omega) (fun g e => by injection e with e; omega)
                  have hG8 := own_base (hG7.kept hs7 (.inr (fun e => by have := (hG7.lt _ e).1; omega))) (show w.heap.size ≤ bf + 1 by omega)
                  have hk8 := own_base (hks.kept hs7 (.inr (fun e => by have := (hks.lt _ e).1; omega))) (show w.heap.size ≤ wq.heap.size by omega)
                  clear hfz hr7 hs7 hG7 hks hg7
                  replace hBw := hide hBw; replace hG8 := hide hG8; replace hk8 := hide hk8; replace hkb := hide hkb
                  go_wp2_with fail
                  refine bodyPost_ret (v := .agg #[.string sf, .int .i64 nf, .slice va0 vn0 vc0, .slice ga 9 gc, .slice qa n0 qc, .slice a5 n5 k5, .slice ka ks.length kc]) (by simp [results, Try.results19, go_sem, c0, c1, c2, c3, c4, c5, c6]) rfl ⟨⟨_, _, _, _, _, _, _, _, _, _, _, _, _, _, _, ks, xs, rfl, unhide hG8, unhide hadv, unhide hk8, hk3, unhide hkb⟩, unhide hBw⟩
end Go.Proofs.Ytbbbldaccpfooaa
