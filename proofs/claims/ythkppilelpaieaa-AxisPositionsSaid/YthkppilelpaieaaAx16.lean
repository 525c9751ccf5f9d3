/- Axes: the lists of axes that numbers make. -/
import Derived.Test.YthkppilelpaieaaAx14
namespace Go.Proofs.Ythkppilelpaieaa
open Go.RowKit
theorem info_axis : (Try.prog.info? 29).map (fun i => (i.zero, i.size, i.bytes)) = some (some (.agg #[.string ⟨#[]⟩, .int .i64 0, .int .i64 0, .int .i64 0]), 4, 40) := by kernel_rfl
theorem axis_rep {W : World} {S : Nat → Prop} {s : ByteArray} {lo us hi : Int} (h0 : s.size ≤ maxLen) (h1 : I64 lo) (h2 : I64 us) (h3 : I64 hi) : Enc.axis.rep W S [.string s, .int .i64 lo, .int .i64 us, .int .i64 hi] (s, lo, us, hi) :=
  ⟨[.string s], _, rfl, ⟨rfl, h0⟩, [.int .i64 lo], _, rfl, ⟨rfl, h1.1, h1.2⟩, [.int .i64 us], _, rfl, ⟨rfl, h2.1, h2.2⟩, rfl, h3.1, h3.2⟩
/-- the rows that a maker of axes draws from -/
theorem many_cell {W : World} {b v : Nat} {T : TypeId} (h : W.heap[b]? = some (.cells #[.int .i64 0, .int .i64 1, .int .i64 1, .int .i64 2, .int .i64 3] T (0, 0))) (hv : v < 5) : ∃ m : Nat, m ≤ 3 ∧ W.cell? ⟨b, v, none⟩ = some (.int .i64 (m : Int)) := by
  have hc : ∀ k, W.cell? ⟨b, k, none⟩ = _ := fun k => cell_of_row _ _ k _ _ _ h
  obtain rfl | rfl | rfl | rfl | rfl : v = 0 ∨ v = 1 ∨ v = 2 ∨ v = 3 ∨ v = 4 := by omega
  · exact ⟨0, by omega, (hc 0).trans rfl⟩
  · exact ⟨1, by omega, (hc 1).trans rfl⟩
  · exact ⟨1, by omega, (hc 2).trans rfl⟩
  · exact ⟨2, by omega, (hc 3).trans rfl⟩
  · exact ⟨3, by omega, (hc 4).trans rfl⟩
theorem step_cell {W : World} {b v x y : Nat} {T : TypeId} (h : W.heap[b]? = some (.cells #[.int .i64 0, .int .i64 (x : Int), .int .i64 (y : Int), .int .i64 64] T (0, 0))) (hv : v < 4) (hx : x < 64) (hy : y < 300) : ∃ m : Nat, m ≤ 299 ∧ W.cell? ⟨b, v, none⟩ = some (.int .i64 (m : Int)) := by
  have hc : ∀ k, W.cell? ⟨b, k, none⟩ = _ := fun k => cell_of_row _ _ k _ _ _ h
  obtain rfl | rfl | rfl | rfl : v = 0 ∨ v = 1 ∨ v = 2 ∨ v = 3 := by omega
  · exact ⟨0, by omega, (hc 0).trans rfl⟩
  · exact ⟨x, by omega, (hc 1).trans rfl⟩
  · exact ⟨y, by omega, (hc 2).trans rfl⟩
  · exact ⟨64, by omega, (hc 3).trans rfl⟩
theorem tag_cell {W : World} {b v : Nat} {T : TypeId} (h : W.heap[b]? = some (.cells #[.string ⟨#[119, 103, 104, 116]⟩, .string ⟨#[119, 100, 116, 104]⟩, .string ⟨#[115]⟩] T (0, 0))) (hv : v < 3) : ∃ s : ByteArray, s.size ≤ 4 ∧ tagS s = true ∧ W.cell? ⟨b, v, none⟩ = some (.string s) := by
  have hc : ∀ k, W.cell? ⟨b, k, none⟩ = _ := fun k => cell_of_row _ _ k _ _ _ h
  obtain rfl | rfl | rfl : v = 0 ∨ v = 1 ∨ v = 2 := by omega
  · exact ⟨_, by decide, by kernel_rfl, (hc 0).trans rfl⟩
  · exact ⟨_, by decide, by kernel_rfl, (hc 1).trans rfl⟩
  · exact ⟨_, by decide, by kernel_rfl, (hc 2).trans rfl⟩
set_option maxHeartbeats 8000000 in
set_option maxRecDepth 100000 in
theorem amade_own (a : Option Addr) (n c : Nat) (L : List Int) (w : World) (hl : Lst Enc.int w (· < w.heap.size) a n L) (hn : n ≤ maxLen) :
    Calls Try.prog 10 #[.slice a n c] w fun e w' => ∃ a' c' l, e = .returned (.slice a' l.length c') ∧ Lst Enc.axis w' (· < w'.heap.size) a' l.length l ∧ l.length ≤ c' ∧ c' ≤ maxLen ∧ l.length ≤ 3 ∧ (∀ x ∈ l, AxV x) ∧ Below w.heap.size w w' ∧ (0 < l.length → ∃ g cs, a' = some ⟨g, 0, none⟩ ∧ w.heap.size ≤ g ∧ w'.heap[g]? = some (.cells cs 29 (0, 0))) := by
  obtain ⟨b0, V, hb0, hV, st⟩ := (St.start w).new (Obj.cells #[.slice a n c, .int .i64 0] 58)
  have hd0 : DrawAt V b0 (· < w.heap.size) := ⟨a, n, c, 0, L, st.get 0 rfl, Nat.zero_le _, hn, hl.below st.below, fun h => by omega⟩
  have hR0 : RI w V w.heap.size b0 (b0 + 1) 29 4 (.slice none 0 0) 0 [] := ⟨st.below, hd0, World.ownsRow_nil _ _ _ _, by omega, by omega⟩
  clear st hl hd0
  obtain ⟨B, hB⟩ : ∃ B, w.heap.size = B := ⟨_, rfl⟩
  rw [hB] at hR0 hb0
  obtain ⟨bR, VR, hbR, hVR, st⟩ := (St.start V).new (Obj.cells #[.int .i64 0, .int .i64 1, .int .i64 1, .int .i64 2, .int .i64 3] 3)
  have hR1 := hR0.below st.below
  have h5 := st.get 0 rfl
  have hne : bR ≠ b0 := by have := hR0.lt; omega
  have hc := next_nat b0 (· < B) 5 VR hR1.draw (by omega) (by omega)
  clear st hR0
  replace hR1 := hide hR1; replace hV := hide hV; replace hb0 := hide hb0; replace hB := hide hB; replace hbR := hide hbR; replace hVR := hide hVR; replace hc := hide hc; replace h5 := hide h5
  go_enter Try.func10, Try.ntmps10
  go_upto_region 2 with fail
  rw [unhide hV]
  try rw [unhide hB, unhide hb0]
  go_wp2_with fail
  rw [unhide hVR]
  try rw [unhide hbR]
  refine (unhide hc).mono ?_
  rintro e w1 ⟨x, rfl, hx, hd, hg, -⟩
  have hR2 := (unhide hR1).next hd hg
  have h5' := (hg.block bR (Array.getElem?_eq_some_iff.1 (unhide h5)).1 (fun e => by injection e with e; exact hne e)).trans (unhide h5)
  obtain ⟨mm, hmm, hcm⟩ := many_cell h5' hx
  clear hR1 hV hb0 hbR hVR hc h5 h5' hd hg hne
  replace hR2 := hide hR2
  go_wp2_with fail
  go_loopw [4, 6] (fun v4 v wr => ∃ (k : Nat) (l : List Axis) (xs : List Value), k ≤ mm ∧ v = .int .i64 (k : Int) ∧ l.length = k ∧ (∀ x ∈ l, AxV x) ∧ (∀ W, Flat Enc.axis W (fun _ => False) xs l) ∧ RI w wr B b0 (b0 + 1) 29 4 v4 k xs) (fun _ v _ => mm - (intOf v).toNat)
  case atStart => exact ⟨0, [], [], by omega, rfl, rfl, fun x hx => by simp at hx, fun _ => rfl, unhide hR2⟩
  case round =>
    clear hR2 hcm hx
    obtain ⟨k, l, xs, hk, rfl, hlk, hal, hfl, hR⟩ := hrel
    obtain ⟨wo, rfl⟩ : ∃ wo : World, wo = wr := ⟨_, rfl⟩
    replace hal := hide hal; replace hfl := hide hfl; replace hlk := hide hlk
    by_cases hlt : k < mm
    · have hc := next_nat b0 (· < B) 400 wo hR.draw (by omega) (by omega)
      replace hR := hide hR; replace hc := hide hc
      go_wp2_with fail
      refine (unhide hc).mono ?_
      rintro e w2 ⟨z, rfl, hz, hd, hg, -⟩
      have hR1 := (unhide hR).next hd hg
      obtain ⟨lo, hlo⟩ : ∃ lo : Int, (z : Int) - 100 = lo := ⟨_, rfl⟩
      have s1 : IntKind.i64.wrap ((z : Int) - 100) = lo := by rw [IntWalk.i64_in _ (by omega)]; exact hlo
      have blo : -100 ≤ lo ∧ lo ≤ 299 := by omega
      have hc' := next_nat b0 (· < B) 64 w2 hR1.draw (by omega) (by omega)
      clear hR hc hd hg
      replace hR1 := hide hR1; replace hc' := hide hc'
      go_wp2_with fail
      refine (unhide hc').mono ?_
      rintro e w3 ⟨x1, rfl, hx1, hd, hg, -⟩
      have hR2 := (unhide hR1).next hd hg
      have hc := next_nat b0 (· < B) 300 w3 hR2.draw (by omega) (by omega)
      clear hR1 hc' hd hg hlo s1 hz
      replace hR2 := hide hR2; replace hc := hide hc
      go_wp2_with fail
      refine (unhide hc).mono ?_
      rintro e w4 ⟨x2, rfl, hx2, hd, hg, -⟩
      have hR3 := (unhide hR2).next hd hg
      obtain ⟨bS, VS, hbS, hVS, st⟩ := (St.start w4).new (Obj.cells #[.int .i64 0, .int .i64 (x1 : Int), .int .i64 (x2 : Int), .int .i64 64] 3)
      have hR4 := hR3.below st.below
      have h4 := st.get 0 rfl
      have hne : bS ≠ b0 := by have := hR3.lt; omega
      have hc' := next_nat b0 (· < B) 4 VS hR4.draw (by omega) (by omega)
      clear st hR2 hR3 hc hd hg
      replace hR4 := hide hR4; replace hc' := hide hc'; replace hbS := hide hbS; replace hVS := hide hVS; replace h4 := hide h4
      go_wp2_with fail
      rw [unhide hVS]
      try rw [unhide hbS]
      refine (unhide hc').mono ?_
      rintro e w5 ⟨sv, rfl, hsv, hd, hg, -⟩
      have hR5 := (unhide hR4).next hd hg
      have h4' := (hg.block bS (Array.getElem?_eq_some_iff.1 (unhide h4)).1 (fun e => by injection e with e; exact hne e)).trans (unhide h4)
      obtain ⟨q, hq, hcq⟩ := step_cell h4' hsv hx1 hx2
      obtain ⟨us, hus⟩ : ∃ us : Int, lo + (q : Int) = us := ⟨_, rfl⟩
      have s1 : IntKind.i64.wrap (lo + (q : Int)) = us := by rw [IntWalk.i64_in _ (by omega)]; exact hus
      have bus : lo ≤ us ∧ us ≤ 598 := by omega
      have hc := next_nat b0 (· < B) 64 w5 hR5.draw (by omega) (by omega)
      clear hR4 hc' hbS hVS h4 h4' hd hg hne
      replace hR5 := hide hR5; replace hc := hide hc
      go_wp2_with fail
      refine (unhide hc).mono ?_
      rintro e w6 ⟨x3, rfl, hx3, hd, hg, -⟩
      have hR6 := (unhide hR5).next hd hg
      have hc' := next_nat b0 (· < B) 300 w6 hR6.draw (by omega) (by omega)
      clear hR5 hc hd hg hcq hus s1 hq hsv hx1 hx2
      replace hR6 := hide hR6; replace hc' := hide hc'
      go_wp2_with fail
      refine (unhide hc').mono ?_
      rintro e w7 ⟨x4, rfl, hx4, hd, hg, -⟩
      have hR7 := (unhide hR6).next hd hg
      obtain ⟨bS, VS, hbS, hVS, st⟩ := (St.start w7).new (Obj.cells #[.int .i64 0, .int .i64 (x3 : Int), .int .i64 (x4 : Int), .int .i64 64] 3)
      have hR8 := hR7.below st.below
      have h4 := st.get 0 rfl
      have hne : bS ≠ b0 := by have := hR7.lt; omega
      have hc := next_nat b0 (· < B) 4 VS hR8.draw (by omega) (by omega)
      clear st hR6 hR7 hc' hd hg
      replace hR8 := hide hR8; replace hc := hide hc; replace hbS := hide hbS; replace hVS := hide hVS; replace h4 := hide h4
      go_wp2_with fail
      rw [unhide hVS]
      try rw [unhide hbS]
      refine (unhide hc).mono ?_
      rintro e w8 ⟨sw, rfl, hsw, hd, hg, -⟩
      have hR9 := (unhide hR8).next hd hg
      have h4' := (hg.block bS (Array.getElem?_eq_some_iff.1 (unhide h4)).1 (fun e => by injection e with e; exact hne e)).trans (unhide h4)
      obtain ⟨r, hr, hcr⟩ := step_cell h4' hsw hx3 hx4
      obtain ⟨hi, hhi⟩ : ∃ hi : Int, us + (r : Int) = hi := ⟨_, rfl⟩
      have s1 : IntKind.i64.wrap (us + (r : Int)) = hi := by rw [IntWalk.i64_in _ (by omega)]; exact hhi
      have bhi : us ≤ hi ∧ hi ≤ 897 := by omega
      clear hR8 hc hbS hVS h4 h4' hd hg hne
      have hb1 := (Below.refl w8.heap.size w8).alloc (Nat.le_refl _) (Obj.cells #[.string ⟨#[119, 103, 104, 116]⟩, .string ⟨#[119, 100, 116, 104]⟩, .string ⟨#[115]⟩] 9)
      obtain ⟨tg, htg, htS, hct⟩ := tag_cell (heap_alloc_new w8 (Obj.cells #[.string ⟨#[119, 103, 104, 116]⟩, .string ⟨#[119, 100, 116, 104]⟩, .string ⟨#[115]⟩] 9)) (v := k) (by omega)
      obtain ⟨w9, hw9⟩ : ∃ w9, w8.alloc (Obj.cells #[.string ⟨#[119, 103, 104, 116]⟩, .string ⟨#[119, 100, 116, 104]⟩, .string ⟨#[115]⟩] 9) = w9 := ⟨_, rfl⟩
      have hsz9 : w9.heap.size = w8.heap.size + 1 := by rw [← hw9, World.size_alloc]
      rw [hw9] at hb1 hct
      have hR10 := hR9.below hb1
      have hb2 := (Below.refl w9.heap.size w9).alloc (Nat.le_refl _) (Obj.cells #[.string tg, .int .i64 lo, .int .i64 us, .int .i64 hi] 29)
      have hR11 := hR10.below hb2
      have hrow := hR11.row
      have hcs4 := heap_alloc_new w9 (Obj.cells #[.string tg, .int .i64 lo, .int .i64 us, .int .i64 hi] 29)
      have hsz : b0 + 1 ≤ (w9.alloc (Obj.cells #[.string tg, .int .i64 lo, .int .i64 us, .int .i64 hi] 29)).heap.size := by have := hR11.lt; omega
      have hfl2 : ∀ W, Flat Enc.axis W (fun _ => False) (xs ++ [.string tg, .int .i64 lo, .int .i64 us, .int .i64 hi]) (l ++ [(tg, lo, us, hi)]) := fun W => (unhide hfl W).append (Flat.single (axis_rep (by unfold maxLen; omega) ⟨by omega, by omega⟩ ⟨by omega, by omega⟩ ⟨by omega, by omega⟩))
      have hal2 : ∀ x ∈ l ++ [(tg, lo, us, hi)], AxV x := by
        intro x hx
        rcases List.mem_append.1 hx with h | h
        · exact unhide hal x h
        · simp at h
          subst h
          exact ⟨htS, show -1000 ≤ lo by omega, show lo ≤ us by omega, show us ≤ hi by omega, show hi ≤ 1000 by omega⟩
      rw [hsz9] at hcs4
      clear hR9 hR10 hb1 hb2 htS hsz9
      subst hw9
      replace hR11 := hide hR11; replace hrow := hide hrow; replace hfl2 := hide hfl2; replace hal2 := hide hal2; replace hcs4 := hide hcs4; replace hsz := hide hsz
      go_wp2_with (at_builtin; refine wpList_append_el Try.underlying23 info_axis rfl (by decide) (by decide) rfl _ _ rfl (b0 + 1) _ k xs rfl (unhide hrow) _ [.string tg, .int .i64 lo, .int .i64 us, .int .i64 hi] rfl (unhide hcs4) rfl ?aone ?ahn ?ahbase ?_)
      try (case aone => first | exact ⟨rfl, rfl, rfl, rfl⟩ | (intro u hu; simp at hu; rcases hu with rfl | rfl | rfl | rfl <;> rfl))
      try (case ahn => omega)
      try (case ahbase => first | exact unhide hsz | (have := unhide hsz; rw [World.size_alloc, World.size_alloc] at this; omega))
      intro v' w10 hrow2 hgr _
      have hR12 := (unhide hR11).push hrow2 hgr
      clear hrow hR11 hrow2 hgr hsz
      replace hR12 := hide hR12
      go_wp2_with fail
      go_roundw
      case rel => exact ⟨k + 1, l ++ [(tg, lo, us, hi)], _, by omega, by go_num, by rw [List.length_append, unhide hlk]; rfl, unhide hal2, unhide hfl2, unhide hR12⟩
      case measure => simp [intOf]; omega
    · have hke : k = mm := by omega
      subst hke
      have hrow := hR.row
      rw [← unhide hlk] at hrow
      obtain ⟨a', c', hv, h1, h2, hlst⟩ := row_lst (E := Enc.axis) hrow (unhide hfl wo) (fun b hb => hb.elim)
      have hbel := hR.bel
      have hl3 : l.length ≤ 3 := by rw [unhide hlk]; omega
      have hown : 0 < l.length → ∃ g cs, a' = some ⟨g, 0, none⟩ ∧ B ≤ g ∧ wo.heap[g]? = some (.cells cs 29 (0, 0)) := fun hp => by
        have hlo := hR.lo
        rcases hrow.2 with ⟨_, h0⟩ | ⟨g, cap, cur, hvg, hbg, hg, _⟩
        · omega
        · rw [hv] at hvg
          injection hvg with e1 _ _
          exact ⟨g, cur, e1, by omega, hg⟩
      rw [hv]
      clear hrow hR hv
      replace hown := hide hown
      replace hlst := hide hlst; replace hbel := hide hbel
      go_wp2_with fail
      go_ret
      exact ⟨a', c', l, rfl, unhide hlst, h1, h2, hl3, unhide hal, by rw [unhide hB]; exact unhide hbel, by rw [unhide hB]; exact unhide hown⟩
theorem amade_any (a : Option Addr) (n c : Nat) (L : List Int) (w : World) (hl : Lst Enc.int w (· < w.heap.size) a n L) (hn : n ≤ maxLen) :
    Calls Try.prog 10 #[.slice a n c] w fun e w' => ∃ a' c' l, e = .returned (.slice a' l.length c') ∧ Lst Enc.axis w' (· < w'.heap.size) a' l.length l ∧ l.length ≤ c' ∧ c' ≤ maxLen ∧ l.length ≤ 3 ∧ (∀ x ∈ l, AxV x) ∧ Below w.heap.size w w' :=
  (amade_own a n c L w hl hn).mono fun _ _ ⟨a', c', l, h1, h2, h3, h4, h5, h6, h7, _⟩ => ⟨a', c', l, h1, h2, h3, h4, h5, h6, h7⟩
end Go.Proofs.Ythkppilelpaieaa
