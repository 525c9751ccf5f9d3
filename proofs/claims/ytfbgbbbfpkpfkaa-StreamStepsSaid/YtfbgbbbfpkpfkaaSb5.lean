/- Lookups: the reference's Match. -/
import Derived.Test.YtfbgbbbfpkpfkaaSb4
namespace Go.Proofs.Ytfbgbbbfpkpfkaa
open Go.RowKit
theorem stands_blw (a : Option Addr) (n c : Nat) (l : List Int) (a' : Option Addr) (n' c' : Nat) (g : List Int) (i : Int) (w : World) (hl : Lst Enc.int w (· < w.heap.size) a n l) (hg : Lst Enc.int w (· < w.heap.size) a' n' g) (hn : n ≤ 1000000000000) (hn' : n' ≤ 1000000000000) (hi : -1000000000000 ≤ i ∧ i ≤ 1000000000000) :
    Calls Try.prog 66 #[.slice a n c, .slice a' n' c', .int .i64 i] w fun e w' => e = .returned (.bool (standsS l g i)) ∧ Below w.heap.size w w' := by
  refine (stands_any a n c l a' n' c' g i w hl hg hn hn' hi).mono ?_
  rintro e w' ⟨h, m, rfl⟩
  exact ⟨h, blw_drewN (Below.refl _ _) m⟩
set_option maxRecDepth 100000 in
set_option maxHeartbeats 4000000 in
theorem rmatch_any (xa : Option Addr) (xn xc : Nat) (x : List Sub) (ga : Option Addr) (gn gc : Nat) (g : List Int) (i : Int) (w : World) (hx : Lst Enc.sub w (· < w.heap.size) xa xn x) (hg : Lst Enc.int w (· < w.heap.size) ga gn g)
    (hsm : Small x) (hgn : gn ≤ 1000000000) :
    Calls Try.prog 61 #[.agg #[.slice xa xn xc], .slice ga gn gc, .int .i64 i] w fun e w' => e = .returned (.int .i64 (matchS x g i)) ∧ Below w.heap.size w w' := by
  have hxl := hx.1
  have hgl := hg.1
  have hxn : xn ≤ 1000 := by rw [← hxl]; exact hsm.1
  by_cases hi0 : 0 ≤ i
  rotate_left
  · have hfin := matchS_out (x := x) (g := g) (i := i) (fun h => hi0 h.1)
    rw [hfin]
    have t1 : i < 0 := by omega
    clear hfin hx hg
    go_enter Try.func61, Try.ntmps61
    go_wp2_with fail
    go_ret
    exact ⟨rfl, (Below.refl _ _).alloc (Nat.le_refl _) _⟩
  obtain ⟨p, rfl⟩ := Int.eq_ofNat_of_zero_le hi0
  clear hi0
  by_cases hpn : p < gn
  rotate_left
  · have hfin := matchS_out (x := x) (g := g) (i := (p : Int)) (fun h => hpn (by omega))
    rw [hfin]
    have t1 : (gn : Int) ≤ (p : Int) := by omega
    clear hfin hx hg
    go_enter Try.func61, Try.ntmps61
    go_wp2_with fail
    go_ret
    exact ⟨rfl, (Below.refl _ _).alloc (Nat.le_refl _) _⟩
  have t1 : ¬ (gn : Int) ≤ (p : Int) := by omega
  obtain ⟨bx, hbx⟩ : ∃ bx, bx = w.heap.size := ⟨_, rfl⟩
  obtain ⟨V, hV⟩ : ∃ V, V = w.alloc (Obj.cells #[.slice xa xn xc] 37) := ⟨_, rfl⟩
  have hr0 : V.heap[bx]? = some (.cells #[.slice xa xn xc] 37 (0, 0)) := by rw [hV, hbx]; exact heap_alloc_new w _
  have hb0 : Below w.heap.size w V := by rw [hV]; exact (Below.refl _ _).alloc (Nat.le_refl _) _
  have hxV := hx.under hb0
  have hgV := hg.under hb0
  have hc0 : V.cell? ⟨bx, 0, none⟩ = some (.slice xa xn xc) := (cell_of_row _ _ 0 _ _ _ hr0).trans rfl
  clear hx hg hr0
  replace hV := hide hV; replace hbx := hide hbx; replace hb0 := hide hb0; replace hxV := hide hxV; replace hgV := hide hgV; replace hxl := hide hxl; replace hgl := hide hgl; replace hc0 := hide hc0
  go_enter Try.func61, Try.ntmps61
  go_wp2_with fail
  rw [← unhide hV, ← unhide hbx]
  go_wp2_with fail
  have ta : decide ((p : Int) < 0) = false := decide_eq_false (by omega)
  have tb : decide (gn ≤ p) = false := decide_eq_false (by omega)
  simp only [ta]
  clear ta tb
  go_loopw [7] (fun v wr => ∃ k : Nat, k ≤ xn ∧ v = .int .i64 (k : Int) ∧ (∀ m s, m < k → x[m]? = some s → subAt s g (p : Int) = false) ∧ Below V.heap.size V wr) (fun v _ => (xn - intOf v).toNat)
  case atStart => exact ⟨0, by omega, rfl, fun m s hm => by omega, Below.refl _ _⟩
  case round =>
    obtain ⟨k, hk, rfl, hno, hbw⟩ := hrel
    obtain ⟨wo, rfl⟩ : ∃ wo : World, wo = wr := ⟨_, rfl⟩
    have hcx := cell_under (unhide hc0) hbw
    replace hno := hide hno
    by_cases hlt : k < xn
    · obtain ⟨b, off, s, a1, n1, c1, a2, n2, c2, a3, n3, c3, rfl, hSb, hs, ⟨_, _, hl1⟩, ⟨_, _, hl2⟩, ⟨_, _, hl3⟩, hto, h1, h2, h3, h4⟩ := lst_sub ((unhide hxV).under hbw) hlt
      have hsmall := hsm.2 s (List.mem_of_getElem? hs)
      rw [hl1.1, hl2.1, hl3.1] at hsmall
      obtain ⟨hn1, hn2, hn3⟩ := hsmall
      have hl1l := hl1.1
      have hl2l := hl2.1
      replace hs := hide hs; replace hl1l := hide hl1l; replace hl2l := hide hl2l
      replace hl1 := hide hl1; replace hl2 := hide hl2; replace hl3 := hide hl3
      obtain ⟨bs, hbs⟩ : ∃ bs, bs = wo.heap.size := ⟨_, rfl⟩
      obtain ⟨w1, hw1⟩ : ∃ w1, w1 = wo.alloc (Obj.cells #[.slice a1 n1 c1, .slice a2 n2 c2, .slice a3 n3 c3, .int .i64 s.2.2.2] 56) := ⟨_, rfl⟩
      have hr1 : w1.heap[bs]? = some (.cells #[.slice a1 n1 c1, .slice a2 n2 c2, .slice a3 n3 c3, .int .i64 s.2.2.2] 56 (0, 0)) := by rw [hw1, hbs]; exact heap_alloc_new wo _
      have hwo : Below wo.heap.size wo w1 := by rw [hw1]; exact (Below.refl _ _).alloc (Nat.le_refl _) _
      have hbV := hbw.trans (hwo.mono hbw.size)
      have t2 : IntKind.i64.wrap ((p : Int) - (n1 : Int)) = (p : Int) - (n1 : Int) := IntWalk.i64_in _ (by omega)
      have t3 : IntKind.i64.wrap ((p : Int) + (n2 : Int)) = (p : Int) + (n2 : Int) := IntWalk.i64_in _ (by omega)
      have hnext : subAt s g (p : Int) = false → ∀ m s, m < k + 1 → x[m]? = some s → subAt s g (p : Int) = false := fun h m s' hm hs' => by
        rcases Nat.lt_succ_iff_lt_or_eq.1 hm with h1 | rfl
        · exact unhide hno m s' h1 hs'
        · rw [unhide hs] at hs'
          cases hs'
          exact h
      replace hbs := hide hbs; replace hw1 := hide hw1; replace hr1 := hide hr1; replace hwo := hide hwo; replace hbw := hide hbw; replace hbV := hide hbV; replace hnext := hide hnext
      by_cases v1 : 0 < n2
      · have u1 : (0 : Int) < (n2 : Int) := by omega
        go_wp2_with fail
        rw [← unhide hw1, ← unhide hbs]
        clear h1 h2 h3 h4 hcx
        cases b1 : standsS s.2.1 g (p : Int) with
        | false =>
          have k1 := stands_blw a2 n2 c2 s.2.1 ga gn gc g (p : Int) w1 (((unhide hl2).under (unhide hwo))) ((unhide hgV).under (unhide hbV)) (by omega) (by omega) (by omega)
          rw [b1] at k1
          replace k1 := hide k1
          refine (unhide k1).mono ?_
          rintro e w2 ⟨rfl, hb⟩
          have hwo' := (unhide hwo).trans (hb.mono (unhide hwo).size)
          have hbV' := (unhide hbV).trans (hb.mono (unhide hbV).size)
          have hr1' := (hb.block _ (Array.getElem?_eq_some_iff.1 (unhide hr1)).1).trans (unhide hr1)
          clear hwo hbV hr1 k1 hb
          have hwo := hide hwo'; have hbV := hide hbV'; have hr1 := hide hr1'
          clear hwo' hbV' hr1'
          have hno' := unhide hnext (by unfold subAt; rw [unhide hl1l, unhide hl2l]; simp [b1, v1])
          replace hno' := hide hno'
          obtain ⟨d0, d1, d2⟩ : w2.cell? ⟨bs, 0, none⟩ = some (.slice a1 n1 c1) ∧ w2.cell? ⟨bs, 1, none⟩ = some (.slice a2 n2 c2) ∧ w2.cell? ⟨bs, 2, none⟩ = some (.slice a3 n3 c3) := ⟨(cell_of_row _ _ 0 _ _ _ (unhide hr1)).trans rfl, (cell_of_row _ _ 1 _ _ _ (unhide hr1)).trans rfl, (cell_of_row _ _ 2 _ _ _ (unhide hr1)).trans rfl⟩
          go_wp2_with fail
          go_roundw
          case rel => exact ⟨k + 1, by omega, by go_num, unhide hno', unhide hbV⟩
          case measure => simp [intOf]; omega
        | true =>
          have k1 := stands_blw a2 n2 c2 s.2.1 ga gn gc g (p : Int) w1 (((unhide hl2).under (unhide hwo))) ((unhide hgV).under (unhide hbV)) (by omega) (by omega) (by omega)
          rw [b1] at k1
          replace k1 := hide k1
          refine (unhide k1).mono ?_
          rintro e w2 ⟨rfl, hb⟩
          have hwo' := (unhide hwo).trans (hb.mono (unhide hwo).size)
          have hbV' := (unhide hbV).trans (hb.mono (unhide hbV).size)
          have hr1' := (hb.block _ (Array.getElem?_eq_some_iff.1 (unhide hr1)).1).trans (unhide hr1)
          clear hwo hbV hr1 k1 hb
          have hwo := hide hwo'; have hbV := hide hbV'; have hr1 := hide hr1'
          clear hwo' hbV' hr1'
          cases b2 : standsS s.1 g ((p : Int) - (n1 : Int)) with
          | false =>
            have k2 := stands_blw a1 n1 c1 s.1 ga gn gc g ((p : Int) - (n1 : Int)) w2 (((unhide hl1).under (unhide hwo))) ((unhide hgV).under (unhide hbV)) (by omega) (by omega) (by omega)
            rw [b2] at k2
            replace k2 := hide k2
            obtain ⟨d0, d1, d2⟩ : w2.cell? ⟨bs, 0, none⟩ = some (.slice a1 n1 c1) ∧ w2.cell? ⟨bs, 1, none⟩ = some (.slice a2 n2 c2) ∧ w2.cell? ⟨bs, 2, none⟩ = some (.slice a3 n3 c3) := ⟨(cell_of_row _ _ 0 _ _ _ (unhide hr1)).trans rfl, (cell_of_row _ _ 1 _ _ _ (unhide hr1)).trans rfl, (cell_of_row _ _ 2 _ _ _ (unhide hr1)).trans rfl⟩
            go_wp2_with fail
            refine (unhide k2).mono ?_
            rintro e w3 ⟨rfl, hb⟩
            have hwo' := (unhide hwo).trans (hb.mono (unhide hwo).size)
            have hbV' := (unhide hbV).trans (hb.mono (unhide hbV).size)
            have hr1' := (hb.block _ (Array.getElem?_eq_some_iff.1 (unhide hr1)).1).trans (unhide hr1)
            clear hwo hbV hr1 d0 d1 d2 k2 hb
            have hwo := hide hwo'; have hbV := hide hbV'; have hr1 := hide hr1'
            clear hwo' hbV' hr1'
            have hno' := unhide hnext (by unfold subAt; rw [unhide hl1l, unhide hl2l]; simp [b1, b2, v1])
            replace hno' := hide hno'
            obtain ⟨d0, d1, d2⟩ : w3.cell? ⟨bs, 0, none⟩ = some (.slice a1 n1 c1) ∧ w3.cell? ⟨bs, 1, none⟩ = some (.slice a2 n2 c2) ∧ w3.cell? ⟨bs, 2, none⟩ = some (.slice a3 n3 c3) := ⟨(cell_of_row _ _ 0 _ _ _ (unhide hr1)).trans rfl, (cell_of_row _ _ 1 _ _ _ (unhide hr1)).trans rfl, (cell_of_row _ _ 2 _ _ _ (unhide hr1)).trans rfl⟩
            go_wp2_with fail
            go_roundw
            case rel => exact ⟨k + 1, by omega, by go_num, unhide hno', unhide hbV⟩
            case measure => simp [intOf]; omega
          | true =>
            have k2 := stands_blw a1 n1 c1 s.1 ga gn gc g ((p : Int) - (n1 : Int)) w2 (((unhide hl1).under (unhide hwo))) ((unhide hgV).under (unhide hbV)) (by omega) (by omega) (by omega)
            rw [b2] at k2
            replace k2 := hide k2
            obtain ⟨d0, d1, d2⟩ : w2.cell? ⟨bs, 0, none⟩ = some (.slice a1 n1 c1) ∧ w2.cell? ⟨bs, 1, none⟩ = some (.slice a2 n2 c2) ∧ w2.cell? ⟨bs, 2, none⟩ = some (.slice a3 n3 c3) := ⟨(cell_of_row _ _ 0 _ _ _ (unhide hr1)).trans rfl, (cell_of_row _ _ 1 _ _ _ (unhide hr1)).trans rfl, (cell_of_row _ _ 2 _ _ _ (unhide hr1)).trans rfl⟩
            go_wp2_with fail
            refine (unhide k2).mono ?_
            rintro e w3 ⟨rfl, hb⟩
            have hwo' := (unhide hwo).trans (hb.mono (unhide hwo).size)
            have hbV' := (unhide hbV).trans (hb.mono (unhide hbV).size)
            have hr1' := (hb.block _ (Array.getElem?_eq_some_iff.1 (unhide hr1)).1).trans (unhide hr1)
            clear hwo hbV hr1 d0 d1 d2 k2 hb
            have hwo := hide hwo'; have hbV := hide hbV'; have hr1 := hide hr1'
            clear hwo' hbV' hr1'
            cases b3 : standsS s.2.2.1 g ((p : Int) + (n2 : Int)) with
            | false =>
              have k3 := stands_blw a3 n3 c3 s.2.2.1 ga gn gc g ((p : Int) + (n2 : Int)) w3 (((unhide hl3).under (unhide hwo))) ((unhide hgV).under (unhide hbV)) (by omega) (by omega) (by omega)
              rw [b3] at k3
              replace k3 := hide k3
              obtain ⟨d0, d1, d2⟩ : w3.cell? ⟨bs, 0, none⟩ = some (.slice a1 n1 c1) ∧ w3.cell? ⟨bs, 1, none⟩ = some (.slice a2 n2 c2) ∧ w3.cell? ⟨bs, 2, none⟩ = some (.slice a3 n3 c3) := ⟨(cell_of_row _ _ 0 _ _ _ (unhide hr1)).trans rfl, (cell_of_row _ _ 1 _ _ _ (unhide hr1)).trans rfl, (cell_of_row _ _ 2 _ _ _ (unhide hr1)).trans rfl⟩
              go_wp2_with fail
              refine (unhide k3).mono ?_
              rintro e w4 ⟨rfl, hb⟩
              have hwo' := (unhide hwo).trans (hb.mono (unhide hwo).size)
              have hbV' := (unhide hbV).trans (hb.mono (unhide hbV).size)
              have hr1' := (hb.block _ (Array.getElem?_eq_some_iff.1 (unhide hr1)).1).trans (unhide hr1)
              clear hwo hbV hr1 d0 d1 d2 k3 hb
              have hwo := hide hwo'; have hbV := hide hbV'; have hr1 := hide hr1'
              clear hwo' hbV' hr1'
              have hno' := unhide hnext (by unfold subAt; rw [unhide hl1l, unhide hl2l]; simp [b1, b2, b3, v1])
              replace hno' := hide hno'
              obtain ⟨d0, d1, d2⟩ : w4.cell? ⟨bs, 0, none⟩ = some (.slice a1 n1 c1) ∧ w4.cell? ⟨bs, 1, none⟩ = some (.slice a2 n2 c2) ∧ w4.cell? ⟨bs, 2, none⟩ = some (.slice a3 n3 c3) := ⟨(cell_of_row _ _ 0 _ _ _ (unhide hr1)).trans rfl, (cell_of_row _ _ 1 _ _ _ (unhide hr1)).trans rfl, (cell_of_row _ _ 2 _ _ _ (unhide hr1)).trans rfl⟩
              go_wp2_with fail
              go_roundw
              case rel => exact ⟨k + 1, by omega, by go_num, unhide hno', unhide hbV⟩
              case measure => simp [intOf]; omega
            | true =>
              have k3 := stands_blw a3 n3 c3 s.2.2.1 ga gn gc g ((p : Int) + (n2 : Int)) w3 (((unhide hl3).under (unhide hwo))) ((unhide hgV).under (unhide hbV)) (by omega) (by omega) (by omega)
              rw [b3] at k3
              replace k3 := hide k3
              obtain ⟨d0, d1, d2⟩ : w3.cell? ⟨bs, 0, none⟩ = some (.slice a1 n1 c1) ∧ w3.cell? ⟨bs, 1, none⟩ = some (.slice a2 n2 c2) ∧ w3.cell? ⟨bs, 2, none⟩ = some (.slice a3 n3 c3) := ⟨(cell_of_row _ _ 0 _ _ _ (unhide hr1)).trans rfl, (cell_of_row _ _ 1 _ _ _ (unhide hr1)).trans rfl, (cell_of_row _ _ 2 _ _ _ (unhide hr1)).trans rfl⟩
              go_wp2_with fail
              refine (unhide k3).mono ?_
              rintro e w4 ⟨rfl, hb⟩
              have hwo' := (unhide hwo).trans (hb.mono (unhide hwo).size)
              have hbV' := (unhide hbV).trans (hb.mono (unhide hbV).size)
              have hr1' := (hb.block _ (Array.getElem?_eq_some_iff.1 (unhide hr1)).1).trans (unhide hr1)
              clear hwo hbV hr1 d0 d1 d2 k3 hb
              have hwo := hide hwo'; have hbV := hide hbV'; have hr1 := hide hr1'
              clear hwo' hbV' hr1'
              have hyes : subAt s g (p : Int) = true := by unfold subAt; rw [unhide hl1l, unhide hl2l]; simp [b1, b2, b3, v1]
              have hfin := matchS_some (x := x) (g := g) (i := (p : Int)) (k := k) (s := s) ⟨by omega, by rw [unhide hgl]; omega⟩ (unhide hs) (unhide hno) hyes
              replace hfin := hide hfin; replace hyes := hide hyes
              go_wp2_with fail
              go_ret
              rw [unhide hfin]
              exact ⟨rfl, (unhide hb0).trans ((unhide hbV).mono (unhide hb0).size)⟩
      · have v0 : n2 = 0 := by omega
        subst v0
        have hno' := unhide hnext (by unfold subAt; rw [unhide hl2l]; simp)
        replace hno' := hide hno'
        have hbV2 := unhide hbV
        rw [unhide hw1] at hbV2
        replace hbV2 := hide hbV2
        go_wp2_with fail
        go_roundw
        case rel => exact ⟨k + 1, by omega, by go_num, unhide hno', unhide hbV2⟩
        case measure => simp [intOf]; omega
    · have hfin : matchS x g (p : Int) = -1 := matchS_none (fun m s hm hs => unhide hno m s (by rw [unhide hxl] at hm; omega) hs)
      have hz := (unhide hb0).trans (hbw.mono (unhide hb0).size)
      replace hfin := hide hfin; replace hbw := hide hbw
      go_wp2_with fail
      go_ret
      rw [unhide hfin]
      exact ⟨rfl, hz⟩
end Go.Proofs.Ytfbgbbbfpkpfkaa
