/- The reference's Made. -/
import Derived.Test.YtbodidhggdggmaaOlY
import Derived.Test.YtbodidhggdggmaaAxM
namespace Go.Proofs.Ytbodidhggdggmaa
open Go.RowKit
def GoodC (c : List Pt) : Prop := onAt c 0 = true ∧ ∀ p ∈ c, 0 ≤ p.1 ∧ p.1 ≤ 48 ∧ 0 ≤ p.2.1 ∧ p.2.1 ≤ 48
def GoodO6 (o : Ot) : Prop := o.length ≤ 2 ∧ ∀ c ∈ o, 3 ≤ c.length ∧ c.length ≤ 6 ∧ GoodC c
theorem GoodO6.sml {o : Ot} (h : GoodO6 o) : Sml o ∧ ∀ c ∈ o, c.length ≤ 250 := ⟨⟨by have := h.1; omega, fun c hc => by have := (h.2 c hc).2.1; omega⟩, fun c hc => by have := (h.2 c hc).2.1; omega⟩
/-- the points so far: the first one is on the curve -/
def GoodP (cs : List Pt) : Prop := (∀ p, cs[0]? = some p → p.2.2 = true) ∧ ∀ p ∈ cs, 0 ≤ p.1 ∧ p.1 ≤ 48 ∧ 0 ≤ p.2.1 ∧ p.2.1 ≤ 48
theorem GoodP.snoc {cs : List Pt} {p : Pt} (h : GoodP cs) (h0 : cs.length = 0 → p.2.2 = true) (hp : 0 ≤ p.1 ∧ p.1 ≤ 48 ∧ 0 ≤ p.2.1 ∧ p.2.1 ≤ 48) : GoodP (cs ++ [p]) := by
  refine ⟨fun q hq => ?_, fun q hq => ?_⟩
  · cases cs with
    | nil => simp at hq; subst hq; exact h0 rfl
    | cons c cs => exact h.1 q (by simpa using hq)
  · rcases List.mem_append.1 hq with hq | hq
    · exact h.2 q hq
    · simp at hq; subst hq; exact hp
theorem GoodP.ct {cs : List Pt} (h : GoodP cs) (hl : 1 ≤ cs.length) : GoodC cs := ⟨by
  have e : cs[0]? = some (cs[0]'(by omega)) := List.getElem?_eq_getElem _
  rw [onAt_some e]
  exact h.1 _ e, h.2⟩
theorem GoodP.all {cs : List Pt} (h : GoodP cs) : AllP cs := fun p hp => by
  obtain ⟨h1, h2, h3, h4⟩ := h.2 p hp
  exact ⟨⟨by omega, by omega⟩, ⟨by omega, by omega⟩⟩
def MadePost6 (w : World) (e : Ending) (w' : World) : Prop := ∃ v o, e = .returned v ∧ OO w' w.heap.size v o ∧ GoodO6 o ∧ Below w.heap.size w w'
set_option maxHeartbeats 8000000 in
set_option maxRecDepth 100000 in
theorem made6_any (a : Option Addr) (n c : Nat) (l : List (List Int)) (w : World) (hl : Lst (Enc.list Enc.int) w (· < w.heap.size) a n l) (hnm : n ≤ maxLen) :
    Calls Try.prog 10 #[.slice a n c] w (MadePost6 w) := by
  unfold maxLen at hnm
  replace hl := hide hl
  go_enter Try.func10, Try.ntmps10
  go_wp2_with fail
  go_loopw [3, 4] (fun v3 v wr => ∃ (k : Nat) (o : Ot), k ≤ n ∧ k ≤ 2 ∧ v = .int .i64 (k : Int) ∧ OO wr w.heap.size v3 o ∧ o.length = k ∧ (∀ c ∈ o, 3 ≤ c.length ∧ c.length ≤ 6 ∧ GoodC c) ∧ Below w.heap.size w wr) (fun _ v _ => (2 - intOf v).toNat)
  case atStart => exact ⟨0, [], by omega, by omega, rfl, OO.nil _ _, rfl, fun c h => by simp at h, Below.refl _ _⟩
  case round =>
    obtain ⟨k, o, hk, hk2, rfl, hoo, hok, hgo, hbw⟩ := hrel
    obtain ⟨wo, rfl⟩ : ∃ wo : World, wo = wr := ⟨_, rfl⟩
    obtain ⟨ao, co, ev, _⟩ := hoo.lst
    rw [hok] at ev
    subst ev
    by_cases hlt : k < n ∧ k < 2
    · obtain ⟨hkn, hk2'⟩ := hlt
      obtain ⟨b, off, x, ax, nx, cx, rfl, hbb, hx, hnc, hcm, hlx, hc0⟩ := lst_list ((unhide hl).under hbw) hkn
      obtain ⟨b0, V, hb0, hV, n0, k0, s0⟩ := al1 wo (.cells #[.slice ax nx cx, .int .i64 0] 76)
      have hlx' : Lst Enc.int V (· < b0) ax nx x := by rw [← hb0]; exact hlx.below k0
      have hd0 : DrawAt V b0 (· < b0) := ⟨ax, nx, cx, 0, x, n0, Nat.zero_le _, by omega, hlx', fun h => by omega⟩
      have hR0 : RI wo V b0 b0 (b0 + 1) 56 3 (.slice none 0 0) 0 [] := ⟨by rw [← hb0]; exact k0, hd0, World.ownsRow_nil _ _ _ _, Nat.le_refl _, by omega⟩
      have t1 : decide ((k : Int) < (n : Int)) = true := by simp; omega
      have t2 : decide ((k : Int) < 2) = true := by simp; omega
      have t3 : (k : Int) < (n : Int) := by omega
      have t4 : (k : Int) < 2 := by omega
      have hc := next_nat b0 (· < b0) 4 V hR0.draw (by omega) (by omega)
      clear n0 k0 s0 hlx hlx' hx hbb hnc hcm hd0
      replace hR0 := hide hR0; replace hc := hide hc; replace hoo := hide hoo; replace hbw := hide hbw; replace hgo := hide hgo; replace hok := hide hok; replace hb0 := hide hb0
      have hb0' := unhide hb0
      go_wp2_with fail
      refine (unhide hc).mono ?_
      rintro e w1 ⟨x0, rfl, hx0, hd, hg, -⟩
      have hR1 := (unhide hR0).next hd hg
      clear hR0 hc hd hg hV hb0' hc0
      obtain ⟨m, hm⟩ : ∃ m, 3 + x0 = m := ⟨_, rfl⟩
      have hm2 : 3 ≤ m ∧ m ≤ 6 := by omega
      have s1 : IntKind.i64.wrap (3 + (x0 : Int)) = (m : Int) := by rw [IntWalk.i64_in _ (by omega)]; omega
      have s1' : (3 : Int) + (x0 : Int) = (m : Int) := by omega
      replace hR1 := hide hR1; replace hm := hide hm
      go_wp2_with fail
      go_loopw [6, 8] (fun v6 v8 wr => ∃ (i : Nat) (cs : List Pt), i ≤ m ∧ v8 = .int .i64 (i : Int) ∧ cs.length = i ∧ GoodP cs ∧ RI wo wr b0 b0 (b0 + 1) 56 3 v6 i (pcells cs)) (fun _ v _ => (m - intOf v).toNat)
      case atStart => exact ⟨0, [], by omega, rfl, rfl, ⟨fun p h => by simp at h, fun p h => by simp at h⟩, unhide hR1⟩
      case round =>
        clear hR1
        obtain ⟨i, cs, hi, rfl, hcs, hgp, hR⟩ := hrel
        obtain ⟨wi, rfl⟩ : ∃ wi : World, wi = wr := ⟨_, rfl⟩
        obtain ⟨va, vc, rfl⟩ := own_shape hR.row
        by_cases hlt : i < m
        · have hc := next_nat b0 (· < b0) 13 wi hR.draw (by omega) (by omega)
          have t5 : (i : Int) < (m : Int) := by omega
          replace hR := hide hR; replace hc := hide hc; replace hgp := hide hgp; replace hcs := hide hcs
          by_cases hi0 : i = 0
          · have z0 : ((i : Int) == 0) = true := by subst hi0; rfl
            have z1 : (i : Int) = 0 := by omega
            have hi0' := hide hi0
            clear hi0
            go_wp2_with fail
            refine (unhide hc).mono ?_
            rintro e w3 ⟨x1, rfl, hx1, hd, hg, -⟩
            have hR2 := (unhide hR).next hd hg
            have hc' := next_nat b0 (· < b0) 13 w3 hR2.draw (by omega) (by omega)
            clear hR hc hd hg
            obtain ⟨X, hX⟩ : ∃ X, 4 * x1 = X := ⟨_, rfl⟩
            have s2 : IntKind.i64.wrap (4 * (x1 : Int)) = (X : Int) := by rw [IntWalk.i64_in _ (by omega)]; omega
            have s2' : (4 : Int) * (x1 : Int) = (X : Int) := by omega
            have hXb : X ≤ 48 := by omega
            replace hR2 := hide hR2; replace hc' := hide hc'; replace hX := hide hX
            go_wp2_with fail
            refine (unhide hc').mono ?_
            rintro e w4 ⟨y1, rfl, hy1, hd, hg, -⟩
            have hR3 := hide ((unhide hR2).next hd hg)
            clear hR2 hc' hd hg s2 s2'
            obtain ⟨Y, hY⟩ : ∃ Y, 4 * y1 = Y := ⟨_, rfl⟩
            have s3 : IntKind.i64.wrap (4 * (y1 : Int)) = (Y : Int) := by rw [IntWalk.i64_in _ (by omega)]; omega
            have s3' : (4 : Int) * (y1 : Int) = (Y : Int) := by omega
            have hYb : Y ≤ 48 := by omega
            replace hY := hide hY
            obtain ⟨bp, V4, hbp, hV4, n4, k4, s4⟩ := al1 w4 (.cells #[.int .i64 (X : Int), .int .i64 (Y : Int), .bool true] 56)
            have hR5 := (unhide hR3).below k4
            have hrow5 := hide hR5.row
            have hb0V : b0 + 1 ≤ V4.heap.size := hR5.lt
            have hgp2 := hide ((unhide hgp).snoc (p := ((X : Int), (Y : Int), true)) (fun _ => rfl) ⟨by simp only; omega, by simp only; omega, by simp only; omega, by simp only; omega⟩)
            clear k4 s4 hR3 hgp
            replace hR5 := hide hR5; replace n4 := hide n4
            go_wp2_with (at_builtin; refine wpList_append_el Try.underlying54 info_pt rfl (by decide) (by decide) rfl _ _ rfl (b0 + 1) _ i (pcells cs) rfl (unhide hrow5) _ [.int .i64 (X : Int), .int .i64 (Y : Int), .bool true] rfl (unhide n4) rfl ?c2 ?c4 hb0V ?_)
            case c2 => (intro u hu; simp at hu; rcases hu with rfl | rfl | rfl <;> rfl)
            case c4 => omega
            intro v' w9 hown hg9 _
            have hR9 := (unhide hR5).push hown hg9
            clear hR5 hown hg9 hrow5 n4 hV4 hbp
            replace hR9 := hide hR9
            go_wp2_with fail
            go_roundw
            case rel => exact ⟨i + 1, cs ++ [((X : Int), (Y : Int), true)], by omega, by go_num, by rw [List.length_append, unhide hcs]; rfl, unhide hgp2, by rw [pcells_append]; exact unhide hR9⟩
            case measure => simp [intOf]; omega
          · have z0 : ((i : Int) == 0) = false := by rw [beq_eq_false_iff_ne]; omega
            have z1 : ¬ (i : Int) = 0 := by omega
            have hi0' := hide hi0
            go_wp2_with fail
            refine (unhide hc).mono ?_
            rintro e w3 ⟨x1, rfl, hx1, hd, hg, -⟩
            have hR2 := (unhide hR).next hd hg
            have hc' := next_nat b0 (· < b0) 13 w3 hR2.draw (by omega) (by omega)
            clear hR hc hd hg
            obtain ⟨X, hX⟩ : ∃ X, 4 * x1 = X := ⟨_, rfl⟩
            have s2 : IntKind.i64.wrap (4 * (x1 : Int)) = (X : Int) := by rw [IntWalk.i64_in _ (by omega)]; omega
            have s2' : (4 : Int) * (x1 : Int) = (X : Int) := by omega
            have hXb : X ≤ 48 := by omega
            replace hR2 := hide hR2; replace hc' := hide hc'; replace hX := hide hX
            go_wp2_with fail
            refine (unhide hc').mono ?_
            rintro e w4 ⟨y1, rfl, hy1, hd, hg, -⟩
            have hR3 := (unhide hR2).next hd hg
            have hc3 := next_nat b0 (· < b0) 3 w4 hR3.draw (by omega) (by omega)
            clear hR2 hc' hd hg s2 s2'
            obtain ⟨Y, hY⟩ : ∃ Y, 4 * y1 = Y := ⟨_, rfl⟩
            have s3 : IntKind.i64.wrap (4 * (y1 : Int)) = (Y : Int) := by rw [IntWalk.i64_in _ (by omega)]; omega
            have s3' : (4 : Int) * (y1 : Int) = (Y : Int) := by omega
            have hYb : Y ≤ 48 := by omega
            replace hY := hide hY; replace hR3 := hide hR3; replace hc3 := hide hc3
            go_wp2_with fail
            refine (unhide hc3).mono ?_
            rintro e w5 ⟨q1, rfl, hq1, hd, hg, -⟩
            have hR4 := hide ((unhide hR3).next hd hg)
            clear hR3 hc3 hd hg s3 s3'
            obtain ⟨zb, hz1⟩ : ∃ zb, decide ((0 : Int) < (q1 : Int)) = zb := ⟨_, rfl⟩
            have hz2 : decide (0 < q1) = zb := by rw [← hz1]; simp
            obtain ⟨bp, V4, hbp, hV4, n4, k4, s4⟩ := al1 w5 (.cells #[.int .i64 (X : Int), .int .i64 (Y : Int), .bool zb] 56)
            have hR5 := (unhide hR4).below k4
            have hrow5 := hide hR5.row
            have hb0V : b0 + 1 ≤ V4.heap.size := hR5.lt
            have hgp2 := hide ((unhide hgp).snoc (p := ((X : Int), (Y : Int), zb)) (fun h => absurd ((unhide hcs).symm.trans h) (unhide hi0')) ⟨by simp only; omega, by simp only; omega, by simp only; omega, by simp only; omega⟩)
            clear k4 s4 hR4 hgp
            replace hR5 := hide hR5; replace n4 := hide n4
            go_wp2_with (at_builtin; refine wpList_append_el Try.underlying54 info_pt rfl (by decide) (by decide) rfl _ _ rfl (b0 + 1) _ i (pcells cs) rfl (unhide hrow5) _ [.int .i64 (X : Int), .int .i64 (Y : Int), .bool zb] rfl (unhide n4) rfl ?c2 ?c4 hb0V ?_)
            case c2 => (intro u hu; simp at hu; rcases hu with rfl | rfl | rfl <;> rfl)
            case c4 => omega
            intro v' w9 hown hg9 _
            have hR9 := (unhide hR5).push hown hg9
            clear hR5 hown hg9 hrow5 n4 hV4 hbp
            replace hR9 := hide hR9
            go_wp2_with fail
            go_roundw
            case rel => exact ⟨i + 1, cs ++ [((X : Int), (Y : Int), zb)], by omega, by go_num, by rw [List.length_append, unhide hcs]; rfl, unhide hgp2, by rw [pcells_append]; exact unhide hR9⟩
            case measure => simp [intOf]; omega
        · have hie : i = m := by omega
          subst hie
          have hbR := hR.bel
          have hRw : Rw wi (b0 + 1) (.slice va i vc) cs := ⟨by rw [hcs]; exact hR.row, hgp.all⟩
          have hgc := hide (hgp.ct (by omega))
          obtain ⟨b2, V6, hb2, hV6, n6, k6, s6⟩ := al1 wi (.cells #[.slice va i vc] 54)
          have hb06 : Below wo.heap.size wo V6 := by
            rw [unhide hb0]
            exact hbR.trans (k6.mono (by have := hR.lt; omega))
          have hRw6 : Rw V6 wo.heap.size (.slice va i vc) cs := by rw [unhide hb0]; exact (hRw.below k6).mono (by omega)
          have hsz : w.heap.size ≤ wo.heap.size := (unhide hbw).size
          have hlk : o.length ≤ 1000 := by have := unhide hok; omega
          have hm3 := unhide hm
          clear hR hRw k6 s6 hbR hgp
          replace hb06 := hide hb06; replace hRw6 := hide hRw6; replace n6 := hide n6; replace hcs := hide hcs
          go_wp2_with (at_builtin; refine wpList_append_ct rfl _ _ rfl w.heap.size _ _ o cs rfl (unhide hoo) (unhide hb06) _ rfl (unhide n6) (unhide hRw6) hsz hlk ?_)
          intro v4 w7 hoo4 hb4
          have hbz := hide (((unhide hbw).trans ((unhide hb06).mono hsz)).trans hb4)
          replace hoo4 := hide hoo4
          clear hoo hb06 n6 hRw6 hb4 hV6 hb2 hbw
          go_wp2_with fail
          go_roundw
          case rel =>
            refine ⟨k + 1, o ++ [cs], by omega, by omega, by go_num, unhide hoo4, by rw [List.length_append, unhide hok]; rfl, fun c hc => ?_, unhide hbz⟩
            rcases List.mem_append.1 hc with hc | hc
            · exact unhide hgo c hc
            · simp at hc
              subst hc
              exact ⟨by rw [unhide hcs]; omega, by rw [unhide hcs]; omega, unhide hgc⟩
          case measure => simp [intOf]; omega
    · have hpost : MadePost6 w (Ending.returned (Value.slice ao k co)) wo := ⟨_, o, rfl, hoo, ⟨by omega, hgo⟩, hbw⟩
      clear hoo hgo hbw hok
      replace hpost := hide hpost
      have t1 : decide ((k : Int) < (n : Int)) = true ∨ decide ((k : Int) < (n : Int)) = false := by cases decide ((k : Int) < (n : Int)) <;> simp
      by_cases hkn : k < n
      · have t2 : decide ((k : Int) < 2) = false := by simp; omega
        have t3 : decide ((k : Int) < (n : Int)) = true := by simp; omega
        have t4 : (k : Int) < (n : Int) := by omega
        have t5 : ¬ (k : Int) < 2 := by omega
        go_wp2_with fail
        go_ret
        exact unhide hpost
      · have t3 : decide ((k : Int) < (n : Int)) = false := by simp; omega
        have t4 : ¬ (k : Int) < (n : Int) := by omega
        go_wp2_with fail
        go_ret
        exact unhide hpost
end Go.Proofs.Ytbodidhggdggmaa
