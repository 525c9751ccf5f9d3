/- The program's Same. -/
import Derived.Test.YtbodidhggdggmaaOl1
namespace Go.Proofs.Ytbodidhggdggmaa
open Go.RowKit
set_option maxHeartbeats 2000000 in
theorem eqCt_any (ax : Option Addr) (nx cx : Nat) (x : List Pt) (ay : Option Addr) (ny cy : Nat) (y : List Pt) (w : World) (hlx : Lst Enc.pt w (· < w.heap.size) ax nx x) (hly : Lst Enc.pt w (· < w.heap.size) ay ny y) (hn : nx ≤ 9223372036854775807) :
    Calls Try.prog 42 #[.slice ax nx cx, .slice ay ny cy] w fun e w' => e = .returned (.bool (decide (x = y))) ∧ ∃ q, w' = w.drewN q := by
  have x1 := hlx.1
  have y1 := hly.1
  by_cases hxy : nx = ny
  · subst hxy
    replace x1 := hide x1; replace y1 := hide y1
    have tt : ((nx : Int) == (nx : Int)) = true := by simp
    go_enter Try.func42, Try.ntmps42
    go_wp2_with fail
    clear tt
    go_loopw [13] (fun v wr => ∃ i q : Nat, i ≤ nx ∧ v = .int .i64 (i : Int) ∧ x.take i = y.take i ∧ wr = w.drewN q) (fun v _ => (nx - intOf v).toNat)
    case atStart => exact ⟨0, 0, by omega, rfl, rfl, rfl⟩
    case round =>
      obtain ⟨i, q2, hi', rfl, hti, rfl⟩ := hrel
      replace hti := hide hti
      by_cases hlt2 : i < nx
      · obtain ⟨g, og, px, py, pz, rfl, _, hp, _, _, g0, g1, g2⟩ := lst_pt hlx hlt2
        obtain ⟨g', og', rx, ry, rz, rfl, _, hr, _, _, g0', g1', g2'⟩ := lst_pt hly hlt2
        have hd := fun wz => pt_neq wz (px, py, pz) (rx, ry, rz)
        simp only at hd
        replace hp := hide hp; replace hr := hide hr
        clear hlx hly
        by_cases hpr : ((px, py, pz) : Pt) = (rx, ry, rz)
        · rw [decide_eq_true hpr] at hd
          have hr2 := unhide hr
          rw [← hpr] at hr2
          have hfin := hide (take_next (unhide hti) (unhide hp) hr2)
          clear hr2 hr hp
          replace hpr := hide hpr
          go_wp2_with fail
          go_quiet (fail)
          go_wp2_with fail
          go_roundw
          case rel => exact ⟨i + 1, q2 + nq, by omega, by go_num, unhide hfin, by first | rfl | exact World.drewN_drewN _ _ _⟩
          case measure => simp [intOf]; omega
        · rw [decide_eq_false hpr] at hd
          have hfin := hide (same_pt (unhide hp) (unhide hr) hpr)
          replace hpr := hide hpr
          clear hp hr
          go_wp2_with fail
          go_quiet (fail)
          go_wp2_with fail
          go_ret
          exact ⟨ret_bool (decide_eq_false (unhide hfin)).symm, q2 + nq, by first | rfl | exact World.drewN_drewN _ _ _⟩
      · have hxe := take_all (unhide hti) (by have := unhide x1; omega) (by have := unhide y1; omega)
        replace hxe := hide hxe
        clear hlx hly hti
        go_wp2_with fail
        go_ret
        exact ⟨ret_bool (decide_eq_true (unhide hxe)).symm, q2, rfl⟩
  · have hfin := hide (show ¬ x = y from fun e => hxy (by rw [← x1, ← y1, e]))
    have tt : ((nx : Int) == (ny : Int)) = false := by simp; omega
    replace hxy := hide hxy
    clear hlx hly x1 y1
    go_enter Try.func42, Try.ntmps42
    go_wp2_with fail
    go_ret
    exact ⟨ret_bool (decide_eq_false (unhide hfin)).symm, 0, rfl⟩
set_option maxHeartbeats 2000000 in
theorem eqOt_any (a : Option Addr) (n c : Nat) (o : Ot) (a' : Option Addr) (n' c' : Nat) (o' : Ot) (w : World) (hl : Lst Enc.ct w (· < w.heap.size) a n o) (hl' : Lst Enc.ct w (· < w.heap.size) a' n' o') (hn : n ≤ 1000000000000) (hn' : n' ≤ 1000000000000) :
    Calls Try.prog 41 #[.slice a n c, .slice a' n' c', .func (.func 42) #[] #[]] w fun e w' => e = .returned (.bool (decide (o = o'))) ∧ ∃ q, w' = w.drewN q := by
  have h1 := hl.1
  have h1' := hl'.1
  by_cases hnn : n = n'
  · subst hnn
    have tt : ((n : Int) == (n : Int)) = true := by simp
    replace h1 := hide h1; replace h1' := hide h1'
    go_enter Try.func41, Try.ntmps41
    go_wp2_with fail
    clear tt
    go_loopw [17] (fun v wr => ∃ k q : Nat, k ≤ n ∧ v = .int .i64 (k : Int) ∧ o.take k = o'.take k ∧ wr = w.drewN q) (fun v _ => (n - intOf v).toNat)
    case atStart => exact ⟨0, 0, by omega, rfl, rfl, rfl⟩
    case round =>
      obtain ⟨k, q, hk, rfl, htk, rfl⟩ := hrel
      replace htk := hide htk
      by_cases hlt : k < n
      · obtain ⟨b, off, x, ax, nx, cx, rfl, hb, hx, hnc, hcm, hlx, hc⟩ := lst_list hl hlt
        obtain ⟨b', off', y, ay, ny, cy, rfl, hb', hy, hnc', hcm', hly, hc'⟩ := lst_list hl' hlt
        have hcq := eqCt_any ax nx cx x ay ny cy y (w.drewN q) (hlx.drewN q) (hly.drewN q) (by unfold maxLen at hcm; omega)
        clear hb hb' hnc hnc' hcm hcm' hlx hly hl hl'
        replace hx := hide hx; replace hy := hide hy
        by_cases hxy : x = y
        · rw [decide_eq_true hxy] at hcq
          have hy2 := unhide hy
          rw [← hxy] at hy2
          have hfin := hide (take_next (unhide htk) (unhide hx) hy2)
          clear hy2 htk hx hy
          replace hxy := hide hxy; replace hcq := hide hcq
          go_wp2_with fail
          refine (unhide hcq).mono ?_
          rintro e w1 ⟨rfl, q2, rfl⟩
          clear hcq
          go_wp2_with fail
          go_roundw
          case rel => exact ⟨k + 1, q + q2, by omega, by go_num, unhide hfin, by first | rfl | exact World.drewN_drewN _ _ _⟩
          case measure => simp [intOf]; omega
        · rw [decide_eq_false hxy] at hcq
          have hfin := hide (same_row (unhide hx) (unhide hy) hxy)
          replace hxy := hide hxy; replace hcq := hide hcq
          clear hx hy htk
          go_wp2_with fail
          refine (unhide hcq).mono ?_
          rintro e w1 ⟨rfl, q2, rfl⟩
          clear hcq
          go_wp2_with fail
          go_ret
          exact ⟨ret_bool (decide_eq_false (unhide hfin)).symm, q + q2, by first | rfl | exact World.drewN_drewN _ _ _⟩
      · have hxe := take_all (unhide htk) (by have := unhide h1; omega) (by have := unhide h1'; omega)
        replace hxe := hide hxe
        clear hl hl' htk
        go_wp2_with fail
        go_ret
        exact ⟨ret_bool (decide_eq_true (unhide hxe)).symm, q, rfl⟩
  · have hfin := hide (same_len (show o.length ≠ o'.length by omega))
    have tt : ((n : Int) == (n' : Int)) = false := by simp; omega
    replace hnn := hide hnn
    clear hl hl' h1 h1'
    go_enter Try.func41, Try.ntmps41
    go_wp2_with fail
    go_ret
    exact ⟨ret_bool (decide_eq_false (unhide hfin)).symm, 0, rfl⟩
theorem sameO_any (a : Option Addr) (n c : Nat) (o : Ot) (a' : Option Addr) (n' c' : Nat) (o' : Ot) (w : World) (hl : Lst Enc.ct w (· < w.heap.size) a n o) (hl' : Lst Enc.ct w (· < w.heap.size) a' n' o') (hn : n ≤ 1000000000000) (hn' : n' ≤ 1000000000000) :
    Calls Try.prog 19 #[.slice a n c, .slice a' n' c'] w fun e w' => e = .returned (.bool (decide (o = o'))) ∧ ∃ q, w' = w.drewN q := by
  have hc := eqOt_any a n c o a' n' c' o' w hl hl' hn hn'
  replace hc := hide hc
  clear hl hl'
  go_enter Try.func19, Try.ntmps19
  go_wp2_with fail
  refine (unhide hc).mono ?_
  rintro e w1 ⟨rfl, hq⟩
  clear hc
  go_wp2_with fail
  go_ret
  exact ⟨rfl, hq⟩
end Go.Proofs.Ytbodidhggdggmaa
