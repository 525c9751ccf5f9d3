/- The reference's Count and Same. -/
import Derived.Test.YtbodidhggdggmaaOl0
namespace Go.Proofs.Ytbodidhggdggmaa
open Go.RowKit
set_option maxHeartbeats 1000000 in
theorem rcount_any (a : Option Addr) (n c : Nat) (o : Ot) (w : World) (hl : Lst Enc.ct w (· < w.heap.size) a n o) (hs : Sml o) :
    Calls Try.prog 16 #[.slice a n c] w fun e w' => e = .returned (.int .i64 (countS o)) ∧ w' = w := by
  have h1 := hl.1
  have hn : n ≤ 1000 := by have := hs.1; omega
  replace h1 := hide h1; replace hs := hide hs
  go_enter Try.func16, Try.ntmps16
  go_wp2_with fail
  go_loopw [3, 4] (fun v3 v wr => ∃ k : Nat, k ≤ n ∧ v = .int .i64 (k : Int) ∧ v3 = .int .i64 (countS (o.take k)) ∧ wr = w) (fun _ v _ => (n - intOf v).toNat)
  case atStart => exact ⟨0, by omega, rfl, rfl, rfl⟩
  case round =>
    obtain ⟨k, hk, rfl, rfl, ew⟩ := hrel
    subst ew
    by_cases hlt : k < n
    · obtain ⟨b, off, x, a', n', c', rfl, hb, hx, hnc, hcm, hlx, hc⟩ := lst_list hl hlt
      have hx1 : x.length = n' := hlx.1
      have hn' := (unhide hs).ct hx
      have q := countS_succ hx
      obtain ⟨q1, q2⟩ := countS_le ((unhide hs).take k)
      rw [hx1] at q hn'
      replace hx := hide hx
      clear hl hlx hx1
      replace q := hide q
      go_wp2_with fail
      go_roundw
      case rel => exact ⟨k + 1, by omega, by go_num, by rw [unhide q], trivial⟩
      case measure => simp [intOf]; omega
    · have q : countS (o.take k) = countS o := by rw [List.take_of_length_le (by have := unhide h1; omega)]
      clear hl
      replace q := hide q
      go_wp2_with fail
      go_ret
      exact ⟨ret_int (unhide q), rfl⟩
set_option maxHeartbeats 2000000 in
theorem rsame_any (a : Option Addr) (n c : Nat) (o : Ot) (a' : Option Addr) (n' c' : Nat) (o' : Ot) (w : World) (hl : Lst Enc.ct w (· < w.heap.size) a n o) (hl' : Lst Enc.ct w (· < w.heap.size) a' n' o') (hn : n ≤ 1000000000000) (hn' : n' ≤ 1000000000000) :
    Calls Try.prog 20 #[.slice a n c, .slice a' n' c'] w fun e w' => e = .returned (.bool (decide (o = o'))) ∧ ∃ q, w' = w.drewN q := by
  have h1 := hl.1
  have h1' := hl'.1
  by_cases hnn : n = n'
  · subst hnn
    replace h1 := hide h1; replace h1' := hide h1'
    go_enter Try.func20, Try.ntmps20
    go_wp2_with fail
    go_loopw [5] (fun v wr => ∃ k q : Nat, k ≤ n ∧ v = .int .i64 (k : Int) ∧ o.take k = o'.take k ∧ wr = w.drewN q) (fun v _ => (n - intOf v).toNat)
    case atStart => exact ⟨0, 0, by omega, rfl, rfl, rfl⟩
    case round =>
      obtain ⟨k, q, hk, rfl, htk, rfl⟩ := hrel
      replace htk := hide htk
      by_cases hlt : k < n
      · obtain ⟨b, off, x, ax, nx, cx, rfl, hb, hx, hnc, hcm, hlx, hc⟩ := lst_list hl hlt
        obtain ⟨b', off', y, ay, ny, cy, rfl, hb', hy, hnc', hcm', hly, hc'⟩ := lst_list hl' hlt
        have x1 := hlx.1
        have y1 := hly.1
        have mx : nx ≤ 9223372036854775807 := by unfold maxLen at hcm; omega
        have my : ny ≤ 9223372036854775807 := by unfold maxLen at hcm'; omega
        clear hb hb' hnc hnc' hcm hcm'
        replace hx := hide hx; replace hy := hide hy; replace x1 := hide x1; replace y1 := hide y1
        by_cases hxy : nx = ny
        · subst hxy
          have tt : ((nx : Int) == (nx : Int)) = true := by simp
          go_wp2_with fail
          go_quiet (fail)
          go_wp2_with fail
          clear tt
          go_loopw [6] (fun v wr => ∃ i q : Nat, i ≤ nx ∧ v = .int .i64 (i : Int) ∧ x.take i = y.take i ∧ wr = w.drewN q) (fun v _ => (nx - intOf v).toNat)
          case atStart => exact ⟨0, q + nq, by omega, rfl, rfl, World.drewN_drewN _ _ _⟩
          case round =>
            obtain ⟨i, q2, hi', rfl, hti, rfl⟩ := hrel
            replace hti := hide hti
            by_cases hlt2 : i < nx
            · obtain ⟨g, og, px, py, pz, rfl, _, hp, _, _, g0, g1, g2⟩ := lst_pt hlx hlt2
              obtain ⟨g', og', rx, ry, rz, rfl, _, hr, _, _, g0', g1', g2'⟩ := lst_pt hly hlt2
              have hd := fun wz => pt_neq wz (px, py, pz) (rx, ry, rz)
              simp only at hd
              replace hp := hide hp; replace hr := hide hr
              clear hl hl' hlx hly
              by_cases hpr : ((px, py, pz) : Pt) = (rx, ry, rz)
              · rw [decide_eq_true hpr] at hd
                have hr2 := unhide hr
                rw [← hpr] at hr2
                have hfin := hide (take_next (unhide hti) (unhide hp) hr2)
                clear hr2 hr hp
                replace hpr := hide hpr
                go_wp2_with fail
                go_quiet (fail)
                go_wp2_with fail
                go_roundw
                case rel => exact ⟨i + 1, q2 + nq, by omega, by go_num, unhide hfin, rfl⟩
                case measure => simp [intOf]; omega
              · rw [decide_eq_false hpr] at hd
                have hfin := hide (same_row (unhide hx) (unhide hy) (same_pt (unhide hp) (unhide hr) hpr))
                replace hpr := hide hpr
                clear hp hr
                go_wp2_with fail
                go_quiet (fail)
                go_wp2_with fail
                go_ret
                exact ⟨ret_bool (decide_eq_false (unhide hfin)).symm, q2 + nq, World.drewN_drewN _ _ _⟩
            · have hxe := take_all (unhide hti) (by have := unhide x1; omega) (by have := unhide y1; omega)
              have hy2 := unhide hy
              rw [← hxe] at hy2
              have hfin := hide (take_next (unhide htk) (unhide hx) hy2)
              clear hxe hy2 hx hy hti htk hl hl' hlx hly
              go_wp2_with fail
              go_roundw
              case rel => exact ⟨k + 1, q2, by omega, by go_num, unhide hfin, rfl⟩
              case measure => simp [intOf]; omega
        · have hfin := hide (same_row (unhide hx) (unhide hy) (fun e => hxy (by rw [← unhide x1, ← unhide y1, e])))
          have tt : ((nx : Int) == (ny : Int)) = false := by simp; omega
          replace hxy := hide hxy
          clear hlx hly hl hl'
          go_wp2_with fail
          go_quiet (fail)
          go_wp2_with fail
          go_ret
          exact ⟨ret_bool (decide_eq_false (unhide hfin)).symm, q + nq, World.drewN_drewN _ _ _⟩
      · have hxe := take_all (unhide htk) (by have := unhide h1; omega) (by have := unhide h1'; omega)
        replace hxe := hide hxe
        clear hl hl' htk
        go_wp2_with fail
        go_ret
        exact ⟨ret_bool (decide_eq_true (unhide hxe)).symm, q, rfl⟩
  · have hfin := hide (same_len (show o.length ≠ o'.length by omega))
    have tt : ((n : Int) == (n' : Int)) = false := by simp; omega
    replace hnn := hide hnn
    clear hl hl' h1 h1'
    go_enter Try.func20, Try.ntmps20
    go_wp2_with fail
    go_ret
    exact ⟨ret_bool (decide_eq_false (unhide hfin)).symm, 0, rfl⟩
end Go.Proofs.Ytbodidhggdggmaa
