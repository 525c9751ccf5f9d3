/- The reference's Flat. -/
import Derived.Test.YtbodidhggdggmaaOp3
namespace Go.Proofs.Ytbodidhggdggmaa
open Go.RowKit
set_option maxHeartbeats 4000000 in
theorem rflat_any (a : Option Addr) (n c : Nat) (o : Ot) (w : World) (hl : Lst Enc.ct w (· < w.heap.size) a n o) (hs : Sml o) (h250 : ∀ c ∈ o, c.length ≤ 250) :
    Calls Try.prog 32 #[.slice a n c] w fun e w' => ∃ v, e = .returned v ∧ OO w' w.heap.size v (flatS o) ∧ Below w.heap.size w w' := by
  have h1 : o.length = n := hl.1
  have hn : n ≤ 1000 := by have := hs.1; omega
  replace h1 := hide h1; replace hs := hide hs; replace hl := hide hl; replace h250 := hide h250
  go_enter Try.func32, Try.ntmps32
  go_wp2_with fail
  go_loopw [3, 4] (fun v3 v wr => ∃ k : Nat, k ≤ n ∧ v = .int .i64 (k : Int) ∧ OO wr w.heap.size v3 (flatS (o.take k)) ∧ Below w.heap.size w wr) (fun _ v _ => (n - intOf v).toNat)
  case atStart => exact ⟨0, by omega, rfl, OO.nil _ _, Below.refl _ _⟩
  case round =>
    obtain ⟨k, hk, rfl, hoo, hbw⟩ := hrel
    obtain ⟨wo, rfl⟩ : ∃ wo : World, wo = wr := ⟨_, rfl⟩
    obtain ⟨ao, co, ev, _⟩ := hoo.lst
    obtain ⟨no, hno⟩ : ∃ no, (flatS (o.take k)).length = no := ⟨_, rfl⟩
    rw [hno] at ev
    subst ev
    have hno2 : no ≤ 1000 := by rw [← hno]; unfold flatS; rw [List.length_map, List.length_take]; omega
    replace hno := hide hno
    by_cases hlt : k < n
    · obtain ⟨b, off, x, ax, nx, cx, rfl, hb, hx, hnc, hcm, hlx, hc0⟩ := lst_list ((unhide hl).under hbw) hlt
      have hc := rpolygon_any ax nx cx x wo hlx (by have := unhide h250 x (List.mem_of_getElem? hx); have := hlx.1; omega)
      have hnx : flatS (o.take k) ++ [polyS x] = flatS (o.take (k + 1)) := by
        have e := List.take_add_one (i := k) (l := o)
        rw [hx] at e
        unfold flatS
        rw [e, List.map_append]
        rfl
      have t1 : (k : Int) < (n : Int) := by omega
      clear hb hnc hcm hlx hx
      replace hc := hide hc; replace hoo := hide hoo; replace hbw := hide hbw; replace hnx := hide hnx
      go_wp2_with fail
      refine (unhide hc).mono ?_
      rintro e w2 ⟨v, rfl, hrw, hb2⟩
      obtain ⟨av, cv, ev, _⟩ := hrw.lst
      obtain ⟨m, hm⟩ : ∃ m, (polyS x).length = m := ⟨_, rfl⟩
      rw [hm] at ev
      subst ev
      obtain ⟨b2, V3, hb2e, hV3, n3, k3, s3⟩ := al1 w2 (.cells #[.slice av m cv] 54)
      have hrw3 := hrw.below k3
      have hb3 := hb2.trans (k3.mono hb2.size)
      have hsz : w.heap.size ≤ wo.heap.size := (unhide hbw).size
      have hlk : (flatS (o.take k)).length ≤ 1000 := by rw [unhide hno]; exact hno2
      clear hc hrw k3 s3 hb2 hc0
      replace n3 := hide n3; replace hrw3 := hide hrw3; replace hb3 := hide hb3; replace hm := hide hm; replace hlk := hide hlk
      go_wp2_with (at_builtin; refine wpList_append_ct rfl _ _ rfl w.heap.size _ _ (flatS (o.take k)) (polyS x) rfl (unhide hoo) (unhide hb3) _ rfl (unhide n3) (unhide hrw3) hsz (unhide hlk) ?_)
      intro v4 w4 hoo4 hb4
      rw [unhide hnx] at hoo4
      have hbz := hide (((unhide hbw).trans ((unhide hb3).mono hsz)).trans hb4)
      replace hoo4 := hide hoo4
      clear hoo hb3 n3 hrw3 hb4 hV3 hb2e hbw
      go_wp2_with fail
      go_roundw
      case rel => exact ⟨k + 1, by omega, by go_num, unhide hoo4, unhide hbz⟩
      case measure => simp [intOf]; omega
    · have hke : k = n := by omega
      subst hke
      have hoe : o.take k = o := List.take_of_length_le (by rw [unhide h1]; exact Nat.le_refl _)
      rw [hoe] at hoo
      replace hbw := hide hbw; replace hoo := hide hoo
      clear hl hoe
      go_wp2_with fail
      go_ret
      exact ⟨_, rfl, unhide hoo, unhide hbw⟩
end Go.Proofs.Ytbodidhggdggmaa
