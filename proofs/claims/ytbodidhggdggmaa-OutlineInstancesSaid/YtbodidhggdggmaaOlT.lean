/- The program's Flat. -/
import Derived.Test.YtbodidhggdggmaaOlS
namespace Go.Proofs.Ytbodidhggdggmaa
open Go.RowKit
set_option maxHeartbeats 4000000 in
theorem flat_any (a : Option Addr) (n c : Nat) (o : Ot) (w : World) (hl : Lst Enc.ct w (· < w.heap.size) a n o) (hs : Sml o) (h250 : ∀ c ∈ o, c.length ≤ 250) :
    Calls Try.prog 25 #[.slice a n c] w fun e w' => ∃ v, e = .returned v ∧ OO w' w.heap.size v (flatS o) ∧ Below w.heap.size w w' := by
  have hn : o.length = n := hl.1
  have hn2 : n ≤ 1000 := by have := hs.1; omega
  have hmk := make_out n (by omega) w
  have hoo0 := oo_made n (by omega) w
  have hb0 := (Below.refl w.heap.size w).alloc (Nat.le_refl _) (.cells (madeCells #[Value.slice none 0 0] n) 54)
  have hlen : (flatS o).length = (List.replicate n ([] : List Pt)).length := by unfold flatS; rw [List.length_map, List.length_replicate, hn]
  obtain ⟨ob, hob⟩ : ∃ ob, w.heap.size = ob := ⟨_, rfl⟩
  obtain ⟨W0, hW0⟩ : ∃ W0, w.alloc (.cells (madeCells #[Value.slice none 0 0] n) 54) = W0 := ⟨_, rfl⟩
  rw [hW0] at hmk hoo0 hb0
  rw [hob] at hmk hoo0
  replace hl := hide hl; replace hs := hide hs; replace h250 := hide h250; replace hn := hide hn; replace hoo0 := hide hoo0; replace hb0 := hide hb0; replace hlen := hide hlen; replace hob := hide hob; replace hW0 := hide hW0
  go_enter Try.func25, Try.ntmps25
  go_wp2_with fail
  clear hmk hW0
  go_loopw [11] (fun v wr => ∃ k : Nat, k ≤ n ∧ v = .int .i64 (k : Int) ∧ OO wr ob (.slice (some ⟨ob, 0, none⟩) n n) (mix (flatS o) (List.replicate n []) k) ∧ Below w.heap.size w wr) (fun v _ => (n - intOf v).toNat)
  case atStart => exact ⟨0, by omega, rfl, by rw [mix_zero]; exact unhide hoo0, unhide hb0⟩
  case round =>
    clear hoo0 hb0
    obtain ⟨k, hk, rfl, hoo, hbw⟩ := hrel
    obtain ⟨wo, rfl⟩ : ∃ wo : World, wo = wr := ⟨_, rfl⟩
    by_cases hlt : k < n
    · obtain ⟨b, off, x, ax, nx, cx, rfl, hb, hx, hnc, hcm, hlx, hcx⟩ := lst_list (unhide hl) hlt
      replace hcx := cell_under hcx hbw
      have hc := polygon_any ax nx cx x wo (hlx.under hbw) (by have := unhide h250 x (List.mem_of_getElem? hx); have := hlx.1; omega)
      have himg : (flatS o)[k]? = some (polyS x) := by unfold flatS; rw [List.getElem?_map, hx]; rfl
      have t1 : (k : Int) < (n : Int) := by omega
      have t2 : ¬ (n : Int) ≤ (k : Int) := by omega
      clear hb hnc hcm hlx hx
      replace hc := hide hc; replace himg := hide himg; replace hoo := hide hoo; replace hbw := hide hbw
      go_wp2_with fail
      refine (unhide hc).mono ?_
      rintro e w1 ⟨v, rfl, hrw, hb1⟩
      obtain ⟨av, cv, hv, _⟩ := hrw.lst
      have hobs : ob ≤ wo.heap.size := by have := (unhide hbw).size; have := unhide hob; omega
      obtain ⟨z1, z2, z3, z4, z5, z6⟩ := (unhide hoo).putS hb1 hrw (k := k) (by rw [mix_len (unhide hlen), List.length_replicate]; omega) hobs
      rw [mix_step (unhide hlen) (unhide himg)] at z4
      have hb2 := ((unhide hbw).trans (hb1.mono (unhide hbw).size)).setCell (p := ⟨ob, k, none⟩) (by show w.heap.size ≤ ob; have := unhide hob; omega) v
      obtain ⟨m, hm⟩ : ∃ m, (polyS x).length = m := ⟨_, rfl⟩
      rw [hm] at hv
      subst hv
      obtain ⟨V2, hV2⟩ : ∃ V2, w1.setCell ⟨ob, k, none⟩ (.slice av m cv) = V2 := ⟨_, rfl⟩
      rw [hV2] at z4 hb2
      clear hc hrw hb1 himg hoo hbw hm
      replace z4 := hide z4; replace hb2 := hide hb2
      go_wp2_with fail
      go_roundw
      case rel => exact ⟨k + 1, by omega, by go_num, unhide z4, unhide hb2⟩
      case measure => simp [intOf]; omega
    · have hke : k = n := by omega
      subst hke
      rw [mix_all (by unfold flatS; rw [List.length_map, unhide hn]; exact Nat.le_refl _) (by rw [List.length_replicate]; exact Nat.le_refl _)] at hoo
      replace hoo := hide hoo; replace hbw := hide hbw
      go_wp2_with fail
      go_ret
      exact ⟨_, rfl, by rw [unhide hob]; exact unhide hoo, unhide hbw⟩
end Go.Proofs.Ytbodidhggdggmaa
