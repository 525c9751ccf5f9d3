/- The program's far and the search for it. -/
import Derived.Test.YtbodidhggdggmaaOl2
namespace Go.Proofs.Ytbodidhggdggmaa
open Go.RowKit
def farI (n : Int) : Bool := decide (n < -512) || decide (512 < n)
theorem farP_two (p : Pt) : farP p = (farI p.1 || farI p.2.1) := by unfold farP farI; simp [Bool.or_assoc]
theorem far_any (n : Int) (w : World) : Calls Try.prog 39 #[.int .i64 n] w fun e w' => e = .returned (.bool (farI n)) ∧ w' = w := by
  by_cases h1 : n < -512
  · have e : farI n = true := by unfold farI; simp [h1]
    rw [e]
    clear e
    go_enter Try.func39, Try.ntmps39
    go_wp2_with fail
    go_ret
    exact ⟨rfl, rfl⟩
  · by_cases h2 : 512 < n
    · have e : farI n = true := by unfold farI; simp [h2]
      rw [e]
      clear e
      go_enter Try.func39, Try.ntmps39
      go_wp2_with fail
      go_ret
      exact ⟨rfl, rfl⟩
    · have e : farI n = false := by unfold farI; simp [h1, h2]
      rw [e]
      clear e
      go_enter Try.func39, Try.ntmps39
      go_wp2_with fail
      go_ret
      exact ⟨rfl, rfl⟩
set_option maxHeartbeats 1000000 in
theorem far1_any (px py : Int) (pz : Bool) (w : World) : Calls Try.prog 38 #[.agg #[.int .i64 px, .int .i64 py, .bool pz]] w fun e w' => e = .returned (.bool (farP (px, py, pz))) ∧ Below w.heap.size w w' := by
  rw [farP_two]
  simp only
  obtain ⟨bx, hbx⟩ : ∃ bx, bx = w.heap.size := ⟨_, rfl⟩
  obtain ⟨V1, hV1⟩ : ∃ V1, V1 = w.alloc (Obj.cells #[.int .i64 px, .int .i64 py, .bool pz] 56) := ⟨_, rfl⟩
  obtain ⟨hbo, hcx, d0, d1, d2⟩ := box_pt hbx hV1
  have hc1 := far_any px V1
  have hc2 := far_any py V1
  replace hbo := hide hbo; replace hc2 := hide hc2; replace hc1 := hide hc1
  replace hV1 := hV1.symm
  replace hbx := hbx.symm
  clear hcx d2
  cases hf : farI px with
  | true =>
    rw [hf] at hc1
    go_enter Try.func38, Try.ntmps38
    go_wp2_with fail
    refine (unhide hc1).mono ?_
    rintro e w1 ⟨rfl, rfl⟩
    clear hc1 hc2
    go_wp2_with fail
    go_ret
    exact ⟨by simp, unhide hbo⟩
  | false =>
    rw [hf] at hc1
    go_enter Try.func38, Try.ntmps38
    go_wp2_with fail
    refine (unhide hc1).mono ?_
    rintro e w1 ⟨rfl, rfl⟩
    clear hc1
    go_wp2_with fail
    refine (unhide hc2).mono ?_
    rintro e w1 ⟨rfl, rfl⟩
    clear hc2
    go_wp2_with fail
    go_ret
    exact ⟨by simp, unhide hbo⟩
/-- the first far point -/
def farIx (c : List Pt) : Int := match c.findIdx? farP with | some i => (i : Int) | none => -1
set_option maxHeartbeats 1000000 in
theorem findfar_any (a : Option Addr) (n c : Nat) (l : List Pt) (w : World) (hl : Lst Enc.pt w (· < w.heap.size) a n l) (hn : n ≤ 1000000000000) :
    Calls Try.prog 59 #[.slice a n c, .func (.func 38) #[] #[]] w fun e w' => (∃ i : Int, e = .returned (.int .i64 i) ∧ (0 ≤ i) = (l.any farP = true)) ∧ Below w.heap.size w w' := by
  have h1 := hl.1
  replace h1 := hide h1; replace hl := hide hl
  go_enter Try.func59, Try.ntmps59
  go_wp2_with fail
  go_loopw [8] (fun v wr => ∃ i : Nat, i ≤ n ∧ v = .int .i64 (i : Int) ∧ (l.take i).any farP = false ∧ Below w.heap.size w wr) (fun v _ => (n - intOf v).toNat)
  case atStart => exact ⟨0, by omega, rfl, rfl, Below.refl _ _⟩
  case round =>
    obtain ⟨i, hi', rfl, hti, hbv⟩ := hrel
    obtain ⟨wi, rfl⟩ : ∃ wo : World, wo = wr := ⟨_, rfl⟩
    replace hti := hide hti
    by_cases hlt2 : i < n
    · obtain ⟨g', og', px, py, pz, rfl, _, hp, _, _, g0, g1, g2⟩ := lst_pt ((unhide hl).under hbv) hlt2
      have hc := far1_any px py pz wi
      replace hp := hide hp
      cases hf : farP (px, py, pz) with
      | true =>
        rw [hf] at hc
        have hfin := hide (any_take_far (unhide hp) hf)
        replace hc := hide hc; replace hf := hide hf
        replace hbv := hide hbv
        go_wp2_with fail
        refine (unhide hc).mono ?_
        rintro e w1 ⟨rfl, hb⟩
        have hbz := hide ((unhide hbv).trans (hb.mono (unhide hbv).size))
        clear hc hbv hb g0 g1 g2
        go_wp2_with fail
        go_ret
        exact ⟨⟨_, rfl, by rw [unhide hfin]; simp⟩, unhide hbz⟩
      | false =>
        rw [hf] at hc
        have hfin := hide (any_take_next (unhide hp) hf (unhide hti))
        replace hc := hide hc; replace hf := hide hf
        replace hbv := hide hbv
        go_wp2_with fail
        refine (unhide hc).mono ?_
        rintro e w1 ⟨rfl, hb⟩
        have hbz := hide ((unhide hbv).trans (hb.mono (unhide hbv).size))
        clear hc hbv hb g0 g1 g2
        go_wp2_with fail
        go_roundw
        case rel => exact ⟨i + 1, by omega, by go_num, unhide hfin, unhide hbz⟩
        case measure => simp [intOf]; omega
    · have hfin : l.any farP = false := by have := unhide hti; rwa [List.take_of_length_le (by have := unhide h1; omega)] at this
      replace hfin := hide hfin; replace hbv := hide hbv
      clear hti hl
      go_wp2_with fail
      go_ret
      exact ⟨⟨-1, rfl, by rw [unhide hfin]; simp⟩, unhide hbv⟩
set_option maxHeartbeats 1000000 in
theorem hasfar_any (a : Option Addr) (n c : Nat) (l : List Pt) (w : World) (hl : Lst Enc.pt w (· < w.heap.size) a n l) (hn : n ≤ 1000000000000) :
    Calls Try.prog 37 #[.slice a n c, .func (.func 38) #[] #[]] w fun e w' => e = .returned (.bool (l.any farP)) ∧ Below w.heap.size w w' := by
  have hc := findfar_any a n c l w hl hn
  replace hc := hide hc
  clear hl
  go_enter Try.func37, Try.ntmps37
  go_wp2_with fail
  refine (unhide hc).mono ?_
  rintro e w1 ⟨⟨i, rfl, hi⟩, hb⟩
  replace hb := hide hb
  clear hc
  by_cases h0 : 0 ≤ i
  · have hfin : l.any farP = true := by rw [← hi]; exact h0
    replace hfin := hide hfin
    clear hi
    go_wp2_with fail
    go_ret
    exact ⟨ret_bool (unhide hfin).symm, unhide hb⟩
  · have hfin : l.any farP = false := by
      cases h : l.any farP with
      | false => rfl
      | true => rw [h] at hi; exact absurd (by rw [hi]) h0
    replace hfin := hide hfin
    clear hi
    go_wp2_with fail
    go_ret
    exact ⟨ret_bool (by rw [unhide hfin]; exact decide_eq_false (by omega)), unhide hb⟩
end Go.Proofs.Ytbodidhggdggmaa
