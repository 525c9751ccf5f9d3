/- The program's Check. -/
import Derived.Test.YtbodidhggdggmaaOl4
import Derived.Test.YtbodidhggdggmaaOl6
namespace Go.Proofs.Ytbodidhggdggmaa
open Go.RowKit
set_option maxHeartbeats 4000000 in
theorem checkO_any (a : Option Addr) (n c : Nat) (o : Ot) (w : World) (hl : Lst Enc.ct w (· < w.heap.size) a n o) (hs : Sml o) :
    Calls Try.prog 13 #[.slice a n c] w fun e w' => e = .returned (.int .i64 (checkO o)) ∧ Below w.heap.size w w' := by
  have h1 := hl.1
  have hn : n ≤ 1000 := by have := hs.1; omega
  by_cases h8 : 8 < n
  · have hfin := hide (checkO_many (o := o) (.inl (by omega)))
    have t4 : (8 : Int) < (n : Int) := by omega
    clear h8 h1 hl
    go_enter Try.func13, Try.ntmps13
    go_wp2_with fail
    go_ret
    exact ⟨ret_int (unhide hfin).symm, Below.refl _ _⟩
  have t4 : ¬ (8 : Int) < (n : Int) := by omega
  have hc := count_any a n c o w hl hs
  by_cases h64 : 64 < countS o
  · have hfin := hide (checkO_many (.inr h64))
    replace hc := hide hc; replace hl := hide hl; replace h1 := hide h1
    go_enter Try.func13, Try.ntmps13
    go_wp2_with fail
    refine (unhide hc).mono ?_
    rintro e w1 ⟨rfl, hb⟩
    replace hb := hide hb
    clear hc
    go_wp2_with fail
    go_ret
    exact ⟨ret_int (unhide hfin).symm, unhide hb⟩
  have hno := hide (show ¬ (8 < o.length ∨ 64 < countS o) by omega)
  replace hc := hide hc; replace hl := hide hl; replace h1 := hide h1; replace hs := hide hs
  go_enter Try.func13, Try.ntmps13
  go_wp2_with fail
  refine (unhide hc).mono ?_
  rintro e w1 ⟨rfl, hb0⟩
  replace hb0 := hide hb0
  clear hc
  go_wp2_with fail
  clear t4 h64 h8
  obtain ⟨wz, rfl⟩ : ∃ wo : World, wo = w1 := ⟨_, rfl⟩
  go_loopw [15] (fun v wr => ∃ k : Nat, k ≤ n ∧ v = .int .i64 (k : Int) ∧ (∀ (i : Nat) (d : List Pt), i < k → o[i]? = some d → ctErr d = 0) ∧ Below w.heap.size w wr) (fun v _ => (n - intOf v).toNat)
  case atStart => exact ⟨0, by omega, rfl, fun i d hi => by omega, unhide hb0⟩
  case round =>
    obtain ⟨k, hk, rfl, h0, hbw⟩ := hrel
    obtain ⟨wo, rfl⟩ : ∃ wo : World, wo = wr := ⟨_, rfl⟩
    replace h0 := hide h0
    by_cases hlt : k < n
    · obtain ⟨b, off, x, ax, nx, cx, rfl, hb, hx, hnc, hcm, hlx, hc⟩ := lst_list ((unhide hl).under hbw) hlt
      have mx : nx ≤ 1000 := by have := (unhide hs).ct hx; have := hlx.1; omega
      have x1 := hlx.1
      have t1 : (k : Int) < (n : Int) := by omega
      replace hx := hide hx; replace x1 := hide x1
      clear hb hnc hcm
      by_cases h3 : nx < 3
      · have t3 : (nx : Int) < 3 := by omega
        have hfin := hide (checkO_bad (unhide hno) (unhide hx) (unhide h0) (ctErr_short (.inl (by rw [unhide x1]; exact h3))) (by decide))
        replace hbw := hide hbw
        clear hlx h3
        go_wp2_with fail
        go_ret
        exact ⟨ret_int (unhide hfin).symm, unhide hbw⟩
      have t3 : ¬ (nx : Int) < 3 := by omega
      have hcf := hasfar_any ax nx cx x wo hlx (by omega)
      obtain ⟨g, og, px, py, pz, rfl, hg, hp, _, _, g0, g1, g2⟩ := lst_pt hlx (show 0 < nx by omega)
      have hon := onAt_some hp
      simp only [Nat.zero_mul, Nat.add_zero] at g0 g1 g2
      clear g0 g1 hp hlx
      replace hcf := hide hcf
      cases pz with
      | false =>
        have hfin := hide (checkO_bad (unhide hno) (unhide hx) (unhide h0) (ctErr_short (.inr hon)) (by decide))
        replace hbw := hide hbw
        clear h3 hon
        go_wp2_with fail
        go_ret
        exact ⟨ret_int (unhide hfin).symm, unhide hbw⟩
      | true =>
        have hok := hide (show ¬ (x.length < 3 ∨ onAt x 0 = false) by rw [unhide x1, hon]; simp; omega)
        clear hon
        replace hbw := hide hbw
        go_wp2_with fail
        refine (unhide hcf).mono ?_
        rintro e w1 ⟨rfl, hb⟩
        have hbz := hide ((unhide hbw).trans (hb.mono (unhide hbw).size))
        clear hcf hb hc hl g2 hb0
        cases hf : x.any farP with
        | true =>
          have hfin := hide (checkO_bad (unhide hno) (unhide hx) (unhide h0) (ctErr_far (unhide hok) hf) (by decide))
          replace hf := hide hf
          go_wp2_with fail
          go_ret
          exact ⟨ret_int (unhide hfin).symm, unhide hbz⟩
        | false =>
          have hnx := hide (errs_next (unhide hx) (unhide h0) (ctErr_ok (unhide hok) hf))
          replace hf := hide hf
          go_wp2_with fail
          go_roundw
          case rel => exact ⟨k + 1, by omega, by go_num, unhide hnx, unhide hbz⟩
          case measure => simp [intOf]; omega
    · have hfin := hide (checkO_good (unhide hno) (fun i d hd => unhide h0 i d (by have := (List.getElem?_eq_some_iff.1 hd).1; have := unhide h1; omega) hd))
      replace hbw := hide hbw
      clear hl h0
      go_wp2_with fail
      go_ret
      exact ⟨ret_int (unhide hfin).symm, unhide hbw⟩
end Go.Proofs.Ytbodidhggdggmaa
