/- The reference's reader: Text. -/
import Derived.Test.YtcliegeooooonaaWi26
namespace Go.Proofs.Ytcliegeooooonaa
open Go.RowKit
attribute [local go_sem ↓] Go.wp_at_zero Go.wp_at_succ

theorem size_parts {st : Option (List UInt8)} {n : Int} {r : List UInt8} (hp : Wi.rInt st = (n, some r)) : (Wi.rSize st = none ∧ (n < 0 ∨ (0 ≤ n ∧ (r.length : Int) < n))) ∨ ∃ N : Nat, n = (N : Int) ∧ N ≤ r.length ∧ Wi.rSize st = some (N, r) := by
  by_cases h : 0 ≤ n ∧ n ≤ (r.length : Int)
  · refine Or.inr ⟨n.toNat, by omega, by omega, ?_⟩
    unfold Wi.rSize
    rw [hp]
    simp only
    rw [if_pos h]
  · refine Or.inl ⟨?_, by omega⟩
    unfold Wi.rSize
    rw [hp]
    simp only
    rw [if_neg h]
theorem size_none {st : Option (List UInt8)} {n : Int} (hp : Wi.rInt st = (n, none)) : Wi.rSize st = none := by
  unfold Wi.rSize
  rw [hp]
theorem Rf.drew {w : World} {b : Nat} {S : ByteArray} {st : Option (List UInt8)} (h : Rf w b S st) : Rf w.drew b S st := h
theorem fbad_t {b : Nat} {S : ByteArray} {w : World} (h : Rf w b S none) (n : Nat) :
    Calls Try.prog 37 #[.pointer (some ⟨b, 0, none⟩)] (w.drewN n) fun e w' => e = .returned (.bool true) ∧ ∃ m, w' = w.drewN m := Calls.quiet_of_same (fbad_any b S none _ (h.drewN n))
theorem fbad_f {b : Nat} {S : ByteArray} {r : List UInt8} {w : World} (h : Rf w b S (some r)) (n : Nat) :
    Calls Try.prog 37 #[.pointer (some ⟨b, 0, none⟩)] (w.drewN n) fun e w' => e = .returned (.bool false) ∧ ∃ m, w' = w.drewN m := Calls.quiet_of_same (fbad_any b S (some r) _ (h.drewN n))
set_option maxRecDepth 100000 in
set_option maxHeartbeats 2000000 in
theorem ftext_any (b : Nat) (S : ByteArray) (st : Option (List UInt8)) (w : World) (h : Rf w b S st) (hs : S.size ≤ 1000000000000) :
    Calls Try.prog 36 #[.pointer (some ⟨b, 0, none⟩)] w fun e w' => e = .returned (.string ⟨(Wi.rText st).1.toArray⟩) ∧ Rf w' b S (Wi.rText st).2 ∧ w.grownBy w' (some b) := by
  have hi := fint_any b S st w h hs
  obtain ⟨n, hn⟩ : ∃ n, (Wi.rInt st).1 = n := ⟨_, rfl⟩
  obtain ⟨st1, hst1⟩ : ∃ s, (Wi.rInt st).2 = s := ⟨_, rfl⟩
  have hp : Wi.rInt st = (n, st1) := by rw [← hn, ← hst1]
  rw [hn, hst1] at hi
  clear hn hst1
  replace hi := hide hi
  have bad : Wi.rSize st = none → Hid ((Wi.rText st).1 = []) ∧ Hid ((Wi.rText st).2 = none) := fun h0 => ⟨hide (by unfold Wi.rText; rw [h0]), hide (by unfold Wi.rText; rw [h0])⟩
  cases st1 with
  | none =>
    obtain ⟨e1, e2⟩ := bad (size_none hp)
    clear bad hp
    go_enter Try.func36, Try.ntmps36
    go_wp2_with fail
    refine (unhide hi).mono ?_
    rintro e w1 ⟨rfl, hr1, hg1⟩
    go_wp2_with fail
    go_quiet ((go_at_call 37; with_reducible exact fbad_t hr1 _))
    go_wp2_with fail
    refine (ffail_any b S _ _ (hr1.drewN nq)).mono ?_
    rintro e w3 ⟨rfl, hr3, hg3⟩
    go_wp2_with fail
    go_ret
    exact ⟨by rw [e1.out]; rfl, by rw [e2.out]; exact hr3, grown_trans hg1 (grown_trans (grown_drewN _ _) hg3)⟩
  | some r =>
    rcases size_parts hp with ⟨h0, hcmp⟩ | ⟨N, rfl, hN, h0⟩
    · obtain ⟨e1, e2⟩ := bad h0
      clear bad hp h0
      have hs' : decide (n < 0) = true ∨ (decide (n < 0) = false ∧ decide ((r.length : Int) < n) = true) := by
        rcases hcmp with h1 | ⟨h1, h2⟩
        · exact Or.inl (by simpa using h1)
        · exact Or.inr ⟨by simp; omega, by simpa using h2⟩
      replace hcmp := hide hcmp
      rcases hs' with t1 | ⟨t1, t2⟩
      · go_enter Try.func36, Try.ntmps36
        go_wp2_with fail
        refine (unhide hi).mono ?_
        rintro e w1 ⟨rfl, hr1, hg1⟩
        have hrf := hr1
        obtain ⟨p, hp, hh, h2⟩ := hr1
        obtain ⟨c0, c1, c2, f1, f2⟩ := rf_cells hh
        have hlen : (S.size : Int) - (p : Int) = (r.length : Int) := by rw [h2 r rfl, List.length_drop, data_len]; omega
        have hw : IntKind.i64.wrap (r.length : Int) = (r.length : Int) := IntWalk.i64_in _ (by omega)
        clear h2 hh
        replace hrf := hide hrf
        go_wp2_with fail
        go_quiet ((go_at_call 37; with_reducible exact fbad_f (unhide hrf) _))
        go_wp2_with fail
        refine (ffail_any b S _ _ ((unhide hrf).drewN nq)).mono ?_
        rintro e w3 ⟨rfl, hr3, hg3⟩
        go_wp2_with fail
        go_ret
        exact ⟨by rw [e1.out]; rfl, by rw [e2.out]; exact hr3, grown_trans hg1 (grown_trans (grown_drewN _ _) hg3)⟩
      · go_enter Try.func36, Try.ntmps36
        go_wp2_with fail
        refine (unhide hi).mono ?_
        rintro e w1 ⟨rfl, hr1, hg1⟩
        have hrf := hr1
        obtain ⟨p, hp, hh, h2⟩ := hr1
        obtain ⟨c0, c1, c2, f1, f2⟩ := rf_cells hh
        have hlen : (S.size : Int) - (p : Int) = (r.length : Int) := by rw [h2 r rfl, List.length_drop, data_len]; omega
        have hw : IntKind.i64.wrap (r.length : Int) = (r.length : Int) := IntWalk.i64_in _ (by omega)
        clear h2 hh
        replace hrf := hide hrf
        go_wp2_with fail
        go_quiet ((go_at_call 37; with_reducible exact fbad_f (unhide hrf) _))
        go_wp2_with fail
        refine (ffail_any b S _ _ ((unhide hrf).drewN nq)).mono ?_
        rintro e w3 ⟨rfl, hr3, hg3⟩
        go_wp2_with fail
        go_ret
        exact ⟨by rw [e1.out]; rfl, by rw [e2.out]; exact hr3, grown_trans hg1 (grown_trans (grown_drewN _ _) hg3)⟩
    · have e1 : Hid ((Wi.rText st).1 = r.take N) := hide (by unfold Wi.rText; rw [h0])
      have e2 : Hid ((Wi.rText st).2 = some (r.drop N)) := hide (by unfold Wi.rText; rw [h0])
      clear bad hp h0
      have t1 : decide ((N : Int) < 0) = false := by simp
      have t2 : decide (r.length < N) = false := by simp; omega
      go_enter Try.func36, Try.ntmps36
      go_wp2_with fail
      refine (unhide hi).mono ?_
      rintro e w1 ⟨rfl, hr1, hg1⟩
      have hrf := hr1
      obtain ⟨p, hp, hh, h2⟩ := hr1
      obtain ⟨c0, c1, c2, f1, f2⟩ := rf_cells hh
      have hrd := h2 r rfl
      have hlen : (S.size : Int) - (p : Int) = (r.length : Int) := by rw [hrd, List.length_drop, data_len]; omega
      have hlen2 : r.length = S.size - p := by omega
      have hw : IntKind.i64.wrap (r.length : Int) = (r.length : Int) := IntWalk.i64_in _ (by omega)
      have hw2 : IntKind.i64.wrap (p : Int) = (p : Int) := IntWalk.i64_in _ (by omega)
      have hsl := ba_mid S p N
      have hfin : ∀ m, Rf ((w1.drewN m).setCell ⟨b, 1, none⟩ (.int .i64 ((p : Int) + (N : Int)))) b S (some (r.drop N)) := by
        intro m
        refine ⟨p + N, by omega, ?_, fun r' h => by injection h with h; rw [← h, hrd, List.drop_drop]⟩
        simp [World.setCell, Array.getElem?_modify, hh]
      replace hfin := hide hfin
      replace hrd := hide hrd
      clear h2
      replace hh := hide hh
      replace hrf := hide hrf
      have b1 : (0 : Int) ≤ (p : Int) := by omega
      have b2 : (p : Int) ≤ (p : Int) + (N : Int) := by omega
      have b3 : (p : Int) + (N : Int) ≤ (S.size : Int) := by omega
      replace hlen2 := hide hlen2
      replace hsl := hide hsl
      go_wp2_with fail
      go_quiet ((go_at_call 37; with_reducible exact fbad_f (unhide hrf) _))
      go_wp2_with fail
      have d0 := (rf_cells (w := (w1.drewN nq).setCell ⟨b, 1, none⟩ (.int .i64 ((p : Int) + (N : Int)))) (b := b) (T := 79) (v0 := .string S) (v1 := .int .i64 ((p : Int) + (N : Int))) (v2 := .bool false) (by have := unhide hh; simp [World.setCell, Array.getElem?_modify, this]))
      have hfq := unhide hfin nq
      have hgq : w1.grownBy ((w1.drewN nq).setCell ⟨b, 1, none⟩ (.int .i64 ((p : Int) + (N : Int)))) (some b) := grown_trans (grown_drewN nq _) (grown_set _ _ _)
      obtain ⟨w2, hw2⟩ : ∃ w2, (w1.drewN nq).setCell ⟨b, 1, none⟩ (.int .i64 ((p : Int) + (N : Int))) = w2 := ⟨_, rfl⟩
      rw [hw2] at d0 hfq hgq ⊢
      obtain ⟨g0, g1, _, _, _⟩ := d0
      clear c0 c1 c2 f1 f2 hw2 hfin hlen hw
      go_quiet (fail)
      go_wp2_with fail
      go_ret
      exact ⟨ret_str (by rw [e1.out, unhide hsl, ← unhide hrd]), by rw [e2.out]; exact hfq.drewN nq, grown_trans hg1 (grown_trans hgq (grown_drewN _ _))⟩
end Go.Proofs.Ytcliegeooooonaa
