/- The readers of wire: size, Text. -/
import Derived.Test.YtcliegeooooonaaWi8
namespace Go.Proofs.Ytcliegeooooonaa
open Go.RowKit

def szN (o : Option (Nat × List UInt8)) : Int := o.elim 0 (fun p => (p.1 : Int))
theorem int_bool {a b : Int} {x y : Bool} (h1 : a = b) (h2 : x = y) : Ending.returned (.tuple #[.int .i64 a, .bool x]) = Ending.returned (.tuple #[.int .i64 b, .bool y]) := by rw [h1, h2]
set_option maxRecDepth 100000 in
set_option maxHeartbeats 1000000 in
theorem rsize_any (b : Nat) (st : Option (List UInt8)) (w : World) (h : Rd w b st) (hst : (st.getD []).length ≤ 1000000000000) :
    Calls Try.prog 52 #[.pointer (some ⟨b, 0, none⟩)] w fun e w' => e = .returned (.tuple #[.int .i64 (szN (Wi.rSize st)), .bool (Wi.rSize st).isSome]) ∧ Rd w' b ((Wi.rSize st).map (·.2)) ∧ w.grownBy w' (some b) := by
  have hi := rint2_any b st w h hst
  obtain ⟨n, hn⟩ : ∃ n, (Wi.rInt st).1 = n := ⟨_, rfl⟩
  obtain ⟨st1, hst1⟩ : ∃ s, (Wi.rInt st).2 = s := ⟨_, rfl⟩
  have hp : Wi.rInt st = (n, st1) := by rw [← hn, ← hst1]
  rw [hn, hst1] at hi
  clear hn hst1
  replace hi := hide hi
  have bad : Wi.rSize st = none → ∀ w1 w2, Rd w2 b none → w.grownBy w1 (some b) → w1.grownBy w2 (some b) → Ending.returned (.tuple #[.int .i64 0, .bool false]) = Ending.returned (.tuple #[.int .i64 (szN (Wi.rSize st)), .bool (Wi.rSize st).isSome]) ∧ Rd w2 b ((Wi.rSize st).map (·.2)) ∧ w.grownBy w2 (some b) := by
    intro h0 w1 w2 h1 h2 h3
    rw [h0]
    exact ⟨rfl, h1, grown_trans h2 h3⟩
  cases st1 with
  | none =>
    have h0 : Wi.rSize st = none := by unfold Wi.rSize; rw [hp]
    replace bad := hide (bad h0)
    clear hp h0
    go_enter Try.func52, Try.ntmps52
    go_wp2_with fail
    refine (unhide hi).mono ?_
    rintro e w1 ⟨rfl, hr1, hg1⟩
    go_wp2_with fail
    refine (rbad_any b none _ hr1).mono ?_
    rintro e w2 ⟨rfl, rfl⟩
    go_wp2_with fail
    refine (rfail_any b none _ hr1).mono ?_
    rintro e w3 ⟨rfl, hr3, hg3⟩
    go_wp2_with fail
    go_ret2
    exact unhide bad _ _ hr3 hg1 hg3
  | some r =>
    by_cases hbad : n < 0 ∨ (r.length : Int) < n
    · have h0 : Wi.rSize st = none := by unfold Wi.rSize; rw [hp]; simp only []; rw [if_neg (by omega)]
      replace bad := hide (bad h0)
      clear hp h0
      have hs : decide (n < 0) = true ∨ (decide (n < 0) = false ∧ decide ((r.length : Int) < n) = true) := by
        by_cases h1 : n < 0
        · exact Or.inl (by simpa using h1)
        · exact Or.inr ⟨by simpa using h1, by simp; omega⟩
      replace hbad := hide hbad
      have hsz := ba_size r
      rcases hs with t1 | ⟨t1, t2⟩
      all_goals
        go_enter Try.func52, Try.ntmps52
        go_wp2_with fail
        refine (unhide hi).mono ?_
        rintro e w1 ⟨rfl, hr1, hg1⟩
        obtain ⟨c0, c1, _, _⟩ := hr1.cells
        simp only [Option.getD_some] at c0
        go_wp2_with fail
        refine (rbad_any b (some r) _ hr1).mono ?_
        rintro e w2 ⟨rfl, rfl⟩
        go_wp2_with fail
        refine (rfail_any b (some r) _ hr1).mono ?_
        rintro e w3 ⟨rfl, hr3, hg3⟩
        go_wp2_with fail
        go_ret2
        exact unhide bad _ _ hr3 hg1 hg3
    · have h0 : Wi.rSize st = some (n.toNat, r) := by unfold Wi.rSize; rw [hp]; simp only []; rw [if_pos (by omega)]
      have t1 : decide (n < 0) = false := by simp; omega
      have t2 : decide ((r.length : Int) < n) = false := by simp; omega
      have e1 : Hid (szN (Wi.rSize st) = n) := by show szN (Wi.rSize st) = n; rw [h0]; show ((n.toNat : Nat) : Int) = n; omega
      have e2 : Hid ((Wi.rSize st).isSome = true) := by show (Wi.rSize st).isSome = true; rw [h0]; rfl
      have e3 : Hid ((Wi.rSize st).map (·.2) = some r) := by show (Wi.rSize st).map (·.2) = some r; rw [h0]; rfl
      clear hp h0 bad
      replace hbad := hide hbad
      have hsz := ba_size r
      go_enter Try.func52, Try.ntmps52
      go_wp2_with fail
      refine (unhide hi).mono ?_
      rintro e w1 ⟨rfl, hr1, hg1⟩
      obtain ⟨c0, c1, _, _⟩ := hr1.cells
      simp only [Option.getD_some] at c0
      go_wp2_with fail
      refine (rbad_any b (some r) _ hr1).mono ?_
      rintro e w2 ⟨rfl, rfl⟩
      go_wp2_with fail
      go_ret2
      exact ⟨int_bool e1.out.symm e2.out.symm, by rw [e3.out]; exact hr1, hg1⟩
set_option maxRecDepth 100000 in
set_option maxHeartbeats 1000000 in
theorem rtextm_any (b : Nat) (st : Option (List UInt8)) (w : World) (h : Rd w b st) (hst : (st.getD []).length ≤ 1000000000000) :
    Calls Try.prog 43 #[.pointer (some ⟨b, 0, none⟩)] w fun e w' => e = .returned (.string ⟨(Wi.rText st).1.toArray⟩) ∧ Rd w' b (Wi.rText st).2 ∧ w.grownBy w' (some b) := by
  have hs := rsize_any b st w h hst
  cases hz : Wi.rSize st with
  | none =>
    rw [hz] at hs
    have e1 : Hid ((Wi.rText st).1 = []) := by show (Wi.rText st).1 = []; unfold Wi.rText; rw [hz]
    have e2 : Hid ((Wi.rText st).2 = none) := by show (Wi.rText st).2 = none; unfold Wi.rText; rw [hz]
    clear hz
    replace hs := hide hs
    go_enter Try.func43, Try.ntmps43
    go_wp2_with fail
    refine (unhide hs).mono ?_
    rintro e w1 ⟨rfl, hr1, hg1⟩
    go_wp2_with fail
    go_ret
    exact ⟨by rw [e1.out]; rfl, by rw [e2.out]; exact hr1, hg1⟩
  | some p =>
    obtain ⟨n, r⟩ := p
    rw [hz] at hs
    have hle : n ≤ r.length := by
      unfold Wi.rSize at hz
      split at hz
      · split at hz
        · injection hz with hz; injection hz with h1 h2; subst h1; subst h2; omega
        · cases hz
      · cases hz
    have e1 : Hid ((Wi.rText st).1 = r.take n) := by show (Wi.rText st).1 = r.take n; unfold Wi.rText; rw [hz]
    have e2 : Hid ((Wi.rText st).2 = some (r.drop n)) := by show (Wi.rText st).2 = some (r.drop n); unfold Wi.rText; rw [hz]
    clear hz
    replace hs := hide hs
    have hsz := ba_size r
    have hd := ba_drop r n
    have ht := ba_take r n
    go_enter Try.func43, Try.ntmps43
    go_wp2_with fail
    refine (unhide hs).mono ?_
    rintro e w1 ⟨rfl, hr1, hg1⟩
    have hr1' : Rd w1 b (some r) := hr1
    clear hr1
    obtain ⟨c0, c1, f0, f1⟩ := hr1'.cells
    simp only [Option.getD_some] at c0
    have hr : Rd (w1.setCell ⟨b, 0, none⟩ (.string ⟨(r.drop n).toArray⟩)) b (some (r.drop n)) := by
      unfold Rd at hr1' ⊢
      simp [World.setCell, Array.getElem?_modify, hr1']
    replace hr := hide hr
    simp only [szN, Option.elim_some, Option.isSome_some]
    go_wp2_with fail
    go_ret
    exact ⟨by rw [e1.out]; rfl, by rw [e2.out]; exact unhide hr, grown_trans hg1 (grown_set _ _ _)⟩
end Go.Proofs.Ytcliegeooooonaa
