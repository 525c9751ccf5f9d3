/- decodes and malformed, of the laws of wire. -/
import Derived.Test.YtidbjccfkembeaaWi11
namespace Go.Proofs.Ytidbjccfkembeaa
open Go.RowKit

/-- what a call by its number does: whether it returns the zero value -/
def dcd (k : Int) (st : Option (List UInt8)) : Bool × Option (List UInt8) :=
  if k = 0 then ((Wi.rInt st).1 == 0, (Wi.rInt st).2)
  else if k = 1 then ((Wi.rText st).1.isEmpty, (Wi.rText st).2)
  else if k = 2 then ((Wi.rList Wi.rInt st).1.isEmpty, (Wi.rList Wi.rInt st).2)
  else ((Wi.rList Wi.rText st).1.isEmpty, (Wi.rList Wi.rText st).2)
theorem len_zero {α : Type} (l : List α) : ((l.length : Int) == 0) = l.isEmpty := by
  cases l with
  | nil => rfl
  | cons x l => simp; omega
set_option maxHeartbeats 1000000 in
theorem decodes_any (k : Int) (b : Nat) (st : Option (List UInt8)) (w : World) (hk : 0 ≤ k ∧ k ≤ 3) (h : Rd w b st) (hst : (st.getD []).length ≤ 1000000000000) :
    Calls Try.prog 38 #[.pointer (some ⟨b, 0, none⟩), .int .i64 k] w fun e w' => e = .returned (.bool (dcd k st).1) ∧ Rd w' b (dcd k st).2 ∧ w.grownBy w' (some b) := by
  obtain rfl | rfl | rfl | rfl : k = 0 ∨ k = 1 ∨ k = 2 ∨ k = 3 := by omega
  · go_enter Try.func38, Try.ntmps38
    go_wp2_with fail
    refine (rint2_any b st w h hst).mono ?_
    rintro e w1 ⟨rfl, h1, h2⟩
    go_wp2_with fail
    go_ret
    exact ⟨rfl, h1, h2⟩
  · go_enter Try.func38, Try.ntmps38
    go_wp2_with fail
    refine (rtextm_any b st w h hst).mono ?_
    rintro e w1 ⟨rfl, h1, h2⟩
    go_wp2_with fail
    go_ret
    exact ⟨rfl, h1, h2⟩
  · go_enter Try.func38, Try.ntmps38
    go_wp2_with fail
    refine (rintsm_any b st w h hst).mono ?_
    rintro e w1 ⟨v, rfl, hv, h1, h2⟩
    obtain ⟨a, c, rfl⟩ := own_shape hv
    have hz := len_zero (Wi.rList Wi.rInt st).1
    clear hv
    go_wp2_with fail
    go_ret
    exact ⟨rfl, h1, h2⟩
  · go_enter Try.func38, Try.ntmps38
    go_wp2_with fail
    refine (rtextsm_any b st w h hst).mono ?_
    rintro e w1 ⟨v, rfl, hv, h1, h2⟩
    obtain ⟨a, c, rfl⟩ := own_shape hv
    have hz := len_zero (Wi.rList Wi.rText st).1
    clear hv
    go_wp2_with fail
    go_ret
    exact ⟨rfl, h1, h2⟩
set_option maxHeartbeats 1000000 in
theorem malformed_any (s : List UInt8) (w : World) (hd : ∀ k : Int, 0 ≤ k → k ≤ 3 → dcd k (some s) = (true, none)) (hs : s.length ≤ 1000000000000) :
    Calls Try.prog 40 #[.string ⟨s.toArray⟩] w fun e w' => e = .returned (.bool true) ∧ Below w.heap.size w w' := by
  obtain ⟨W0, hW0⟩ : ∃ W0, w.heap.size = W0 := ⟨_, rfl⟩
  rw [hW0]
  have hle : W0 ≤ w.heap.size := by omega
  clear hW0
  replace hd := hide hd
  go_enter Try.func40, Try.ntmps40
  go_wp2_with fail
  go_loopw [3] (fun v wr => ∃ j : Int, 0 ≤ j ∧ j ≤ 4 ∧ v = .int .i64 j ∧ Below W0 w wr) (fun v _ => (4 - intOf v).toNat)
  case atStart => exact ⟨0, by omega, by omega, rfl, Below.refl _ _⟩
  case round =>
    obtain ⟨j, hj0, hj4, rfl, hb⟩ := hrel
    by_cases hlt : j < 4
    · have hdj := unhide hd j hj0 (by omega)
      go_wp2_with fail
      refine (rnew_any s _).mono ?_
      rintro e w1 ⟨rfl, hw1⟩
      have hr1 : Rd w1 wr.heap.size (some s) := by rw [hw1]; exact rnew_rd s wr
      have hb1 : Below W0 w w1 := by rw [hw1]; exact hb.alloc (Nat.le_trans hle hb.size) _
      have hbs : W0 ≤ wr.heap.size := Nat.le_trans hle hb.size
      obtain ⟨bs, hbe⟩ : ∃ bs, wr.heap.size = bs := ⟨_, rfl⟩
      rw [hbe] at hr1 hbs ⊢
      clear hw1 hbe hb
      have hc := fun w => decodes_any j bs (some s) w ⟨hj0, by omega⟩
      rw [hdj] at hc
      clear hdj
      replace hc := hide hc
      go_wp2_with fail
      refine (unhide hc _ hr1 hs).mono ?_
      rintro e w2 ⟨rfl, hr2, hg2⟩
      have hr2' : Rd w2 bs none := hr2
      have hb2 := hb1.grown hg2 (Nat.le_trans hle hb1.size) (fun k hk => by cases hk; exact hbs)
      clear hr1 hr2 hg2 hb1
      go_wp2_with fail
      refine (rbad_any bs none _ hr2').mono ?_
      rintro e w3 ⟨rfl, rfl⟩
      go_wp2_with fail
      refine (rleft_any bs none _ hr2').mono ?_
      rintro e w3 ⟨rfl, rfl⟩
      simp only [Option.getD_none, List.length_nil]
      go_wp2_with fail
      go_roundw
      case rel => exact ⟨j + 1, by omega, by omega, rfl, hb2⟩
      case measure => simp [intOf]; omega
    · have t1 : decide (j < 4) = false := by simp; omega
      go_wp2_with fail
      go_ret
      exact ⟨rfl, hb⟩
end Go.Proofs.Ytidbjccfkembeaa
