/- The reference's number. -/
import Derived.Test.YtcliegeooooonaaWi6
namespace Go.Proofs.Ytcliegeooooonaa
open Go.RowKit

theorem three_vals {a b c d : Int} {x y : Bool} (h1 : a = c) (h2 : b = d) (h3 : x = y) : Ending.returned (.tuple #[.int .i64 a, .int .i64 b, .bool x]) = Ending.returned (.tuple #[.int .i64 c, .int .i64 d, .bool y]) := by rw [h1, h2, h3]
set_option maxRecDepth 100000 in
set_option maxHeartbeats 4000000 in
theorem num_any (s : ByteArray) (p : Nat) (w : World) (hs : s.size ≤ 1000000000000) (hp : p ≤ s.size) :
    Calls Try.prog 57 #[.string s, .int .i64 (p : Int)] w fun e w' => e = .returned (.tuple #[.int .i64 (Wi.decN (s.data.toList.drop p)), .int .i64 ((p : Int) + (Wi.decU (s.data.toList.drop p) : Int)), .bool (Wi.dec (s.data.toList.drop p)).isSome]) ∧ w' = w := by
  obtain ⟨L, hL⟩ : ∃ L, L = s.data.toList.drop p := ⟨_, rfl⟩
  have hLs : L.length = s.size - p := by rw [hL, List.length_drop, Array.length_toList]; rfl
  rw [← hL]
  have hget : ∀ k (h : p + k < s.size), L[k]? = some s[p + k] := fun k h => by rw [hL, List.getElem?_drop, Array.getElem?_toList]; exact Array.getElem?_eq_getElem h
  replace hget := hide hget
  replace hL := hide hL
  go_enter Try.func57, Try.ntmps57
  go_wp2_with fail
  go_loop [7, 8] (fun v4 v9 => ∃ (k : Nat) (code : Nat), v4 = .int .u64 (code : Int) ∧ v9 = .int .i64 (k : Int) ∧ k ≤ 10 ∧ p + k ≤ s.size ∧ code < 18446744073709551616 ∧ (k ≤ 9 → code < 128 ^ k ∧ Wi.decF (10 - k) k code (L.drop k) = Wi.dec L) ∧ (k = 10 → Wi.dec L = none)) (fun _ v => (10 - intOf v).toNat)
  case atStart => exact ⟨0, 0, rfl, rfl, by omega, by omega, by omega, fun _ => ⟨by omega, rfl⟩, fun h => by omega⟩
  case round =>
    obtain ⟨k, code, rfl, rfl, hk, hk2, hc, hin, hten⟩ := hrel
    by_cases hlt : k < 10 ∧ p + k < s.size
    · have h1 : k < 10 := hlt.1
      have h2 : p + k < s.size := hlt.2
      obtain ⟨hcode, hdec⟩ := hin (by omega)
      have hx := unhide hget k h2
      have hbl := s[p + k].toNat_lt
      obtain ⟨C, hC, hor, hval⟩ := or_any code s[p + k].toNat k hc hbl
      have hnot := hide (show bits .xor .i64 (-1) ((C : Int) / 2) = -((C : Int) / 2) - 1 by have := not_i64 (C / 2) (by omega); rwa [show ((C / 2 : Nat) : Int) = (C : Int) / 2 by omega] at this)
      have hone := hide (and_one C hC)
      have t0 : decide ((k : Int) < 10) = true := by simp; omega
      have t00 : decide ((p : Int) + (k : Int) < (s.size : Int)) = true := by simp; omega
      have e10 : 10 - k = (9 - k) + 1 := by omega
      rw [e10] at hdec
      clear e10 hlt hin hten
      replace hdec := hide hdec
      replace hval := hide hval
      replace hcode := hide hcode
      replace hc := hide hc
      replace hx := hide hx
      by_cases hb : 128 ≤ s[p + k].toNat
      · have t1 : decide ((s[p + k].toNat : Int) < 128) = false := by simp; omega
        replace hb := hide hb
        clear hone hnot
        go_wp2_with fail
        go_round
        case rel =>
          refine ⟨k + 1, C, rfl, by go_num, by omega, by omega, hC, fun h9 => ?_, fun h10 => ?_⟩
          · have hv := unhide hval (unhide hcode) (Or.inl (by omega))
            have := unhide hdec
            rw [Wi.decF_more (unhide hx) (unhide hb), ← hv] at this
            refine ⟨?_, by rw [show 10 - (k + 1) = 9 - k by omega]; exact this⟩
            have h3 := unhide hcode
            rw [hv, Nat.pow_succ]
            have h4 : s[p + k].toNat % 128 * 128 ^ k ≤ 127 * 128 ^ k := Nat.mul_le_mul (by omega) (Nat.le_refl _)
            omega
          · have := unhide hdec
            rw [Wi.decF_more (unhide hx) (unhide hb)] at this
            obtain rfl : k = 9 := by omega
            rw [← this]
            rfl
        case measure => simp [intOf]; omega
      · have t1 : decide ((s[p + k].toNat : Int) < 128) = true := by simp; omega
        by_cases hbad : (0 < k ∧ s[p + k].toNat = 0) ∨ (k = 9 ∧ 1 < s[p + k].toNat)
        · have hnone := unhide hdec
          rw [Wi.decF_bad (unhide hx) hb hbad] at hnone
          have hr1 : Wi.decN L = 0 := by unfold Wi.decN; rw [← hnone]; rfl
          have hr2 : (Wi.decU L : Int) = 0 := by unfold Wi.decU; rw [← hnone]; rfl
          have hr3 : (Wi.dec L).isSome = false := by rw [← hnone]; rfl
          replace hr3 := hide hr3
          replace hr1 := hide hr1
          replace hr2 := hide hr2
          clear hnone hone hnot
          rcases hbad with ⟨k0, b0⟩ | ⟨k9, b9⟩
          · have t2 : decide (0 < k) = true := by simp; omega
            have t3 : ((s[p + k].toNat : Int) == 0) = true := by simp; omega
            have t4 : (s[p + k].toNat == 0) = true := by simp; omega
            replace b0 := hide b0
            go_wp2_with fail
            go_ret3
            exact ⟨three_vals hr1.out.symm (by rw [hr2.out]; omega) hr3.out.symm, rfl⟩
          · have t2 : decide (0 < k) = true := by simp; omega
            have t3 : ((s[p + k].toNat : Int) == 0) = false := by simp; omega
            have t5 : ((k : Int) == 9) = true := by simp; omega
            have t6 : decide (1 < (s[p + k].toNat : Int)) = true := by simp; omega
            replace k9 := hide k9
            go_wp2_with fail
            go_ret3
            exact ⟨three_vals hr1.out.symm (by rw [hr2.out]; omega) hr3.out.symm, rfl⟩
        · have hsome := unhide hdec
          rw [Wi.decF_good (unhide hx) hb hbad] at hsome
          have hv := unhide hval (unhide hcode) (by omega)
          rw [← hv] at hsome
          have hr1 : Wi.decN L = Wi.unzig C := by unfold Wi.decN; rw [← hsome]; rfl
          have hr2 : (Wi.decU L : Int) = (k : Int) + 1 := by unfold Wi.decU; rw [← hsome]; simp
          have hr3 : (Wi.dec L).isSome = true := by rw [← hsome]; rfl
          replace hr3 := hide hr3
          replace hr1 := hide hr1
          replace hr2 := hide hr2
          clear hsome hv hval hdec hcode hx
          have s1 : decide (0 < k) = false ∨ (decide (0 < k) = true ∧ ((s[p + k].toNat : Int) == 0) = false) := by
            by_cases hk0 : 0 < k
            · exact Or.inr ⟨by simpa using hk0, by simp; omega⟩
            · exact Or.inl (by simpa using hk0)
          have s2 : ((k : Int) == 9) = false ∨ (((k : Int) == 9) = true ∧ decide (1 < (s[p + k].toNat : Int)) = false) := by
            by_cases hk9 : k = 9
            · exact Or.inr ⟨by simp; omega, by simp; omega⟩
            · exact Or.inl (by simp; omega)
          replace hbad := hide hbad
          by_cases hodd : C % 2 = 1
          · have h1' := hone.out.trans (show ((C % 2 : Nat) : Int) = 1 by omega)
            have hnot' := hnot.out
            replace hodd := hide hodd
            clear hone hnot
            rcases s1 with s1 | ⟨s1, s1b⟩ <;> rcases s2 with s2 | ⟨s2, s2b⟩
            all_goals
              go_wp2_with fail
              go_ret3
              exact ⟨three_vals (by rw [hr1.out]; unfold Wi.unzig; rw [if_pos hodd.out]; omega) (by rw [hr2.out]; omega) hr3.out.symm, rfl⟩
          · have h1' := hone.out.trans (show ((C % 2 : Nat) : Int) = 0 by omega)
            replace hodd := hide hodd
            clear hone hnot
            rcases s1 with s1 | ⟨s1, s1b⟩ <;> rcases s2 with s2 | ⟨s2, s2b⟩
            all_goals
              go_wp2_with fail
              go_ret3
              exact ⟨three_vals (by rw [hr1.out]; unfold Wi.unzig; rw [if_neg hodd.out]; omega) (by rw [hr2.out]; omega) hr3.out.symm, rfl⟩
    · have hnone : Wi.dec L = none := by
        by_cases h10 : k = 10
        · exact hten h10
        · obtain ⟨_, hd⟩ := hin (by omega)
          rw [← hd, List.drop_eq_nil_of_le (by omega), Wi.decF_nil]
      have hr1 : Wi.decN L = 0 := by unfold Wi.decN; rw [hnone]; rfl
      have hr2 : (Wi.decU L : Int) = 0 := by unfold Wi.decU; rw [hnone]; rfl
      have hr3 : (Wi.dec L).isSome = false := by rw [hnone]; rfl
      replace hr3 := hide hr3
      replace hr1 := hide hr1
      replace hr2 := hide hr2
      clear hnone hin hten hLs
      have t0 : decide ((k : Int) < 10) = false ∨ (decide ((k : Int) < 10) = true ∧ decide ((p : Int) + (k : Int) < (s.size : Int)) = false) := by
        by_cases h10 : k < 10
        · exact Or.inr ⟨by simp; omega, by simp; omega⟩
        · exact Or.inl (by simp; omega)
      rcases t0 with t0 | ⟨t0, t1⟩
      all_goals
        go_wp2_with fail
        go_ret3
        exact ⟨three_vals hr1.out.symm (by rw [hr2.out]; omega) hr3.out.symm, rfl⟩
end Go.Proofs.Ytcliegeooooonaa
