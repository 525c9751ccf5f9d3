/- wire.decode. -/
import Derived.Test.YtcliegeooooonaaWi3
import Derived.Test.YtcliegeooooonaaWiD
namespace Go.Proofs.Ytcliegeooooonaa
open Go.RowKit

theorem or_any (code b k : Nat) (hc : code < 18446744073709551616) (hb : b < 256) : ∃ C : Nat, C < 18446744073709551616 ∧ bits .or .u64 (code : Int) (IntKind.u64.wrap (IntKind.u64.wrap (bits .and .u8 (b : Int) 127) * 2 ^ (7 * k))) = (C : Int) ∧
    (code < 128 ^ k → (k ≤ 8 ∨ (k = 9 ∧ b % 128 ≤ 1)) → C = code + b % 128 * 128 ^ k) := by
  have ha : bits .and .u8 (b : Int) 127 = ((b % 128 : Nat) : Int) := by
    rw [show (127 : Int) = ((127 : Nat) : Int) from rfl, u8_and_nat _ _ hb (by omega), nat_mask7]
  have hw : IntKind.u64.wrap ((b % 128 : Nat) : Int) = ((b % 128 : Nat) : Int) := by simp only [IntKind.wrap_u64]; omega
  have hp : (2 : Int) ^ (7 * k) = ((2 ^ (7 * k) : Nat) : Int) := by simp
  have hy : b % 128 * 2 ^ (7 * k) % 18446744073709551616 < 18446744073709551616 := Nat.mod_lt _ (by omega)
  have hw2 : IntKind.u64.wrap (((b % 128 : Nat) : Int) * ((2 ^ (7 * k) : Nat) : Int)) = ((b % 128 * 2 ^ (7 * k) % 18446744073709551616 : Nat) : Int) := by
    simp only [IntKind.wrap_u64]
    rw [← Int.natCast_mul]
    omega
  rw [ha, hw, hp, hw2, u64_or_nat _ _ hc hy]
  refine ⟨_, Nat.or_lt_two_pow (n := 64) hc hy, rfl, fun h1 h2 => ?_⟩
  have e128 : (128 : Nat) ^ k = 2 ^ (7 * k) := by rw [Nat.pow_mul]
  rw [e128] at h1 ⊢
  have hsm : b % 128 * 2 ^ (7 * k) < 18446744073709551616 := by
    rcases h2 with h2 | ⟨rfl, h2⟩
    · have h3 : 2 ^ (7 * k) ≤ 2 ^ (7 * 8) := Nat.pow_le_pow_right (by omega) (by omega)
      have h4 : b % 128 * 2 ^ (7 * k) ≤ 127 * 2 ^ (7 * 8) := Nat.mul_le_mul (by omega) h3
      exact Nat.lt_of_le_of_lt h4 (by decide)
    · have h4 : b % 128 * 2 ^ (7 * 9) ≤ 1 * 2 ^ (7 * 9) := Nat.mul_le_mul h2 (Nat.le_refl _)
      exact Nat.lt_of_le_of_lt h4 (by decide)
  rw [Nat.mod_eq_of_lt hsm, Nat.or_comm, nat_join (7 * k) _ _ (by simp) h1, Nat.add_comm]
theorem and_one (c : Nat) (h : c < 18446744073709551616) : bits .and .u64 (c : Int) 1 = ((c % 2 : Nat) : Int) := by
  rw [show (1 : Int) = ((1 : Nat) : Int) from rfl, u64_and_nat _ _ h (by omega), nat_mask1]
theorem half_wrap (c : Nat) (h : c < 18446744073709551616) : wrap64 ((c : Int) / 2) = ((c / 2 : Nat) : Int) := by
  rw [IntWalk.wrap64_in _ (by omega)]; omega
theorem not_i64 (x : Nat) (h : x < 9223372036854775808) : bits .xor .i64 (-1) (x : Int) = -(x : Int) - 1 := by
  show IntKind.i64.wrap ((BitVec.ofInt 64 (-1) ^^^ BitVec.ofInt 64 (x : Int)).toNat : Int) = _
  have h1 : BitVec.ofInt 64 (-1) = BitVec.allOnes 64 := by decide
  have h2 : BitVec.ofInt 64 (x : Int) = BitVec.ofNat 64 x := by rw [BitVec.ofInt_natCast]
  rw [h1, h2, BitVec.allOnes_xor, BitVec.toNat_not, BitVec.toNat_ofNat, Nat.mod_eq_of_lt (by omega), IntKind.wrap_i64]
  omega
theorem two_ints {a b c d : Int} (h1 : a = c) (h2 : b = d) : Ending.returned (.tuple #[.int .i64 a, .int .i64 b]) = Ending.returned (.tuple #[.int .i64 c, .int .i64 d]) := by rw [h1, h2]

set_option maxRecDepth 100000 in
set_option maxHeartbeats 4000000 in
theorem dec_any (s : ByteArray) (w : World) (hs : s.size ≤ 1000000000000) :
    Calls Try.prog 63 #[.string s] w fun e w' => e = .returned (.tuple #[.int .i64 (Wi.decN s.data.toList), .int .i64 (Wi.decU s.data.toList : Int)]) ∧ w' = w := by
  obtain ⟨L, hL⟩ : ∃ L, L = s.data.toList := ⟨_, rfl⟩
  have hLs : L.length = s.size := by rw [hL, Array.length_toList]; rfl
  rw [← hL]
  have hget : ∀ k (h : k < s.size), L[k]? = some s[k] := fun k h => by rw [hL, Array.getElem?_toList]; exact Array.getElem?_eq_getElem h
  replace hget := hide hget
  replace hL := hide hL
  go_enter Try.func63, Try.ntmps63
  go_wp2_with fail
  go_loop [4, 9] (fun v4 v9 => ∃ (k : Nat) (code : Nat), v4 = .int .u64 (code : Int) ∧ v9 = .int .i64 (k : Int) ∧ k ≤ 10 ∧ k ≤ s.size ∧ code < 18446744073709551616 ∧ (k ≤ 9 → code < 128 ^ k ∧ Wi.decF (10 - k) k code (L.drop k) = Wi.dec L) ∧ (k = 10 → Wi.dec L = none)) (fun _ v => (10 - intOf v).toNat)
  case atStart => exact ⟨0, 0, rfl, rfl, by omega, by omega, by omega, fun _ => ⟨by omega, rfl⟩, fun h => by omega⟩
  case round =>
    obtain ⟨k, code, rfl, rfl, hk, hk2, hc, hin, hten⟩ := hrel
    by_cases hlt : k < 10 ∧ k < s.size
    · have h1 : k < 10 := hlt.1
      have h2 : k < s.size := hlt.2
      obtain ⟨hcode, hdec⟩ := hin (by omega)
      have hx := unhide hget k h2
      have hbl := s[k].toNat_lt
      obtain ⟨C, hC, hor, hval⟩ := or_any code s[k].toNat k hc hbl
      have hnot := hide (show bits .xor .i64 (-1) ((C : Int) / 2) = -((C : Int) / 2) - 1 by have := not_i64 (C / 2) (by omega); rwa [show ((C / 2 : Nat) : Int) = (C : Int) / 2 by omega] at this)
      have hone := hide (and_one C hC)
      have t0 : decide ((k : Int) < min (s.size : Int) 10) = true := by simp; omega
      have e10 : 10 - k = (9 - k) + 1 := by omega
      rw [e10] at hdec
      clear e10 hlt hin hten
      replace hdec := hide hdec
      replace hval := hide hval
      replace hcode := hide hcode
      replace hc := hide hc
      replace hx := hide hx
      by_cases hb : 128 ≤ s[k].toNat
      · have t1 : decide (128 ≤ (s[k].toNat : Int)) = true := by simp; omega
        replace hb := hide hb
        clear hone hnot
        go_wp2_with fail
        go_round
        case rel =>
          refine ⟨k + 1, C, rfl, by go_num, by omega, by omega, hC, fun h9 => ?_, fun h10 => ?_⟩
          · have hv := unhide hval (unhide hcode) (Or.inl (by omega))
            have := unhide hdec
            rw [Wi.decF_more (unhide hx) (unhide hb), ← hv] at this
            refine ⟨?_, by rw [show 10 - (k + 1) = 9 - k by omega]; exact this⟩
            have h3 := unhide hcode
            rw [hv, Nat.pow_succ]
            have h4 : s[k].toNat % 128 * 128 ^ k ≤ 127 * 128 ^ k := Nat.mul_le_mul (by omega) (Nat.le_refl _)
            omega
          · have := unhide hdec
            rw [Wi.decF_more (unhide hx) (unhide hb)] at this
            obtain rfl : k = 9 := by omega
            rw [← this]
            rfl
        case measure => simp [intOf]; omega
      · have t1 : decide (128 ≤ (s[k].toNat : Int)) = false := by simp; omega
        by_cases hbad : (0 < k ∧ s[k].toNat = 0) ∨ (k = 9 ∧ 1 < s[k].toNat)
        · have hnone := unhide hdec
          rw [Wi.decF_bad (unhide hx) hb hbad] at hnone
          have hr1 : Wi.decN L = 0 := by unfold Wi.decN; rw [← hnone]; rfl
          have hr2 : (Wi.decU L : Int) = 0 := by unfold Wi.decU; rw [← hnone]; rfl
          replace hr1 := hide hr1
          replace hr2 := hide hr2
          clear hnone hone hnot
          rcases hbad with ⟨k0, b0⟩ | ⟨k9, b9⟩
          · have t2 : decide (0 < k) = true := by simp; omega
            have t3 : ((s[k].toNat : Int) == 0) = true := by simp; omega
            have t4 : (s[k].toNat == 0) = true := by simp; omega
            replace b0 := hide b0
            go_wp2_with fail
            go_ret2
            exact ⟨two_ints hr1.out.symm hr2.out.symm, rfl⟩
          · have t2 : decide (0 < k) = true := by simp; omega
            have t3 : ((s[k].toNat : Int) == 0) = false := by simp; omega
            have t5 : ((k : Int) == 9) = true := by simp; omega
            have t6 : decide (1 < (s[k].toNat : Int)) = true := by simp; omega
            replace k9 := hide k9
            go_wp2_with fail
            go_ret2
            exact ⟨two_ints hr1.out.symm hr2.out.symm, rfl⟩
        · have hsome := unhide hdec
          rw [Wi.decF_good (unhide hx) hb hbad] at hsome
          have hv := unhide hval (unhide hcode) (by omega)
          rw [← hv] at hsome
          have hr1 : Wi.decN L = Wi.unzig C := by unfold Wi.decN; rw [← hsome]; rfl
          have hr2 : (Wi.decU L : Int) = (k : Int) + 1 := by unfold Wi.decU; rw [← hsome]; simp
          replace hr1 := hide hr1
          replace hr2 := hide hr2
          clear hsome hv hval hdec hcode hx
          have s1 : decide (0 < k) = false ∨ (decide (0 < k) = true ∧ ((s[k].toNat : Int) == 0) = false) := by
            by_cases hk0 : 0 < k
            · exact Or.inr ⟨by simpa using hk0, by simp; omega⟩
            · exact Or.inl (by simpa using hk0)
          have s2 : ((k : Int) == 9) = false ∨ (((k : Int) == 9) = true ∧ decide (1 < (s[k].toNat : Int)) = false) := by
            by_cases hk9 : k = 9
            · exact Or.inr ⟨by simp; omega, by simp; omega⟩
            · exact Or.inl (by simp; omega)
          replace hbad := hide hbad
          by_cases hodd : C % 2 = 1
          · have h1' := hone.out.trans (show ((C % 2 : Nat) : Int) = 1 by omega)
            have hnot' := hnot.out
            replace hodd := hide hodd
            clear hone hnot
            rcases s1 with s1 | ⟨s1, s1b⟩ <;> rcases s2 with s2 | ⟨s2, s2b⟩
            all_goals
              go_wp2_with fail
              go_ret2
              exact ⟨two_ints (by rw [hr1.out]; unfold Wi.unzig; rw [if_pos hodd.out]; omega) hr2.out.symm, rfl⟩
          · have h1' := hone.out.trans (show ((C % 2 : Nat) : Int) = 0 by omega)
            replace hodd := hide hodd
            clear hone hnot
            rcases s1 with s1 | ⟨s1, s1b⟩ <;> rcases s2 with s2 | ⟨s2, s2b⟩
            all_goals
              go_wp2_with fail
              go_ret2
              exact ⟨two_ints (by rw [hr1.out]; unfold Wi.unzig; rw [if_neg hodd.out]; omega) hr2.out.symm, rfl⟩
    · have hnone : Wi.dec L = none := by
        by_cases h10 : k = 10
        · exact hten h10
        · obtain ⟨_, hd⟩ := hin (by omega)
          rw [← hd, List.drop_eq_nil_of_le (by omega), Wi.decF_nil]
      have hr1 : Wi.decN L = 0 := by unfold Wi.decN; rw [hnone]; rfl
      have hr2 : (Wi.decU L : Int) = 0 := by unfold Wi.decU; rw [hnone]; rfl
      replace hr1 := hide hr1
      replace hr2 := hide hr2
      have t0 : decide ((k : Int) < min (s.size : Int) 10) = false := by simp; omega
      clear hnone hin hten hLs
      go_wp2_with fail
      go_ret2
      exact ⟨two_ints hr1.out.symm hr2.out.symm, rfl⟩
end Go.Proofs.Ytcliegeooooonaa
