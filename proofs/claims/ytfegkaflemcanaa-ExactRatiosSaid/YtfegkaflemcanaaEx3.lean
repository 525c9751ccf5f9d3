/- MulDiv, the program's. -/
import Derived.Test.YtfegkaflemcanaaEx2
namespace Go.Proofs.Ytfegkaflemcanaa
open Go.RowKit

set_option maxHeartbeats 400000 in
theorem emd_any (a b c : Int) (w : World) (ha : I64 a) (hb : I64 b) (hc : I64 c) :
    Calls Try.prog 14 #[.int .i64 a, .int .i64 b, .int .i64 c] w fun e w' => e = .returned (.tuple #[.int .i64 (valI (Ex.mdS a b c)), .bool (okI (Ex.mdS a b c))]) ∧ Below w.heap.size w w' := by
  by_cases hc0 : c < 1
  · have : Ex.mdS a b c = none := by unfold Ex.mdS; rw [if_pos hc0]
    rw [this]
    exact emd_none a b c w hc0
  obtain ⟨C, rfl⟩ : ∃ C : Nat, c = (C : Int) := ⟨c.toNat, by omega⟩
  have hC1 : 1 ≤ C := by omega
  have hC2 : C ≤ 9223372036854775807 := by unfold I64 at hc; omega
  have e1 : decide ((C : Int) < 1) = false := by simp; omega
  have e2 : IntKind.u64.wrap (C : Int) = (C : Int) := Dv.wrapN _ (by omega)
  obtain ⟨s, s1, s2, s3⟩ := sgn_prod a b
  obtain ⟨neg, hneg⟩ : ∃ neg, neg = sgnB a b := ⟨_, rfl⟩
  have hfit := Ex.md_up a b C hC1 neg (fun h => sgn_t (hneg ▸ h)) (fun h => sgn_f (hneg ▸ h))
  rw [← hneg] at s3
  rw [← hfit]
  have hA : a.natAbs ≤ 9223372036854775808 := by unfold I64 at ha; omega
  have hB : b.natAbs ≤ 9223372036854775808 := by unfold I64 at hb; omega
  have hM : a.natAbs * b.natAbs ≤ 9223372036854775808 * 9223372036854775808 := Nat.mul_le_mul hA hB
  have ht := fun w => times_any a.natAbs b.natAbs _ _ w rfl rfl (by omega) (by omega)
  obtain ⟨M, hMd⟩ : ∃ M, M = a.natAbs * b.natAbs := ⟨_, rfl⟩
  rw [← hMd] at hM ht ⊢
  have hov := fun w => over_any M C _ _ _ w rfl rfl rfl hC1 (by omega) (by omega)
  have hQl : M / C ≤ M := Nat.div_le_self _ _
  obtain ⟨Q, hQ⟩ : ∃ Q, Q = M / C := ⟨_, rfl⟩
  obtain ⟨R, hR⟩ : ∃ R, R = M % C := ⟨_, rfl⟩
  rw [← hQ] at hov hQl
  rw [← hR] at hov
  have hpl := fun w => plus_any Q 1 _ _ 0 1 w rfl rfl (by rfl) (by rfl) (by omega)
  obtain ⟨U, hU⟩ : ∃ U, U = Ex.up neg M C := ⟨_, rfl⟩
  rw [← hU]
  have hnum : ∀ t, t = U → ∀ w' : World, Calls Try.prog 33 #[.agg #[.int .u64 (hiW t), .int .u64 (loW t)], .bool neg] w' fun e w'' => e = .returned (.tuple #[.int .i64 (valI (Ex.fitI (Ex.sg neg U))), .bool (okI (Ex.fitI (Ex.sg neg U)))]) ∧ Below w'.heap.size w' w'' := by
    intro t ht w'
    rw [← ht]
    exact number_any neg _ _ t w' rfl rfl
  obtain ⟨V, hV⟩ : ∃ V, V = valI (Ex.fitI (Ex.sg neg U)) := ⟨_, rfl⟩
  obtain ⟨O, hO⟩ : ∃ O, O = okI (Ex.fitI (Ex.sg neg U)) := ⟨_, rfl⟩
  rw [← hV, ← hO] at hnum ⊢
  have hu0 : neg = false → Q = U := fun h => by rw [hU, h, Ex.up_false, hQ]
  have hu1 : R = 0 → Q = U := fun h => by
    rw [hU]
    cases neg
    · rw [Ex.up_false, hQ]
    · rw [Ex.up_true0 _ _ (by rw [← hR]; exact h), hQ]
  have hu2 : neg = true → R ≠ 0 → Q + 1 = U := fun h h' => by rw [hU, h, Ex.up_true1 _ _ (by rw [← hR]; exact h'), hQ]
  replace hnum := hide hnum
  clear hneg hfit hQ hR hV hO hU hA hQl hM hB hMd
  replace ht := hide ht; replace hov := hide hov; replace hpl := hide hpl
  cases neg
  · have k := hu0 rfl
    have hnum' := hide ((unhide hnum) Q k)
    clear hu0 hu1 hu2 k hnum hpl
    go_enter Try.func14, Try.ntmps14
    go_wp2_with (first | (go_at_call 31; refine (sign_any _ _).mono ?_; rintro e w' ⟨rfl, rfl⟩) | (go_at_call 32; refine (esize_any _ _ (by assumption)).mono ?_; rintro e w' ⟨rfl, rfl⟩))
    refine (unhide ht _).mono ?_
    rintro e w1 ⟨rfl, hb1⟩
    clear ht
    go_wp2_with fail
    refine (unhide hov _).mono ?_
    rintro e w2 ⟨rfl, hb2⟩
    clear hov
    have hbel := hb1.trans (hb2.mono hb1.size)
    have hz2 := hbel.size
    clear hb1 hb2
    go_wp2_with fail
    refine (unhide hnum' _).mono ?_
    rintro e w3 ⟨rfl, hb3⟩
    clear hnum'
    go_wp2_with fail
    go_ret2
    exact ⟨rfl, (hbel.alloc (by omega) _).trans (hb3.mono (by simp; omega))⟩
  · by_cases hR0 : R = 0
    · have k := hu1 hR0
      have hnum' := hide ((unhide hnum) Q k)
      subst hR0
      clear hu0 hu1 hu2 k hnum hpl
      go_enter Try.func14, Try.ntmps14
      go_wp2_with (first | (go_at_call 31; refine (sign_any _ _).mono ?_; rintro e w' ⟨rfl, rfl⟩) | (go_at_call 32; refine (esize_any _ _ (by assumption)).mono ?_; rintro e w' ⟨rfl, rfl⟩))
      refine (unhide ht _).mono ?_
      rintro e w1 ⟨rfl, hb1⟩
      clear ht
      go_wp2_with fail
      refine (unhide hov _).mono ?_
      rintro e w2 ⟨rfl, hb2⟩
      clear hov
      have hbel := hb1.trans (hb2.mono hb1.size)
      have hz2 := hbel.size
      clear hb1 hb2
      go_wp2_with fail
      refine (unhide hnum' _).mono ?_
      rintro e w3 ⟨rfl, hb3⟩
      clear hnum'
      go_wp2_with fail
      go_ret2
      exact ⟨rfl, (hbel.alloc (by omega) _).trans (hb3.mono (by simp; omega))⟩
    · have k := hu2 rfl hR0
      have hnum' := hide ((unhide hnum) (Q + 1) k)
      have t1 : decide (0 < R) = true := by simp; omega
      have t2 : 0 < R := by omega
      have t3 : ((R : Int) != 0) = true := by simp; omega
      clear hu0 hu1 hu2 k hnum hR0
      go_enter Try.func14, Try.ntmps14
      go_wp2_with (first | (go_at_call 31; refine (sign_any _ _).mono ?_; rintro e w' ⟨rfl, rfl⟩) | (go_at_call 32; refine (esize_any _ _ (by assumption)).mono ?_; rintro e w' ⟨rfl, rfl⟩))
      refine (unhide ht _).mono ?_
      rintro e w1 ⟨rfl, hb1⟩
      clear ht
      go_wp2_with fail
      refine (unhide hov _).mono ?_
      rintro e w2 ⟨rfl, hb2⟩
      clear hov
      have hbel := hb1.trans (hb2.mono hb1.size)
      have hz2 := hbel.size
      clear hb1 hb2
      go_wp2_with fail
      refine (unhide hpl _).mono ?_
      rintro e w4 ⟨rfl, hb4⟩
      clear hpl
      have hnew := (hb4.block w2.heap.size (by simp)).trans (heap_alloc_new _ _)
      have hbel4 := (hbel.alloc hz2 _).trans (hb4.mono (by simp; omega))
      clear hb4
      have c0 : w4.cell? ⟨w2.heap.size, 0, none⟩ = some (.int .u64 (hiW Q)) := by simp [World.cell?, hnew]
      have c1 : w4.cell? ⟨w2.heap.size, 1, none⟩ = some (.int .u64 (loW Q)) := by simp [World.cell?, hnew]
      have f0 : w4.frozen? ⟨w2.heap.size, 0, none⟩ = false := by simp [World.frozen?, hnew]
      have f1 : w4.frozen? ⟨w2.heap.size, 1, none⟩ = false := by simp [World.frozen?, hnew]
      clear hnew
      go_wp2_with fail
      refine (unhide hnum' _).mono ?_
      rintro e w3 ⟨rfl, hb3⟩
      clear hnum'
      go_wp2_with fail
      go_ret2
      exact ⟨rfl, ((hbel4.setCell hz2 _).setCell hz2 _).trans (hb3.mono (by have := hbel4.size; simp; omega))⟩

end Go.Proofs.Ytfegkaflemcanaa
