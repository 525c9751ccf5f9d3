/- The reference's On and at. -/
import Derived.Test.YtbodidhggdggmaaOl0
namespace Go.Proofs.Ytbodidhggdggmaa
open Go.RowKit
/-- point i is on the curve, or the first -/
def onS (c : List Pt) (i : Nat) : Bool := i == 0 || onAt c i
theorem ron_any (a : Option Addr) (n c : Nat) (l : List Pt) (i : Nat) (w : World) (hl : Lst Enc.pt w (· < w.heap.size) a n l) (hi : i < n) :
    Calls Try.prog 76 #[.slice a n c, .int .i64 (i : Int)] w fun e w' => e = .returned (.bool (onS l i)) ∧ w' = w := by
  obtain ⟨g, og, px, py, pz, rfl, _, hp, _, _, g0, g1, g2⟩ := lst_pt hl hi
  have ho := onAt_some hp
  clear hl hp g0 g1
  by_cases h0 : i = 0
  · subst h0
    have e : onS l 0 = true := rfl
    rw [e]
    clear e ho
    go_enter Try.func76, Try.ntmps76
    go_wp2_with fail
    go_ret
    exact ⟨rfl, rfl⟩
  · have e : onS l i = pz := by unfold onS; rw [ho, beq_eq_false_iff_ne.2 h0]; rfl
    have t0 : ((i : Int) == 0) = false := beq_eq_false_iff_ne.2 (by omega)
    have t1 : (i : Int) < (n : Int) := by omega
    rw [e]
    clear e ho
    replace h0 := hide h0
    go_enter Try.func76, Try.ntmps76
    go_wp2_with fail
    go_ret
    exact ⟨rfl, rfl⟩
/-- the point of a curve at t quarters -/
def atS (a b c t : Int) : Int := wrap64 (a * (4 - t) * (4 - t) + 4 * b * t * (4 - t) + c * t * t)
theorem wrap_spec (x : Int) : ∃ k : Int, wrap64 x = x + 18446744073709551616 * k ∧ -9223372036854775808 ≤ wrap64 x ∧ wrap64 x ≤ 9223372036854775807 := by
  refine ⟨-((x + 9223372036854775808) / 18446744073709551616), ?_⟩
  unfold wrap64
  omega
theorem wrap_mod {x y k : Int} (h : x = y + 18446744073709551616 * k) : wrap64 x = wrap64 y := by
  obtain ⟨a, h1, h2, h3⟩ := wrap_spec x
  obtain ⟨b, k1, k2, k3⟩ := wrap_spec y
  omega
theorem wrap_mul_l (x y : Int) : wrap64 (wrap64 x * y) = wrap64 (x * y) := by
  obtain ⟨k, hk, _⟩ := wrap_spec x
  exact wrap_mod (k := k * y) (by rw [hk, Int.add_mul, Int.mul_assoc])
theorem wrap_mul_r (x y : Int) : wrap64 (x * wrap64 y) = wrap64 (x * y) := by rw [Int.mul_comm, wrap_mul_l, Int.mul_comm]
theorem wrap_add_l (x y : Int) : wrap64 (wrap64 x + y) = wrap64 (x + y) := by
  obtain ⟨k, hk, _⟩ := wrap_spec x
  exact wrap_mod (k := k) (by rw [hk]; omega)
theorem wrap_add_r (x y : Int) : wrap64 (x + wrap64 y) = wrap64 (x + y) := by rw [Int.add_comm, wrap_add_l, Int.add_comm]
set_option maxHeartbeats 1000000 in
theorem rat_any (a b c : Int) (t : Nat) (w : World) (ht : t ≤ 4) :
    Calls Try.prog 78 #[.int .i64 a, .int .i64 b, .int .i64 c, .int .i64 (t : Int)] w fun e w' => e = .returned (.int .i64 (atS a b c t)) ∧ w' = w := by
  go_enter Try.func78, Try.ntmps78
  go_wp2_with fail
  go_ret
  refine ⟨?_, rfl⟩
  refine ret_int ?_
  simp only [atS, wrap_mul_l, wrap_add_l, wrap_add_r]
end Go.Proofs.Ytbodidhggdggmaa
