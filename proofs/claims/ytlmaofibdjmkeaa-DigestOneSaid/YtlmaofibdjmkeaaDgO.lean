/- Plain law: a string in which one byte is another one has another digest. -/
import Derived.Test.YtlmaofibdjmkeaaDgP
namespace Go.Proofs.Ytlmaofibdjmkeaa
namespace Dg
theorem mul_inj (P A x y r : Nat) (hc : Nat.gcd P A = 1) (_ : x < P) (hy : y < P) (h : (A * x + r) % P = (A * y + r) % P) (hle : x ≤ y) : x = y := by
  have h1 : P ∣ A * (y - x) := by
    have e : A * (y - x) = (A * y + r) - (A * x + r) := by rw [Nat.mul_sub]; omega
    rw [e]
    exact Nat.dvd_of_mod_eq_zero (Nat.sub_mod_eq_zero_of_mod_eq h.symm)
  have h2 : P ∣ y - x := (Nat.coprime_iff_gcd_eq_one.2 hc).dvd_of_dvd_mul_left h1
  have h3 := Nat.eq_zero_of_dvd_of_lt h2 (by omega)
  omega
theorem stepX_inj (x y : Nat) (c : UInt8) (hx : x < 2147483563) (hy : y < 2147483563) (h : stepX x c = stepX y c) : x = y := by
  unfold stepX at h
  rw [Nat.add_assoc, Nat.add_assoc] at h
  rcases Nat.le_total x y with hle | hle
  · exact mul_inj _ _ x y _ (by decide) hx hy h hle
  · exact (mul_inj _ _ y x _ (by decide) hy hx h.symm hle).symm
theorem foldX_inj (l : List UInt8) (x y : Nat) (hx : x < 2147483563) (hy : y < 2147483563) (h : l.foldl stepX x = l.foldl stepX y) : x = y := by
  induction l generalizing x y with
  | nil => exact h
  | cons c l ih => exact stepX_inj x y c hx hy (ih _ _ (stepX_lt _ _) (stepX_lt _ _) h)
theorem stepX_byte (x : Nat) (c d : UInt8) (h : stepX x c = stepX x d) : c = d := by
  unfold stepX at h
  have hc := c.toNat_lt
  have hd := d.toNat_lt
  apply UInt8.toNat_inj.1
  omega
theorem runX_one (a b : List UInt8) (c d : UInt8) (h : c ≠ d) : runX (a ++ c :: b) ≠ runX (a ++ d :: b) := by
  intro e
  unfold runX at e
  rw [List.foldl_append, List.foldl_append, List.foldl_cons, List.foldl_cons] at e
  exact h (stepX_byte _ _ _ (foldX_inj b _ _ (stepX_lt _ _) (stepX_lt _ _) e))
theorem b4_inj (m n : Nat) (hm : m < 4294967296) (hn : n < 4294967296) (h : b4 m = b4 n) : m = n := by
  unfold b4 at h
  injection h with h1 h
  injection h with h2 h
  injection h with h3 h
  injection h with h4 h
  have e1 := congrArg UInt8.toNat h1
  have e2 := congrArg UInt8.toNat h2
  have e3 := congrArg UInt8.toNat h3
  have e4 := congrArg UInt8.toNat h4
  rw [UInt8.toNat_ofNat', UInt8.toNat_ofNat'] at e1 e2 e3 e4
  omega
theorem dig_one (a b : List UInt8) (c d : UInt8) (h : c ≠ d) : dig (a ++ c :: b) ≠ dig (a ++ d :: b) := by
  intro e
  unfold dig at e
  have e1 := (List.append_inj e rfl).1
  exact runX_one a b c d h (b4_inj _ _ (Nat.lt_trans (runX_lt _) (by omega)) (Nat.lt_trans (runX_lt _) (by omega)) e1)
end Dg
end Go.Proofs.Ytlmaofibdjmkeaa
