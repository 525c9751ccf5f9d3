/- Plain law of the digests' trees. No program in sight. -/
import Derived.Test.YtlmaofibdjmkeaaDgP
namespace Go.Proofs.Ytlmaofibdjmkeaa
namespace Dg
def leaf (s : List UInt8) : List UInt8 := dig (108 :: s)
def miss : List UInt8 := dig [118]
def node (a b : List UInt8) : List UInt8 := dig (110 :: (a ++ b))
/-- the least power of two that is at least n, up to 32 -/
def T (n : Nat) : Nat := if n ≤ 1 then 1 else if n ≤ 2 then 2 else if n ≤ 4 then 4 else if n ≤ 8 then 8 else if n ≤ 16 then 16 else 32
def lev0 (L : List (List UInt8)) : List (List UInt8) := L.map leaf ++ List.replicate (T L.length - L.length) miss
def up (l : List (List UInt8)) : List (List UInt8) := (List.range (l.length / 2)).map fun k => node (l.getD (2 * k) []) (l.getD (2 * k + 1) [])
def lev (L : List (List UInt8)) : Nat → List (List UInt8)
  | 0 => lev0 L
  | k + 1 => up (lev L k)
theorem T_ge (n : Nat) (h : n ≤ 32) : n ≤ T n ∧ 1 ≤ T n ∧ T n ≤ 32 := by
  have key : ∀ n : Fin 33, n.val ≤ T n.val ∧ 1 ≤ T n.val ∧ T n.val ≤ 32 := by decide +kernel
  exact key ⟨n, by omega⟩
theorem lev0_len (L : List (List UInt8)) (h : L.length ≤ 32) : (lev0 L).length = T L.length := by
  have := T_ge L.length h
  simp only [lev0, List.length_append, List.length_map, List.length_replicate]
  omega
theorem up_len (l : List (List UInt8)) : (up l).length = l.length / 2 := by simp [up]
theorem lev_len (L : List (List UInt8)) (h : L.length ≤ 32) (k : Nat) : (lev L k).length = T L.length / 2 ^ k := by
  induction k with
  | zero => rw [lev, lev0_len L h]; simp
  | succ k ih => rw [lev, up_len, ih, Nat.pow_succ, Nat.div_div_eq_div_mul]
theorem leaf_len (s : List UInt8) : (leaf s).length = 8 := rfl
theorem miss_len : miss.length = 8 := rfl
theorem node_len (a b : List UInt8) : (node a b).length = 8 := rfl
theorem lev_all (L : List (List UInt8)) (k : Nat) : ∀ d ∈ lev L k, d.length = 8 := by
  intro d hd
  cases k with
  | zero =>
    rw [lev, lev0] at hd
    rcases List.mem_append.1 hd with h | h
    · obtain ⟨s, _, rfl⟩ := List.mem_map.1 h; rfl
    · rw [(List.mem_replicate.1 h).2]; rfl
  | succ k =>
    rw [lev, up] at hd
    obtain ⟨s, _, rfl⟩ := List.mem_map.1 hd
    rfl
/-- a power of two is met just at T -/
theorem pow_test : ∀ n q : Fin 33, n.val ≤ q.val → q.val ≤ T n.val → ((q.val = 0 ∨ q.val &&& (q.val - 1) ≠ 0) ↔ q.val ≠ T n.val) := by decide +kernel
end Dg
end Go.Proofs.Ytlmaofibdjmkeaa
