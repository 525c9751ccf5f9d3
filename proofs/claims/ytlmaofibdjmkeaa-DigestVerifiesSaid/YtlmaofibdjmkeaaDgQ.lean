/- Plain law: proofs lead to the root; what grows. -/
import Derived.Test.YtlmaofibdjmkeaaDg21
namespace Go.Proofs.Ytlmaofibdjmkeaa
namespace Dg
theorem T_dp : ∀ n : Fin 33, T n.val = 2 ^ dp n.val ∧ dp n.val ≤ 5 := by decide +kernel
theorem lev_at (L : List (List UInt8)) (hL : L.length ≤ 32) (k : Nat) (hk : k ≤ dp L.length) : (lev L k).length = 2 ^ (dp L.length - k) := by
  rw [lev_len L hL, (T_dp ⟨L.length, by omega⟩).1]
  exact Nat.pow_div hk (by omega)
/-- an element of a proof -/
def gel (L : List (List UInt8)) (i j : Nat) : ByteArray := ⟨((lev L j)[(i / 2 ^ j) ^^^ 1]?.getD []).toArray⟩
theorem pf_form (L : List (List UInt8)) (hL : L.length ≤ 32) (i : Nat) (k : Nat) (hk : k ≤ dp L.length) : pf L i k = ((List.range k).map (gel L i), i / 2 ^ k) := by
  induction k with
  | zero => simp [pf]
  | succ k ih =>
    have ih := ih (by omega)
    have h1 : 1 < (lev L k).length := by
      rw [lev_at L hL k (by omega), show dp L.length - k = (dp L.length - k - 1) + 1 by omega, Nat.pow_succ]
      have := Nat.one_le_two_pow (n := dp L.length - k - 1)
      omega
    rw [pf, if_pos h1, ih, List.range_succ, List.map_append]
    simp only [Nat.div_div_eq_div_mul, ← Nat.pow_succ]
    rfl
theorem prf_form (L : List (List UInt8)) (hL : L.length ≤ 32) (i : Nat) : prf L i = (List.range (dp L.length)).map (gel L i) := by
  unfold prf
  rw [pf_form L hL i _ (Nat.le_refl _)]
theorem up_get (l : List (List UInt8)) (j : Nat) (h : j < l.length / 2) : (up l)[j]? = some (node (l.getD (2 * j) []) (l.getD (2 * j + 1) [])) := by
  unfold up
  rw [List.getElem?_map, List.getElem?_range h]
  rfl
theorem xor_even (q : Nat) (h : q % 2 = 0) (hq : q < 64) : q ^^^ 1 = q + 1 := nb_even' ⟨q, hq⟩ h
where nb_even' : ∀ k : Fin 64, k.val % 2 = 0 → k.val ^^^ 1 = k.val + 1 := by decide +kernel
theorem xor_odd (q : Nat) (h : ¬ q % 2 = 0) (hq : q < 64) : q ^^^ 1 = q - 1 := nb_odd' ⟨q, hq⟩ h
where nb_odd' : ∀ k : Fin 64, ¬ k.val % 2 = 0 → k.val ^^^ 1 = k.val - 1 := by decide +kernel
theorem cl_form (L : List (List UInt8)) (hL : L.length ≤ 32) (i : Nat) (hi : i < L.length) (k : Nat) (hk : k ≤ dp L.length) :
    cl (leaf (L.getD i [])) i (prf L i) k = ((lev L k).getD (i / 2 ^ k) [], i / 2 ^ k) := by
  have hT := T_dp ⟨L.length, by omega⟩
  have hge := T_ge L.length hL
  simp only at hT
  induction k with
  | zero =>
    rw [cl, lev, Nat.pow_zero, Nat.div_one]
    unfold lev0
    rw [List.getD_eq_getElem?_getD, List.getD_eq_getElem?_getD, List.getElem?_append_left (by simpa using hi), List.getElem?_map, List.getElem?_eq_getElem hi]
    rfl
  | succ k ih =>
    have ih := ih (by omega)
    have hlen := lev_at L hL k (by omega)
    have hlen2 : (lev L k).length = 2 * 2 ^ (dp L.length - (k + 1)) := by
      rw [hlen, show dp L.length - k = (dp L.length - (k + 1)) + 1 by omega, Nat.pow_succ]
      omega
    have hP : (prf L i)[k]? = some (gel L i k) := by
      rw [prf_form L hL, List.getElem?_map, List.getElem?_range (by omega)]
      rfl
    have hq : i / 2 ^ k < (lev L k).length := by
      rw [hlen, Nat.div_lt_iff_lt_mul (Nat.two_pow_pos k), ← Nat.pow_add, show dp L.length - k + k = dp L.length by omega]
      omega
    have hle : (lev L k).length ≤ 32 := by rw [lev_len L hL]; exact Nat.le_trans (Nat.div_le_self _ _) hge.2.2
    have hdiv : i / 2 ^ (k + 1) = i / 2 ^ k / 2 := by rw [Nat.pow_succ, Nat.div_div_eq_div_mul]
    have hup := up_get (lev L k) (i / 2 ^ k / 2) (by omega)
    rw [cl, hP, ih]
    simp only [hdiv, lev]
    obtain ⟨q, hqq⟩ : ∃ q, i / 2 ^ k = q := ⟨_, rfl⟩
    rw [List.getD_eq_getElem?_getD (l := up (lev L k))]
    rw [hqq] at hq hup ⊢
    rw [hup]
    unfold gel
    rw [hqq]
    refine Prod.ext ?_ rfl
    simp only [Option.getD_some]
    by_cases hp : q % 2 = 0
    · rw [if_pos hp, xor_even q hp (by omega), show 2 * (q / 2) = q by omega, ← List.getD_eq_getElem?_getD]
    · rw [if_neg hp, xor_odd q hp (by omega), show 2 * (q / 2) = q - 1 by omega, show q - 1 + 1 = q by omega, ← List.getD_eq_getElem?_getD]
end Dg
theorem ver_self (L : List ByteArray) (hL : L.length ≤ 32) (i : Nat) (hi : i < L.length) (s : ByteArray) (hs : L[i]? = some s) :
    verS ⟨(Dg.top (L.map fun s => s.data.toList)).toArray⟩ s (i : Int) (Dg.prf (L.map fun s => s.data.toList) i) = true := by
  obtain ⟨Lb, hLb⟩ : ∃ Lb, (L.map fun s => s.data.toList) = Lb := ⟨_, rfl⟩
  have hLl : Lb.length = L.length := by rw [← hLb, List.length_map]
  have hl32 : Lb.length ≤ 32 := by omega
  have hget : Lb.getD i [] = s.data.toList := by rw [List.getD_eq_getElem?_getD, ← hLb, List.getElem?_map, hs]; rfl
  rw [hLb]
  have hT := Dg.T_dp ⟨Lb.length, by omega⟩
  have hge := Dg.T_ge Lb.length hl32
  simp only at hT
  have hlp : (Dg.prf Lb i).length = Dg.dp Lb.length := by rw [Dg.prf_form Lb hl32, List.length_map, List.length_range]
  have hcl := Dg.cl_form Lb hl32 i (by omega) (Dg.dp Lb.length) (Nat.le_refl _)
  have htop : (Dg.cl (leafB s) i (Dg.prf Lb i) (Dg.dp Lb.length)).1 = Dg.top Lb := by
    unfold leafB
    rw [← hget, hcl]
    have h0 : i / 2 ^ Dg.dp Lb.length = 0 := Nat.div_eq_of_lt (by omega)
    rw [h0, List.getD_eq_getElem?_getD]
    rfl
  have hi2 : (i : Int) < (2 : Int) ^ Dg.dp Lb.length := by
    have : i < 2 ^ Dg.dp Lb.length := by omega
    exact_mod_cast this
  unfold verS
  rw [decide_eq_true_eq, hlp]
  refine ⟨by omega, by omega, hi2, ?_, ?_, ?_⟩
  · rw [ba_size, ← htop]
    exact Dg.cl_len _ (Dg.leaf_len _) _ _ _
  · exact Dg.pf_sizes Lb hl32 i (by omega) _ (by rw [Dg.lev_at Lb hl32 _ (Nat.le_refl _)]; exact Nat.one_le_two_pow)
  · rw [show ((i : Int)).toNat = i from rfl, htop]
end Go.Proofs.Ytlmaofibdjmkeaa
