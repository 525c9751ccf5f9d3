/- Plain law: a list with one string more. -/
import Derived.Test.YtlmaofibdjmkeaaDgQ
namespace Go.Proofs.Ytlmaofibdjmkeaa
namespace Dg
theorem T_more : ∀ n : Fin 32, T n.val ≤ T (n.val + 1) ∧ n.val + 1 ≤ T (n.val + 1) := by decide +kernel
theorem dp_more : ∀ n : Fin 32, 1 ≤ n.val → dp (n.val + 1) = dp n.val + (if n.val &&& (n.val - 1) = 0 then 1 else 0) ∧ ((n.val &&& (n.val - 1) = 0) ↔ n.val = T n.val) := by decide +kernel
theorem xor_half (q : Nat) (hq : q < 64) : (q ^^^ 1) / 2 = q / 2 := by
  by_cases h : q % 2 = 0
  · rw [xor_even q h hq]; omega
  · rw [xor_odd q h hq]; omega
theorem xor_self_ne (q : Nat) (hq : q < 64) : q ^^^ 1 ≠ q := by
  by_cases h : q % 2 = 0
  · rw [xor_even q h hq]; omega
  · rw [xor_odd q h hq]; omega
/-- a level stays but where the new string stands above -/
theorem lev_more (L : List (List UInt8)) (s : List UInt8) (hL : L.length ≤ 31) (k : Nat) (hk : k ≤ dp L.length) (j : Nat) (hj : j < (lev L k).length) (hne : j ≠ L.length / 2 ^ k) : (lev (L ++ [s]) k)[j]? = (lev L k)[j]? := by
  have hl1 : (L ++ [s]).length = L.length + 1 := by simp
  have hT := T_more ⟨L.length, by omega⟩
  simp only at hT
  have hge := T_ge L.length (by omega)
  induction k generalizing j with
  | zero =>
    rw [lev, lev]
    rw [lev, lev0_len L (by omega)] at hj
    rw [Nat.pow_zero, Nat.div_one] at hne
    unfold lev0
    rcases Nat.lt_or_ge j L.length with h | h
    · rw [List.map_append, List.append_assoc, List.getElem?_append_left (by simpa using h), List.getElem?_append_left (by simpa using h)]
    · rw [List.getElem?_append_right (by simp; omega), List.getElem?_append_right (by simp; omega), List.getElem?_replicate, List.getElem?_replicate, hl1, List.length_map, List.length_map, hl1, if_pos (by omega), if_pos (by omega)]
  | succ k ih =>
    have h1 : (lev L (k + 1)).length = (lev L k).length / 2 := by rw [lev, up_len]
    have h2 : (lev (L ++ [s]) k).length = T (L.length + 1) / 2 ^ k := by rw [lev_len _ (by omega), hl1]
    have h3 : (lev L k).length = T L.length / 2 ^ k := lev_len _ (by omega) _
    have h4 : T L.length / 2 ^ k ≤ T (L.length + 1) / 2 ^ k := Nat.div_le_div_right hT.1
    have hd : L.length / 2 ^ (k + 1) = L.length / 2 ^ k / 2 := by rw [Nat.pow_succ, Nat.div_div_eq_div_mul]
    rw [hd] at hne
    rw [lev, lev, up_get _ _ (by omega), up_get _ _ (by omega)]
    have e1 := ih (by omega) (2 * j) (by omega) (by omega)
    have e2 := ih (by omega) (2 * j + 1) (by omega) (by omega)
    rw [List.getD_eq_getElem?_getD, List.getD_eq_getElem?_getD, List.getD_eq_getElem?_getD, List.getD_eq_getElem?_getD, e1, e2]
theorem gel_more (L : List (List UInt8)) (s : List UInt8) (hL : L.length ≤ 31) (i : Nat) (hi : i < L.length) (k : Nat) (hk : k < dp L.length) (hne : (i / 2 ^ k) ^^^ 1 ≠ L.length / 2 ^ k) : gel (L ++ [s]) i k = gel L i k := by
  have hlen := lev_at L (by omega) k (by omega)
  have hge := T_ge L.length (by omega)
  have hT := T_dp ⟨L.length, by omega⟩
  simp only at hT
  have hle : (lev L k).length ≤ 32 := by rw [lev_len L (by omega)]; exact Nat.le_trans (Nat.div_le_self _ _) hge.2.2
  have hq : i / 2 ^ k < (lev L k).length := by
    rw [hlen, Nat.div_lt_iff_lt_mul (Nat.two_pow_pos k), ← Nat.pow_add, show dp L.length - k + k = dp L.length by omega]
    omega
  have hev : (lev L k).length % 2 = 0 := by
    rw [hlen, show dp L.length - k = (dp L.length - k - 1) + 1 by omega, Nat.pow_succ]
    omega
  have hx := xor_lt ⟨(lev L k).length, by omega⟩ ⟨i / 2 ^ k, by omega⟩ hev hq
  simp only at hx
  unfold gel
  rw [lev_more L s hL k (by omega) _ hx hne]
theorem one_place (i n j k : Nat) (hi : i < 64) (hjk : j < k) (h1 : (i / 2 ^ j) ^^^ 1 = n / 2 ^ j) (h2 : (i / 2 ^ k) ^^^ 1 = n / 2 ^ k) : False := by
  have hlt : ∀ m, i / 2 ^ m < 64 := fun m => Nat.lt_of_le_of_lt (Nat.div_le_self _ _) hi
  have e : i / 2 ^ (j + 1) = n / 2 ^ (j + 1) := by
    rw [Nat.pow_succ, ← Nat.div_div_eq_div_mul, ← Nat.div_div_eq_div_mul, ← h1, xor_half _ (hlt j)]
  have e2 : i / 2 ^ k = n / 2 ^ k := by
    rw [show k = j + 1 + (k - j - 1) by omega, Nat.pow_add, ← Nat.div_div_eq_div_mul, ← Nat.div_div_eq_div_mul, e]
  rw [← e2] at h2
  exact xor_self_ne _ (hlt k) h2
/-- how many elements differ ahead of k -/
def cnt (A B : List ByteArray) : Nat → Nat
  | 0 => 0
  | k + 1 => cnt A B k + (if A[k]? = B[k]? then 0 else 1)
theorem cnt_le (A B : List ByteArray) (k : Nat) : cnt A B k ≤ k := by
  induction k with
  | zero => exact Nat.le_refl _
  | succ k ih => rw [cnt]; split <;> omega
theorem cnt_zero (A B : List ByteArray) (k : Nat) (h : ∀ j, j < k → A[j]? = B[j]?) : cnt A B k = 0 := by
  induction k with
  | zero => rfl
  | succ k ih => rw [cnt, ih (fun j hj => h j (by omega)), if_pos (h k (by omega))]
theorem cnt_one (A B : List ByteArray) (k : Nat) (h : ∀ j l, j < l → l < k → A[j]? ≠ B[j]? → A[l]? ≠ B[l]? → False) : cnt A B k ≤ 1 := by
  induction k with
  | zero => exact Nat.zero_le _
  | succ k ih =>
    rw [cnt]
    split
    · exact ih (fun j l h1 h2 => h j l h1 (by omega))
    · rename_i hk
      rw [cnt_zero A B k (fun j hj => Classical.byContradiction fun hn => h j k hj (by omega) hn hk)]
      omega
end Dg
/-- The two proofs of one string, ahead of and behind one string more. -/
theorem grows (L : List ByteArray) (s : ByteArray) (hL : L.length ≤ 31) (i : Nat) (hi : i < L.length) :
    (Dg.prf ((L ++ [s]).map fun s => s.data.toList) i).length = (Dg.prf (L.map fun s => s.data.toList) i).length + (if L.length &&& (L.length - 1) = 0 then 1 else 0) ∧
    Dg.cnt (Dg.prf (L.map fun s => s.data.toList) i) (Dg.prf ((L ++ [s]).map fun s => s.data.toList) i) (Dg.prf (L.map fun s => s.data.toList) i).length ≤ 1 ∧
    (L.length &&& (L.length - 1) = 0 → Dg.cnt (Dg.prf (L.map fun s => s.data.toList) i) (Dg.prf ((L ++ [s]).map fun s => s.data.toList) i) (Dg.prf (L.map fun s => s.data.toList) i).length = 0) := by
  rw [List.map_append]
  obtain ⟨Lb, hLb⟩ : ∃ Lb, (L.map fun s => s.data.toList) = Lb := ⟨_, rfl⟩
  have hn : L.length = Lb.length := by rw [← hLb, List.length_map]
  rw [hLb, hn]
  simp only [List.map_cons, List.map_nil]
  have hl32 : Lb.length ≤ 31 := by omega
  have hdp := Dg.dp_more ⟨Lb.length, by omega⟩ (by simp only; omega)
  simp only at hdp
  have hT := Dg.T_dp ⟨Lb.length, by omega⟩
  simp only at hT
  have hA : Dg.prf Lb i = (List.range (Dg.dp Lb.length)).map (Dg.gel Lb i) := Dg.prf_form Lb (by omega) i
  have hB : Dg.prf (Lb ++ [s.data.toList]) i = (List.range (Dg.dp (Lb.length + 1))).map (Dg.gel (Lb ++ [s.data.toList]) i) := by
    rw [Dg.prf_form _ (by simp; omega), List.length_append]
    rfl
  have hAl : (Dg.prf Lb i).length = Dg.dp Lb.length := by rw [hA, List.length_map, List.length_range]
  have hBl : (Dg.prf (Lb ++ [s.data.toList]) i).length = Dg.dp (Lb.length + 1) := by rw [hB, List.length_map, List.length_range]
  have hsame : ∀ k, k < Dg.dp Lb.length → (i / 2 ^ k) ^^^ 1 ≠ Lb.length / 2 ^ k → (Dg.prf Lb i)[k]? = (Dg.prf (Lb ++ [s.data.toList]) i)[k]? := by
    intro k hk hne
    rw [hA, hB, List.getElem?_map, List.getElem?_map, List.getElem?_range hk, List.getElem?_range (by omega)]
    simp only [Option.map_some]
    rw [Dg.gel_more Lb _ hl32 i (by omega) k hk hne]
  refine ⟨by rw [hAl, hBl]; exact hdp.1, ?_, fun hf => ?_⟩
  · rw [hAl]
    refine Dg.cnt_one _ _ _ fun j l hjl hl h1 h2 => ?_
    have g1 : (i / 2 ^ j) ^^^ 1 = Lb.length / 2 ^ j := Classical.byContradiction fun hn => h1 (hsame j (by omega) hn)
    have g2 : (i / 2 ^ l) ^^^ 1 = Lb.length / 2 ^ l := Classical.byContradiction fun hn => h2 (hsame l (by omega) hn)
    exact Dg.one_place i Lb.length j l (by omega) hjl g1 g2
  · rw [hAl]
    refine Dg.cnt_zero _ _ _ fun k hk => hsame k hk ?_
    have hTn := hdp.2.1 hf
    have hlen := Dg.lev_at Lb (by omega) k (by omega)
    have hlen2 := Dg.lev_len Lb (by omega) k
    have hge := Dg.T_ge Lb.length (by omega)
    have hle : (Dg.lev Lb k).length ≤ 32 := by rw [hlen2]; exact Nat.le_trans (Nat.div_le_self _ _) hge.2.2
    have hq : i / 2 ^ k < (Dg.lev Lb k).length := by
      rw [hlen, Nat.div_lt_iff_lt_mul (Nat.two_pow_pos k), ← Nat.pow_add, show Dg.dp Lb.length - k + k = Dg.dp Lb.length by omega]
      omega
    have hev : (Dg.lev Lb k).length % 2 = 0 := by
      rw [hlen, show Dg.dp Lb.length - k = (Dg.dp Lb.length - k - 1) + 1 by omega, Nat.pow_succ]
      omega
    have hx := Dg.xor_lt ⟨(Dg.lev Lb k).length, by omega⟩ ⟨i / 2 ^ k, by omega⟩ hev hq
    simp only at hx
    rw [← hTn] at hlen2
    omega
end Go.Proofs.Ytlmaofibdjmkeaa
