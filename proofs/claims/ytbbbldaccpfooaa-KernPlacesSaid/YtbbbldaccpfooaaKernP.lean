/- Plain laws of the pen. -/
import Derived.Test.YtbbbldaccpfooaaKern5
namespace Go.Proofs.Ytbbbldaccpfooaa
open Go.RowKit
theorem round64_add (p n : Int) : roundI (p + 64 * n) 64 = roundI p 64 + n := by
  unfold roundI
  have h1 : (p + 64 * n) % 64 = p % 64 := by omega
  have h2 : (p + 64 * n) / 64 = p / 64 + n := by omega
  rw [h1, h2]
  split <;> omega
theorem round64_mul (n : Int) : roundI (64 * n) 64 = n := by
  have := round64_add 0 n
  rw [show (0 : Int) + 64 * n = 64 * n by omega] at this
  rw [this]
  have h : roundI 0 64 = 0 := by decide
  omega
/-- the pen without bounds -/
def penI (av : List Int) (ks : List (Int × Int × Int)) (g sp : List Int) (size : Int) : Nat → Int
  | 0 => 0
  | k + 1 => penI av ks g sp size k + size * advS av (g.getD k 0) + (if k + 1 < g.length then size * findBy ks (g.getD k 0) (g.getD (k + 1) 0) else 0) + 64 * sp.getD k 0
theorem findBy_le (ks : List (Int × Int × Int)) (h : ∀ k ∈ ks, -100 ≤ k.2.2 ∧ k.2.2 ≤ 100) (x y : Int) : -100 ≤ findBy ks x y ∧ findBy ks x y ≤ 100 := by
  induction ks with
  | nil => unfold findBy; omega
  | cons k ks ih =>
    unfold findBy
    split
    · exact h k (by simp)
    · exact ih fun k hk => h k (by simp [hk])
theorem advS_le (av : List Int) (h : ∀ x ∈ av, 0 ≤ x ∧ x ≤ 52) (g : Int) : 0 ≤ advS av g ∧ advS av g ≤ 52 := by
  unfold advS
  split
  · omega
  · rename_i hn
    have hl : g.toNat < av.length := by omega
    rw [List.getD_eq_getElem?_getD, List.getElem?_eq_getElem hl]
    exact h _ (List.getElem_mem hl)
theorem getD_le (sp : List Int) (h : ∀ x ∈ sp, -20 ≤ x ∧ x ≤ 25) (k : Nat) : -20 ≤ sp.getD k 0 ∧ sp.getD k 0 ≤ 25 := by
  rw [List.getD_eq_getElem?_getD]
  cases hk : sp[k]? with
  | none => simp
  | some x => exact h x (List.mem_of_getElem? hk)
theorem mul_small {a b lo hi m : Int} (ha : 0 ≤ a) (ham : a ≤ m) (hlo : lo ≤ 0) (hhi : 0 ≤ hi) (h1 : lo ≤ b) (h2 : b ≤ hi) : m * lo ≤ a * b ∧ a * b ≤ m * hi := by
  have h3 : a * lo ≤ a * b := Int.mul_le_mul_of_nonneg_left h1 ha
  have h4 : a * b ≤ a * hi := Int.mul_le_mul_of_nonneg_left h2 ha
  have h5 : m * lo ≤ a * lo := Int.mul_le_mul_of_nonpos_right ham hlo
  have h6 : a * hi ≤ m * hi := Int.mul_le_mul_of_nonneg_right ham hhi
  omega
theorem wrap_id {x : Int} (h : -1000000 ≤ x ∧ x ≤ 1000000) : wrap64 x = x := by unfold wrap64; omega
theorem penI_next (av : List Int) (ks : List (Int × Int × Int)) (g sp : List Int) (size : Int) (k : Nat) : penI av ks g sp size (k + 1) = penI av ks g sp size k + size * advS av (g.getD k 0) + (if k + 1 < g.length then size * findBy ks (g.getD k 0) (g.getD (k + 1) 0) else 0) + 64 * sp.getD k 0 := rfl
theorem penS_eq (av : List Int) (ks : List (Int × Int × Int)) (g sp : List Int) (size : Int) (hav : ∀ x ∈ av, 0 ≤ x ∧ x ≤ 52) (hks : ∀ k ∈ ks, -100 ≤ k.2.2 ∧ k.2.2 ≤ 100) (hsp : ∀ x ∈ sp, -20 ≤ x ∧ x ≤ 25) (h0 : 0 ≤ size) (h1 : size ≤ 64) :
    ∀ k, k ≤ 10 → penS av ks g sp size k = penI av ks g sp size k ∧ -((k : Int) * 12000) ≤ penI av ks g sp size k ∧ penI av ks g sp size k ≤ (k : Int) * 12000 := by
  intro k
  induction k with
  | zero => intro _; exact ⟨rfl, by simp [penI], by simp [penI]⟩
  | succ k ih =>
    intro hk
    obtain ⟨e, l1, l2⟩ := ih (by omega)
    rw [penS_next, e, penI_next]
    have a1 := advS_le av hav (g.getD k 0)
    have a2 := findBy_le ks hks (g.getD k 0) (g.getD (k + 1) 0)
    have a3 := getD_le sp hsp k
    generalize advS av (g.getD k 0) = A at *
    generalize findBy ks (g.getD k 0) (g.getD (k + 1) 0) = B at *
    generalize penI av ks g sp size k = p at *
    have b1 := mul_small (lo := 0) (hi := 52) h0 h1 (by omega) (by omega) a1.1 a1.2
    have b2 := mul_small (lo := -100) (hi := 100) h0 h1 (by omega) (by omega) a2.1 a2.2
    generalize size * A = sA at *
    generalize size * B = sB at *
    have hs : ¬ k < sp.length → sp.getD k 0 = 0 := fun h => by rw [List.getD_eq_getElem?_getD, List.getElem?_eq_none (by omega)]; rfl
    generalize sp.getD k 0 = z at *
    have hk' : (k : Int) ≤ 9 := by omega
    have w1 : wrap64 sA = sA := wrap_id (by omega)
    have w2 : wrap64 sB = sB := wrap_id (by omega)
    have w3 : wrap64 (64 * z) = 64 * z := wrap_id (by omega)
    have w4 : wrap64 (p + sA) = p + sA := wrap_id (by omega)
    have w5 : wrap64 (p + sA + sB) = p + sA + sB := wrap_id (by omega)
    have w6 : wrap64 (p + sA + 64 * z) = p + sA + 64 * z := wrap_id (by omega)
    have w7 : wrap64 (p + sA + sB + 64 * z) = p + sA + sB + 64 * z := wrap_id (by omega)
    rw [w1, w2, w3, w4, w5]
    by_cases c1 : k + 1 < g.length <;> by_cases c2 : k < sp.length
    · simp only [c1, c2, if_true]
      rw [w7]
      omega
    · simp only [c1, c2, if_true, if_false]
      rw [hs c2]
      omega
    · simp only [c1, c2, if_true, if_false]
      rw [w6]
      omega
    · simp only [c1, c2, if_false]
      rw [hs c2]
      omega
/-- the law's pen at the size 64 -/
def penU (av : List Int) (ks : List (Int × Int × Int)) (g sp : List Int) : Nat → Int
  | 0 => 0
  | k + 1 => penU av ks g sp k + advS av (g.getD k 0) + sp.getD k 0 + (if k + 1 < g.length then findBy ks (g.getD k 0) (g.getD (k + 1) 0) else 0)
theorem penI_64 (av : List Int) (ks : List (Int × Int × Int)) (g sp : List Int) (k : Nat) : penI av ks g sp 64 k = 64 * penU av ks g sp k := by
  induction k with
  | zero => rfl
  | succ k ih =>
    rw [penI, penU, ih]
    split <;> omega
theorem pos_64 (av : List Int) (ks : List (Int × Int × Int)) (g sp : List Int) (hav : ∀ x ∈ av, 0 ≤ x ∧ x ≤ 52) (hks : ∀ k ∈ ks, -100 ≤ k.2.2 ∧ k.2.2 ≤ 100) (hsp : ∀ x ∈ sp, -20 ≤ x ∧ x ≤ 25) (k : Nat) (hk : k ≤ 10) :
    roundI (penS av ks g sp 64 k) 64 = penU av ks g sp k ∧ -120000 ≤ penU av ks g sp k ∧ penU av ks g sp k ≤ 120000 := by
  obtain ⟨h, h1, h2⟩ := penS_eq av ks g sp 64 hav hks hsp (by omega) (by omega) k hk
  rw [penI_64] at h1 h2
  rw [h, penI_64, round64_mul]
  have : (k : Int) ≤ 10 := by omega
  omega
/-- more space after one glyph -/
theorem penI_more (av : List Int) (ks : List (Int × Int × Int)) (g sp more : List Int) (size : Int) (i : Nat) (n : Int) (hm : ∀ k, k < g.length → more.getD k 0 = sp.getD k 0 + (if k = i then n else 0)) :
    ∀ k, k ≤ g.length → penI av ks g more size k = penI av ks g sp size k + (if i < k then 64 * n else 0) := by
  intro k
  induction k with
  | zero => intro _; simp [penI]
  | succ k ih =>
    intro hk
    rw [penI_next, penI_next, ih (by omega), hm k (by omega)]
    generalize (if k + 1 < g.length then size * findBy ks (g.getD k 0) (g.getD (k + 1) 0) else 0) = A
    by_cases h1 : k = i
    · subst h1
      have h3 : ¬ k < k := by omega
      have h4 : k < k + 1 := by omega
      simp only [h3, h4, if_true, if_false]
      omega
    · by_cases h2 : i < k
      · have h4 : i < k + 1 := by omega
        simp only [h1, h2, h4, if_true, if_false]
        omega
      · have h4 : ¬ i < k + 1 := by omega
        simp only [h1, h2, h4, if_false]
        omega
theorem pos_more (av : List Int) (ks : List (Int × Int × Int)) (g sp more : List Int) (size : Int) (i : Nat) (n : Int) (hav : ∀ x ∈ av, 0 ≤ x ∧ x ≤ 52) (hks : ∀ k ∈ ks, -100 ≤ k.2.2 ∧ k.2.2 ≤ 100) (hsp : ∀ x ∈ sp, -20 ≤ x ∧ x ≤ 25) (hmo : ∀ x ∈ more, -20 ≤ x ∧ x ≤ 25)
    (h0 : 0 ≤ size) (h1 : size ≤ 64) (hg : g.length ≤ 10) (hm : ∀ k, k < g.length → more.getD k 0 = sp.getD k 0 + (if k = i then n else 0)) (k : Nat) (hk : k ≤ g.length) :
    roundI (penS av ks g more size k) 64 = roundI (penS av ks g sp size k) 64 + (if i < k then n else 0) := by
  rw [(penS_eq av ks g more size hav hks hmo h0 h1 k (by omega)).1, (penS_eq av ks g sp size hav hks hsp h0 h1 k (by omega)).1, penI_more av ks g sp more size i n hm k hk]
  by_cases h2 : i < k
  · rw [if_pos h2, if_pos h2, round64_add]
  · rw [if_neg h2, if_neg h2, Int.add_zero, Int.add_zero]
theorem pos_small (av : List Int) (ks : List (Int × Int × Int)) (g sp : List Int) (size : Int) (hav : ∀ x ∈ av, 0 ≤ x ∧ x ≤ 52) (hks : ∀ k ∈ ks, -100 ≤ k.2.2 ∧ k.2.2 ≤ 100) (hsp : ∀ x ∈ sp, -20 ≤ x ∧ x ≤ 25) (h0 : 0 ≤ size) (h1 : size ≤ 64) (k : Nat) (hk : k ≤ 10) :
    -200000 ≤ roundI (penS av ks g sp size k) 64 ∧ roundI (penS av ks g sp size k) 64 ≤ 200000 := by
  obtain ⟨h, l1, l2⟩ := penS_eq av ks g sp size hav hks hsp h0 h1 k hk
  rw [h]
  have : (k : Int) ≤ 10 := by omega
  unfold roundI
  split <;> omega
/-- a beginning -/
theorem penS_take (av : List Int) (ks : List (Int × Int × Int)) (g sp : List Int) (size : Int) (n : Nat) (hn : n ≤ g.length) : ∀ k, k < n → penS av ks (g.take n) sp size k = penS av ks g sp size k := by
  intro k
  induction k with
  | zero => intro _; rfl
  | succ k ih =>
    intro hk
    rw [penS_next, penS_next, ih (by omega)]
    have e1 : (g.take n).getD k 0 = g.getD k 0 := by rw [List.getD_eq_getElem?_getD, List.getD_eq_getElem?_getD, List.getElem?_take_of_lt (by omega)]
    have e2 : (g.take n).getD (k + 1) 0 = g.getD (k + 1) 0 := by rw [List.getD_eq_getElem?_getD, List.getD_eq_getElem?_getD, List.getElem?_take_of_lt hk]
    have e3 : (g.take n).length = n := by rw [List.length_take]; omega
    have c1 : k + 1 < n := hk
    have c2 : k + 1 < g.length := by omega
    rw [e1, e2, e3]
    simp only [c1, c2, if_true]
theorem penS_last (av : List Int) (ks : List (Int × Int × Int)) (g sp : List Int) (size : Int) (n : Nat) (hn : n + 1 < g.length) (h : findBy ks (g.getD n 0) (g.getD (n + 1) 0) = 0) : penS av ks (g.take (n + 1)) sp size (n + 1) = penS av ks g sp size (n + 1) := by
  rw [penS_next, penS_next, penS_take av ks g sp size (n + 1) (by omega) n (by omega)]
  have e1 : (g.take (n + 1)).getD n 0 = g.getD n 0 := by rw [List.getD_eq_getElem?_getD, List.getD_eq_getElem?_getD, List.getElem?_take_of_lt (by omega)]
  have e3 : (g.take (n + 1)).length = n + 1 := by rw [List.length_take]; omega
  have c1 : ¬ n + 1 < n + 1 := by omega
  rw [e1, e3, h, Int.mul_zero]
  simp only [c1, hn, if_true, if_false]
  have w0 : wrap64 0 = 0 := by unfold wrap64; omega
  have hw : ∀ x : Int, wrap64 (wrap64 x + wrap64 0) = wrap64 x := fun x => by rw [w0]; unfold wrap64; omega
  rw [hw]
end Go.Proofs.Ytbbbldaccpfooaa
