/- The reference's numbers of two words: product, less, plus, minus. -/
import Derived.Test.YtfegkaflemcanaaWide2
namespace Go.Proofs.Ytfegkaflemcanaa
open Go.RowKit

set_option maxHeartbeats 2000000 in
theorem product_any (x y : Nat) (a b : Int) (hxa : a = x) (hyb : b = y) (hx : x < 18446744073709551616) (hy : y < 18446744073709551616) (w : World) :
    Calls Try.prog 40 #[.int .u64 a, .int .u64 b] w fun e w' => e = .returned (.agg #[.int .u64 (hiW (x * y)), .int .u64 (loW (x * y))]) ∧ Below w.heap.size w w' := by
  subst hxa; subst hyb
  obtain ⟨bd, bt, bw, hhi⟩ := Lib.mul64_hi x y hx hy
  have ba := Lib.half_mul_le (a := x / 4294967296) (b := y / 4294967296) (by omega) (by omega)
  have bb := Lib.half_mul_le (a := x / 4294967296) (b := y % 4294967296) (by omega) (by omega)
  have bc := Lib.half_mul_le (a := x % 4294967296) (b := y / 4294967296) (by omega) (by omega)
  -- the parts under names
  have m1 := Num.maskN x hx
  have m2 := Num.maskN y hy
  have d1 := Num.divN x
  have d2 := Num.divN y
  obtain ⟨x1, hx1⟩ : ∃ x1, x1 = x / 4294967296 := ⟨_, rfl⟩
  obtain ⟨x0, hx0⟩ : ∃ x0, x0 = x % 4294967296 := ⟨_, rfl⟩
  obtain ⟨y1, hy1⟩ : ∃ y1, y1 = y / 4294967296 := ⟨_, rfl⟩
  obtain ⟨y0, hy0⟩ : ∃ y0, y0 = y % 4294967296 := ⟨_, rfl⟩
  rw [← hx0] at m1; rw [← hy0] at m2; rw [← hx1] at d1; rw [← hy1] at d2
  rw [← hx1, ← hx0, ← hy0] at bt
  rw [← hx1, ← hx0, ← hy1, ← hy0] at bw hhi
  rw [← hx0, ← hy0] at bd
  rw [← hx1, ← hy1] at ba
  rw [← hx1, ← hy0] at bb
  rw [← hx0, ← hy1] at bc
  have n1 : IntKind.u64.wrap ((x1 : Int) * (y0 : Int)) = ((x1 * y0 : Nat) : Int) := by rw [Num.mulN, Num.wrapN _ (by omega)]
  have n2 : IntKind.u64.wrap ((x0 : Int) * (y0 : Int)) = ((x0 * y0 : Nat) : Int) := by rw [Num.mulN, Num.wrapN _ (by omega)]
  have n3 : IntKind.u64.wrap ((x0 : Int) * (y1 : Int)) = ((x0 * y1 : Nat) : Int) := by rw [Num.mulN, Num.wrapN _ (by omega)]
  have n4 : IntKind.u64.wrap ((x1 : Int) * (y1 : Int)) = ((x1 * y1 : Nat) : Int) := by rw [Num.mulN, Num.wrapN _ (by omega)]
  have n5 : IntKind.u64.wrap ((x : Int) * (y : Int)) = loW (x * y) := by rw [Num.mulN, Num.wrapM]; rfl
  obtain ⟨p, hp⟩ : ∃ p, p = x1 * y0 := ⟨_, rfl⟩
  obtain ⟨q, hq⟩ : ∃ q, q = x0 * y0 := ⟨_, rfl⟩
  obtain ⟨r, hr⟩ : ∃ r, r = x0 * y1 := ⟨_, rfl⟩
  obtain ⟨s, hs⟩ : ∃ s, s = x1 * y1 := ⟨_, rfl⟩
  rw [← hp] at n1 bt bw hhi bb
  rw [← hq] at n2 bt bw hhi bd
  rw [← hr] at n3 bw hhi bc
  rw [← hs] at n4 hhi ba
  have d3 := Num.divN q
  have m3 : IntKind.u64.wrap ((p : Int) + ((q / 4294967296 : Nat) : Int)) = ((p + q / 4294967296 : Nat) : Int) := by rw [Num.addN, Num.wrapN _ bt]
  have m4 := Num.maskN _ bt
  have d4 := Num.divN (p + q / 4294967296)
  obtain ⟨q1, hq1⟩ : ∃ q1, q1 = q / 4294967296 := ⟨_, rfl⟩
  rw [← hq1] at d3 m3 m4 d4 hhi bw
  obtain ⟨mid, hmid⟩ : ∃ mid, mid = p + q1 := ⟨_, rfl⟩
  rw [← hmid] at m3 m4 d4 hhi bw
  obtain ⟨mh, hmh⟩ : ∃ mh, mh = mid / 4294967296 := ⟨_, rfl⟩
  obtain ⟨ml, hml⟩ : ∃ ml, ml = mid % 4294967296 := ⟨_, rfl⟩
  rw [← hmh] at d4 hhi
  rw [← hml] at m4 hhi bw
  have m5 : IntKind.u64.wrap ((r : Int) + (ml : Int)) = ((ml + r : Nat) : Int) := by rw [Num.addN, Nat.add_comm, Num.wrapN _ bw]
  have d5 := Num.divN (ml + r)
  obtain ⟨more, hmore⟩ : ∃ more, more = ml + r := ⟨_, rfl⟩
  rw [← hmore] at m5 d5 hhi
  obtain ⟨mm, hmm⟩ : ∃ mm, mm = more / 4294967296 := ⟨_, rfl⟩
  rw [← hmm] at d5 hhi
  have hlt : x * y / 18446744073709551616 < 18446744073709551616 := by
    rw [Nat.div_lt_iff_lt_mul (by omega)]
    exact Nat.mul_lt_mul_of_lt_of_lt hx hy
  rw [← hhi] at hlt
  have m6 : IntKind.u64.wrap ((s : Int) + (mh : Int)) = ((s + mh : Nat) : Int) := by rw [Num.addN, Num.wrapN _ (by omega)]
  have m7 : IntKind.u64.wrap (((s + mh : Nat) : Int) + (mm : Int)) = hiW (x * y) := by rw [Num.addN, Num.wrapN _ hlt, hhi]; rfl
  obtain ⟨u, hu⟩ : ∃ u, u = s + mh := ⟨_, rfl⟩
  rw [← hu] at m6 m7
  clear hlt hu hhi hmm hmore hml hmh hmid hq1 bw bt bd bb ba bc hp hq hr hs hx0 hx1 hy0 hy1 hx hy
  go_enter Try.func40, Try.ntmps40
  go_wp2
  refine bodyPost_ret (v := .agg #[.int .u64 (hiW (x * y)), .int .u64 (loW (x * y))]) (by simp [results, Try.results40, go_sem]) rfl ⟨rfl, ?_⟩
  first | exact ((Below.refl _ _).alloc (Nat.le_refl _) _) | exact (((Below.refl _ _).alloc (Nat.le_refl _) _).setCell (by simp) _)

theorem less_any (m n : Nat) (a b c d : Int) (w : World) (ha : a = hiW m) (hb : b = loW m) (hc : c = hiW n) (hd : d = loW n) :
    Calls Try.prog 49 #[.agg #[.int .u64 a, .int .u64 b], .agg #[.int .u64 c, .int .u64 d]] w fun e w' => e = .returned (.bool (decide (m < n))) ∧ Below w.heap.size w w' := by
  subst ha; subst hb; subst hc; subst hd
  have hb : ∀ o1 o2, Below w.heap.size w ((w.alloc o1).alloc o2) := fun o1 o2 => ((Below.refl _ _).alloc (Nat.le_refl _) _).alloc (by simp) _
  by_cases h1 : hiW m < hiW n
  · have hd : decide (m < n) = true := by unfold hiW at h1; simp; omega
    have t1 : decide (hiW m < hiW n) = true := by simpa using h1
    rw [hd]
    go_enter Try.func49, Try.ntmps49
    go_wp2
    go_ret
    exact ⟨rfl, hb _ _⟩
  · have t1 : decide (hiW m < hiW n) = false := by simpa using h1
    by_cases h2 : hiW m = hiW n
    · have hd : decide (m < n) = decide (loW m < loW n) := by unfold hiW at h2; unfold loW; rw [Bool.eq_iff_iff]; simp; omega
      rw [hd]
      rw [h2] at t1 ⊢
      have t2 : (hiW n == hiW n) = true := by simp
      clear h1 h2 hd
      go_enter Try.func49, Try.ntmps49
      go_wp2
      go_ret
      exact ⟨rfl, hb _ _⟩
    · have hd : decide (m < n) = false := by unfold hiW at h2 h1; simp; omega
      have t2 : (hiW m == hiW n) = false := by simpa using h2
      rw [hd]
      go_enter Try.func49, Try.ntmps49
      go_wp2
      go_ret
      exact ⟨rfl, hb _ _⟩

set_option maxHeartbeats 2000000 in
theorem rplus_any (m n : Nat) (a b c d : Int) (w : World) (ha : a = hiW m) (hb : b = loW m) (hc : c = hiW n) (hd : d = loW n) (hlt : m + n < 340282366920938463463374607431768211456) :
    Calls Try.prog 41 #[.agg #[.int .u64 a, .int .u64 b], .agg #[.int .u64 c, .int .u64 d]] w fun e w' => e = .returned (.agg #[.int .u64 (hiW (m + n)), .int .u64 (loW (m + n))]) ∧ Below w.heap.size w w' := by
  subst ha; subst hb; subst hc; subst hd
  have e1 : IntKind.u64.wrap (loW m + loW n) = loW (m + n) := by unfold loW; rw [IntKind.wrap_u64]; omega
  have hbw : ∀ o1 o2 o3 o4, Below w.heap.size w ((((w.alloc o1).alloc o2).alloc o3).alloc o4) := fun o1 o2 o3 o4 => ((((Below.refl _ _).alloc (Nat.le_refl _) _).alloc (by simp) _).alloc (by simp; omega) _).alloc (by simp; omega) _
  by_cases h : loW (m + n) < loW m
  · have e2 : IntKind.u64.wrap (IntKind.u64.wrap (hiW m + hiW n) + 1) = hiW (m + n) := by unfold loW at h; unfold hiW; simp only [IntKind.wrap_u64]; omega
    obtain ⟨x, hx⟩ : ∃ x, IntKind.u64.wrap (hiW m + hiW n) = x := ⟨_, rfl⟩
    rw [hx] at e2
    clear hlt
    go_enter Try.func41, Try.ntmps41
    go_wp2
    refine bodyPost_ret (v := .agg #[.int .u64 (hiW (m + n)), .int .u64 (loW (m + n))]) (by simp [results, Try.results41, go_sem]) rfl ⟨rfl, ?_⟩
    first | exact hbw _ _ _ _ | exact (hbw _ _ _ _).setCell (by simp; omega) _ | exact ((hbw _ _ _ _).setCell (by simp; omega) _).setCell (by simp; omega) _ | exact (((hbw _ _ _ _).setCell (by simp; omega) _).setCell (by simp; omega) _).setCell (by simp; omega) _
  · have h' : loW m ≤ loW (m + n) := by omega
    have e2 : IntKind.u64.wrap (hiW m + hiW n) = hiW (m + n) := by unfold loW at h'; unfold hiW; rw [IntKind.wrap_u64]; omega
    clear hlt h
    go_enter Try.func41, Try.ntmps41
    go_wp2
    refine bodyPost_ret (v := .agg #[.int .u64 (hiW (m + n)), .int .u64 (loW (m + n))]) (by simp [results, Try.results41, go_sem]) rfl ⟨rfl, ?_⟩
    first | exact hbw _ _ _ _ | exact (hbw _ _ _ _).setCell (by simp; omega) _ | exact ((hbw _ _ _ _).setCell (by simp; omega) _).setCell (by simp; omega) _ | exact (((hbw _ _ _ _).setCell (by simp; omega) _).setCell (by simp; omega) _).setCell (by simp; omega) _

set_option maxHeartbeats 2000000 in
theorem rminus_any (m n : Nat) (a b c d : Int) (w : World) (ha : a = hiW m) (hb : b = loW m) (hc : c = hiW n) (hd : d = loW n) (hlt : n ≤ m) (hm : m < 340282366920938463463374607431768211456) :
    Calls Try.prog 50 #[.agg #[.int .u64 a, .int .u64 b], .agg #[.int .u64 c, .int .u64 d]] w fun e w' => e = .returned (.agg #[.int .u64 (hiW (m - n)), .int .u64 (loW (m - n))]) ∧ Below w.heap.size w w' := by
  subst ha; subst hb; subst hc; subst hd
  have e1 : IntKind.u64.wrap (loW m - loW n) = loW (m - n) := by unfold loW; rw [IntKind.wrap_u64]; omega
  have hbw : ∀ o1 o2 o3 o4, Below w.heap.size w ((((w.alloc o1).alloc o2).alloc o3).alloc o4) := fun o1 o2 o3 o4 => ((((Below.refl _ _).alloc (Nat.le_refl _) _).alloc (by simp) _).alloc (by simp; omega) _).alloc (by simp; omega) _
  by_cases h : loW m < loW n
  · have e2 : IntKind.u64.wrap (IntKind.u64.wrap (hiW m - hiW n) - 1) = hiW (m - n) := by unfold loW at h; unfold hiW; simp only [IntKind.wrap_u64]; omega
    obtain ⟨x, hx⟩ : ∃ x, IntKind.u64.wrap (hiW m - hiW n) = x := ⟨_, rfl⟩
    rw [hx] at e2
    clear hlt hm
    go_enter Try.func50, Try.ntmps50
    go_wp2
    refine bodyPost_ret (v := .agg #[.int .u64 (hiW (m - n)), .int .u64 (loW (m - n))]) (by simp [results, Try.results50, go_sem]) rfl ⟨rfl, ?_⟩
    first | exact hbw _ _ _ _ | exact (hbw _ _ _ _).setCell (by simp; omega) _ | exact ((hbw _ _ _ _).setCell (by simp; omega) _).setCell (by simp; omega) _ | exact (((hbw _ _ _ _).setCell (by simp; omega) _).setCell (by simp; omega) _).setCell (by simp; omega) _
  · have h' : loW n ≤ loW m := by omega
    have e2 : IntKind.u64.wrap (hiW m - hiW n) = hiW (m - n) := by unfold loW at h'; unfold hiW; rw [IntKind.wrap_u64]; omega
    clear hlt h hm
    go_enter Try.func50, Try.ntmps50
    go_wp2
    refine bodyPost_ret (v := .agg #[.int .u64 (hiW (m - n)), .int .u64 (loW (m - n))]) (by simp [results, Try.results50, go_sem]) rfl ⟨rfl, ?_⟩
    first | exact hbw _ _ _ _ | exact (hbw _ _ _ _).setCell (by simp; omega) _ | exact ((hbw _ _ _ _).setCell (by simp; omega) _).setCell (by simp; omega) _ | exact (((hbw _ _ _ _).setCell (by simp; omega) _).setCell (by simp; omega) _).setCell (by simp; omega) _
end Go.Proofs.Ytfegkaflemcanaa
