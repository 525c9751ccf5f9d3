/- The reference's numbers of two words: product, less, plus, minus. -/
import Derived.Test.YthkppilelpaieaaWide2
namespace Go.Proofs.Ythkppilelpaieaa
open Go.RowKit

set_option maxHeartbeats 2000000 in
theorem product_any (x y : Nat) (a b : Int) (hxa : a = x) (hyb : b = y) (hx : x < 18446744073709551616) (hy : y < 18446744073709551616) (w : World) :
    Calls Try.prog 61 #[.int .u64 a, .int .u64 b] w fun e w' => e = .returned (.agg #[.int .u64 (hiW (x * y)), .int .u64 (loW (x * y))]) ∧ Below w.heap.size w w' := by
  subst hxa; subst hyb
  obtain ⟨bd, bt, bw, hhi⟩ := Lib.mul64_hi x y hx hy
  have ba := Lib.half_mul_le (a := x / 4294967296) (b := y / 4294967296) (by omega) (by omega)
  have bb := Lib.half_mul_le (a := x / 4294967296) (b := y % 4294967296) (by omega) (by omega)
  have bc := Lib.half_mul_le (a := x % 4294967296) (b := y / 4294967296) (by omega) (by omega)
  -- the parts under names
  have m1 := Num.maskN x hx
  have m2 := Num.maskN y hy
  have d1 := Num.divN x
  have d2 := Num.divN y
  obtain ⟨x1, hx1⟩ : ∃ x1, x1 = x / 4294967296 := ⟨_, rfl⟩
  obtain ⟨x0, hx0⟩ : ∃ x0, x0 = x % 4294967296 := ⟨_, rfl⟩
  obtain ⟨y1, hy1⟩ : ∃ y1, y1 = y / 4294967296 := ⟨_, rfl⟩
  obtain ⟨y0, hy0⟩ : ∃ y0, y0 = y % 4294967296 := ⟨_, rfl⟩
  rw [← hx0] at m1; rw [← hy0] at m2; rw [← hx1] at d1; rw [← hy1] at d2
  rw [← hx1, ← hx0, ← hy0] at bt
  rw [← hx1, ← hx0, ← hy1, ← hy0] at bw hhi
  rw [← hx0, ← hy0] at bd
  rw [← hx1, ← hy1] at ba
  rw [← hx1, ← hy0] at bb
  rw [← hx0, ← hy1] at bc
  have n1 : IntKind.u64.wrap ((x1 : Int) * (y0 : Int)) = ((x1 * y0 : Nat) : Int) := by rw [Num.mulN, Num.wrapN _ (by omega)]
  have n2 : IntKind.u64.wrap ((x0 : Int) * (y0 : Int)) = ((x0 * y0 : Nat) : Int) := by rw [Num.mulN, Num.wrapN _ (by omega)]
  have n3 : IntKind.u64.wrap ((x0 : Int) * (y1 : Int)) = ((x0 * y1 : Nat) : Int) := by rw [Num.mulN, Num.wrapN _ (by omega)]
  have n4 : IntKind.u64.wrap ((x1 : Int) * (y1 : Int)) = ((x1 * y1 : Nat) : Int) := by rw [Num.mulN, Num.wrapN _ (by omega)]
  have n5 : IntKind.u64.wrap ((x : Int) * (y : Int)) = loW (x * y) := by rw [Num.mulN, Num.wrapM]; rfl
  obtain ⟨p, hp⟩ : ∃ p, p = x1 * y0 := ⟨_, rfl⟩
  obtain ⟨q, hq⟩ : ∃ q, q = x0 * y0 := ⟨_, rfl⟩
  obtain ⟨r, hr⟩ : ∃ r, r = x0 * y1 := ⟨_, rfl⟩
  obtain ⟨s, hs⟩ : ∃ s, s = x1 * y1 := ⟨_, rfl⟩
  rw [← hp] at n1 bt bw hhi bb
  rw [← hq] at n2 bt bw hhi bd
  rw [← hr] at n3 bw hhi bc
  rw [← hs] at n4 hhi ba
  have d3 := Num.divN q
  have m3 : IntKind.u64.wrap ((p : Int) + ((q / 4294967296 : Nat) : Int)) = ((p + q / 4294967296 : Nat) : Int) := by rw [Num.addN, Num.wrapN _ bt]
  have m4 := Num.maskN _ bt
  have d4 := Num.divN (p + q / 4294967296)
  obtain ⟨q1, hq1⟩ : ∃ q1, q1 = q / 4294967296 := ⟨_, rfl⟩
  rw [← hq1] at d3 m3 m4 d4 hhi bw
  obtain ⟨mid, hmid⟩ : ∃ mid, mid = p + q1 := ⟨_, rfl⟩
  rw [← hmid] at m3 m4 d4 hhi bw
  obtain ⟨mh, hmh⟩ : ∃ mh, mh = mid / 4294967296 := ⟨_, rfl⟩
  obtain ⟨ml, hml⟩ : ∃ ml, ml = mid % 4294967296 := ⟨_, rfl⟩
  rw [← hmh] at d4 hhi
  rw [← hml] at m4 hhi bw
  have m5 : IntKind.u64.wrap ((r : Int) + (ml : Int)) = ((ml + r : Nat) : Int) := by rw [Num.addN, Nat.add_comm, Num.wrapN _ bw]
  have d5 := Num.divN (ml + r)
  obtain ⟨more, hmore⟩ : ∃ more, more = ml + r := ⟨_, rfl⟩
  rw [← hmore] at m5 d5 hhi
  obtain ⟨mm, hmm⟩ : ∃ mm, mm = more / 4294967296 := ⟨_, rfl⟩
  rw [← hmm] at d5 hhi
  have hlt : x * y / 18446744073709551616 < 18446744073709551616 := by
    rw [Nat.div_lt_iff_lt_mul (by omega)]
    exact Nat.mul_lt_mul_of_lt_of_lt hx hy
  rw [← hhi] at hlt
  have m6 : IntKind.u64.wrap ((s : Int) + (mh : Int)) = ((s + mh : Nat) : Int) := by rw [Num.addN, Num.wrapN _ (by omega)]
  have m7 : IntKind.u64.wrap (((s + mh : Nat) : Int) + (mm : Int)) = hiW (x * y) := by rw [Num.addN, Num.wrapN _ hlt, hhi]; rfl
  obtain ⟨u, hu⟩ : ∃ u, u = s + mh := ⟨_, rfl⟩
  rw [← hu] at m6 m7
  clear hlt hu hhi hmm hmore hml hmh hmid hq1 bw bt bd bb ba bc hp hq hr hs hx0 hx1 hy0 hy1 hx hy
  go_enter Try.func61, Try.ntmps61
  go_wp2
  refine bodyPost_ret (v := .agg #[.int .u64 (hiW (x * y)), .int .u64 (loW (x * y))]) (by simp [results, Try.results61, go_sem]) rfl ⟨rfl, ?_⟩
  first | exact ((Below.refl _ _).alloc (Nat.le_refl _) _) | exact (((Below.refl _ _).alloc (Nat.le_refl _) _).setCell (by simp) _)

end Go.Proofs.Ythkppilelpaieaa
