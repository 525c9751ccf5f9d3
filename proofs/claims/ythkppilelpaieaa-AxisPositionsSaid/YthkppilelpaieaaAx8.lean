/- Axes: positions; the reference's normal and Normal; User, both. -/
import Derived.Test.YthkppilelpaieaaAx7
import Derived.Test.YthkppilelpaieaaFrontG
namespace Go.Proofs.Ythkppilelpaieaa
open Go.RowKit
/-- a valid axis -/
def AxV (a : Axis) : Prop := tagS a.1 = true ∧ -1000 ≤ a.2.1 ∧ a.2.1 ≤ a.2.2.1 ∧ a.2.2.1 ≤ a.2.2.2 ∧ a.2.2.2 ≤ 1000
theorem axErr_v {l : List Axis} {a : Axis} (h : axErr l a = 0) : AxV a := by
  unfold axErr at h
  split at h
  · cases h
  · rename_i h1
    split at h
    · cases h
    · split at h
      · cases h
      · rename_i h3
        split at h
        · cases h
        · rename_i h4
          have h1' : tagS a.1 = true := by cases e : tagS a.1 <;> simp_all
          have n1 : near a.2.1 = true := by cases e : near a.2.1 <;> simp_all
          have n3 : near a.2.2.2 = true := by cases e : near a.2.2.2 <;> simp_all
          have g1 := of_decide_eq_true n1
          have g3 := of_decide_eq_true n3
          exact ⟨h1', g1.1, by omega, by omega, g3.2⟩
theorem errFrom_zero {l : List Axis} : ∀ (f k : Nat), errFrom l f k = 0 → ∀ i, k ≤ i → i < k + f → errAt l i = 0 := by
  intro f
  induction f with
  | zero => intro k _ i h1 h2; omega
  | succ f ih =>
    intro k h i h1 h2
    rw [errFrom] at h
    by_cases he : errAt l k = 0
    · rw [if_pos he] at h
      by_cases hi : i = k
      · rw [hi]; exact he
      · exact ih (k + 1) h i (by omega) (by omega)
    · rw [if_neg he] at h
      exact absurd h he
theorem axCheck_v {l : List Axis} (h : axCheck l = 0) : l.length ≤ 3 ∧ ∀ (k : Nat) a, l[k]? = some a → AxV a := by
  unfold axCheck at h
  split at h
  · cases h
  · refine ⟨by omega, fun k a hk => ?_⟩
    have hlt := (List.getElem?_eq_some_iff.1 hk).1
    have := errFrom_zero _ _ h k (by omega) (by omega)
    unfold errAt at this
    rw [hk] at this
    exact axErr_v this
def clampI (lo hi u : Int) : Int := if lo < (if hi < u then hi else u) then (if hi < u then hi else u) else lo
theorem clampI_rng {lo hi u : Int} (h : lo ≤ hi) : lo ≤ clampI lo hi u ∧ clampI lo hi u ≤ hi := by unfold clampI; split <;> split <;> omega
/-- the normalized position on a valid axis -/
def normU (lo us hi u : Int) : Int := if u < us then -(roundI (64 * (us - u)) (us - lo)) else if us < u then roundI (64 * (u - us)) (hi - us) else 0
def normA (a : Axis) (u : Int) : Int := normU a.2.1 a.2.2.1 a.2.2.2 (clampI a.2.1 a.2.2.2 u)
theorem normA_i64 {a : Axis} (h : AxV a) (u : Int) : -200000 ≤ normA a u ∧ normA a u ≤ 200000 := by
  obtain ⟨_, h1, h2, h3, h4⟩ := h
  obtain ⟨c1, c2⟩ := clampI_rng (u := u) (show a.2.1 ≤ a.2.2.2 by omega)
  unfold normA normU
  generalize clampI a.2.1 a.2.2.2 u = q at *
  split
  · have := roundI_near (a := 64 * (a.2.2.1 - q)) (b := a.2.2.1 - a.2.1) (by omega) 128000 (by omega)
    omega
  · split
    · have := roundI_near (a := 64 * (q - a.2.2.1)) (b := a.2.2.2 - a.2.2.1) (by omega) 128000 (by omega)
      omega
    · omega
set_option maxHeartbeats 2000000 in
theorem rnormal_any (a : Axis) (u : Int) (w : World) (h : AxV a) :
    Calls Try.prog 25 #[.agg #[.string a.1, .int .i64 a.2.1, .int .i64 a.2.2.1, .int .i64 a.2.2.2], .int .i64 u] w fun e w' => e = .returned (.int .i64 (normA a u)) ∧ Below w.heap.size w w' := by
  obtain ⟨s, lo, us, hi⟩ := a
  obtain ⟨_, h1, h2, h3, h4⟩ := h
  simp only at h1 h2 h3 h4
  obtain ⟨c1, c2⟩ := clampI_rng (u := u) (show lo ≤ hi by omega)
  show Calls _ _ #[.agg #[.string s, .int .i64 lo, .int .i64 us, .int .i64 hi], .int .i64 u] w fun e w' => e = .returned (.int .i64 (normU lo us hi (clampI lo hi u))) ∧ Below w.heap.size w w'
  obtain ⟨q, hq⟩ : ∃ q, clampI lo hi u = q := ⟨_, rfl⟩
  rw [hq] at c1 c2 ⊢
  obtain ⟨bx, V, hbx, hV, st⟩ := (St.start w).new (Obj.cells #[.string s, .int .i64 lo, .int .i64 us, .int .i64 hi] 29)
  have d0 := st.cell 0 rfl 0 (v := .string s) rfl
  have d1 := st.cell 0 rfl 1 (v := .int .i64 lo) rfl
  have d2 := st.cell 0 rfl 2 (v := .int .i64 us) rfl
  have d3 := st.cell 0 rfl 3 (v := .int .i64 hi) rfl
  have hb := st.below
  clear st
  have x1 : IntKind.i64.wrap (us - q) = us - q := IntWalk.i64_in _ (by omega)
  have x2 : IntKind.i64.wrap (64 * (us - q)) = 64 * (us - q) := IntWalk.i64_in _ (by omega)
  have x3 : IntKind.i64.wrap (us - lo) = us - lo := IntWalk.i64_in _ (by omega)
  have x4 : IntKind.i64.wrap (q - us) = q - us := IntWalk.i64_in _ (by omega)
  have x5 : IntKind.i64.wrap (64 * (q - us)) = 64 * (q - us) := IntWalk.i64_in _ (by omega)
  have x6 : IntKind.i64.wrap (hi - us) = hi - us := IntWalk.i64_in _ (by omega)
  replace hV := hide hV; replace hbx := hide hbx; replace hb := hide hb
  replace hq := hide hq
  go_enter Try.func25, Try.ntmps25
  go_upto_region 1 with fail
  rw [unhide hV, unhide hbx]
  go_cut [1] (fun v wr => v = .int .i64 q ∧ wr = V)
  case first =>
    by_cases e1 : hi < u
    · by_cases e2 : lo < hi
      · have hv : q = hi := by rw [← unhide hq]; unfold clampI; rw [if_pos e1, if_pos e2]
        go_wp2_with fail
        go_meet
        exact ⟨by rw [hv], rfl⟩
      · have hv : q = lo := by rw [← unhide hq]; unfold clampI; rw [if_pos e1, if_neg e2]
        go_wp2_with fail
        go_meet
        exact ⟨by rw [hv], rfl⟩
    · by_cases e2 : lo < u
      · have hv : q = u := by rw [← unhide hq]; unfold clampI; rw [if_neg e1, if_pos e2]
        go_wp2_with fail
        go_meet
        exact ⟨by rw [hv], rfl⟩
      · have hv : q = lo := by rw [← unhide hq]; unfold clampI; rw [if_neg e1, if_neg e2]
        go_wp2_with fail
        go_meet
        exact ⟨by rw [hv], rfl⟩
  case rest =>
  obtain ⟨rfl, hwc⟩ := hcut
  rw [hwc]
  clear hwc
  by_cases g1 : q < us
  · have hc := round_any (64 * (us - q)) (us - lo) V ⟨by omega, by omega⟩ (by omega) (by omega)
    have hr := roundI_near (a := 64 * (us - q)) (b := us - lo) (by omega) 128000 (by omega)
    have hfin : normU lo us hi q = -(roundI (64 * (us - q)) (us - lo)) := if_pos g1
    obtain ⟨r, hr'⟩ : ∃ r, roundI (64 * (us - q)) (us - lo) = r := ⟨_, rfl⟩
    rw [hr'] at hc hr hfin
    have x7 : IntKind.i64.wrap (-r) = -r := IntWalk.i64_in _ (by omega)
    have x8 : wrap64 (-r) = -r := IntWalk.wrap64_in _ (by omega)
    clear hr' hr
    replace hc := hide hc; replace hfin := hide hfin
    go_wp2_with fail
    refine (unhide hc).mono ?_
    rintro e w2 ⟨rfl, hb2⟩
    have hbz := (unhide hb).trans (hb2.mono (unhide hb).size)
    clear hc hb2 hb
    replace hbz := hide hbz
    go_wp2_with fail
    go_ret
    exact ⟨ret_int (unhide hfin).symm, unhide hbz⟩
  · by_cases g2 : us < q
    · have hc := round_any (64 * (q - us)) (hi - us) V ⟨by omega, by omega⟩ (by omega) (by omega)
      have hfin : normU lo us hi q = roundI (64 * (q - us)) (hi - us) := by unfold normU; rw [if_neg g1, if_pos g2]
      obtain ⟨r, hr'⟩ : ∃ r, roundI (64 * (q - us)) (hi - us) = r := ⟨_, rfl⟩
      rw [hr'] at hc hfin
      clear hr'
      replace hc := hide hc; replace hfin := hide hfin
      go_wp2_with fail
      refine (unhide hc).mono ?_
      rintro e w2 ⟨rfl, hb2⟩
      have hbz := (unhide hb).trans (hb2.mono (unhide hb).size)
      clear hc hb2 hb
      replace hbz := hide hbz
      go_wp2_with fail
      go_ret
      exact ⟨ret_int (unhide hfin).symm, unhide hbz⟩
    · have hfin : normU lo us hi q = 0 := by unfold normU; rw [if_neg g1, if_neg g2]
      replace hfin := hide hfin
      go_wp2_with fail
      go_ret
      exact ⟨ret_int (unhide hfin).symm, unhide hb⟩
end Go.Proofs.Ythkppilelpaieaa
