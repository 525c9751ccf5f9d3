/- Lookups: the iterator of the program's Apply. -/
import Derived.Test.YtfbgbbbfpkpfkaaSb10
import Derived.Test.YtfbgbbbfpkpfkaaRng
import Derived.OwnWalkIn
import Derived.TacticsInMore
import Derived.LoopNIn
import Derived.LoopIn
import Derived.RangeFuncBound
import Derived.Deep.Onto
namespace Go.Proofs.Ytfbgbbbfpkpfkaa
open Go.RowKit

set_option maxRecDepth 100000 in
set_option maxHeartbeats 4000000 in
theorem steps1_any (l bg bx n : Nat) (ga : Option Addr) (gn gc : Nat) (g : List Int) (xa : Option Addr) (xn xc : Nat) (x : List Sub) (W : World) (hsm : Small x) (hgn : gn ≤ 1000000) (hgl : g.length = gn)
    (J : List (Nat × Int) → World → Prop) (hJ : ∀ L A B, J L A → Below A.heap.size A B → J L B) (h0 : J [] W)
    (hJr : ∀ L A, J L A → A.cell? ⟨bg, 0, none⟩ = some (.slice ga gn gc) ∧ A.cell? ⟨bx, 0, none⟩ = some (.slice xa xn xc) ∧ Lst Enc.int A (· < A.heap.size) ga gn g ∧ Lst Enc.sub A (· < A.heap.size) xa xn x)
    (hround : ∀ L (i : Nat) R W1, J L W1 → stepsS x g = L ++ (i, matchS x g i) :: R → i < gn →
      YieldAt Fence.wide (n - 1) Try.prog l #[.int .i64 (i : Int), .int .i64 (matchS x g i)] W1 fun e W' => e = .returned (.bool true) ∧ J (L ++ [(i, matchS x g i)]) W') :
    CallsIn Fence.wide n Try.prog 56 #[.func (.yield l) #[] #[], .pointer (some ⟨bg, 0, none⟩), .pointer (some ⟨bx, 0, none⟩)] W fun e W' => (∃ v, e = .returned v) ∧ J (stepsS x g) W' := by
  refine callsIn_of_wp Try.func56 rfl trivial ?_
  simp only [Try.ntmps56, List.size_toArray, List.length_cons, List.length_nil, Nat.reduceAdd, Nat.reduceSub, Array.replicate_succ, Array.replicate_zero, List.push_toArray, List.append_toArray, List.nil_append, List.cons_append]
  refine wpIn_wide.2 ?_
  replace hJ := hide hJ; replace h0 := hide h0; replace hJr := hide hJr; replace hround := hide hround; replace hgl := hide hgl
  go_wp2_with fail
  go_loopw [4] (fun v wr => ∃ (i f : Nat) (L : List (Nat × Int)), v = .int .i64 (i : Int) ∧ i ≤ gn ∧ stepsS x g = L ++ stepL x g f i ∧ gn ≤ i + f ∧ J L wr) (fun v _ => gn - (intOf v).toNat)
  case atStart => exact ⟨0, gn, [], rfl, by omega, by rw [← unhide hgl]; rfl, by omega, unhide h0⟩
  case round =>
    obtain ⟨i, f, L, rfl, hi, hst, hf, hjl⟩ := hrel
    obtain ⟨wo, rfl⟩ : ∃ wo : World, wo = wr := ⟨_, rfl⟩
    obtain ⟨cg, cx, lg, lx⟩ := unhide hJr L wo hjl
    have hxl := lx.1
    by_cases hlt : i < gn
    · obtain ⟨f, rfl⟩ : ∃ q, f = q + 1 := ⟨f - 1, by omega⟩
      have hst2 : stepL x g (f + 1) i = (i, matchS x g i) :: stepL x g f (nextI x g i) := by rw [stepL, if_pos (by rw [unhide hgl]; exact hlt)]
      rw [hst2] at hst
      have hgt := nextI_gt x g i
      have hle := nextI_le x g i (by rw [unhide hgl]; exact hlt)
      rw [unhide hgl] at hle
      have hst3 : stepsS x g = (L ++ [(i, matchS x g i)]) ++ stepL x g f (nextI x g i) := by rw [hst, List.append_assoc]; rfl
      have hmt := match_any xa xn xc x ga gn gc g (i : Int) wo lx lg hsm (by omega)
      have hinv := matchS_inv (x := x) (g := g) (i := (i : Int))
      have hnx : nextI x g i = if 0 ≤ matchS x g i then i + fromL x (matchS x g i) else i + 1 := rfl
      have hyield := fun W1 h => unhide hround L i _ W1 h hst hlt
      obtain ⟨m, hm⟩ : ∃ m, matchS x g (i : Int) = m := ⟨_, rfl⟩
      rw [hm] at hmt hinv hnx hst3 hyield
      clear hst2 hst lx lg
      replace hst3 := hide hst3; replace hmt := hide hmt; replace hinv := hide hinv; replace hnx := hide hnx; replace hgt := hide hgt; replace hle := hide hle; replace hyield := hide hyield; replace hjl := hide hjl; replace hm := hide hm; replace hxl := hide hxl
      go_wp2_with fail
      refine (unhide hmt).mono ?_
      rintro e w2 ⟨rfl, hb⟩
      have hj2 := unhide hJ L wo w2 (unhide hjl) hb
      obtain ⟨fn, tm, asg, bd, hy, hR⟩ := unhide hyield w2 hj2
      clear hmt hb hjl cg cx
      replace hj2 := hide hj2
      go_upto_region 4 with fail
      refine (wpIn_wide (n := n)).1 ?_
      gi_wp2
      refine ⟨fun h => (by cases h), ?_⟩
      refine hR.mono ?_
      rintro e W3 ⟨rfl, hJ3⟩
      obtain ⟨cg3, cx3, lg3, lx3⟩ := unhide hJr _ W3 hJ3
      clear hR hy hj2 hyield
      rcases unhide hinv with hm1 | ⟨q, s, hm1, hs, _, _⟩
      · subst hm1
        have hn2 := unhide hnx
        rw [if_neg (by decide)] at hn2
        have h3 := unhide hst3
        rw [hn2] at h3
        clear hnx hst3 hgt hle hinv hn2 lg3 lx3
        replace h3 := hide h3; replace hJ3 := hide hJ3
        gi_wp2
        go_wp2_with fail
        go_roundw
        case rel => exact ⟨i + 1, f, L ++ [(i, -1)], by go_num, by omega, unhide h3, by omega, unhide hJ3⟩
        case measure => simp [intOf]; omega
      · subst hm1
        have hql : q < xn := by rw [← unhide hxl]; exact (List.getElem?_eq_some_iff.1 hs).1
        have hsl : s.2.1.length ≤ 1000 := (hsm.2 s (List.mem_of_getElem? hs)).2.1
        have hn2 := unhide hnx
        rw [if_pos (by omega)] at hn2
        have hfl : fromL x (q : Int) = s.2.1.length := by unfold fromL; rw [Int.toNat_natCast, hs]
        rw [hfl] at hn2
        have h3 := unhide hst3
        have hgt' := unhide hgt
        have hle' := unhide hle
        rw [hn2] at h3 hgt' hle'
        obtain ⟨bs, os, s', a1, n1, c1, a2, n2, c2, a3, n3, c3, rfl, hSs, hs', ⟨_, _, _⟩, ⟨_, _, hl2⟩, ⟨_, _, _⟩, hti, k1, k2, k3, k4⟩ := lst_sub lx3 hql
        rw [hs] at hs'
        cases hs'
        have hn2l : s.2.1.length = n2 := hl2.1
        rw [hn2l] at h3 hgt' hle' hsl
        have t0 : (0 : Int) ≤ (q : Int) := by omega
        clear hnx hst3 hgt hle hinv hn2 hfl lg3 lx3 hl2 hs hn2l k1 k3 k4 hti
        replace h3 := hide h3; replace hJ3 := hide hJ3
        gi_wp2
        go_wp2_with fail
        go_roundw
        case rel => exact ⟨i + n2, f, L ++ [(i, (q : Int))], by go_num, by omega, unhide h3, by omega, unhide hJ3⟩
        case measure => simp [intOf]; omega
    · obtain rfl : i = gn := by omega
      rw [stepL_end x g f i (by rw [unhide hgl]; exact Nat.le_refl _), List.append_nil] at hst
      rw [← hst] at hjl
      replace hjl := hide hjl
      clear hst lg lx
      go_wp2_with fail
      go_end0
      exact ⟨⟨_, rfl⟩, unhide hjl⟩
end Go.Proofs.Ytfbgbbbfpkpfkaa
