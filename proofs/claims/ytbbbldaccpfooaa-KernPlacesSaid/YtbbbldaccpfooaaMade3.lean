/- The law's case: what its walk needs. -/
import Derived.Test.YtbbbldaccpfooaaMade1b
import Derived.Test.YtbbbldaccpfooaaKern1
import Derived.Deep.AppendSrc
import Derived.Deep.Upon
import Derived.Lib.AppendZeros
namespace Go.Proofs.Ytbbbldaccpfooaa
open Go.RowKit
abbrev ECase : Enc (List (List Int) × (List (Int × Int × Int) × (List Int × List Int))) := Enc.pair (Enc.list (Enc.list Enc.int)) (Enc.pair (Enc.list Enc.kern) (Enc.pair (Enc.list Enc.int) (Enc.list Enc.int)))
theorem case_open {w : World} {S : Nat → Prop} {cs : Array Value} {y : List (List Int) × (List (Int × Int × Int) × (List Int × List Int))} (h : ECase.rep w S cs.toList y) :
    ∃ fa fn fc ka kn kc ga gn gc sa sn sc, cs = #[.slice fa fn fc, .slice ka kn kc, .slice ga gn gc, .slice sa sn sc] ∧ fn ≤ maxLen ∧ kn ≤ maxLen ∧ gn ≤ maxLen ∧ sn ≤ maxLen ∧
      Lst (Enc.list Enc.int) w S fa fn y.1 ∧ Lst Enc.kern w S ka kn y.2.1 ∧ Lst Enc.int w S ga gn y.2.2.1 ∧ Lst Enc.int w S sa sn y.2.2.2 := by
  obtain ⟨a, b, h1, ⟨fa, fn, fc, h2, h3, h4, h5⟩, c, d, h6, ⟨ka, kn, kc, h7, h8, h9, h10⟩, e, f, h11, ⟨ga, gn, gc, h12, h13, h14, h15⟩, ⟨sa, sn, sc, h16, h17, h18, h19⟩⟩ := h
  refine ⟨fa, fn, fc, ka, kn, kc, ga, gn, gc, sa, sn, sc, ?_, by omega, by omega, by omega, by omega, h5, h10, h15, h19⟩
  apply Array.toList_inj.1
  rw [h1, h2, h6, h7, h11, h12, h16]
  rfl
/-- append of one row of kerning pairs to another one -/
theorem app_kern {base base' : Nat} {w : World} {v : Value} {n : Nat} {xs : List Value} (hv : w.ownsRow base 53 3 v n xs) {a : Option Addr} {m c : Nat} {ys : List Value} (hy : w.ownsRow base' 53 3 (.slice a m c) m ys) (hone : ∀ u ∈ ys, u.oneCell' = true) (hb : base ≤ w.heap.size) (h1 : n ≤ 100) (h2 : m ≤ 100) (ty : TypeId) :
    ∃ v' w', (Builtin.append_ #[23, 23] ty #[v, .slice a m c]).run Try.prog w = .ok v' w' ∧ w'.ownsRow base 53 3 v' (n + m) (xs ++ ys) ∧ w.grownBy w' v.ownBlock := by
  obtain ⟨i1, hi, hz0, hz1, hz2⟩ := info_parts T.info53
  have hl := hy.1
  rcases hy.2 with ⟨he, hm⟩ | ⟨g, cap, cur, he, hbg, hg, hmc, hcm, hcs, htk⟩
  · injection he with e1 e2 e3
    subst e1 e2 e3
    obtain ⟨va, vc, hve⟩ := own_shape hv
    have hle : n ≤ vc := by
      rcases hv.2 with ⟨h, h0⟩ | ⟨g, cap, cur, h, _, _, h0, _⟩
      · omega
      · rw [hve] at h; injection h with _ _ h; omega
    have hys : ys = [] := List.eq_nil_of_length_eq_zero (by omega)
    refine ⟨v, w, ?_, by rw [hys, List.append_nil]; exact hv, grown_of_below (Below.refl _ _) _⟩
    rw [hve]
    exact run_append_nothing (P := Try.prog) (ty := ty) w 23 23 53 i1 Try.underlying23 hi va n vc hle (.slice none 0 0) (Src.ofNil w Try.underlying23 0)
  · injection he with e1 e2 e3
    subst e1 e3
    obtain ⟨v', w', hr, ho, hgw, _⟩ := run_append_own (P := Try.prog) w base 23 ty 53 i1 _ 3 24 Try.underlying23 hi hz0 hz1 hz2 rfl (by decide) v n xs hv ⟨g, 0, none⟩ m c ys hl (fun j u hj => hy.cells rfl j u hj) hone (by unfold maxLen; omega) (by omega) hb
    exact ⟨v', w', hr, ho, hgw⟩
end Go.Proofs.Ytbbbldaccpfooaa
