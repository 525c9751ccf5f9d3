/- Kerning pairs as a map: what it holds. -/
import Derived.Test.YtbbbldaccpfooaaKern2
import Derived.Test.YtbbbldaccpfooaaKern1
import Derived.Test.YtbbbldaccpfooaaLaw
import Derived.Maps.Own
import Derived.Maps.OwnOps
import Derived.Maps.OwnSet
import Derived.Maps.Views
import Derived.DeepKeys4
namespace Go.Proofs.Ytbbbldaccpfooaa
open Go.RowKit Go.Maps
theorem wide57 : (match Try.prog.underlying 57 with | some (.array _ _) | some (.struct _) => true | _ => false) = true := by rw [Try.underlying57]
set_option maxRecDepth 100000 in
theorem row57 : (57 : TypeId) < Try.prog.types.size := of_decide_eq_true (by kernel_rfl)
set_option maxRecDepth 100000 in
theorem law57 : Keyed Try.prog 57 := Keyed.of_law (deep_law_laid prog_laid (m := 2) (by omega) row57 (by kernel_rfl) wide57)
def kl (x y : Int) : Lit := .string (keyBytes [.int .i64 x, .int .i64 y])
theorem wf_of {x : Int} (hx : I64 x) : (Lit.int .i64 x).wf = true := by
  have := WalkArith.wf_i64 (n := x) (by unfold I64 at hx; omega)
  exact this
theorem keyOf_pair {x y : Int} (hx : I64 x) (hy : I64 y) : keyOf Try.prog 57 (.agg #[.int .i64 x, .int .i64 y]) = some (kl x y) := by
  have h1 := wf_of hx
  have h2 := wf_of hy
  unfold keyOf
  rw [Try.underlying57]
  have hk : Try.prog.keyType 57 = true := by kernel_rfl
  have hc : Try.prog.cellsOf 57 = 2 := by kernel_rfl
  have hf : (Value.agg #[.int .i64 x, .int .i64 y]).formed Try.prog 57 = true := by simp [Value.formed, Try.underlying57, hc]
  have hc3 : Try.prog.cellsOf 3 = 1 := by kernel_rfl
  obtain ⟨m, hm⟩ : ∃ m, Try.prog.types.size = m + 1 := ⟨Try.prog.types.size - 1, by have h : 57 < Try.prog.types.size := row57; omega⟩
  simp only [hk, hf, Bool.and_self, if_true, hm]
  unfold Program.keyLits
  simp only [Value.cells, Try.underlying57]
  rw [if_pos ⟨by rw [hc]; rfl, by kernel_rfl⟩]
  simp [Program.keyLits, Try.underlying3, hc3, h1, h2, kl]
theorem kl_inj {x y x' y' : Int} (hx : I64 x) (hy : I64 y) (hx' : I64 x') (hy' : I64 y') (h : kl x y = kl x' y') : x = x' ∧ y = y' := by
  have := law57.inj (keyOf_pair hx hy) (by rw [h]; exact keyOf_pair hx' hy')
  simpa using this
theorem kl_key {x y : Int} (hx : I64 x) (hy : I64 y) : WideAt.IsKeyLit (kl x y) := law57.key (keyOf_pair hx hy)
def hasPair (ks : List (Int × Int × Int)) (x y : Int) : Bool := ks.any fun z => decide (z.1 = x ∧ z.2.1 = y)
theorem findBy_snoc (ks : List (Int × Int × Int)) (k : Int × Int × Int) (x y : Int) : findBy (ks ++ [k]) x y = if hasPair ks x y then findBy ks x y else if k.1 = x ∧ k.2.1 = y then k.2.2 else 0 := by
  induction ks with
  | nil => simp [findBy, hasPair]
  | cons q ks ih =>
    rw [List.cons_append, findBy, findBy]
    unfold hasPair at ih ⊢
    rw [List.any_cons]
    by_cases h : q.1 = x ∧ q.2.1 = y
    · rw [if_pos h, if_pos h, decide_eq_true h]
      rfl
    · rw [if_neg h, if_neg h, decide_eq_false h, ih]
      rfl
theorem findBy_none (ks : List (Int × Int × Int)) (x y : Int) (h : hasPair ks x y = false) : findBy ks x y = 0 := by
  induction ks with
  | nil => rfl
  | cons q ks ih =>
    unfold hasPair at h ih
    rw [List.any_cons, Bool.or_eq_false_iff, decide_eq_false_iff_not] at h
    rw [findBy, if_neg h.1]
    exact ih h.2
/-- the map holds what the pairs say -/
structure MapIs {H : Type} (D : DataW H) (ks : List (Int × Int × Int)) : Prop where
  isMap : IsMap D
  at_ : ∀ x y, I64 x → I64 y → D.atKey (kl x y) (.lit (.int .i64 0)) = .lit (.int .i64 (findBy ks x y))
  has : ∀ x y, I64 x → I64 y → has D (kl x y) = hasPair ks x y
theorem MapIs.skip {H : Type} {D : DataW H} {ks : List (Int × Int × Int)} (h : MapIs D ks) (k : Int × Int × Int) (hh : hasPair ks k.1 k.2.1 = true) : MapIs D (ks ++ [k]) := by
  refine ⟨h.isMap, fun x y hx hy => ?_, fun x y hx hy => ?_⟩
  · rw [h.at_ x y hx hy, findBy_snoc]
    by_cases hp : hasPair ks x y = true
    · rw [if_pos hp]
    · rw [if_neg hp]
      have hn : ¬ (k.1 = x ∧ k.2.1 = y) := fun e => hp (by rw [← e.1, ← e.2]; exact hh)
      rw [if_neg hn, findBy_none ks x y (by simpa using hp)]
  · rw [h.has x y hx hy]
    unfold hasPair at hh ⊢
    rw [List.any_append]
    by_cases hn : k.1 = x ∧ k.2.1 = y
    · obtain ⟨rfl, rfl⟩ := hn
      rw [hh]
      rfl
    · simp [hn]
theorem MapIs.put {H : Type} {D : DataW H} {ks : List (Int × Int × Int)} (h : MapIs D ks) (k : Int × Int × Int) (h1 : I64 k.1) (h2 : I64 k.2.1) (hh : hasPair ks k.1 k.2.1 = false) : MapIs (D.put (kl k.1 k.2.1) (.lit (.int .i64 k.2.2))) (ks ++ [k]) := by
  have hkey := kl_key h1 h2
  refine ⟨?_, fun x y hx hy => ?_, fun x y hx hy => ?_⟩
  · obtain ⟨es, rfl⟩ := h.isMap
    exact ⟨_, rfl⟩
  · rw [findBy_snoc]
    by_cases hn : k.1 = x ∧ k.2.1 = y
    · obtain ⟨rfl, rfl⟩ := hn
      rw [atKey_put_same h.isMap hkey, if_neg (by rw [hh]; simp), if_pos ⟨rfl, rfl⟩]
    · rw [atKey_put_other (fun e => hn ⟨(kl_inj hx hy h1 h2 e).1.symm, (kl_inj hx hy h1 h2 e).2.symm⟩), h.at_ x y hx hy]
      by_cases hp : hasPair ks x y = true
      · rw [if_pos hp]
      · rw [if_neg hp, if_neg hn, findBy_none ks x y (by simpa using hp)]
  · by_cases hn : k.1 = x ∧ k.2.1 = y
    · obtain ⟨rfl, rfl⟩ := hn
      rw [has_put_same h.isMap hkey]
      unfold hasPair
      simp
    · rw [has_put_other (fun e => hn ⟨(kl_inj hx hy h1 h2 e).1.symm, (kl_inj hx hy h1 h2 e).2.symm⟩), h.has x y hx hy]
      unfold hasPair
      simp [hn]
end Go.Proofs.Ytbbbldaccpfooaa
