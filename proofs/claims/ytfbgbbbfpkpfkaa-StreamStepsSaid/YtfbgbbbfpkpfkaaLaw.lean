/- From a law's contract to its row: the parts that all laws share. -/
import Derived.Test.YtfbgbbbfpkpfkaaRows
import Derived.Test.YtfbgbbbfpkpfkaaPre
import Derived.ProofKit
import Derived.Carry
import Derived.ChangeSame
import Derived.WideKeyArr2
import Derived.OpenShut
namespace Go.Proofs.Ytfbgbbbfpkpfkaa
open Go.ChangeShapes Go.WideShapes Go.ChangeAt Go.RowKit

/-- A law's post: it returned true, and below the heap's old size nothing has turned. -/
theorem law_post {H : Type} {enc : TypeId × Value → H} {P : Program} {f : Func} {s : ChangeSpec} {W W' : World} {args : Array Value} {ds : List (DataW H)} {before : List MemPlace} {tb : TypeId}
    (hW : DataW.Whole enc P f.params.toList s.vars false W args.toList ds [] before) (hv : s.vars = []) (hr : f.resultTypes = #[tb]) (htb : P.underlying tb = some .bool)
    (hfn : s.fn H ds = { results := [.lit (.bool true)], args := ds })
    (hargs : DataW.TrodAll enc P W' 0 (fun b => decide (b < W.heap.size)) true f.params.toList args.toList ds before)
    (hb : Below W.heap.size W W') : s.post enc P f false true false false W args (.bool true) W' := by
  have hres : ∀ (b : Nat) (sp : Nat → Bool) (hd : Bool), DataW.TrodAll enc P W' b sp hd f.resultTypes.toList ((Value.bool true).resultList f.resultTypes.size) (s.fn H (ds ++ [])).results [] := by
    intro b sp hd
    rw [List.append_nil, hfn, hr]
    exact trodAll_mk1 (shut_bool htb true)
  have ha : DataW.TrodAll enc P W' 0 (fun b => decide (b < W.heap.size)) true f.params.toList args.toList (s.fn H (ds ++ [])).args before := by
    rw [List.append_nil, hfn]
    exact hargs
  have hvs : ∀ sp : Nat → Bool, DataW.TrodVars enc P W' sp s.vars (s.fn H (ds ++ [])).vars [] := by
    intro sp
    rw [List.append_nil, hfn, hv]
    rfl
  exact ⟨ds, [], before, [], before, [], hW, hres _ _ _, ha, hvs _, World.keptBut_mono (fun p hp => ⟨hp, Or.inr (Or.inl hp)⟩) (hb.frame (· ∈ before)), fun h => by cases h⟩

theorem i64_of {n : Int} (h : (Lit.int .i64 n).wf = true) : I64 n := bounds_i64 h
theorem prog_laid : laidOutB Try.prog = true := by kernel_rfl
theorem prog_own : ownKnob Try.prog.godebug = none := by kernel_rfl

end Go.Proofs.Ytfbgbbbfpkpfkaa
