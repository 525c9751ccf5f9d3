/- From a law's contract to its row: the parts that all laws share. -/
import Derived.Test.YtfegkaflemcanaaRows
import Derived.Test.YtfegkaflemcanaaPre
import Derived.ProofKit
import Derived.Carry
import Derived.ChangeSame
import Derived.WideKeyArr2
import Derived.OpenShut
namespace Go.Proofs.Ytfegkaflemcanaa
open Go.ChangeShapes Go.WideShapes Go.ChangeAt Go.RowKit

/-- A law's post: it returned true, and below the heap's old size nothing has turned. -/
theorem law_post {H : Type} {enc : TypeId × Value → H} {P : Program} {f : Func} {s : ChangeSpec} {W W' : World} {args : Array Value} {ds : List (DataW H)} {before : List MemPlace} {tb : TypeId}
    (hW : DataW.Whole enc P f.params.toList s.vars false W args.toList ds [] before) (hv : s.vars = []) (hr : f.resultTypes = #[tb]) (htb : P.underlying tb = some .bool)
    (hfn : s.fn H ds = { results := [.lit (.bool true)], args := ds })
    (hargs : DataW.TrodAll enc P W' 0 (fun b => decide (b < W.heap.size)) true f.params.toList args.toList ds before)
    (hb : Below W.heap.size W W') : s.post enc P f false true false false W args (.bool true) W' := by
  have hres : ∀ (b : Nat) (sp : Nat → Bool) (hd : Bool), DataW.TrodAll enc P W' b sp hd f.resultTypes.toList ((Value.bool true).resultList f.resultTypes.size) (s.fn H (ds ++ [])).results [] := by
    intro b sp hd
    rw [List.append_nil, hfn, hr]
    exact trodAll_mk1 (shut_bool htb true)
  have ha : DataW.TrodAll enc P W' 0 (fun b => decide (b < W.heap.size)) true f.params.toList args.toList (s.fn H (ds ++ [])).args before := by
    rw [List.append_nil, hfn]
    exact hargs
  have hvs : ∀ sp : Nat → Bool, DataW.TrodVars enc P W' sp s.vars (s.fn H (ds ++ [])).vars [] := by
    intro sp
    rw [List.append_nil, hfn, hv]
    rfl
  exact ⟨ds, [], before, [], before, [], hW, hres _ _ _, ha, hvs _, World.keptBut_mono (fun p hp => ⟨hp, Or.inr (Or.inl hp)⟩) (hb.frame (· ∈ before)), fun h => by cases h⟩

section
variable {H : Type} {enc : TypeId × Value → H} {P : Program} {W : World} {base : Nat} {sp : Nat → Bool} {held : Bool}
theorem arr3 {cs : Array Value} (h : cs.size = 3) : ∃ x y z, cs = #[x, y, z] := by
  obtain ⟨l⟩ := cs
  match l, h with
  | [x, y, z], _ => exact ⟨x, y, z, rfl⟩
/-- an array of three numbers -/
theorem open_int3 {k e : TypeId} {q : IntKind} {r : Reach} {b0 : Nat} {v : Value} {d : DataW H} {ps : List MemPlace} (hu : P.underlying k = some (.array 3 e)) (he : P.underlying e = some (.int q))
    (hk : P.cellsOf k = 3) (h1 : P.cellsOf e = 1) (hv : Value.okWide P W r b0 k v) (hd : DataW.Trod enc P W base sp held k v d ps) :
    ∃ a b c : Int, v = .agg #[.int q a, .int q b, .int q c] ∧ (Lit.int q a).wf = true ∧ (Lit.int q b).wf = true ∧ (Lit.int q c).wf = true ∧ ps = [] ∧ d = .agg [.lit (.int q a), .lit (.int q b), .lit (.int q c)] := by
  simp only [Value.okWide, hu] at hv
  obtain ⟨cs, rfl, hsz, _⟩ := hv
  rw [hk] at hsz
  obtain ⟨x, y, z, rfl⟩ : ∃ x y z, cs = #[x, y, z] := arr3 hsz
  obtain ⟨fuel, hf⟩ := hd
  cases fuel with
  | zero => simp [DataW.trod] at hf
  | succ m =>
    rw [DataW.trod_step] at hf
    unfold DataW.trodStep at hf
    simp only [hu, Value.cells] at hf
    rw [if_pos (by rw [hk]; rfl)] at hf
    simp only [Option.map_eq_some_iff] at hf
    obtain ⟨ys, hy, e1⟩ := hf
    rw [h1] at hy
    simp only [List.range, List.range.loop, List.mapM_cons, List.mapM_nil, bind, Option.bind_eq_some_iff, pure, Option.some.injEq] at hy
    obtain ⟨y0, h0, r0, ⟨y1, h1', r1, ⟨y2, h2, r2, rfl, rfl⟩, rfl⟩, rfl⟩ := hy
    obtain ⟨a, ea, rfl, wa⟩ := DataW.trod_int he h0
    obtain ⟨b, eb, rfl, wb⟩ := DataW.trod_int he h1'
    obtain ⟨c, ec, rfl, wc⟩ := DataW.trod_int he h2
    simp at ea eb ec
    subst ea; subst eb; subst ec
    simp only [Prod.mk.injEq] at e1
    exact ⟨a, b, c, rfl, wa, wb, wc, by rw [← e1.2]; rfl, by rw [← e1.1]; rfl⟩
end
theorem i64_of {n : Int} (h : (Lit.int .i64 n).wf = true) : I64 n := bounds_i64 h
theorem prog_laid : laidOutB Try.prog = true := by kernel_rfl
theorem prog_own : ownKnob Try.prog.godebug = none := by kernel_rfl
theorem cells22 : Try.prog.cellsOf 22 = 3 := by kernel_rfl
theorem cells3 : Try.prog.cellsOf 3 = 1 := by kernel_rfl

end Go.Proofs.Ytfegkaflemcanaa
