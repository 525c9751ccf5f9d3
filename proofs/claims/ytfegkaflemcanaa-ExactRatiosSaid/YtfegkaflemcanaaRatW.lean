/- The law ExactRatios, its arguments as they are read. -/
import Derived.Test.YtfegkaflemcanaaRat
import Derived.Test.YtfegkaflemcanaaLst
namespace Go.Proofs.Ytfegkaflemcanaa
open Go.RowKit
theorem rat_rep {w : World} {S : Nat → Prop} {cs : Array Value} {y : Int × Int} (h : (Enc.pair Enc.int Enc.int).rep w S cs.toList y) : cs = #[.int .i64 y.1, .int .i64 y.2] ∧ I64 y.1 ∧ I64 y.2 := by
  obtain ⟨c, d, e, ⟨rfl, h1⟩, ⟨rfl, h2⟩⟩ := h
  refine ⟨?_, h1, h2⟩
  apply Array.toList_inj.1
  exact e
theorem ratiosR_any (cs : Array Value) (x : Int × Int) (ds : Array Value) (y : Int × Int) (f : Int) (w : World) (hx : (Enc.pair Enc.int Enc.int).rep w (fun b => b < w.heap.size) cs.toList x) (hy : (Enc.pair Enc.int Enc.int).rep w (fun b => b < w.heap.size) ds.toList y) (_ : -9223372036854775808 ≤ f ∧ f ≤ 9223372036854775807) :
    Calls Try.prog 6 #[.agg cs, .agg ds, .int .i64 f] w fun e w' => e = .returned (.bool true) ∧ Below w.heap.size w w' := by
  obtain ⟨rfl, h1, h2⟩ := rat_rep hx
  obtain ⟨rfl, h3, h4⟩ := rat_rep hy
  exact ratios_any x.1 x.2 y.1 y.2 f w h1 h2 h3 h4
end Go.Proofs.Ytfegkaflemcanaa
