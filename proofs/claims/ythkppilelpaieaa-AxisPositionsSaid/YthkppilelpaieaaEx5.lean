/- Cmp, the program's. -/
import Derived.Test.YthkppilelpaieaaEx1
import Derived.Test.YthkppilelpaieaaTail
import Derived.Test.YthkppilelpaieaaExC
namespace Go.Proofs.Ythkppilelpaieaa
open Go.RowKit

theorem cmp_ord (x y : Int) : cmpI x y = Ex.ordI x y := rfl
theorem ext2 {w : World} {o1 o2 : Obj} {n : Nat} (x : Ext (((w.alloc o1).alloc o2).drewN n)) : (∀ i v, ((w.alloc o1).alloc o2).cell? ⟨w.heap.size, i, none⟩ = some v → x.get.cell? ⟨w.heap.size, i, none⟩ = some v) ∧
    (∀ i v, ((w.alloc o1).alloc o2).cell? ⟨w.heap.size + 1, i, none⟩ = some v → x.get.cell? ⟨w.heap.size + 1, i, none⟩ = some v) :=
  ⟨fun i v h => x.cell (by simpa using h), fun i v h => x.cell (by simpa using h)⟩

end Go.Proofs.Ythkppilelpaieaa
