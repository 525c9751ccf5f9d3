/- The nil reader: lists, and decodes. -/
import Derived.Test.YtidbjccfkembeaaWi12
import Derived.Test.YtidbjccfkembeaaWi15
namespace Go.Proofs.Ytidbjccfkembeaa
open Go.RowKit

theorem elints_nil (w : World) :
    Calls Try.prog 50 #[.pointer none, .func (Fn.func 22) #[.pointer none] #[]] w fun e w' => ∃ v, e = .returned v ∧ w'.ownsRow w.heap.size 3 1 v 0 [] ∧ w' = w := by
  go_enter Try.func50, Try.ntmps50
  go_wp2_with fail
  refine (rsize_nil _).mono ?_
  rintro e w1 ⟨rfl, rfl⟩
  go_wp2_with fail
  go_ret
  exact ⟨_, rfl, World.ownsRow_nil _ _ _ _, rfl⟩
theorem rintsm_nil (w : World) :
    Calls Try.prog 27 #[.pointer none] w fun e w' => ∃ v, e = .returned v ∧ w'.ownsRow w.heap.size 3 1 v 0 [] ∧ w' = w := by
  go_enter Try.func27, Try.ntmps27
  go_wp2_with fail
  refine (elints_nil w).mono ?_
  rintro e w1 ⟨v, rfl, h1, rfl⟩
  go_wp2_with fail
  go_ret
  exact ⟨_, rfl, h1, rfl⟩
theorem eltexts_nil (w : World) :
    Calls Try.prog 51 #[.pointer none, .func (Fn.func 24) #[.pointer none] #[]] w fun e w' => ∃ v, e = .returned v ∧ w'.ownsRow w.heap.size 9 1 v 0 [] ∧ w' = w := by
  go_enter Try.func51, Try.ntmps51
  go_wp2_with fail
  refine (rsize_nil _).mono ?_
  rintro e w1 ⟨rfl, rfl⟩
  go_wp2_with fail
  go_ret
  exact ⟨_, rfl, World.ownsRow_nil _ _ _ _, rfl⟩
theorem rtextsm_nil (w : World) :
    Calls Try.prog 30 #[.pointer none] w fun e w' => ∃ v, e = .returned v ∧ w'.ownsRow w.heap.size 9 1 v 0 [] ∧ w' = w := by
  go_enter Try.func30, Try.ntmps30
  go_wp2_with fail
  refine (eltexts_nil w).mono ?_
  rintro e w1 ⟨v, rfl, h1, rfl⟩
  go_wp2_with fail
  go_ret
  exact ⟨_, rfl, h1, rfl⟩
theorem decodes_nil (k : Int) (w : World) (hk : 0 ≤ k ∧ k ≤ 3) :
    Calls Try.prog 38 #[.pointer none, .int .i64 k] w fun e w' => e = .returned (.bool true) ∧ w' = w := by
  obtain rfl | rfl | rfl | rfl : k = 0 ∨ k = 1 ∨ k = 2 ∨ k = 3 := by omega
  · go_enter Try.func38, Try.ntmps38
    go_wp2_with fail
    refine (rint2_nil w).mono ?_
    rintro e w1 ⟨rfl, rfl⟩
    go_wp2_with fail
    go_ret
    exact ⟨rfl, rfl⟩
  · go_enter Try.func38, Try.ntmps38
    go_wp2_with fail
    refine (rtextm_nil w).mono ?_
    rintro e w1 ⟨rfl, rfl⟩
    go_wp2_with fail
    go_ret
    exact ⟨rfl, rfl⟩
  · go_enter Try.func38, Try.ntmps38
    go_wp2_with fail
    refine (rintsm_nil w).mono ?_
    rintro e w1 ⟨v, rfl, hv, rfl⟩
    obtain ⟨a, c, rfl⟩ := own_shape hv
    clear hv
    go_wp2_with fail
    go_ret
    exact ⟨rfl, rfl⟩
  · go_enter Try.func38, Try.ntmps38
    go_wp2_with fail
    refine (rtextsm_nil w).mono ?_
    rintro e w1 ⟨v, rfl, hv, rfl⟩
    obtain ⟨a, c, rfl⟩ := own_shape hv
    clear hv
    go_wp2_with fail
    go_ret
    exact ⟨rfl, rfl⟩
end Go.Proofs.Ytidbjccfkembeaa
