/- DigestOf. -/
import Derived.Test.YtlmaofibdjmkeaaDg11
namespace Go.Proofs.Ytlmaofibdjmkeaa
open Go.RowKit
attribute [local go_sem ↓] Go.wp_at_zero Go.wp_at_succ
theorem dcut_any (s : ByteArray) (w : World) (hs : s.size ≤ maxLen) :
    Calls Try.prog 11 #[.string s] w fun e w' => (∃ t : ByteArray, t.size = min s.size 200 ∧ e = .returned (.string t)) ∧ Below w.heap.size w w' := by
  unfold maxLen at hs
  go_enter Try.func11, Try.ntmps11
  go_wp2_with fail
  case inl =>
    go_ret
    exact ⟨⟨_, by simp [ByteArray.size_extract]; omega, rfl⟩, Below.refl _ _⟩
  case inr =>
    go_ret
    exact ⟨⟨_, by omega, rfl⟩, Below.refl _ _⟩
set_option maxRecDepth 100000 in
set_option maxHeartbeats 4000000 in
theorem digestOf_any (a b : ByteArray) (w : World) (ha : a.size ≤ maxLen) (hb : b.size ≤ maxLen) :
    Calls Try.prog 3 #[.string a, .string b] w fun e w' => e = .returned (.bool true) ∧ Below w.heap.size w w' := by
  have hsan := dsanity_any w
  have hca := fun w => dcut_any a w ha
  have hcb := fun w => dcut_any b w hb
  replace hsan := hide hsan; replace hca := hide hca; replace hcb := hide hcb
  go_enter Try.func3, Try.ntmps3
  go_wp2_with fail
  refine (unhide hsan).mono ?_
  rintro e w1 ⟨rfl, h1⟩
  go_wp2_with fail
  refine (unhide hca _).mono ?_
  rintro e w2 ⟨⟨t, ht, rfl⟩, h2⟩
  go_wp2_with fail
  refine (unhide hcb _).mono ?_
  rintro e w3 ⟨⟨u, hu, rfl⟩, h3⟩
  have hb3 := (h1.trans (h2.mono h1.size)).trans (h3.mono (h1.trans (h2.mono h1.size)).size)
  have ht2 : t.size ≤ 200 := by omega
  have hu2 : u.size ≤ 200 := by omega
  have d1 := fun w => dOf_any t w (by unfold maxLen; omega)
  have r1 := fun w => rOf_any t w (by unfold maxLen; omega)
  obtain ⟨D, hD⟩ : ∃ D : ByteArray, (⟨(Dg.dig t.data.toList).toArray⟩ : ByteArray) = D := ⟨_, rfl⟩
  have hDs : D.size = 8 := by rw [← hD]; rfl
  have d2 := fun w => dChain_any t u w (by omega) (by omega)
  have r2 := fun w => rChain_any t u w (by omega) (by omega)
  have d3 := fun w => dChain_any D u w (by omega) (by omega)
  have r3 := fun w => rChain_any D u w (by omega) (by omega)
  obtain ⟨E2, hE2⟩ : ∃ D : ByteArray, (⟨(chainS t u).toArray⟩ : ByteArray) = D := ⟨_, rfl⟩
  obtain ⟨E3, hE3⟩ : ∃ F : ByteArray, (⟨(chainS D u).toArray⟩ : ByteArray) = F := ⟨_, rfl⟩
  rw [hD] at d1 r1
  rw [hE2] at d2 r2
  rw [hE3] at d3 r3
  replace d1 := hide d1; replace r1 := hide r1; replace d2 := hide d2; replace r2 := hide r2; replace d3 := hide d3; replace r3 := hide r3
  clear hD hE2 hE3 hca hcb hsan h1 h2 h3 ht hu hDs
  go_wp2_with fail
  refine (unhide d1 _).mono ?_
  rintro e v0 ⟨rfl, g0⟩
  replace hb3 := hb3.trans (g0.mono hb3.size)
  clear g0
  go_wp2_with fail
  refine (unhide r1 _).mono ?_
  rintro e v1 ⟨rfl, g1⟩
  replace hb3 := hb3.trans (g1.mono hb3.size)
  clear g1
  go_wp2_with fail
  refine (unhide d2 _).mono ?_
  rintro e v2 ⟨rfl, g2⟩
  replace hb3 := hb3.trans (g2.mono hb3.size)
  clear g2
  go_wp2_with fail
  refine (unhide r2 _).mono ?_
  rintro e v3 ⟨rfl, g3⟩
  replace hb3 := hb3.trans (g3.mono hb3.size)
  clear g3
  go_wp2_with fail
  refine (unhide d1 _).mono ?_
  rintro e v4 ⟨rfl, g4⟩
  replace hb3 := hb3.trans (g4.mono hb3.size)
  clear g4
  go_wp2_with fail
  refine (unhide d3 _).mono ?_
  rintro e v5 ⟨rfl, g5⟩
  replace hb3 := hb3.trans (g5.mono hb3.size)
  clear g5
  go_wp2_with fail
  refine (unhide r1 _).mono ?_
  rintro e v6 ⟨rfl, g6⟩
  replace hb3 := hb3.trans (g6.mono hb3.size)
  clear g6
  go_wp2_with fail
  refine (unhide r3 _).mono ?_
  rintro e v7 ⟨rfl, g7⟩
  replace hb3 := hb3.trans (g7.mono hb3.size)
  clear g7
  go_wp2_with fail
  go_ret
  exact ⟨rfl, hb3⟩
end Go.Proofs.Ytlmaofibdjmkeaa
