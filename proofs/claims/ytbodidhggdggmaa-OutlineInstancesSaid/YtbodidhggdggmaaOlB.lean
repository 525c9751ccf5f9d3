/- The weight of a delta, both sides. -/
import Derived.Test.YtbodidhggdggmaaOl0
import Derived.Test.YtbodidhggdggmaaAxM
namespace Go.Proofs.Ytbodidhggdggmaa
open Go.RowKit
/-- the weight of a delta at a position -/
def weightS (l : List Tent) (u : List Int) : Int := roundI (4096 * (scalS l u).1) (scalS l u).2
theorem scalS_bd {l : List Tent} (u : List Int) (h : allV l = true) (hn : l.length ≤ 4) : 0 ≤ (scalS l u).1 ∧ (scalS l u).1 ≤ 268435456 ∧ 1 ≤ (scalS l u).2 ∧ (scalS l u).2 ≤ 268435456 := by
  obtain ⟨h1, h2, h3⟩ := scalP_bd u h l.length (Nat.le_refl _)
  have hp := pow_le4 (k := l.length) hn
  have hd := (scalP l u l.length).den_pos
  have e : scalS l u = ((scalP l u l.length).num, ((scalP l u l.length).den : Int)) := by unfold scalS; rw [h]; rfl
  rw [e]
  simp only
  omega
set_option maxHeartbeats 1000000 in
theorem weight_any (a : Option Addr) (n c : Nat) (l : List Tent) (mv : Value) (ua : Option Addr) (un uc : Nat) (u : List Int) (w : World) (hl : Lst Enc.tent w (· < w.heap.size) a n l) (hu : Lst Enc.int w (· < w.heap.size) ua un u) (hn : n ≤ 4) (hun : un ≤ 1000000000000) (hv : allV l = true) (hm : ∃ a n c, mv = .slice a n c) :
    Calls Try.prog 45 #[.agg #[.slice a n c, mv], .slice ua un uc] w fun e w' => e = .returned (.int .i64 (weightS l u)) ∧ Below w.heap.size w w' := by
  obtain ⟨ma, mn, mc, rfl⟩ := hm
  obtain ⟨q1, q2, q3, q4⟩ := scalS_bd u hv (by have := hl.1; omega)
  have hw : weightS l u = roundI (4096 * (scalS l u).1) (scalS l u).2 := rfl
  rw [hw]
  obtain ⟨bd, hbd⟩ : ∃ b, w.heap.size = b := ⟨_, rfl⟩
  obtain ⟨V1, hV1⟩ : ∃ V, w.alloc (Obj.cells #[.slice a n c, .slice ma mn mc] 48) = V := ⟨_, rfl⟩
  have hb1 : Below w.heap.size w V1 := by rw [← hV1]; exact (Below.refl _ _).alloc (Nat.le_refl _) _
  have c0 : V1.cell? ⟨bd, 0, none⟩ = some (.slice a n c) := by rw [← hV1, ← hbd]; exact (cell_of_row _ _ 0 _ _ _ (heap_alloc_new w _)).trans rfl
  have hc := scalar_any a n c l ua un uc u V1 (hl.under hb1) (hu.under hb1) hn hun
  obtain ⟨⟨N, D⟩, hND⟩ : ∃ r, scalS l u = r := ⟨_, rfl⟩
  rw [hND] at hc q1 q2 q3 q4 ⊢
  simp only at hc q1 q2 q3 q4 ⊢
  have hr := fun w => eround_pos (4096 * N) D w ⟨by omega, by omega⟩ q3 (by omega)
  clear hl hu hw hND hv
  replace hc := hide hc; replace hr := hide hr
  replace hb1 := hide hb1
  go_enter Try.func45, Try.ntmps45
  go_wp2_with fail
  refine (unhide hc).mono ?_
  rintro e w2 ⟨rfl, hb2⟩
  obtain ⟨br, hbr⟩ : ∃ b, w2.heap.size = b := ⟨_, rfl⟩
  obtain ⟨V3, hV3⟩ : ∃ V, w2.alloc (Obj.cells #[.int .i64 N, .int .i64 D] 60) = V := ⟨_, rfl⟩
  have hb3 : Below w2.heap.size w2 V3 := by rw [← hV3]; exact (Below.refl _ _).alloc (Nat.le_refl _) _
  have d0 : V3.cell? ⟨br, 0, none⟩ = some (.int .i64 N) := by rw [← hV3, ← hbr]; exact (cell_of_row _ _ 0 _ _ _ (heap_alloc_new w2 _)).trans rfl
  have d1 : V3.cell? ⟨br, 1, none⟩ = some (.int .i64 D) := by rw [← hV3, ← hbr]; exact (cell_of_row _ _ 1 _ _ _ (heap_alloc_new w2 _)).trans rfl
  have hz1 := (unhide hb1).trans (hb2.mono (unhide hb1).size)
  have hz2 := hide (hz1.trans (hb3.mono hz1.size))
  clear hc hb2 hz1 hb3 hb1 c0 hV1 hbd
  go_wp2_with fail
  refine (unhide hr _).mono ?_
  rintro e w4 ⟨rfl, rfl⟩
  clear hr hV3 hbr d0 d1
  have hz3 := hz2
  go_wp2_with fail
  go_ret
  exact ⟨rfl, unhide hz3⟩
set_option maxHeartbeats 1000000 in
theorem rweight_any (a : Option Addr) (n c : Nat) (l : List Tent) (mv : Value) (ua : Option Addr) (un uc : Nat) (u : List Int) (w : World) (hl : Lst Enc.tent w (· < w.heap.size) a n l) (hu : Lst Enc.int w (· < w.heap.size) ua un u) (hn : n ≤ 4) (hun : un ≤ 1000000000000) (hv : allV l = true) (hm : ∃ a n c, mv = .slice a n c) :
    Calls Try.prog 50 #[.agg #[.slice a n c, mv], .slice ua un uc] w fun e w' => e = .returned (.int .i64 (weightS l u)) ∧ Below w.heap.size w w' := by
  obtain ⟨ma, mn, mc, rfl⟩ := hm
  obtain ⟨q1, q2, q3, q4⟩ := scalS_bd u hv (by have := hl.1; omega)
  have hw : weightS l u = roundI (4096 * (scalS l u).1) (scalS l u).2 := rfl
  rw [hw]
  obtain ⟨bd, hbd⟩ : ∃ b, w.heap.size = b := ⟨_, rfl⟩
  obtain ⟨V1, hV1⟩ : ∃ V, w.alloc (Obj.cells #[.slice a n c, .slice ma mn mc] 48) = V := ⟨_, rfl⟩
  have hb1 : Below w.heap.size w V1 := by rw [← hV1]; exact (Below.refl _ _).alloc (Nat.le_refl _) _
  have c0 : V1.cell? ⟨bd, 0, none⟩ = some (.slice a n c) := by rw [← hV1, ← hbd]; exact (cell_of_row _ _ 0 _ _ _ (heap_alloc_new w _)).trans rfl
  have hc := rscalar_any a n c l ua un uc u V1 (hl.under hb1) (hu.under hb1) hn hun
  obtain ⟨⟨N, D⟩, hND⟩ : ∃ r, scalS l u = r := ⟨_, rfl⟩
  rw [hND] at hc q1 q2 q3 q4 ⊢
  simp only at hc q1 q2 q3 q4 ⊢
  have hr := fun w => rround_pos (4096 * N) D w ⟨by omega, by omega⟩ q3 (by omega)
  clear hl hu hw hND hv
  replace hc := hide hc; replace hr := hide hr
  replace hb1 := hide hb1
  go_enter Try.func50, Try.ntmps50
  go_wp2_with fail
  refine (unhide hc).mono ?_
  rintro e w2 ⟨rfl, hb2⟩
  obtain ⟨br, hbr⟩ : ∃ b, w2.heap.size = b := ⟨_, rfl⟩
  obtain ⟨V3, hV3⟩ : ∃ V, w2.alloc (Obj.cells #[.int .i64 N, .int .i64 D] 60) = V := ⟨_, rfl⟩
  have hb3 : Below w2.heap.size w2 V3 := by rw [← hV3]; exact (Below.refl _ _).alloc (Nat.le_refl _) _
  have d0 : V3.cell? ⟨br, 0, none⟩ = some (.int .i64 N) := by rw [← hV3, ← hbr]; exact (cell_of_row _ _ 0 _ _ _ (heap_alloc_new w2 _)).trans rfl
  have d1 : V3.cell? ⟨br, 1, none⟩ = some (.int .i64 D) := by rw [← hV3, ← hbr]; exact (cell_of_row _ _ 1 _ _ _ (heap_alloc_new w2 _)).trans rfl
  have hz1 := (unhide hb1).trans (hb2.mono (unhide hb1).size)
  have hz2 := hide (hz1.trans (hb3.mono hz1.size))
  clear hc hb2 hz1 hb3 hb1 c0 hV1 hbd
  go_wp2_with fail
  refine (unhide hr _).mono ?_
  rintro e w4 ⟨rfl, hb4⟩
  clear hr hV3 hbr d0 d1
  have hz3 := hide ((unhide hz2).trans (hb4.mono (unhide hz2).size))
  go_wp2_with fail
  go_ret
  exact ⟨rfl, unhide hz3⟩
end Go.Proofs.Ytbodidhggdggmaa
