/- KernFinds. -/
import Derived.Test.YtbbbldaccpfooaaKern8
namespace Go.Proofs.Ytbbbldaccpfooaa
open Go.RowKit
set_option maxRecDepth 100000 in
set_option maxHeartbeats 4000000 in
theorem kernFinds_any (cs : Array Value) (y : List (List Int) × (List (Int × Int × Int) × (List Int × List Int))) (a b : Int) (w : World) (hy : ECase.rep w (fun b => b < w.heap.size) cs.toList y) (ha : I64 a) (hb : I64 b) :
    Calls Try.prog 3 #[.agg cs, .int .i64 a, .int .i64 b] w fun e w' => e = .returned (.bool true) ∧ Below w.heap.size w w' := by
  obtain ⟨fa, fn, fc, ka, kn, kc, ga, gn, gc, sa, sn, sc, rfl, _⟩ := case_open hy
  obtain ⟨bx, hbx⟩ : ∃ bx, bx = w.heap.size := ⟨_, rfl⟩
  obtain ⟨V, hV⟩ : ∃ V, V = w.alloc (Obj.cells #[.slice fa fn fc, .slice ka kn kc, .slice ga gn gc, .slice sa sn sc] 26) := ⟨_, rfl⟩
  have hr0 : V.heap[bx]? = some (.cells #[.slice fa fn fc, .slice ka kn kc, .slice ga gn gc, .slice sa sn sc] 26 (0, 0)) := by rw [hV, hbx]; exact heap_alloc_new w _
  have hb0 : Below w.heap.size w V := by rw [hV]; exact (Below.refl _ _).alloc (Nat.le_refl _) _
  have hyV := Enc.under hy hb0
  clear hy
  replace hbx := hide hbx; replace hV := hide hV; replace hr0 := hide hr0; replace hb0 := hide hb0; replace hyV := hide hyV
  go_enter Try.func3, Try.ntmps3
  go_wp2_with fail
  rw [← unhide hV, ← unhide hbx]
  go_wp2_with fail
  refine (sanity_any _).mono ?_
  rintro e w1 ⟨rfl, hb1⟩
  have hr1 := row_kept (unhide hr0) hb1
  have hB1 := (unhide hb0).trans (hb1.mono (unhide hb0).size)
  have hmk := cmade_any #[.slice fa fn fc, .slice ka kn kc, .slice ga gn gc, .slice sa sn sc] y w1 (Enc.under (unhide hyV) hb1)
  obtain ⟨y0, y1, y2, y3⟩ := row4 hr1
  clear hyV hr1 hr0 hb0 hb1 hV
  replace hmk := hide hmk; replace hB1 := hide hB1
  go_wp2_with fail
  refine (unhide hmk).mono ?_
  rintro e w2 ⟨⟨f, av, ks, pa, pc, gs, ra, rc, ss, rfl, hf, hg, hg10, hgc, hgb, hs, hs10, hsb⟩, hb2⟩
  obtain ⟨s, n, va, vn, vc, gla, glc, qa, qn, qc, ta, tn, tc, xa, xc, rfl⟩ := hf.shape
  have hB2 := (unhide hB1).trans (hb2.mono (unhide hB1).size)
  obtain ⟨av9, avs, kss⟩ := hf.avs
  obtain ⟨bf, hbf⟩ : ∃ bf, bf = w2.heap.size := ⟨_, rfl⟩
  obtain ⟨W, hW⟩ : ∃ W, W = w2.alloc (Obj.cells #[.string s, .int .i64 n, .slice va vn vc, .slice gla av.length glc, .slice qa qn qc, .slice ta tn tc, .slice xa ks.length xc] 33) := ⟨_, rfl⟩
  have hrF : W.heap[bf]? = some (.cells #[.string s, .int .i64 n, .slice va vn vc, .slice gla av.length glc, .slice qa qn qc, .slice ta tn tc, .slice xa ks.length xc] 33 (0, 0)) := by rw [hW, hbf]; exact heap_alloc_new w2 _
  have hb3 : Below w2.heap.size w2 W := by rw [hW]; exact (Below.refl _ _).alloc (Nat.le_refl _) _
  have hfW := hf.under hb3
  have hgW := hg.under hb3
  have hsW := hs.under hb3
  have hB := hB2.trans (hb3.mono hB2.size)
  clear hmk hB1 hB2 hf hg hs hb2 hb3 y0 y1 y2 y3
  replace hfW := hide hfW; replace hgW := hide hgW; replace hsW := hide hsW; replace hB := hide hB; replace hrF := hide hrF; replace hbf := hide hbf; replace hW := hide hW; replace avs := hide avs; replace kss := hide kss; replace hgb := hide hgb; replace hsb := hide hsb
  go_wp2_with fail
  rw [← unhide hbf, ← unhide hW]
  go_wp2_with fail
  go_loopw [11] (fun v wr => ∃ k : Int, -1 ≤ k ∧ k ≤ (av.length : Int) + 1 ∧ v = .int .i64 k ∧ Below W.heap.size W wr) (fun v _ => ((av.length : Int) + 1 - intOf v).toNat)
  case atStart => exact ⟨-1, by omega, by omega, rfl, Below.refl _ _⟩
  case round =>
    obtain ⟨k, hk0, hk1, rfl, hbw⟩ := hrel
    obtain ⟨wo, rfl⟩ : ∃ wo : World, wo = wr := ⟨_, rfl⟩
    obtain ⟨y0, y1, y2, y3, y4, y5, y6⟩ := row7 (row_kept (unhide hrF) hbw)
    by_cases hk : k ≤ (av.length : Int)
    · go_wp2_with fail
      go_loopw [12] (fun v wx => ∃ i : Int, -1 ≤ i ∧ i ≤ (av.length : Int) + 1 ∧ v = .int .i64 i ∧ Below wo.heap.size wo wx) (fun v _ => ((av.length : Int) + 1 - intOf v).toNat)
      case atStart => exact ⟨-1, by omega, by omega, rfl, Below.refl _ _⟩
      case round =>
        obtain ⟨i, hi0, hi1, rfl, hbx⟩ := hrel
        have hbwr := hbw.trans (hbx.mono hbw.size)
        have hrx := row_kept (unhide hrF) hbwr
        have hfx := (unhide hfW).under hbwr
        clear y0 y1 y2 y3 y4 y5 y6
        have y3 := (cell_of_row _ _ 3 _ _ _ hrx).trans rfl
        by_cases hi : i ≤ (av.length : Int)
        · have cA : ∀ z : Ext wr, Calls Try.prog 10 #[.agg #[.string s, .int .i64 n, .slice va vn vc, .slice gla av.length glc, .slice qa qn qc, .slice ta tn tc, .slice xa ks.length xc], .int .i64 k, .int .i64 i] z.get fun e w' => e = .returned (.int .i64 (findBy ks k i)) ∧ Below z.get.heap.size z.get w' := fun z => kby_font _ av ks k i _ (hfx.under z.le) (by unfold I64; omega) (by unfold I64; omega)
          have cB : ∀ z : Ext wr, Calls Try.prog 11 #[.agg #[.string s, .int .i64 n, .slice va vn vc, .slice gla av.length glc, .slice qa qn qc, .slice ta tn tc, .slice xa ks.length xc], .int .i64 k, .int .i64 i] z.get fun e w' => e = .returned (.int .i64 (findBy ks k i)) ∧ Below z.get.heap.size z.get w' := fun z => rby_font _ av ks k i _ (hfx.under z.le)
          obtain ⟨B, hBe⟩ : ∃ B, findBy ks k i = B := ⟨_, rfl⟩
          rw [hBe] at cA cB
          replace cA := hide cA; replace cB := hide cB
          clear hBe hfx
          have z0 : ∀ z : Ext wr, z.get.cell? ⟨bf, 0, none⟩ = some _ := fun z => z.cell ((cell_of_row _ _ 0 _ _ _ hrx).trans rfl)
          have z1 : ∀ z : Ext wr, z.get.cell? ⟨bf, 1, none⟩ = some _ := fun z => z.cell ((cell_of_row _ _ 1 _ _ _ hrx).trans rfl)
          have z2 : ∀ z : Ext wr, z.get.cell? ⟨bf, 2, none⟩ = some _ := fun z => z.cell ((cell_of_row _ _ 2 _ _ _ hrx).trans rfl)
          have z3 : ∀ z : Ext wr, z.get.cell? ⟨bf, 3, none⟩ = some _ := fun z => z.cell ((cell_of_row _ _ 3 _ _ _ hrx).trans rfl)
          have z4 : ∀ z : Ext wr, z.get.cell? ⟨bf, 4, none⟩ = some _ := fun z => z.cell ((cell_of_row _ _ 4 _ _ _ hrx).trans rfl)
          have z5 : ∀ z : Ext wr, z.get.cell? ⟨bf, 5, none⟩ = some _ := fun z => z.cell ((cell_of_row _ _ 5 _ _ _ hrx).trans rfl)
          have z6 : ∀ z : Ext wr, z.get.cell? ⟨bf, 6, none⟩ = some _ := fun z => z.cell ((cell_of_row _ _ 6 _ _ _ hrx).trans rfl)
          replace hrx := hide hrx
          go_wp2_with fail
          refine wp_region_ext (by rfl) (by kernel_rfl) ?_
          repeat (quiet_step ((first | (go_at_call 10; with_reducible exact Ext.calls (unhide cA _)) | (go_at_call 11; with_reducible exact Ext.calls (unhide cB _)))))
          refine wpQuiet_nil ?_
          rintro w' ⟨z, rfl⟩
          clear z0 z1 z2 z3 z4 z5 z6 cA cB
          have hbz := hbx.trans (z.le.mono hbx.size)
          go_wp2_with fail
          go_roundw
          case rel => exact ⟨i + 1, by omega, by omega, by go_num, hbz⟩
          case measure => simp [intOf]; omega
        · go_wp2_with fail
          go_roundw
          case rel => exact ⟨k + 1, by omega, by omega, by go_num, hbwr⟩
          case measure => simp [intOf]; omega
    · have hrx := row_kept (unhide hrF) hbw
      have hfx := (unhide hfW).under hbw
      have cA : ∀ z : Ext wo, Calls Try.prog 10 #[.agg #[.string s, .int .i64 n, .slice va vn vc, .slice gla av.length glc, .slice qa qn qc, .slice ta tn tc, .slice xa ks.length xc], .int .i64 a, .int .i64 b] z.get fun e w' => e = .returned (.int .i64 (findBy ks a b)) ∧ Below z.get.heap.size z.get w' := fun z => kby_font _ av ks a b _ (hfx.under z.le) ha hb
      have cB : ∀ z : Ext wo, Calls Try.prog 11 #[.agg #[.string s, .int .i64 n, .slice va vn vc, .slice gla av.length glc, .slice qa qn qc, .slice ta tn tc, .slice xa ks.length xc], .int .i64 a, .int .i64 b] z.get fun e w' => e = .returned (.int .i64 (findBy ks a b)) ∧ Below z.get.heap.size z.get w' := fun z => rby_font _ av ks a b _ (hfx.under z.le)
      obtain ⟨B, hBe⟩ : ∃ B, findBy ks a b = B := ⟨_, rfl⟩
      rw [hBe] at cA cB
      replace cA := hide cA; replace cB := hide cB
      clear hBe hfx
      have z0 : ∀ z : Ext wo, z.get.cell? ⟨bf, 0, none⟩ = some _ := fun z => z.cell ((cell_of_row _ _ 0 _ _ _ hrx).trans rfl)
      have z1 : ∀ z : Ext wo, z.get.cell? ⟨bf, 1, none⟩ = some _ := fun z => z.cell ((cell_of_row _ _ 1 _ _ _ hrx).trans rfl)
      have z2 : ∀ z : Ext wo, z.get.cell? ⟨bf, 2, none⟩ = some _ := fun z => z.cell ((cell_of_row _ _ 2 _ _ _ hrx).trans rfl)
      have z3 : ∀ z : Ext wo, z.get.cell? ⟨bf, 3, none⟩ = some _ := fun z => z.cell ((cell_of_row _ _ 3 _ _ _ hrx).trans rfl)
      have z4 : ∀ z : Ext wo, z.get.cell? ⟨bf, 4, none⟩ = some _ := fun z => z.cell ((cell_of_row _ _ 4 _ _ _ hrx).trans rfl)
      have z5 : ∀ z : Ext wo, z.get.cell? ⟨bf, 5, none⟩ = some _ := fun z => z.cell ((cell_of_row _ _ 5 _ _ _ hrx).trans rfl)
      have z6 : ∀ z : Ext wo, z.get.cell? ⟨bf, 6, none⟩ = some _ := fun z => z.cell ((cell_of_row _ _ 6 _ _ _ hrx).trans rfl)
      replace hrx := hide hrx
      go_wp2_with fail
      refine wp_region_ext (by rfl) (by kernel_rfl) ?_
      repeat (quiet_step ((first | (go_at_call 10; with_reducible exact Ext.calls (unhide cA _)) | (go_at_call 11; with_reducible exact Ext.calls (unhide cB _)))))
      refine wpQuiet_nil ?_
      rintro w' ⟨z, rfl⟩
      clear z0 z1 z2 z3 z4 z5 z6 cA cB
      have hbz := (unhide hB).trans ((hbw.trans (z.le.mono hbw.size)).mono (unhide hB).size)
      go_wp2_with fail
      go_ret
      exact ⟨rfl, hbz⟩
end Go.Proofs.Ytbbbldaccpfooaa
