/- KernWhole. -/
import Derived.Test.YtbbbldaccpfooaaKern8
import Derived.Test.YtbbbldaccpfooaaKernP
namespace Go.Proofs.Ytbbbldaccpfooaa
open Go.RowKit
set_option maxRecDepth 100000 in
set_option maxHeartbeats 4000000 in
theorem kernWhole_any (cs : Array Value) (y : List (List Int) × (List (Int × Int × Int) × (List Int × List Int))) (w : World) (hy : ECase.rep w (fun b => b < w.heap.size) cs.toList y) :
    Calls Try.prog 5 #[.agg cs] w fun e w' => e = .returned (.bool true) ∧ Below w.heap.size w w' := by
  obtain ⟨fa, fn, fc, ka, kn, kc, ga, gn, gc, sa, sn, sc, rfl, _⟩ := case_open hy
  obtain ⟨bx, hbx⟩ : ∃ bx, bx = w.heap.size := ⟨_, rfl⟩
  obtain ⟨V, hV⟩ : ∃ V, V = w.alloc (Obj.cells #[.slice fa fn fc, .slice ka kn kc, .slice ga gn gc, .slice sa sn sc] 26) := ⟨_, rfl⟩
  have hr0 : V.heap[bx]? = some (.cells #[.slice fa fn fc, .slice ka kn kc, .slice ga gn gc, .slice sa sn sc] 26 (0, 0)) := by rw [hV, hbx]; exact heap_alloc_new w _
  have hb0 : Below w.heap.size w V := by rw [hV]; exact (Below.refl _ _).alloc (Nat.le_refl _) _
  have hyV := Enc.under hy hb0
  clear hy
  replace hbx := hide hbx; replace hV := hide hV; replace hr0 := hide hr0; replace hb0 := hide hb0; replace hyV := hide hyV
  go_enter Try.func5, Try.ntmps5
  go_wp2_with fail
  rw [← unhide hV, ← unhide hbx]
  go_wp2_with fail
  refine (sanity_any _).mono ?_
  rintro e w1 ⟨rfl, hb1⟩
  have hr1 := row_kept (unhide hr0) hb1
  have hB1 := (unhide hb0).trans (hb1.mono (unhide hb0).size)
  have hmk := cmade_any #[.slice fa fn fc, .slice ka kn kc, .slice ga gn gc, .slice sa sn sc] y w1 (Enc.under (unhide hyV) hb1)
  obtain ⟨y0, y1, y2, y3⟩ := row4 hr1
  clear hyV hr1 hr0 hb0 hb1 hV
  replace hmk := hide hmk; replace hB1 := hide hB1
  go_wp2_with fail
  refine (unhide hmk).mono ?_
  rintro e w2 ⟨⟨f, av, ks, pa, pc, gs, ra, rc, ss, rfl, hf, hg, hg10, hgc, hgb, hs, hs10, hsb⟩, hb2⟩
  obtain ⟨s, n, va, vn, vc, gla, glc, qa, qn, qc, ta, tn, tc, xa, xc, rfl⟩ := hf.shape
  have hB2 := (unhide hB1).trans (hb2.mono (unhide hB1).size)
  obtain ⟨av9, avs, kss⟩ := hf.avs
  obtain ⟨bf, hbf⟩ : ∃ bf, bf = w2.heap.size := ⟨_, rfl⟩
  obtain ⟨W, hW⟩ : ∃ W, W = w2.alloc (Obj.cells #[.string s, .int .i64 n, .slice va vn vc, .slice gla av.length glc, .slice qa qn qc, .slice ta tn tc, .slice xa ks.length xc] 33) := ⟨_, rfl⟩
  have hrF : W.heap[bf]? = some (.cells #[.string s, .int .i64 n, .slice va vn vc, .slice gla av.length glc, .slice qa qn qc, .slice ta tn tc, .slice xa ks.length xc] 33 (0, 0)) := by rw [hW, hbf]; exact heap_alloc_new w2 _
  have hb3 : Below w2.heap.size w2 W := by rw [hW]; exact (Below.refl _ _).alloc (Nat.le_refl _) _
  have hfW := hf.under hb3
  have hgW := hg.under hb3
  have hsW := hs.under hb3
  have hB := hB2.trans (hb3.mono hB2.size)
  clear hmk hB1 hB2 hf hg hs hb2 hb3 y0 y1 y2 y3
  replace hfW := hide hfW; replace hgW := hide hgW; replace hsW := hide hsW; replace hB := hide hB; replace hrF := hide hrF; replace hbf := hide hbf; replace hW := hide hW; replace avs := hide avs; replace kss := hide kss; replace hgb := hide hgb; replace hsb := hide hsb
  go_wp2_with fail
  rw [← unhide hbf, ← unhide hW]
  have c1 := kplace_font _ av ks pa gs.length pc gs ra ss.length rc ss 64 W (unhide hfW) (unhide hgW) (unhide hsW) (by omega) (by omega) (by unfold I64; omega)
  have hsb2 : ∀ x ∈ ss, -20 ≤ x ∧ x ≤ 25 := fun x hx => by have := unhide hsb x hx; omega
  have hU := fun k hk => pos_64 av ks gs ss (unhide avs) (unhide kss) hsb2 k hk
  obtain ⟨X, hX⟩ : ∃ X, roundI (penS av ks gs ss 64 gs.length) 64 = X := ⟨_, rfl⟩
  obtain ⟨PL, hPL⟩ : ∃ PL, posL (penS av ks gs ss 64) gs.length = PL := ⟨_, rfl⟩
  have hXU : X = penU av ks gs ss gs.length := by rw [← hX]; exact (hU _ hg10).1
  have hPLU : ∀ k x, k < gs.length → PL[k]? = some x → x = penU av ks gs ss k := fun k x hk h => by
    rw [← hPL, posL_get _ _ _ hk, (hU k (by omega)).1] at h
    exact (Option.some.inj h).symm
  have hUb := fun k hk => (hU k hk).2
  have hUn : ∀ k, penU av ks gs ss (k + 1) = penU av ks gs ss k + advS av (gs.getD k 0) + ss.getD k 0 + (if k + 1 < gs.length then findBy ks (gs.getD k 0) (gs.getD (k + 1) 0) else 0) := fun _ => rfl
  have hU0 : penU av ks gs ss 0 = 0 := rfl
  rw [hX, hPL] at c1
  clear hX hPL hU
  obtain ⟨U, hUe⟩ : ∃ U, penU av ks gs ss = U := ⟨_, rfl⟩
  rw [hUe] at hXU hUb hUn hU0 hPLU
  clear hUe
  subst hXU
  obtain ⟨y0, y1, y2, y3, y4, y5, y6⟩ := row7 (unhide hrF)
  replace c1 := hide c1; replace hPLU := hide hPLU; replace hUb := hide hUb; replace hU0 := hide hU0; replace hUn := hide hUn; replace hsb2 := hide hsb2
  go_wp2_with fail
  refine (unhide c1).mono ?_
  rintro e w3 ⟨qa, rfl, hA, hb⟩
  have hf3 := (unhide hfW).under hb
  have hg3 := (unhide hgW).under hb
  have hs3 := (unhide hsW).under hb
  have hr3 := row_kept (unhide hrF) hb
  have hB3 := (unhide hB).trans (hb.mono (unhide hB).size)
  clear c1 hfW hgW hsW hrF hB hb y0 y1 y2 y3 y4 y5 y6
  replace hf3 := hide hf3; replace hg3 := hide hg3; replace hs3 := hide hs3; replace hr3 := hide hr3; replace hB3 := hide hB3; replace hA := hide hA
  go_wp2_with fail
  go_loopw [9, 10] (fun p i wr => ∃ k : Nat, k ≤ gs.length ∧ i = .int .i64 (k : Int) ∧ p = .int .i64 (U k) ∧ Below w3.heap.size w3 wr) (fun _ i _ => gs.length - (intOf i).toNat)
  case atStart => exact ⟨0, by omega, rfl, by rw [unhide hU0], Below.refl _ _⟩
  case round =>
    obtain ⟨k, hk, rfl, rfl, hbw⟩ := hrel
    obtain ⟨wo, rfl⟩ : ∃ wo : World, wo = wr := ⟨_, rfl⟩
    by_cases hlt : k < gs.length
    · have hfo := (unhide hf3).under hbw
      have hro := row_kept (unhide hr3) hbw
      have hgo := (unhide hg3).under hbw
      have hso := (unhide hs3).under hbw
      have hAo := (unhide hA).under hbw
      have hsz := hbw.size
      obtain ⟨b1, off1, x, rfl, hSb1, hpx, _, hc1⟩ := lst_int hAo hlt
      have hxU := unhide hPLU k x hlt hpx
      subst hxU
      obtain ⟨b2, off2, g, rfl, hSb2, hgx, hgi, hc2⟩ := lst_int hgo hlt
      have hgk : gs.getD k 0 = g := by rw [List.getD_eq_getElem?_getD, hgx]; rfl
      have hnx := unhide hUn k
      have hbU := unhide hUb k (by omega)
      rw [hgk] at hnx
      have a1 := advS_le av (unhide avs) g
      have a3 : 0 ≤ ss.getD k 0 ∧ ss.getD k 0 ≤ 5 := by
        rw [List.getD_eq_getElem?_getD]
        cases hk : ss[k]? with
        | none => simp
        | some x => exact unhide hsb x (List.mem_of_getElem? hk)
      have cA : ∀ z : Ext wo, Calls Try.prog 16 #[.agg #[.string s, .int .i64 n, .slice va vn vc, .slice gla av.length glc, .slice qa qn qc, .slice ta tn tc, .slice xa ks.length xc], .int .i64 g] z.get fun e w' => e = .returned (.int .i64 (advS av g)) ∧ Below z.get.heap.size z.get w' := fun z => ladvance_any (· < z.get.heap.size) _ av ks g _ (hfo.under z.le) (fun _ h => h) hgi
      have cB : ∀ z : Ext wo, Calls Try.prog 17 #[.slice ra ss.length rc, .int .i64 (k : Int)] z.get fun e w' => e = .returned (.int .i64 (ss.getD k 0)) ∧ Below z.get.heap.size z.get w' := fun z => at_any (· < z.get.heap.size) ra ss.length rc ss k _ (hso.under z.le) (by omega) (by omega)
      obtain ⟨A, hAe⟩ : ∃ A, advS av g = A := ⟨_, rfl⟩
      obtain ⟨Z, hZe⟩ : ∃ Z, ss.getD k 0 = Z := ⟨_, rfl⟩
      obtain ⟨P, hP⟩ : ∃ P, U k = P := ⟨_, rfl⟩
      rw [hAe] at cA hnx a1
      rw [hZe] at cB hnx a3
      rw [hP] at hnx hbU hc1 ⊢
      clear hAe hZe hP hpx hgx hgk hAo
      replace cA := hide cA; replace cB := hide cB; replace hnx := hide hnx; replace hfo := hide hfo; replace hbw := hide hbw; replace hgo := hide hgo; replace hso := hide hso
      have z0 : ∀ z : Ext wo, z.get.cell? ⟨bf, 0, none⟩ = some _ := fun z => z.cell ((cell_of_row _ _ 0 _ _ _ hro).trans rfl)
      have z1 : ∀ z : Ext wo, z.get.cell? ⟨bf, 1, none⟩ = some _ := fun z => z.cell ((cell_of_row _ _ 1 _ _ _ hro).trans rfl)
      have z2 : ∀ z : Ext wo, z.get.cell? ⟨bf, 2, none⟩ = some _ := fun z => z.cell ((cell_of_row _ _ 2 _ _ _ hro).trans rfl)
      have z3 : ∀ z : Ext wo, z.get.cell? ⟨bf, 3, none⟩ = some _ := fun z => z.cell ((cell_of_row _ _ 3 _ _ _ hro).trans rfl)
      have z4 : ∀ z : Ext wo, z.get.cell? ⟨bf, 4, none⟩ = some _ := fun z => z.cell ((cell_of_row _ _ 4 _ _ _ hro).trans rfl)
      have z5 : ∀ z : Ext wo, z.get.cell? ⟨bf, 5, none⟩ = some _ := fun z => z.cell ((cell_of_row _ _ 5 _ _ _ hro).trans rfl)
      have z6 : ∀ z : Ext wo, z.get.cell? ⟨bf, 6, none⟩ = some _ := fun z => z.cell ((cell_of_row _ _ 6 _ _ _ hro).trans rfl)
      have z7 : ∀ z : Ext wo, z.get.cell? ⟨b2, off2 + k, none⟩ = some (.int .i64 g) := fun z => z.cell hc2
      go_wp2_with fail
      refine wp_region_ext (by rfl) (by kernel_rfl) ?_
      repeat (quiet_step ((first | (go_at_call 16; with_reducible exact Ext.calls (unhide cA _)) | (go_at_call 17; with_reducible exact Ext.calls (unhide cB _)))))
      refine wpQuiet_nil ?_
      rintro w' ⟨z, rfl⟩
      have hf5 := (unhide hfo).under z.le
      have hr5 := row_kept hro z.le
      have hb5 := (unhide hbw).trans (z.le.mono hsz)
      have hc25 := cell_under hc2 z.le
      have hg5 := (unhide hgo).under z.le
      obtain ⟨w5, hw5⟩ : ∃ w5, z.get = w5 := ⟨_, rfl⟩
      rw [hw5] at hf5 hr5 hb5 hc25 hg5 ⊢
      clear hw5 z0 z1 z2 z3 z4 z5 z6 z7 cA cB hc1 hfo hbw hgo hso hro hc2
      simp only [IntWalk.i64_left]
      have hp : wrap64 (wrap64 (P + A) + Z) = P + A + Z := by rw [wrap_id (x := P + A) (by omega)]; exact wrap_id (by omega)
      rw [hp]
      clear hp
      have hnx2 := unhide hnx
      obtain ⟨P1, hP1⟩ : ∃ P1, P + A + Z = P1 := ⟨_, rfl⟩
      rw [hP1] at hnx2 ⊢
      have hP1b : -120000 ≤ P1 ∧ P1 ≤ 120100 := by omega
      clear hP1 hnx
      replace hnx2 := hide hnx2; replace hb5 := hide hb5; replace hf5 := hide hf5; replace hg5 := hide hg5
      by_cases hk1 : k + 1 < gs.length
      · obtain ⟨b3, off3, g2, hbe, hSb3, hgy0, hyi, hc3⟩ := lst_int (unhide hg5) hk1
        cases hbe
        have hgy : gs.getD (k + 1) 0 = g2 := by rw [List.getD_eq_getElem?_getD, hgy0]; rfl
        have hnx3 := unhide hnx2
        rw [hgy, if_pos hk1] at hnx3
        have a2 := findBy_le ks (unhide kss) g g2
        have cC : ∀ z : Ext w5, Calls Try.prog 10 #[.agg #[.string s, .int .i64 n, .slice va vn vc, .slice gla av.length glc, .slice qa qn qc, .slice ta tn tc, .slice xa ks.length xc], .int .i64 g, .int .i64 g2] z.get fun e w' => e = .returned (.int .i64 (findBy ks g g2)) ∧ Below z.get.heap.size z.get w' := fun z => kby_font _ av ks g g2 _ ((unhide hf5).under z.le) hgi hyi
        obtain ⟨K, hKe⟩ : ∃ K, findBy ks g g2 = K := ⟨_, rfl⟩
        rw [hKe] at cC hnx3 a2
        clear hgy hgy0 hnx2 hKe
        replace hnx3 := hide hnx3; replace cC := hide cC
        have z0 : ∀ z : Ext w5, z.get.cell? ⟨bf, 0, none⟩ = some _ := fun z => z.cell ((cell_of_row _ _ 0 _ _ _ hr5).trans rfl)
        have z1 : ∀ z : Ext w5, z.get.cell? ⟨bf, 1, none⟩ = some _ := fun z => z.cell ((cell_of_row _ _ 1 _ _ _ hr5).trans rfl)
        have z2 : ∀ z : Ext w5, z.get.cell? ⟨bf, 2, none⟩ = some _ := fun z => z.cell ((cell_of_row _ _ 2 _ _ _ hr5).trans rfl)
        have z3 : ∀ z : Ext w5, z.get.cell? ⟨bf, 3, none⟩ = some _ := fun z => z.cell ((cell_of_row _ _ 3 _ _ _ hr5).trans rfl)
        have z4 : ∀ z : Ext w5, z.get.cell? ⟨bf, 4, none⟩ = some _ := fun z => z.cell ((cell_of_row _ _ 4 _ _ _ hr5).trans rfl)
        have z5 : ∀ z : Ext w5, z.get.cell? ⟨bf, 5, none⟩ = some _ := fun z => z.cell ((cell_of_row _ _ 5 _ _ _ hr5).trans rfl)
        have z6 : ∀ z : Ext w5, z.get.cell? ⟨bf, 6, none⟩ = some _ := fun z => z.cell ((cell_of_row _ _ 6 _ _ _ hr5).trans rfl)
        have z7 : ∀ z : Ext w5, z.get.cell? ⟨b2, off2 + k, none⟩ = some (.int .i64 g) := fun z => z.cell hc25
        go_wp2_with fail
        obtain ⟨k1, hk1e⟩ : ∃ k1, k + 1 = k1 := ⟨_, rfl⟩
        have hc3' := hc3
        have hk1' := hk1
        rw [hk1e] at hc3' hk1'
        have tk : IntKind.i64.wrap ((k : Int) + 1) = (k1 : Int) := by rw [← hk1e]; exact IntWalk.i64_in _ (by omega)
        have z8 : ∀ z : Ext w5, z.get.cell? ⟨b2, off2 + k1, none⟩ = some (.int .i64 g2) := fun z => z.cell hc3'
        replace hk1e := hide hk1e
        refine wp_region_ext (by rfl) (by kernel_rfl) ?_
        repeat (quiet_step ((go_at_call 10; with_reducible exact Ext.calls (unhide cC _))))
        refine wpQuiet_nil ?_
        rintro w' ⟨z, rfl⟩
        have hb6 := (unhide hb5).trans (z.le.mono (unhide hb5).size)
        obtain ⟨w6, hw6⟩ : ∃ w6, z.get = w6 := ⟨_, rfl⟩
        rw [hw6] at hb6 ⊢
        clear hw6 tk z0 z1 z2 z3 z4 z5 z6 z7 z8 cC hb5 hf5 hg5 hr5 hc25 hc3
        simp only [IntWalk.i64_left]
        have hp : wrap64 (P1 + K) = P1 + K := wrap_id (by omega)
        rw [hp]
        clear hp
        have hnx4 := unhide hnx3
        rw [← hnx4]
        clear hnx3
        replace hnx4 := hide hnx4
        go_wp2_with fail
        go_roundw
        case rel => exact ⟨k + 1, by omega, by go_num, rfl, hb6⟩
        case measure => simp [intOf]; omega
      · have hnx3 := unhide hnx2
        rw [if_neg hk1, Int.add_zero] at hnx3
        clear hnx2
        rw [← hnx3]
        replace hnx3 := hide hnx3
        go_wp2_with fail
        go_roundw
        case rel => exact ⟨k + 1, by omega, by go_num, rfl, unhide hb5⟩
        case measure => simp [intOf]; omega
    · have : k = gs.length := by omega
      subst this
      have hbz := (unhide hB3).trans (hbw.mono (unhide hB3).size)
      go_wp2_with fail
      go_ret
      exact ⟨rfl, hbz⟩
end Go.Proofs.Ytbbbldaccpfooaa
