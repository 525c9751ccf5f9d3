/- The reference's Place. -/
import Derived.Test.YtbbbldaccpfooaaKern5
import Derived.Test.YtbbbldaccpfooaaMade4
namespace Go.Proofs.Ytbbbldaccpfooaa
open Go.RowKit
theorem one_new6 (w : World) (v : Value) {T : Nat} : ∀ (j : Nat) (u : Value), [v][j]? = some u → (w.alloc (Obj.cells #[v] T)).cell? ((⟨w.heap.size, 0, none⟩ : Addr).add j) = some u := by
  intro j u hj
  have hj0 : j = 0 := by have := (List.getElem?_eq_some_iff.1 hj).1; simp at this; omega
  subst hj0
  rw [Addr.add_lit, cell_of_row _ _ _ _ _ _ (heap_alloc_new w _)]
  simpa using hj
def rowsTo (P : Nat → Int) (k : Nat) : List Value := ((List.range k).map fun i => Value.int .i64 (roundI (P i) 64))
theorem rowsTo_snoc (P : Nat → Int) (k : Nat) : rowsTo P k ++ [.int .i64 (roundI (P k) 64)] = rowsTo P (k + 1) := by
  unfold rowsTo
  rw [List.range_succ, List.map_append]
  rfl
theorem rowsTo_eq (P : Nat → Int) (n : Nat) : rowsTo P n = ((List.range n).map fun i => roundI (P i) 64).map (Value.int .i64) := by
  unfold rowsTo
  simp
set_option maxHeartbeats 4000000 in
set_option maxRecDepth 100000 in
theorem rplace_any (f : Value) (av : List Int) (ks : List (Int × Int × Int)) (ga : Option Addr) (gn gc : Nat) (g : List Int) (sa : Option Addr) (sn sc : Nat) (sp : List Int) (size : Int) (w : World)
    (hf : FontAt (· < w.heap.size) w f av ks) (hg : Lst Enc.int w (· < w.heap.size) ga gn g) (hs : Lst Enc.int w (· < w.heap.size) sa sn sp) (hgn : gn ≤ 1000) (hsn : sn ≤ 1000) (_ : I64 size) :
    Calls Try.prog 14 #[f, .slice ga gn gc, .slice sa sn sc, .int .i64 size] w fun e w' => ∃ ra rc, e = .returned (.tuple #[.slice ra gn rc, .int .i64 (roundI (penS av ks g sp size gn) 64)]) ∧
      w'.ownsRow w.heap.size 3 1 (.slice ra gn rc) gn (rowsTo (penS av ks g sp size) gn) ∧ Below w.heap.size w w' := by
  obtain ⟨s, n, va, vn, vc, b, fc, qa, qn, qc, ta, tn, tc, ka, kc, hfe, hb, hl9, hx, hks, hk13, hkb⟩ := id hf
  subst hfe
  have hlg := hg.1
  have hls := hs.1
  obtain ⟨i3, hi3, hiz3, his3, hiy3⟩ := info_parts T.info3
  replace hi3 := hide hi3; replace hiz3 := hide hiz3; replace his3 := hide his3; replace hiy3 := hide hiy3
  obtain ⟨bx, hbx⟩ : ∃ bx, bx = w.heap.size := ⟨_, rfl⟩
  obtain ⟨V, hV⟩ : ∃ V, V = w.alloc (Obj.cells #[.string s, .int .i64 n, .slice va vn vc, .slice (some ⟨b, 0, none⟩) av.length fc, .slice qa qn qc, .slice ta tn tc, .slice ka ks.length kc] 33) := ⟨_, rfl⟩
  have hrow1 : V.heap[bx]? = some (.cells #[.string s, .int .i64 n, .slice va vn vc, .slice (some ⟨b, 0, none⟩) av.length fc, .slice qa qn qc, .slice ta tn tc, .slice ka ks.length kc] 33 (0, 0)) := by rw [hV, hbx]; exact heap_alloc_new w _
  have hb0 : Below w.heap.size w V := by rw [hV]; exact (Below.refl _ _).alloc (Nat.le_refl _) _
  have hbl : bx < V.heap.size := (Array.getElem?_eq_some_iff.1 hrow1).1
  have hfV := hf.under hb0
  have hgV := hg.under hb0
  have hsV := hs.under hb0
  clear hf hg hs hx hks hkb hb hl9
  replace hV := hide hV; replace hbx := hide hbx; replace hrow1 := hide hrow1; replace hb0 := hide hb0; replace hfV := hide hfV; replace hgV := hide hgV; replace hsV := hide hsV
  go_enter Try.func14, Try.ntmps14
  go_wp2_with fail
  rw [← unhide hV, ← unhide hbx]
  go_wp2_with fail
  go_loopw [10, 11, 12] (fun v p i wr => ∃ k : Nat, k ≤ gn ∧ i = .int .i64 k ∧ p = .int .i64 (penS av ks g sp size k) ∧ wr.ownsRow V.heap.size 3 1 v k (rowsTo (penS av ks g sp size) k) ∧ Below V.heap.size V wr) (fun _ _ i _ => gn - (intOf i).toNat)
  case atStart => exact ⟨0, Nat.zero_le _, rfl, rfl, World.ownsRow_nil _ _ _ _, Below.refl _ _⟩
  case round =>
    obtain ⟨k, hk, rfl, rfl, hown, hbw⟩ := hrel
    obtain ⟨ra, rc, rfl⟩ := own_shape hown
    by_cases hlt : k < gn
    · obtain ⟨b1, off1, x, rfl, hSb, hgx, hxi, hc1⟩ := lst_int (unhide hgV) hlt
      have hgk : g.getD k 0 = x := by rw [List.getD_eq_getElem?_getD, hgx]; rfl
      have hsno := rowsTo_snoc (penS av ks g sp size) k
      obtain ⟨pen, hpen⟩ : ∃ pen, penS av ks g sp size k = pen := ⟨_, rfl⟩
      have hpi : I64 pen := by rw [← hpen]; exact penS_i64 _ _ _ _ _ _
      have hnext := penS_next av ks g sp size k
      rw [hpen, hgk] at hnext
      rw [hpen] at hsno ⊢
      clear hpen hgx hgk
      replace hsno := hide hsno; replace hnext := hide hnext
      go_wp2_with fail
      refine (rdots_any pen wr hpi).mono ?_
      rintro e w1 ⟨rfl, hb1⟩
      have hown1 := own_below hown hb1
      have hbw1 := hbw.trans (hb1.mono hbw.size)
      have hVw1 := hbw1.size
      clear hb1 hown hbw
      go_wp2_with (at_builtin; refine wpList_append_own _ rfl _ _ 24 rfl V.heap.size 3 i3 (.int .i64 0) 1 8 Try.underlying24 (unhide hi3) (unhide hiz3) (unhide his3) (unhide hiy3) rfl (by decide) _ _ _ rfl (hown1.alloc _) ⟨w1.heap.size, 0, none⟩ 1 1 [.int .i64 (roundI pen 64)] rfl rfl ?d1 ?d2 ?d3 ?d4 ?d5 ?_)
      case d1 => exact one_new6 _ _
      case d2 => first | rfl | (intro u hu; simp at hu; subst hu; rfl)
      case d3 => unfold maxLen; omega
      case d4 => omega
      case d5 => first | omega | (simp; omega)
      intro v' w2 hown2 hg2 _
      have hb2 := Below.grown (hbw1.alloc hVw1 (Obj.cells #[.int .i64 (roundI pen 64)] 3)) hg2 (by simp; omega) (fun g e => (hown1.lt g e).1)
      rw [unhide hsno] at hown2
      obtain ⟨va', vc', rfl⟩ := own_shape hown2
      clear hown1 hbw1 hVw1 hg2 hsno
      have hr2 := (hb2.block bx hbl).trans (unhide hrow1)
      have hf2 := (unhide hfV).under hb2
      have hc1' := cell_under hc1 hb2
      have hsz2 := hb2.size
      clear hc1
      replace hb2 := hide hb2; replace hown2 := hide hown2
      have cA : ∀ z : Ext w2, Calls Try.prog 23 #[.agg #[.string s, .int .i64 n, .slice va vn vc, .slice (some ⟨b, 0, none⟩) av.length fc, .slice qa qn qc, .slice ta tn tc, .slice ka ks.length kc], .int .i64 x] z.get fun e w' => e = .returned (.int .i64 (advS av x)) ∧ Below z.get.heap.size z.get w' := fun z => radvance_any (· < z.get.heap.size) _ av ks x _ (hf2.under z.le) (fun _ h => h) hxi
      replace cA := hide cA; replace hf2 := hide hf2; replace hr2 := hide hr2
      have y0 : ∀ z : Ext w2, z.get.cell? ⟨bx, 0, none⟩ = some _ := fun z => z.cell ((cell_of_row _ _ 0 _ _ _ (unhide hr2)).trans rfl)
      have y1 : ∀ z : Ext w2, z.get.cell? ⟨bx, 1, none⟩ = some _ := fun z => z.cell ((cell_of_row _ _ 1 _ _ _ (unhide hr2)).trans rfl)
      have y2 : ∀ z : Ext w2, z.get.cell? ⟨bx, 2, none⟩ = some _ := fun z => z.cell ((cell_of_row _ _ 2 _ _ _ (unhide hr2)).trans rfl)
      have y3 : ∀ z : Ext w2, z.get.cell? ⟨bx, 3, none⟩ = some _ := fun z => z.cell ((cell_of_row _ _ 3 _ _ _ (unhide hr2)).trans rfl)
      have y4 : ∀ z : Ext w2, z.get.cell? ⟨bx, 4, none⟩ = some _ := fun z => z.cell ((cell_of_row _ _ 4 _ _ _ (unhide hr2)).trans rfl)
      have y5 : ∀ z : Ext w2, z.get.cell? ⟨bx, 5, none⟩ = some _ := fun z => z.cell ((cell_of_row _ _ 5 _ _ _ (unhide hr2)).trans rfl)
      have y6 : ∀ z : Ext w2, z.get.cell? ⟨bx, 6, none⟩ = some _ := fun z => z.cell ((cell_of_row _ _ 6 _ _ _ (unhide hr2)).trans rfl)
      have y7 : ∀ z : Ext w2, z.get.cell? ⟨b1, off1 + k, none⟩ = some (.int .i64 x) := fun z => z.cell hc1'
      go_wp2_with fail
      refine wp_region_ext (by rfl) (by kernel_rfl) ?_
      repeat (quiet_step ((go_at_call 23; with_reducible exact Ext.calls (unhide cA _))))
      refine wpQuiet_nil ?_
      rintro w' ⟨z, rfl⟩
      have hown3 := own_below (unhide hown2) z.le
      have hb3 := (unhide hb2).trans (z.le.mono hsz2)
      have hf3 := (unhide hf2).under z.le
      have hr3 := (z.le.block bx (by omega)).trans (unhide hr2)
      have hc1'' := cell_under hc1' z.le
      obtain ⟨w3, hw3⟩ : ∃ w3, z.get = w3 := ⟨_, rfl⟩
      rw [hw3] at hown3 hb3 hf3 hr3 hc1'' ⊢
      clear hw3 y0 y1 y2 y3 y4 y5 y6 y7 cA hown2 hb2 hf2 hr2 hc1' hsz2
      have hsz3 := hb3.size
      obtain ⟨p1, hp1⟩ : ∃ p1, wrap64 (pen + wrap64 (size * advS av x)) = p1 := ⟨_, rfl⟩
      have hnx2 := unhide hnext
      simp only [IntWalk.i64_left]
      rw [hp1] at hnx2 ⊢
      clear hnext hp1
      replace hnx2 := hide hnx2; replace hown3 := hide hown3; replace hb3 := hide hb3; replace hf3 := hide hf3; replace hr3 := hide hr3
      have hss := fun h => lst_int ((unhide hsV).under (unhide hb3)) (k := k) h
      replace hss := hide hss
      by_cases hk1 : k + 1 < gn
      · obtain ⟨b2, off2, y, hbe, hSb2, hgy0, hyi, hc2⟩ := lst_int ((unhide hgV).under (unhide hb3)) hk1
        cases hbe
        have hgy : g.getD (k + 1) 0 = y := by rw [List.getD_eq_getElem?_getD, hgy0]; rfl
        have hnx3 := unhide hnx2
        rw [hgy, if_pos (by omega : k + 1 < g.length)] at hnx3
        clear hgy hgy0 hnx2
        replace hnx3 := hide hnx3
        have cB : ∀ z : Ext w3, Calls Try.prog 11 #[.agg #[.string s, .int .i64 n, .slice va vn vc, .slice (some ⟨b, 0, none⟩) av.length fc, .slice qa qn qc, .slice ta tn tc, .slice ka ks.length kc], .int .i64 x, .int .i64 y] z.get fun e w' => e = .returned (.int .i64 (findBy ks x y)) ∧ Below z.get.heap.size z.get w' := fun z => by
          obtain ⟨_, _, _, _, _, _, _, _, _, _, _, _, _, _, _, hfe, _, _, _, hks, _, _⟩ := (unhide hf3).under z.le
          injection hfe with hfe
          simp at hfe
          obtain ⟨_, _, _, _, _, _, e1, e2⟩ := hfe
          subst e1
          exact rby_any _ _ _ _ _ _ _ _ _ ks _ x y _ hks (fun _ h => h) (by unfold maxLen; omega)
        replace cB := hide cB
        have y0 : ∀ z : Ext w3, z.get.cell? ⟨bx, 0, none⟩ = some _ := fun z => z.cell ((cell_of_row _ _ 0 _ _ _ (unhide hr3)).trans rfl)
        have y1 : ∀ z : Ext w3, z.get.cell? ⟨bx, 1, none⟩ = some _ := fun z => z.cell ((cell_of_row _ _ 1 _ _ _ (unhide hr3)).trans rfl)
        have y2 : ∀ z : Ext w3, z.get.cell? ⟨bx, 2, none⟩ = some _ := fun z => z.cell ((cell_of_row _ _ 2 _ _ _ (unhide hr3)).trans rfl)
        have y3 : ∀ z : Ext w3, z.get.cell? ⟨bx, 3, none⟩ = some _ := fun z => z.cell ((cell_of_row _ _ 3 _ _ _ (unhide hr3)).trans rfl)
        have y4 : ∀ z : Ext w3, z.get.cell? ⟨bx, 4, none⟩ = some _ := fun z => z.cell ((cell_of_row _ _ 4 _ _ _ (unhide hr3)).trans rfl)
        have y5 : ∀ z : Ext w3, z.get.cell? ⟨bx, 5, none⟩ = some _ := fun z => z.cell ((cell_of_row _ _ 5 _ _ _ (unhide hr3)).trans rfl)
        have y6 : ∀ z : Ext w3, z.get.cell? ⟨bx, 6, none⟩ = some _ := fun z => z.cell ((cell_of_row _ _ 6 _ _ _ (unhide hr3)).trans rfl)
        have y7 : ∀ z : Ext w3, z.get.cell? ⟨b1, off1 + k, none⟩ = some (.int .i64 x) := fun z => z.cell hc1''
        go_wp2_with fail
        obtain ⟨k1, hk1e⟩ : ∃ k1, k + 1 = k1 := ⟨_, rfl⟩
        have hc2' := hc2
        have hk1' := hk1
        rw [hk1e] at hc2' hk1'
        have tk : IntKind.i64.wrap ((k : Int) + 1) = (k1 : Int) := by rw [← hk1e]; exact IntWalk.i64_in _ (by omega)
        have y8 : ∀ z : Ext w3, z.get.cell? ⟨b1, off1 + k1, none⟩ = some (.int .i64 y) := fun z => z.cell hc2'
        replace hk1e := hide hk1e
        refine wp_region_ext (by rfl) (by kernel_rfl) ?_
        repeat (quiet_step ((go_at_call 11; with_reducible exact Ext.calls (unhide cB _))))
        refine wpQuiet_nil ?_
        rintro w' ⟨z, rfl⟩
        have hown4 := own_below (unhide hown3) z.le
        have hb4 := (unhide hb3).trans (z.le.mono hsz3)
        obtain ⟨w4, hw4⟩ : ∃ w4, z.get = w4 := ⟨_, rfl⟩
        rw [hw4] at hown4 hb4 ⊢
        clear hw4 tk y0 y1 y2 y3 y4 y5 y6 y7 y8 cB hown3 hb3 hf3 hr3 hc1'' hc2 hss
        obtain ⟨p2, hp2⟩ : ∃ p2, wrap64 (p1 + wrap64 (size * findBy ks x y)) = p2 := ⟨_, rfl⟩
        have hnx4 := unhide hnx3
        simp only [IntWalk.i64_left]
        rw [hp2] at hnx4 ⊢
        clear hnx3 hp2
        replace hnx4 := hide hnx4
        by_cases hks1 : k < sn
        · obtain ⟨b3, off3, z, rfl, hSb3, hsz0, hzi, hc3⟩ := lst_int ((unhide hsV).under hb4) hks1
          have hsz : sp.getD k 0 = z := by rw [List.getD_eq_getElem?_getD, hsz0]; rfl
          have hnx5 := unhide hnx4
          rw [hsz, if_pos (by omega : k < sp.length)] at hnx5
          clear hsz hsz0 hnx4
          replace hnx5 := hide hnx5
          go_wp2_with fail
          go_roundw
          case rel => exact ⟨k + 1, by omega, by go_num, by rw [unhide hnx5], hown4, hb4⟩
          case measure => simp [intOf]; omega
        · have hnx5 := unhide hnx4
          rw [if_neg (by omega : ¬ k < sp.length)] at hnx5
          clear hnx4
          replace hnx5 := hide hnx5
          go_wp2_with fail
          go_roundw
          case rel => exact ⟨k + 1, by omega, by go_num, by rw [unhide hnx5], hown4, hb4⟩
          case measure => simp [intOf]; omega
      · have hnx4 := unhide hnx2
        rw [if_neg (by omega : ¬ k + 1 < g.length)] at hnx4
        clear hnx2
        replace hnx4 := hide hnx4
        clear hc1''
        by_cases hks1 : k < sn
        · obtain ⟨b3, off3, z, rfl, hSb3, hsz0, hzi, hc3⟩ := unhide hss hks1
          have hsz : sp.getD k 0 = z := by rw [List.getD_eq_getElem?_getD, hsz0]; rfl
          have hnx5 := unhide hnx4
          rw [hsz, if_pos (by omega : k < sp.length)] at hnx5
          clear hsz hsz0 hnx4 hss
          replace hnx5 := hide hnx5
          go_wp2_with fail
          go_roundw
          case rel => exact ⟨k + 1, by omega, by go_num, by rw [unhide hnx5], unhide hown3, unhide hb3⟩
          case measure => simp [intOf]; omega
        · have hnx5 := unhide hnx4
          rw [if_neg (by omega : ¬ k < sp.length)] at hnx5
          clear hnx4 hss
          replace hnx5 := hide hnx5
          go_wp2_with fail
          go_roundw
          case rel => exact ⟨k + 1, by omega, by go_num, by rw [unhide hnx5], unhide hown3, unhide hb3⟩
          case measure => simp [intOf]; omega
    · have : k = gn := by omega
      subst this
      go_wp2_with fail
      refine (rdots_any _ wr (penS_i64 _ _ _ _ _ _)).mono ?_
      rintro e w1 ⟨rfl, hb1⟩
      have hfin := own_base (own_below hown hb1) (unhide hb0).size
      have hbf := (unhide hb0).trans ((hbw.trans (hb1.mono hbw.size)).mono (unhide hb0).size)
      go_wp2_with fail
      exact bodyPost_ret (v := .tuple #[.slice ra k rc, .int .i64 (roundI (penS av ks g sp size k) 64)]) (by simp [results, Try.results14, go_sem]) rfl ⟨ra, rc, rfl, hfin, hbf⟩
end Go.Proofs.Ytbbbldaccpfooaa
