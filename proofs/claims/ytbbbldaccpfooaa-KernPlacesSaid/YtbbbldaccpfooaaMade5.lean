/- The law's case, made. -/
import Derived.Test.YtbbbldaccpfooaaMade2
import Derived.Test.YtbbbldaccpfooaaMade4
namespace Go.Proofs.Ytbbbldaccpfooaa
open Go.RowKit
set_option maxRecDepth 100000 in
set_option maxHeartbeats 8000000 in
theorem cmade_any (cs : Array Value) (y : List (List Int) × (List (Int × Int × Int) × (List Int × List Int))) (w : World) (hy : ECase.rep w (fun b => b < w.heap.size) cs.toList y) :
    Calls Try.prog 9 #[.agg cs] w fun e w' => (∃ f av ks pa pc gs ra rc ss, e = .returned (.tuple #[f, .slice pa gs.length pc, .slice ra ss.length rc]) ∧ FontAt (· < w'.heap.size) w' f av ks ∧
      Lst Enc.int w' (· < w'.heap.size) pa gs.length gs ∧ gs.length ≤ 10 ∧ gs.length ≤ pc ∧ (∀ x ∈ gs, -1 ≤ x ∧ x ≤ 9) ∧ Lst Enc.int w' (· < w'.heap.size) ra ss.length ss ∧ ss.length ≤ 10 ∧ (∀ x ∈ ss, 0 ≤ x ∧ x ≤ 5)) ∧ Below w.heap.size w w' := by
  obtain ⟨fa, fn, fc, ka, kn, kc, ga, gn, gc, sa, sn, sc, rfl, hfn, hkn, hgn, hsn, hF, hK, hG, hS⟩ := case_open hy
  clear hy
  unfold maxLen at hkn hgn hsn
  obtain ⟨LF, hLF⟩ : ∃ r, y.1 = r := ⟨_, rfl⟩
  obtain ⟨LK, hLK⟩ : ∃ r, y.2.1 = r := ⟨_, rfl⟩
  obtain ⟨LG, hLG⟩ : ∃ r, y.2.2.1 = r := ⟨_, rfl⟩
  obtain ⟨LS, hLS⟩ : ∃ r, y.2.2.2 = r := ⟨_, rfl⟩
  rw [hLF] at hF; rw [hLK] at hK; rw [hLG] at hG; rw [hLS] at hS
  clear hLF hLK hLG hLS
  obtain ⟨i1, hi1, hz0, hz1, hz2⟩ := info_parts T.info53
  obtain ⟨i3, hi3, hiz3, his3, hiy3⟩ := info_parts T.info3
  replace hi1 := hide hi1; replace hz0 := hide hz0; replace hz1 := hide hz1; replace hz2 := hide hz2
  replace hi3 := hide hi3; replace hiz3 := hide hiz3; replace his3 := hide his3; replace hiy3 := hide hiy3
  obtain ⟨bx, hbx⟩ : ∃ bx, bx = w.heap.size := ⟨_, rfl⟩
  obtain ⟨wo, hwo⟩ : ∃ wo, wo = (w.alloc (Obj.cells #[.slice fa fn fc, .slice ka kn kc, .slice ga gn gc, .slice sa sn sc] 26)).alloc (Obj.cells #[.string ⟨#[]⟩, .int .i64 0, .slice none 0 0, .slice none 0 0, .slice none 0 0, .slice none 0 0, .slice none 0 0] 33) := ⟨_, rfl⟩
  have hrow1 : wo.heap[bx]? = some (.cells #[.slice fa fn fc, .slice ka kn kc, .slice ga gn gc, .slice sa sn sc] 26 (0, 0)) := by
    rw [hwo, hbx]
    exact (Below.heap_alloc _ _ _ (by simp)).trans (heap_alloc_new w _)
  have hrow2 : wo.heap[bx + 1]? = some (.cells #[.string ⟨#[]⟩, .int .i64 0, .slice none 0 0, .slice none 0 0, .slice none 0 0, .slice none 0 0, .slice none 0 0] 33 (0, 0)) := by
    rw [hwo, hbx]
    have := heap_alloc_new (w.alloc (Obj.cells #[.slice fa fn fc, .slice ka kn kc, .slice ga gn gc, .slice sa sn sc] 26)) (Obj.cells #[.string ⟨#[]⟩, .int .i64 0, .slice none 0 0, .slice none 0 0, .slice none 0 0, .slice none 0 0, .slice none 0 0] 33)
    rwa [World.size_alloc] at this
  have hb0 : Below w.heap.size w wo := by rw [hwo]; exact ((Below.refl _ _).alloc (Nat.le_refl _) _).alloc (by simp) _
  have hbl : bx + 1 < wo.heap.size := (Array.getElem?_eq_some_iff.1 hrow2).1
  have hc0 : wo.cell? ⟨bx, 0, none⟩ = some (.slice fa fn fc) := (cell_of_row _ _ 0 _ _ _ hrow1).trans rfl
  have hmk := made_any fa fn fc LF wo (hF.under hb0) hfn
  clear hF
  replace hwo := hide hwo; replace hb0 := hide hb0; replace hrow1 := hide hrow1; replace hrow2 := hide hrow2; replace hbx := hide hbx; replace hmk := hide hmk; replace hK := hide hK; replace hG := hide hG; replace hS := hide hS
  go_enter Try.func9, Try.ntmps9
  go_wp2_with fail
  rw [← unhide hwo, ← unhide hbx]
  go_wp2_with fail
  refine (unhide hmk).mono ?_
  rintro e w1 ⟨⟨s, n, va, vn, vc, gla, glc, qa, qn, qc, a5, n5, k5, fka, fkc, fks, xs, rfl, hGl, hadv, hKs, hk3, hkb⟩, hb1⟩
  have hr1 := (hb1.block bx (by omega)).trans (unhide hrow1)
  have hr2 := (hb1.block (bx + 1) hbl).trans (unhide hrow2)
  have hB1 := (unhide hb0).trans (hb1.mono (unhide hb0).size)
  have hs1 := hb1.size
  have hww1 := hB1.size
  clear hmk hrow1 hrow2 hb0 hb1 hc0 hwo
  replace hr1 := hide hr1; replace hr2 := hide hr2; replace hB1 := hide hB1; replace hGl := hide hGl; replace hadv := hide hadv; replace hKs := hide hKs; replace hkb := hide hkb
  go_wp2_with fail
  obtain ⟨bf, hbf⟩ : ∃ bf, bf = w1.heap.size := ⟨_, rfl⟩
  obtain ⟨wB, hwB⟩ : ∃ wB, wB = w1.alloc (Obj.cells #[.string s, .int .i64 n, .slice va vn vc, .slice gla 9 glc, .slice qa qn qc, .slice a5 n5 k5, .slice fka fks.length fkc] 33) := ⟨_, rfl⟩
  have hbB : Below w1.heap.size w1 wB := by rw [hwB]; exact (Below.refl _ _).alloc (Nat.le_refl _) _
  have hrf : wB.heap[bf]? = some (.cells #[.string s, .int .i64 n, .slice va vn vc, .slice gla 9 glc, .slice qa qn qc, .slice a5 n5 k5, .slice fka fks.length fkc] 33 (0, 0)) := by rw [hwB, hbf]; exact heap_alloc_new w1 _
  have hszB : wB.heap.size = w1.heap.size + 1 := by rw [hwB]; simp
  rw [← hwB, ← hbf]
  clear hwB
  have hrB1 := (hbB.block bx (by omega)).trans (unhide hr1)
  have hrB2 := (hbB.block (bx + 1) (by omega)).trans (unhide hr2)
  have hBB := (unhide hB1).trans (hbB.mono (unhide hB1).size)
  have hGl2 := own_below (unhide hGl) hbB
  have hKs2 := own_below (unhide hKs) hbB
  have hbfl : bf < wB.heap.size := by omega
  have hbf1 : w1.heap.size ≤ bf := by omega
  replace hbf := hide hbf; replace hszB := hide hszB
  clear hr1 hr2 hB1 hGl hKs hbB
  replace hrB1 := hide hrB1; replace hrB2 := hide hrB2; replace hBB := hide hBB; replace hGl2 := hide hGl2; replace hKs2 := hide hKs2; replace hrf := hide hrf
  go_loopw [6, 7] (fun v6 v7 wr => ∃ (k : Nat) (q : List (Int × Int × Int)), k ≤ kn ∧ k ≤ 10 ∧ v7 = .int .i64 (k : Int) ∧ q.length = k ∧ (∀ z ∈ q, I64 z.1 ∧ I64 z.2.1 ∧ -100 ≤ z.2.2 ∧ z.2.2 ≤ 100) ∧ wr.ownsRow wB.heap.size 53 3 v6 k (kcells q) ∧ Below wB.heap.size wB wr) (fun _ v _ => (kn - intOf v).toNat)
  case atStart => exact ⟨0, [], by omega, by omega, rfl, rfl, (fun z hz => by cases hz), World.ownsRow_nil _ _ _ _, Below.refl _ _⟩
  case round =>
    obtain ⟨k, q, hk, hk10, rfl, hql, hqb, hown, hb⟩ := hrel
    have hrC := (hb.block bx (by omega)).trans (unhide hrB1)
    have hcC : wr.cell? ⟨bx, 1, none⟩ = some (.slice ka kn kc) := (cell_of_row _ _ 1 _ _ _ hrC).trans rfl
    obtain ⟨ra, rc, rfl⟩ := own_shape hown
    replace hrC := hide hrC
    by_cases hlt : k < kn ∧ k < 10
    · obtain ⟨bb, off, x0, x1, x2, rfl, hbb, hx, hi0, hi1', hi2, c0, c1, c2⟩ := Lst.kern_at ((unhide hK).below ((unhide hBB).trans (hb.mono (unhide hBB).size))) hlt.1
      have t1 : (k : Int) < (kn : Int) := by omega
      have t2 : (k : Int) < 10 := by omega
      have hmod := fun w => mod_any x2 201 w (by omega) (by omega)
      have hm0 : 0 ≤ x2 % 201 := Int.emod_nonneg _ (by omega)
      have hm1 : x2 % 201 < 201 := Int.emod_lt_of_pos _ (by omega)
      obtain ⟨z, hz⟩ : ∃ z, x2 % 201 = z := ⟨_, rfl⟩
      simp only [hz] at hmod
      rw [hz] at hm0 hm1
      have hsz := hb.size
      replace hmod := hide hmod
      clear hx hz
      go_wp2_with fail
      refine (unhide hmod _).mono ?_
      rintro e w2 ⟨rfl, hw2⟩
      obtain ⟨ba, hba⟩ : ∃ ba, ba = wr.heap.size := ⟨_, rfl⟩
      have hrA : w2.heap[ba]? = some (.cells #[.int .i64 x0, .int .i64 x1, .int .i64 x2] 53 (0, 0)) := by rw [hw2, hba]; exact heap_alloc_new wr _
      have hb2 : Below wr.heap.size wr w2 := by rw [hw2]; exact (Below.refl _ _).alloc (Nat.le_refl _) _
      rw [← hba]
      have hba1 : wr.heap.size ≤ ba := by omega
      replace hba := hide hba; replace hw2 := hide hw2
      have a0 : w2.cell? ⟨ba, 0, none⟩ = some (.int .i64 x0) := (cell_of_row _ _ 0 _ _ _ hrA).trans rfl
      have a1 : w2.cell? ⟨ba, 1, none⟩ = some (.int .i64 x1) := (cell_of_row _ _ 1 _ _ _ hrA).trans rfl
      have a2 : w2.cell? ⟨ba, 2, none⟩ = some (.int .i64 x2) := (cell_of_row _ _ 2 _ _ _ hrA).trans rfl
      have f2 : w2.frozen? ⟨ba, 2, none⟩ = false := by simp [World.frozen?, hrA]
      have hownS := ((own_below hown hb2).kept (grownBy_set w2 ba 2 (.int .i64 (z - 100))) (.inr (fun e => by have := (hown.lt ba e).2; omega)))
      have hbS : Below wr.heap.size wr (w2.setCell ⟨ba, 2, none⟩ (.int .i64 (z - 100))) := hb2.setCell (p := ⟨ba, 2, none⟩) (by show wr.heap.size ≤ ba; omega) _
      have hszS : (w2.setCell ⟨ba, 2, none⟩ (.int .i64 (z - 100))).heap.size = w2.heap.size := by simp [World.setCell]
      have hsz2 := hb2.size
      clear hw2 hown hrA hb2 hmod c0 c1 c2 hcC hrC
      replace hbS := hide hbS
      go_wp2_with (at_builtin; refine wpList_append_own _ rfl _ _ 23 rfl wB.heap.size 53 i1 _ 3 24 Try.underlying23 (unhide hi1) (unhide hz0) (unhide hz1) (unhide hz2) rfl (by decide) _ _ _ rfl (hownS.alloc _) ⟨w2.heap.size, 0, none⟩ 1 1 [.int .i64 x0, .int .i64 x1, .int .i64 (z - 100)] rfl rfl ?c1 ?c2 ?c3 ?c4 ?c5 ?_)
      case c1 =>
        intro j u hj
        have hj3 : j < 3 := (List.getElem?_eq_some_iff.1 hj).1
        have hnew := heap_alloc_new (w2.setCell ⟨ba, 2, none⟩ (.int .i64 (z - 100))) (Obj.cells #[.int .i64 x0, .int .i64 x1, .int .i64 (z - 100)] 53)
        rw [hszS] at hnew
        rw [Addr.add_lit, Nat.zero_add, cell_of_row _ _ _ _ _ _ hnew, ← hj]
        obtain rfl | rfl | rfl : j = 0 ∨ j = 1 ∨ j = 2 := by omega
        all_goals rfl
      case c2 => first | exact ⟨rfl, rfl, rfl⟩ | (intro u hu; simp at hu; rcases hu with rfl | rfl | rfl <;> rfl)
      case c3 => unfold maxLen; omega
      case c4 => omega
      case c5 => first | omega | (simp; omega)
      intro v' w12 hown12 hg12 _
      have hb12 : Below wB.heap.size wB w12 := Below.grown ((hb.trans ((unhide hbS).mono hb.size)).alloc (by rw [hszS]; omega) _) hg12 (by simp; omega) (fun g e => (hownS.lt g e).1)
      obtain ⟨va', vc', rfl⟩ := own_shape hown12
      have hks := kcells_snoc q x0 x1 (z - 100)
      rw [← hks] at hown12
      clear hg12 hownS hbS hks a0 a1 a2 f2 hb
      go_wp2_with fail
      go_roundw
      case rel => exact ⟨k + 1, q ++ [(x0, x1, z - 100)], by omega, by omega, by go_num, by rw [List.length_append, hql]; rfl, fun y hy => (by rcases List.mem_append.1 hy with h | h; exact hqb y h; simp at h; subst h; exact ⟨hi0, hi1', by show -100 ≤ z - 100; omega, by show z - 100 ≤ 100; omega⟩), hown12, hb12⟩
      case measure => simp [intOf]; omega
    · replace hrC := unhide hrC
      have hKr := own_below (unhide hKs2) hb
      obtain ⟨v', w3, hrun, hown3, hg3⟩ := app_kern hown hKr (fun u hu => by unfold kcells at hu; simp at hu; obtain ⟨_, _, _, _, h | h | h⟩ := hu <;> (rw [h]; rfl)) hb.size (by omega) (by omega) 23
      obtain ⟨xa, xc, rfl⟩ := own_shape hown3
      have hKrl : (Value.slice ra k rc).ownBlock ≠ some bf := fun e => by have := (hown.lt bf e).1; omega
      have hb3 : Below wB.heap.size wr w3 := Below.grown (Below.refl _ _) hg3 hb.size (fun g e => (hown.lt g e).1)
      have hrfr := (hb.block bf hbfl).trans (unhide hrf)
      have hcf : wr.cell? ⟨bf, 6, none⟩ = some (.slice fka fks.length fkc) := (cell_of_row _ _ 6 _ _ _ hrfr).trans rfl
      have hrf3 := (hb3.block bf hbfl).trans hrfr
      have hcf3 : w3.cell? ⟨bf, 6, none⟩ = some (.slice fka fks.length fkc) := (cell_of_row _ _ 6 _ _ _ hrf3).trans rfl
      have hzf3 : w3.frozen? ⟨bf, 6, none⟩ = false := by simp [World.frozen?, hrf3]
      have hGr := own_below (unhide hGl2) hb
      have hG3 := hGr.kept hg3 (by
        cases hvo : (Value.slice ra k rc).ownBlock with
        | none => cases hgo : (Value.slice gla 9 glc).ownBlock with
          | none => exact .inl rfl
          | some g => exact .inr (by simp)
        | some g => exact .inr (row_ne hGr hown (by decide) hvo))
      have hbw3 := hb.trans hb3
      obtain ⟨wD, hwD⟩ : ∃ wD, wD = w3.setCell ⟨bf, 6, none⟩ (.slice xa (k + fks.length) xc) := ⟨_, rfl⟩
      have hsD : wD.heap.size = w3.heap.size := by rw [hwD]; simp [World.setCell]
      have hoth : ∀ c, c ≠ bf → wD.heap[c]? = w3.heap[c]? := fun c hc => by rw [hwD]; exact Below.heap_setCell w3 _ _ _ hc
      have hDf : wD.heap[bf]? = some (.cells #[.string s, .int .i64 n, .slice va vn vc, .slice gla 9 glc, .slice qa qn qc, .slice a5 n5 k5, .slice xa (k + fks.length) xc] 33 (0, 0)) := by rw [hwD]; exact heap_set hrf3 _
      have hD1 := (hoth bx (by omega)).trans ((hbw3.block bx (by omega)).trans (unhide hrB1))
      have hD2 := (hoth (bx + 1) (by omega)).trans ((hbw3.block (bx + 1) (by omega)).trans (unhide hrB2))
      have hBD : Below w.heap.size w wD := by rw [hwD]; exact ((unhide hBB).trans (hbw3.mono (unhide hBB).size)).setCell (p := ⟨bf, 6, none⟩) (by show w.heap.size ≤ bf; have := (unhide hBB).size; omega) _
      have hGD : wD.ownsRow wo.heap.size 64 7 (.slice gla 9 glc) 9 xs := by rw [hwD]; exact hG3.kept (grownBy_set _ bf 6 _) (.inr (own_ne_blk hG3 hrf3 (by decide)))
      have hKD : wD.ownsRow wB.heap.size 53 3 (.slice xa (k + fks.length) xc) (k + fks.length) (kcells (q ++ fks)) := by
        rw [hwD, show kcells (q ++ fks) = kcells q ++ kcells fks by simp [kcells]]
        exact hown3.kept (grownBy_set _ bf 6 _) (.inr (fun e => by have := (hown3.lt bf e).1; omega))
      have hkq : ∀ y ∈ q ++ fks, I64 y.1 ∧ I64 y.2.1 ∧ -100 ≤ y.2.2 ∧ y.2.2 ≤ 100 := fun y hy => by
        rcases List.mem_append.1 hy with h | h
        · exact hqb y h
        · have := unhide hkb y h
          exact ⟨this.1, this.2.1, by omega, by omega⟩
      have hkl : (q ++ fks).length = k + fks.length := by rw [List.length_append, hql]
      have hszw : w3.heap.size ≤ wD.heap.size := by omega
      have hbfD : bf < wD.heap.size := (Array.getElem?_eq_some_iff.1 hDf).1
      have hcond : ¬ (k < kn ∧ k < 10) := hlt
      clear hrC hrfr hrf3 hGr hG3 hown hown3 hKr hg3 hb3 hb hbw3 hoth hKrl hlt hGl2 hKs2 hrf hrB1 hrB2 hBB hkb hqb
      replace hwD := hide hwD; replace hDf := hide hDf; replace hD1 := hide hD1; replace hD2 := hide hD2; replace hBD := hide hBD; replace hGD := hide hGD; replace hKD := hide hKD; replace hkq := hide hkq; replace hkl := hide hkl; replace hrun := hide hrun; replace hsD := hide hsD
      go_upto_region 4 with fail
      go_cut [24] (fun v wx => v = .bool false ∧ wx = wr)
      case first =>
        by_cases h1 : k < kn
        · have t1 : (k : Int) < (kn : Int) := by omega
          have t2 : ¬ (k : Int) < 10 := by omega
          replace h1 := hide h1
          clear hcond
          go_wp2_with fail
          go_meet
          exact ⟨rfl, rfl⟩
        · have t1 : ¬ (k : Int) < (kn : Int) := by omega
          replace h1 := hide h1
          clear hcond
          go_wp2_with fail
          go_meet
          exact ⟨rfl, rfl⟩
      case rest =>
        obtain ⟨rfl, e8⟩ := hcut
        subst e8
        clear hcond hcC
        replace hrun := unhide hrun
        go_wp2_with (at_builtin; refine Lib.wpList_append_run _ rfl _ _ 23 23 rfl _ _ rfl rfl _ w3 hrun ?_)
        go_wp2_with fail
        rw [← unhide hwD]
        clear hrun hcf hcf3 hzf3
        go_wp2_with fail
        go_loopw [9, 11] (fun v9 v11 wr => ∃ (k : Nat) (gs : List Int), k ≤ gn ∧ k ≤ 10 ∧ v11 = .int .i64 (k : Int) ∧ gs.length = k ∧ (∀ z ∈ gs, -1 ≤ z ∧ z ≤ 9) ∧ wr.ownsRow wD.heap.size 3 1 v9 k (gs.map (Value.int .i64)) ∧ Below wD.heap.size wD wr) (fun _ v _ => (gn - intOf v).toNat)
        case atStart => exact ⟨0, [], by omega, by omega, rfl, rfl, (fun z hz => by cases hz), World.ownsRow_nil _ _ _ _, Below.refl _ _⟩
        case round =>
          obtain ⟨j, gs, hj, hj10, rfl, hgl, hgb, hown, hb⟩ := hrel
          have hrC := (hb.block bx (by omega)).trans (unhide hD1)
          have hrF := (hb.block bf hbfD).trans (unhide hDf)
          have hcC : wr.cell? ⟨bx, 2, none⟩ = some (.slice ga gn gc) := (cell_of_row _ _ 2 _ _ _ hrC).trans rfl
          have hcF : wr.cell? ⟨bf, 3, none⟩ = some (.slice gla 9 glc) := (cell_of_row _ _ 3 _ _ _ hrF).trans rfl
          have hbxl : bx < wr.heap.size := (Array.getElem?_eq_some_iff.1 hrC).1
          have hbfl2 : bf < wr.heap.size := (Array.getElem?_eq_some_iff.1 hrF).1
          obtain ⟨ra, rc, rfl⟩ := own_shape hown
          replace hrC := hide hrC; replace hrF := hide hrF
          by_cases hlt : j < gn ∧ j < 10
          · obtain ⟨bb, off, x, rfl, hbb, hx, hxi, hcx⟩ := lst_int ((unhide hG).below ((unhide hBD).trans (hb.mono (unhide hBD).size))) hlt.1
            have hbbl : bb < wr.heap.size := World.block_lt_of_cell? wr _ hcx
            have t1 : (j : Int) < (gn : Int) := by omega
            have t2 : (j : Int) < 10 := by omega
            have hmod := fun w => mod_any x 11 w (by omega) (by omega)
            have hm0 : 0 ≤ x % 11 := Int.emod_nonneg _ (by omega)
            have hm1 : x % 11 < 11 := Int.emod_lt_of_pos _ (by omega)
            obtain ⟨z, hz⟩ : ∃ z, x % 11 = z := ⟨_, rfl⟩
            simp only [hz] at hmod
            rw [hz] at hm0 hm1
            have hsz := hb.size
            replace hmod := hide hmod
            clear hx hz
            go_upto_region 14 with fail
            refine wp_region_frontG 13 (fun _ _ w' => Below wr.heap.size wr w') (fun wa wb => Below wa.heap.size wa wb)
              (fun ix v w' => match ix with
                | 0 => v = .slice ra j rc
                | 1 => v = .pointer (some ⟨bx, 2, none⟩)
                | 2 => v = .slice (some ⟨bb, off, none⟩) gn gc
                | 3 => v = .int .i64 (j : Int)
                | 4 => v = .pointer (some ⟨bb, off + j, none⟩)
                | 5 => v = .int .i64 x
                | 6 => v = .pointer (some ⟨bf, 3, none⟩)
                | 7 => v = .slice gla 9 glc
                | 8 => v = .int .i64 9
                | 9 => v = .int .i64 11
                | 10 => v = .int .i64 z
                | 11 => v = .int .i64 (z - 1)
                | 12 => ∃ b, v = .slice (some ⟨b, 0, none⟩) 1 1 ∧ w'.heap[b]? = some (.cells #[.int .i64 (z - 1)] 3 (0, 0))
                | _ => True) (by rfl) (by kernel_rfl) ?_ ?_ ?_ ?_
            · exact (Below.refl _ _).drew
            · intro wa wb hR ix v hv
              match ix, hv with
              | 0, h => exact h
              | 1, h => exact h
              | 2, h => exact h
              | 3, h => exact h
              | 4, h => exact h
              | 5, h => exact h
              | 6, h => exact h
              | 7, h => exact h
              | 8, h => exact h
              | 9, h => exact h
              | 10, h => exact h
              | 11, h => exact h
              | 12, h => obtain ⟨b, h1, h2⟩ := h; exact ⟨b, h1, (hR.block b (Array.getElem?_eq_some_iff.1 h2).1).trans h2⟩
              | _ + 13, _ => trivial
            · intro ix hix
              obtain rfl | rfl | rfl | rfl | rfl | rfl | rfl | rfl | rfl | rfl | rfl | rfl | rfl : ix = 0 ∨ ix = 1 ∨ ix = 2 ∨ ix = 3 ∨ ix = 4 ∨ ix = 5 ∨ ix = 6 ∨ ix = 7 ∨ ix = 8 ∨ ix = 9 ∨ ix = 10 ∨ ix = 11 ∨ ix = 12 := by omega
              · refine FrontStep.of [] _ rfl (by kernel_rfl) ?_
                intro vs LL wq hLL hC hf
                simp only [putL, List.foldl_nil]
                go_wp2_with fail
                first | exact Below.refl _ _ | exact ⟨Below.refl _ _, by omega⟩
              · refine FrontStep.of [] _ rfl (by kernel_rfl) ?_
                intro vs LL wq hLL hC hf
                simp only [putL, List.foldl_nil]
                go_wp2_with fail
                first | exact Below.refl _ _ | exact ⟨Below.refl _ _, by omega⟩
              · refine FrontStep.of [1] _ rfl (by kernel_rfl) ?_
                intro vs LL wq hLL hC hf
                simp only [putL, List.foldl_nil, List.foldl_cons, List.getElem?_cons_zero, List.getElem?_cons_succ]
                have e1 : vs 1 = _ := hf 1 (by simp)
                rw [e1]
                have hcq := (hC.cell (p := ⟨bx, 2, none⟩) hbxl).trans hcC
                go_wp2_with fail
                first | exact Below.refl _ _ | exact ⟨Below.refl _ _, by omega⟩
              · refine FrontStep.of [] _ rfl (by kernel_rfl) ?_
                intro vs LL wq hLL hC hf
                simp only [putL, List.foldl_nil]
                go_wp2_with fail
                first | exact Below.refl _ _ | exact ⟨Below.refl _ _, by omega⟩
              · refine FrontStep.of [2, 3] _ rfl (by kernel_rfl) ?_
                intro vs LL wq hLL hC hf
                simp only [putL, List.foldl_nil, List.foldl_cons, List.getElem?_cons_zero, List.getElem?_cons_succ]
                have e2 : vs 2 = _ := hf 2 (by simp)
                rw [e2]
                have e3 : vs 3 = _ := hf 3 (by simp)
                rw [e3]
                go_wp2_with fail
                first | exact Below.refl _ _ | exact ⟨Below.refl _ _, by omega⟩
              · refine FrontStep.of [4] _ rfl (by kernel_rfl) ?_
                intro vs LL wq hLL hC hf
                simp only [putL, List.foldl_nil, List.foldl_cons, List.getElem?_cons_zero, List.getElem?_cons_succ]
                have e4 : vs 4 = _ := hf 4 (by simp)
                rw [e4]
                have hcq := (hC.cell (p := ⟨bb, off + j, none⟩) hbbl).trans hcx
                go_wp2_with fail
                first | exact Below.refl _ _ | exact ⟨Below.refl _ _, by omega⟩
              · refine FrontStep.of [] _ rfl (by kernel_rfl) ?_
                intro vs LL wq hLL hC hf
                simp only [putL, List.foldl_nil]
                go_wp2_with fail
                first | exact Below.refl _ _ | exact ⟨Below.refl _ _, by omega⟩
              · refine FrontStep.of [6] _ rfl (by kernel_rfl) ?_
                intro vs LL wq hLL hC hf
                simp only [putL, List.foldl_nil, List.foldl_cons, List.getElem?_cons_zero, List.getElem?_cons_succ]
                have e6 : vs 6 = _ := hf 6 (by simp)
                rw [e6]
                have hcq := (hC.cell (p := ⟨bf, 3, none⟩) hbfl2).trans hcF
                go_wp2_with fail
                first | exact Below.refl _ _ | exact ⟨Below.refl _ _, by omega⟩
              · refine FrontStep.of [7] _ rfl (by kernel_rfl) ?_
                intro vs LL wq hLL hC hf
                simp only [putL, List.foldl_nil, List.foldl_cons, List.getElem?_cons_zero, List.getElem?_cons_succ]
                have e7 : vs 7 = _ := hf 7 (by simp)
                rw [e7]
                go_wp2_with fail
                first | exact Below.refl _ _ | exact ⟨Below.refl _ _, by omega⟩
              · refine FrontStep.of [8] _ rfl (by kernel_rfl) ?_
                intro vs LL wq hLL hC hf
                simp only [putL, List.foldl_nil, List.foldl_cons, List.getElem?_cons_zero, List.getElem?_cons_succ]
                have e8 : vs 8 = _ := hf 8 (by simp)
                rw [e8]
                go_wp2_with fail
                first | exact Below.refl _ _ | exact ⟨Below.refl _ _, by omega⟩
              · refine FrontStep.of [5, 9] _ rfl (by kernel_rfl) ?_
                intro vs LL wq hLL hC hf
                simp only [putL, List.foldl_nil, List.foldl_cons, List.getElem?_cons_zero, List.getElem?_cons_succ]
                have e5 : vs 5 = _ := hf 5 (by simp)
                rw [e5]
                have e9 : vs 9 = _ := hf 9 (by simp)
                rw [e9]
                go_wp2_with fail
                refine (unhide hmod _).mono ?_
                rintro e w5 ⟨rfl, hw5⟩
                subst hw5
                go_wp2_with fail
                first | exact Below.refl _ _ | exact ⟨hC, Below.refl _ _⟩
              · refine FrontStep.of [10] _ rfl (by kernel_rfl) ?_
                intro vs LL wq hLL hC hf
                simp only [putL, List.foldl_nil, List.foldl_cons, List.getElem?_cons_zero, List.getElem?_cons_succ]
                have e10 : vs 10 = _ := hf 10 (by simp)
                rw [e10]
                go_wp2_with fail
                first | exact Below.refl _ _ | exact ⟨Below.refl _ _, by omega⟩
              · refine FrontStep.of [11] _ rfl (by kernel_rfl) ?_
                intro vs LL wq hLL hC hf
                simp only [putL, List.foldl_nil, List.foldl_cons, List.getElem?_cons_zero, List.getElem?_cons_succ]
                have e11 : vs 11 = _ := hf 11 (by simp)
                rw [e11]
                go_wp2_with fail
                exact ⟨hC.alloc hC.size _, (Below.refl _ _).alloc (Nat.le_refl _) _, (Array.getElem?_eq_some_iff.1 (heap_alloc_new _ _)).2⟩
            · intro vs LL wq hLL hC hf
              have e0 : vs 0 = _ := hf 0 (by omega)
              obtain ⟨b, e12, hb12⟩ := hf 12 (by omega)
              rw [putSome_all]
              simp only [putL, List.range, List.range.loop, List.foldl_nil, List.foldl_cons, List.getElem?_cons_zero, List.getElem?_cons_succ, List.drop_succ_cons, List.drop_zero]
              rw [e0, e12]
              clear e0 e12 hf hLL
              have hownq := own_below hown hC
              have hcq := cell_of_row _ b 0 _ _ _ hb12
              have hszq := hC.size
              have hbw := hb.trans (hC.mono hb.size)
              go_simp
              go_wp2_with (at_builtin; refine wpList_append_own _ rfl _ _ 24 rfl wD.heap.size 3 i3 (.int .i64 0) 1 8 Try.underlying24 (unhide hi3) (unhide hiz3) (unhide his3) (unhide hiy3) rfl (by decide) _ _ _ rfl hownq ⟨b, 0, none⟩ 1 1 [.int .i64 (z - 1)] rfl rfl ?c1 ?c2 ?c3 ?c4 ?c5 ?_)
              case c1 =>
                intro j u hj
                cases j with
                | zero => simp at hj; subst hj; rw [Addr.add_lit, cell_of_row _ _ _ _ _ _ hb12]; rfl
                | succ j => simp at hj
              case c2 => first | rfl | (intro u hu; simp at hu; subst hu; rfl)
              case c3 => unfold maxLen; omega
              case c4 => omega
              case c5 => omega
              intro v' w5 hown5 hg5 _
              have hb3 : Below wD.heap.size wD w5 := Below.grown hbw hg5 (by omega) (fun g hg => (hownq.lt g hg).1)
              have hmore : (gs.map (Value.int .i64) ++ [Value.int .i64 (z - 1)]) = (gs ++ [z - 1]).map (Value.int .i64) := by simp
              rw [hmore] at hown5
              obtain ⟨va', vc', rfl⟩ := own_shape hown5
              clear hg5 hownq hbw hmore
              go_wp2_with fail
              go_roundw
              case rel => exact ⟨j + 1, gs ++ [z - 1], by omega, by omega, by go_num, by rw [List.length_append, hgl]; rfl, fun y hy => (by rcases List.mem_append.1 hy with h | h; exact hgb y h; simp at h; subst h; omega), hown5, hb3⟩
              case measure => simp [intOf]; omega
          · obtain ⟨pa, pc, hpe, hpl⟩ : ∃ a c, Value.slice ra j rc = .slice a gs.length c ∧ Lst Enc.int wr (fun b => b < wr.heap.size ∧ wD.heap.size ≤ b) a gs.length gs := by
              obtain ⟨h1, h2⟩ := lst_own2 hown (fun y hy => by have := hgb y hy; unfold I64; omega)
              exact ⟨ra, rc, by rw [hgl], by rw [← h2]; exact h1⟩
            have hcap := own_cap hown rfl
            obtain ⟨w4, hw4⟩ : ∃ w4, w4 = wr := ⟨_, rfl⟩
            rw [← hw4] at hown hb hpl hcC hcF hbxl hbfl2 hrC hrF ⊢
            clear hw4 hcF
            injection hpe with e1 e2 e3
            replace e1 := e1.symm; replace e3 := e3.symm
            subst e1 e3
            clear e2
            replace hgl := hide hgl
            have hcond : ¬ (j < gn ∧ j < 10) := hlt
            have hrC0 : w4.cell? ⟨bx, 3, none⟩ = some (.slice sa sn sc) := (cell_of_row _ _ 3 _ _ _ (unhide hrC)).trans rfl
            have hrR := (hb.block (bx + 1) (Array.getElem?_eq_some_iff.1 (unhide hD2)).1).trans (unhide hD2)
            have hB4 := (unhide hBD).trans (hb.mono (unhide hBD).size)
            have hG4 := own_below (unhide hGD) hb
            have hK4 := own_below (unhide hKD) hb
            clear hown hb hlt hcC hBD hGD hKD hD1 hD2 hDf hwD
            replace hrR := hide hrR; replace hB4 := hide hB4; replace hG4 := hide hG4; replace hK4 := hide hK4; replace hpl := hide hpl
            go_upto_region 12 with fail
            go_cut [54] (fun v wx => v = .bool false ∧ wx = w4)
            case first =>
              by_cases h1 : j < gn
              · have t1 : (j : Int) < (gn : Int) := by omega
                have t2 : ¬ (j : Int) < 10 := by omega
                replace h1 := hide h1
                clear hcond
                have hcC : w4.cell? ⟨bx, 2, none⟩ = some (.slice ga gn gc) := (cell_of_row _ _ 2 _ _ _ (unhide hrC)).trans rfl
                go_wp2_with fail
                go_meet
                exact ⟨rfl, rfl⟩
              · have t1 : ¬ (j : Int) < (gn : Int) := by omega
                replace h1 := hide h1
                clear hcond
                have hcC : w4.cell? ⟨bx, 2, none⟩ = some (.slice ga gn gc) := (cell_of_row _ _ 2 _ _ _ (unhide hrC)).trans rfl
                go_wp2_with fail
                go_meet
                exact ⟨rfl, rfl⟩
            case rest =>
              obtain ⟨rfl, e8⟩ := hcut
              subst e8
              obtain ⟨w4, hw4⟩ : ∃ w4, w4 = wc := ⟨_, rfl⟩
              rw [← hw4] at hrC0 hrR hB4 hG4 hK4 hpl hrC hrF hbxl hbfl2 ⊢
              clear hw4 hcond
              go_wp2_with fail
              go_loopw [10, 12] (fun v10 v12 wr => ∃ (i : Nat) (ss : List Int), i ≤ sn ∧ i ≤ 10 ∧ v12 = .int .i64 (i : Int) ∧ ss.length = i ∧ (∀ z ∈ ss, 0 ≤ z ∧ z ≤ 5) ∧ wr.ownsRow w4.heap.size 3 1 v10 i (ss.map (Value.int .i64)) ∧ Below w4.heap.size w4 wr) (fun _ v _ => (sn - intOf v).toNat)
              case atStart => exact ⟨0, [], by omega, by omega, rfl, rfl, (fun z hz => by cases hz), World.ownsRow_nil _ _ _ _, Below.refl _ _⟩
              case round =>
                obtain ⟨i, ss, hi, hi10, rfl, hsl, hsb, hown, hb⟩ := hrel
                have hrCx := (hb.block bx hbxl).trans (unhide hrC)
                have hcS : wr.cell? ⟨bx, 3, none⟩ = some (.slice sa sn sc) := (cell_of_row _ _ 3 _ _ _ hrCx).trans rfl
                obtain ⟨ta, tc, rfl⟩ := own_shape hown
                replace hrCx := hide hrCx
                by_cases hlt : i < sn ∧ i < 10
                · obtain ⟨bb, off, x, rfl, hbb, hx, hxi, hcx⟩ := lst_int ((unhide hS).below ((unhide hB4).trans (hb.mono (unhide hB4).size))) hlt.1
                  have t1 : (i : Int) < (sn : Int) := by omega
                  have t2 : (i : Int) < 10 := by omega
                  have hmod := fun w => mod_any x 6 w (by omega) (by omega)
                  have hm0 : 0 ≤ x % 6 := Int.emod_nonneg _ (by omega)
                  have hm1 : x % 6 < 6 := Int.emod_lt_of_pos _ (by omega)
                  obtain ⟨z, hz⟩ : ∃ z, x % 6 = z := ⟨_, rfl⟩
                  simp only [hz] at hmod
                  rw [hz] at hm0 hm1
                  have hsz := hb.size
                  replace hmod := hide hmod
                  clear hx hz
                  go_wp2_with fail
                  refine (unhide hmod _).mono ?_
                  rintro e w5 ⟨rfl, hw5⟩
                  subst hw5
                  clear hmod
                  go_wp2_with (at_builtin; refine wpList_append_own _ rfl _ _ 24 rfl w4.heap.size 3 i3 (.int .i64 0) 1 8 Try.underlying24 (unhide hi3) (unhide hiz3) (unhide his3) (unhide hiy3) rfl (by decide) _ _ _ rfl (hown.alloc _) ⟨w5.heap.size, 0, none⟩ 1 1 [.int .i64 z] rfl rfl ?d1 ?d2 ?d3 ?d4 ?d5 ?_)
                  case d1 => exact one_of_new _ _
                  case d2 => first | rfl | (intro u hu; simp at hu; subst hu; rfl)
                  case d3 => unfold maxLen; omega
                  case d4 => omega
                  case d5 => first | omega | (simp; omega)
                  intro v' w12 hown12 hg12 _
                  have hb12 := Below.grown (hb.alloc hsz (Obj.cells #[.int .i64 z] 3)) hg12 (by simp; omega) (fun g e => (hown.lt g e).1)
                  have hmore : (ss.map (Value.int .i64) ++ [Value.int .i64 z]) = (ss ++ [z]).map (Value.int .i64) := by simp
                  rw [hmore] at hown12
                  obtain ⟨va', vc', rfl⟩ := own_shape hown12
                  clear hg12 hown hb hmore
                  go_wp2_with fail
                  go_roundw
                  case rel => exact ⟨i + 1, ss ++ [z], by omega, by omega, by go_num, by rw [List.length_append, hsl]; rfl, fun y hy => (by rcases List.mem_append.1 hy with h | h; exact hsb y h; simp at h; subst h; omega), hown12, hb12⟩
                  case measure => simp [intOf]; omega
                · obtain ⟨sa', sc', hse, hsl'⟩ : ∃ a c, Value.slice ta i tc = .slice a ss.length c ∧ Lst Enc.int wr (fun b => b < wr.heap.size ∧ w4.heap.size ≤ b) a ss.length ss := by
                    obtain ⟨h1, h2⟩ := lst_own2 hown (fun y hy => by have := hsb y hy; unfold I64; omega)
                    exact ⟨ta, tc, by rw [hsl], by rw [← h2]; exact h1⟩
                  obtain ⟨w6, hw6⟩ : ∃ w6, w6 = wr := ⟨_, rfl⟩
                  rw [← hw6] at hown hb hsl' hcS hrCx ⊢
                  clear hw6
                  injection hse with e1 e2 e3
                  replace e1 := e1.symm; replace e3 := e3.symm
                  subst e1 e3
                  clear e2
                  replace hsl := hide hsl
                  have hcond : ¬ (i < sn ∧ i < 10) := hlt
                  have hrF6 := (hb.block bf hbfl2).trans (unhide hrF)
                  have hrR6 := (hb.block (bx + 1) (Array.getElem?_eq_some_iff.1 (unhide hrR)).1).trans (unhide hrR)
                  have hB6 := (unhide hB4).trans (hb.mono (unhide hB4).size)
                  have hG6 := own_below (unhide hG4) hb
                  have hK6 := own_below (unhide hK4) hb
                  have hpl6 := (unhide hpl).same (w' := w6) (fun b hb' => hb.block b hb'.1)
                  obtain ⟨av, hav, havx⟩ := advs_list (unhide hadv)
                  obtain ⟨gb, hgb', hgbe⟩ : ∃ gb, gla = some ⟨gb, 0, none⟩ ∧ (Value.slice gla 9 glc).ownBlock = some gb := by
                    rcases hG6.2 with ⟨h, h0⟩ | ⟨g, cap, cur, h, _⟩
                    · omega
                    · injection h with h
                      exact ⟨g, h, by rw [h]; rfl⟩
                  have hgc := fun j u hu => hG6.cells hgbe j u hu
                  have hgl' := hG6.lt gb hgbe
                  subst hgb'
                  obtain ⟨ka', kc', hke, hkL⟩ := lst_own_kern hK6 (fun y hy => by have := unhide hkq y hy; unfold I64 at *; omega)
                  have hklen := unhide hkl
                  rw [hklen] at hke hkL
                  injection hke with e1 e2 e3
                  subst e1 e3
                  clear e2 hklen
                  have hne : ∀ g, g ≠ bx + 1 → ∀ (u0 u1 u2 u3 u4 u5 u6 : Value), (((((((w6.setCell ⟨bx + 1, 0, none⟩ u0).setCell ⟨bx + 1, 1, none⟩ u1).setCell ⟨bx + 1, 2, none⟩ u2).setCell ⟨bx + 1, 3, none⟩ u3).setCell ⟨bx + 1, 4, none⟩ u4).setCell ⟨bx + 1, 5, none⟩ u5).setCell ⟨bx + 1, 6, none⟩ u6).heap[g]? = w6.heap[g]? := fun g hg u0 u1 u2 u3 u4 u5 u6 => by
                    by_cases hgl2 : g < w6.heap.size
                    · exact (sets7 w6 (bx + 1) u0 u1 u2 u3 u4 u5 u6).block g hgl2 (fun e => by injection e; omega)
                    · have hs := (sets7 w6 (bx + 1) u0 u1 u2 u3 u4 u5 u6).size
                      have h1 : w6.heap[g]? = none := Array.getElem?_eq_none (by omega)
                      rw [h1]
                      exact Array.getElem?_eq_none (by simp [World.setCell]; omega)
                  have c0 : w6.cell? ⟨bx + 1, 0, none⟩ = some (.string ⟨#[]⟩) := (cell_of_row _ _ 0 _ _ _ hrR6).trans rfl
                  have c1 : w6.cell? ⟨bx + 1, 1, none⟩ = some (.int .i64 0) := (cell_of_row _ _ 1 _ _ _ hrR6).trans rfl
                  have c2 : w6.cell? ⟨bx + 1, 2, none⟩ = some (.slice none 0 0) := (cell_of_row _ _ 2 _ _ _ hrR6).trans rfl
                  have c3 : w6.cell? ⟨bx + 1, 3, none⟩ = some (.slice none 0 0) := (cell_of_row _ _ 3 _ _ _ hrR6).trans rfl
                  have c4 : w6.cell? ⟨bx + 1, 4, none⟩ = some (.slice none 0 0) := (cell_of_row _ _ 4 _ _ _ hrR6).trans rfl
                  have c5 : w6.cell? ⟨bx + 1, 5, none⟩ = some (.slice none 0 0) := (cell_of_row _ _ 5 _ _ _ hrR6).trans rfl
                  have c6 : w6.cell? ⟨bx + 1, 6, none⟩ = some (.slice none 0 0) := (cell_of_row _ _ 6 _ _ _ hrR6).trans rfl
                  have hfz : ∀ i, w6.frozen? ⟨bx + 1, i, none⟩ = false := fun i => by simp [World.frozen?, hrR6]
                  have z0 := hfz 0; have z1 := hfz 1; have z2 := hfz 2; have z3 := hfz 3; have z4 := hfz 4; have z5 := hfz 5; have z6 := hfz 6
                  have d0 : w6.cell? ⟨bf, 0, none⟩ = some (.string s) := (cell_of_row _ _ 0 _ _ _ hrF6).trans rfl
                  have d1 : w6.cell? ⟨bf, 1, none⟩ = some (.int .i64 n) := (cell_of_row _ _ 1 _ _ _ hrF6).trans rfl
                  have d2 : w6.cell? ⟨bf, 2, none⟩ = some (.slice va vn vc) := (cell_of_row _ _ 2 _ _ _ hrF6).trans rfl
                  have d3 : w6.cell? ⟨bf, 3, none⟩ = some (.slice (some ⟨gb, 0, none⟩) 9 glc) := (cell_of_row _ _ 3 _ _ _ hrF6).trans rfl
                  have d4 : w6.cell? ⟨bf, 4, none⟩ = some (.slice qa qn qc) := (cell_of_row _ _ 4 _ _ _ hrF6).trans rfl
                  have d5 : w6.cell? ⟨bf, 5, none⟩ = some (.slice a5 n5 k5) := (cell_of_row _ _ 5 _ _ _ hrF6).trans rfl
                  have d6 : w6.cell? ⟨bf, 6, none⟩ = some (.slice xa (k + fks.length) xc) := (cell_of_row _ _ 6 _ _ _ hrF6).trans rfl
                  obtain ⟨wF, hwF⟩ : ∃ wF, wF = (((((((w6.setCell ⟨bx + 1, 0, none⟩ (.string s)).setCell ⟨bx + 1, 1, none⟩ (.int .i64 n)).setCell ⟨bx + 1, 2, none⟩ (.slice va vn vc)).setCell ⟨bx + 1, 3, none⟩ (.slice (some ⟨gb, 0, none⟩) 9 glc)).setCell ⟨bx + 1, 4, none⟩ (.slice qa qn qc)).setCell ⟨bx + 1, 5, none⟩ (.slice a5 n5 k5)).setCell ⟨bx + 1, 6, none⟩ (.slice xa (k + fks.length) xc)) := ⟨_, rfl⟩
                  have hF7 := hne
                  have hsF : wF.heap.size = w6.heap.size := by rw [hwF]; simp [World.setCell]
                  have hFo : ∀ g, g ≠ bx + 1 → wF.heap[g]? = w6.heap[g]? := fun g hg => by rw [hwF]; exact hne g hg _ _ _ _ _ _ _
                  have hbx1 : w.heap.size ≤ bx + 1 := by have := unhide hbx; omega
                  have hBF : Below w.heap.size w wF := by
                    rw [hwF]
                    exact hB6.grown (sets7 w6 (bx + 1) _ _ _ _ _ _ _) hB6.size (fun g e => by injection e with e; omega)
                  have hfont : FontAt (· < wF.heap.size) wF (.agg #[.string s, .int .i64 n, .slice va vn vc, .slice (some ⟨gb, 0, none⟩) 9 glc, .slice qa qn qc, .slice a5 n5 k5, .slice xa (k + fks.length) xc]) av (q ++ fks) := by
                    refine ⟨s, n, va, vn, vc, gb, glc, qa, qn, qc, a5, n5, k5, xa, xc, by rw [unhide hkl, hav], by show gb < wF.heap.size; omega, by omega, fun i x hx => ⟨?_, (havx i x hx).2⟩, ?_, by rw [unhide hkl]; omega, unhide hkq⟩
                    · have := hgc _ _ (havx i x hx).1
                      rw [Addr.add_lit, Nat.zero_add] at this
                      exact (World.cell?_of_block (a := ⟨gb, i * 7 + 1, none⟩) (hFo gb (by omega))).trans this
                    · rw [unhide hkl]
                      exact (hkL.same (w' := wF) (fun g hg => hFo g (by have := hg.2; omega))).wide (fun g hg => by have := hg.1; show g < wF.heap.size; omega)
                  have hpF : Lst Enc.int wF (· < wF.heap.size) pa gs.length gs := (hpl6.same (w' := wF) (fun g hg => hFo g (by have := hg.2; omega))).wide (fun g hg => by have := hg.1; have := hb.size; show g < wF.heap.size; omega)
                  have hsF' : Lst Enc.int wF (· < wF.heap.size) sa' ss.length ss := (hsl'.same (w' := wF) (fun g hg => hFo g (by have := hg.2; omega))).wide (fun g hg => by have := hg.1; show g < wF.heap.size; omega)
                  have hfin : (∃ f av ks pa' pc' gs' ra rc ss', Ending.returned (Value.tuple #[.agg #[.string s, .int .i64 n, .slice va vn vc, .slice (some ⟨gb, 0, none⟩) 9 glc, .slice qa qn qc, .slice a5 n5 k5, .slice xa (k + fks.length) xc], .slice pa gs.length pc, .slice sa' ss.length sc']) = .returned (.tuple #[f, .slice pa' gs'.length pc', .slice ra ss'.length rc]) ∧ FontAt (· < wF.heap.size) wF f av ks ∧
                      Lst Enc.int wF (· < wF.heap.size) pa' gs'.length gs' ∧ gs'.length ≤ 10 ∧ gs'.length ≤ pc' ∧ (∀ x ∈ gs', -1 ≤ x ∧ x ≤ 9) ∧ Lst Enc.int wF (· < wF.heap.size) ra ss'.length ss' ∧ ss'.length ≤ 10 ∧ (∀ x ∈ ss', 0 ≤ x ∧ x ≤ 5)) ∧ Below w.heap.size w wF :=
                    ⟨⟨_, av, q ++ fks, pa, pc, gs, sa', sc', ss, rfl, hfont, hpF, by rw [unhide hgl]; exact hj10, by rw [unhide hgl]; exact hcap, hgb, hsF', by rw [unhide hsl]; exact hi10, hsb⟩, hBF⟩
                  clear hne hF7 hFo hBF hfont hpF hsF' hgc hkL havx hfz hrF6 hrR6 hG6 hK6 hB6 hsl' hpl6 hown hb hlt
                  replace hfin := hide hfin; replace hwF := hide hwF; replace hrCx := hide hrCx; replace hsF := hide hsF
                  go_upto_region 16 with fail
                  go_cut [79] (fun v wx => v = .bool false ∧ wx = w6)
                  case first =>
                    by_cases h1 : i < sn
                    · have t1 : (i : Int) < (sn : Int) := by omega
                      have t2 : ¬ (i : Int) < 10 := by omega
                      replace h1 := hide h1
                      clear hcond
                      go_wp2_with fail
                      go_meet
                      exact ⟨rfl, rfl⟩
                    · have t1 : ¬ (i : Int) < (sn : Int) := by omega
                      replace h1 := hide h1
                      clear hcond
                      go_wp2_with fail
                      go_meet
                      exact ⟨rfl, rfl⟩
                  case rest =>
                    obtain ⟨rfl, e8⟩ := hcut
                    subst e8
                    clear hcond
                    go_wp2_with fail
                    have hwFe := unhide hwF
                    rw [← hwFe]
                    exact bodyPost_ret (v := .tuple #[.agg #[.string s, .int .i64 n, .slice va vn vc, .slice (some ⟨gb, 0, none⟩) 9 glc, .slice qa qn qc, .slice a5 n5 k5, .slice xa (k + fks.length) xc], .slice pa gs.length pc, .slice sa' ss.length sc']) (by rw [hwFe]; simp [results, Try.results9, go_sem, c0, c1, c2, c3, c4, c5, c6]; exact ⟨(unhide hgl).symm, (unhide hsl).symm⟩) rfl (unhide hfin)
end Go.Proofs.Ytbbbldaccpfooaa
