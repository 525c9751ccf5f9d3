/- Lookups: the reference's Apply. -/
import Derived.Test.YtmlnjbljdincjaaSbP
namespace Go.Proofs.Ytmlnjbljdincjaa
open Go.RowKit
theorem own_mono {w : World} {base base' : Nat} {e : TypeId} {size : Nat} {v : Value} {n : Nat} {xs : List Value} (h : w.ownsRow base e size v n xs) (hb : base' ≤ base) : w.ownsRow base' e size v n xs :=
  ⟨h.1, h.2.imp id fun ⟨g, cap, cur, h1, h2, h3⟩ => ⟨g, cap, cur, h1, Nat.le_trans hb h2, h3⟩⟩
theorem getD_some {l : List Int} {k : Nat} {x : Int} (h : l[k]? = some x) : l.getD k 0 = x := by rw [List.getD_eq_getElem?_getD, h]; rfl
set_option maxRecDepth 100000 in
set_option maxHeartbeats 8000000 in
theorem rapply_any (la : Option Addr) (ln lc : Nat) (l : List (List Sub)) (ga : Option Addr) (gn gc : Nat) (g : List Int) (w : World) (hl : Lst Enc.lk w (· < w.heap.size) la ln l) (hg : Lst Enc.int w (· < w.heap.size) ga gn g) (hln : ln ≤ 1000) (hsm : ∀ x ∈ l, Small x) (hto : ∀ x ∈ l, ToI x) (hgn : gn ≤ 1000000) :
    Calls Try.prog 18 #[.slice la ln lc, .slice ga gn gc] w fun e w' => ∃ v1 v2, e = .returned (.tuple #[v1, v2]) ∧ Two w' w.heap.size v1 (applyS l g).1 v2 (applyS l g).2 ∧ Below w.heap.size w w' := by
  have hgl := hg.1
  have hll := hl.1
  have hgi := hg.i64
  obtain ⟨B, hB⟩ : ∃ B, w.heap.size = B := ⟨_, rfl⟩
  have hb0 : Below w.heap.size w (w.alloc (Obj.cells #[] 3)) := (Below.refl _ _).alloc (Nat.le_refl _) _
  have hown := own_lit (base := w.heap.size) (s := 1) (n := 0) (heap_alloc_new w (Obj.cells #[] 3)) (Nat.le_refl _) (by decide) rfl
  have hlA := hg.under hb0
  replace hlA := hide hlA; replace hown := hide hown; replace hll := hide hll; replace hgl := hide hgl; replace hl := hide hl; replace hg := hide hg; replace hsm := hide hsm; replace hto := hide hto; replace hgi := hide hgi; replace hB := hide hB
  go_enter Try.func18, Try.ntmps18
  go_wp2_with (at_builtin; refine wpList_append_ints rfl _ _ rfl w.heap.size _ _ _ rfl (unhide hown) (· < (w.alloc (Obj.cells #[] 3)).heap.size) _ _ _ _ rfl (unhide hlA) ?d1 ?d2 ?_)
  case d1 => omega
  intro v0 w2 hown2 hg2
  have hb2 := Below.grown hb0 hg2 (by simp) (fun g e => ((unhide hown).lt g e).1)
  have hown0 : w2.ownsRow w.heap.size 3 1 v0 g.length (vints g) := by rw [unhide hgl]; exact hown2
  clear hown hlA hg2 hb0 hown2
  replace hown0 := hide hown0; replace hb2 := hide hb2
  go_wp2_with fail
  -- the indices
  go_loopw [7, 8] (fun v i wr => ∃ k : Nat, k ≤ gn ∧ i = .int .i64 (k : Int) ∧ Two wr w.heap.size v0 g v (iota k) ∧ Below w.heap.size w wr) (fun _ i _ => gn - (intOf i).toNat)
  case atStart => exact ⟨0, by omega, rfl, ⟨unhide hown0, World.ownsRow_nil _ _ _ _, fun b _ h => by simp [Value.ownBlock] at h⟩, unhide hb2⟩
  case round =>
    obtain ⟨k, hk, rfl, htw, hbw⟩ := hrel
    by_cases hlt : k < gn
    · have hbw2 := hbw.alloc hbw.size (Obj.cells #[.int .i64 (k : Int)] 3)
      have htw2 := htw.below ((Below.refl _ _).alloc (Nat.le_refl _) (Obj.cells #[.int .i64 (k : Int)] 3))
      have hsz := hbw.size
      have hil := iota_len k
      have hro := htw2.r2
      rw [hil] at hro
      clear hil
      replace hbw := hide hbw; replace hbw2 := hide hbw2; replace htw := hide htw; replace htw2 := hide htw2; replace hro := hide hro
      go_wp2_with (at_builtin; refine wpList_append_one rfl _ _ rfl w.heap.size _ _ _ rfl (unhide hro) _ _ rfl (heap_alloc_new _ _) ?m1 ?m2 ?_)
      case m1 => omega
      case m2 => first | (simp; omega) | omega
      intro v' w3 hown3 hg3 hbl3
      have hb3 := Below.grown (unhide hbw2) hg3 (by simp; omega) (fun g e => ((unhide htw2).r2.lt g e).1)
      rw [iota_snoc] at hown3
      have htw3 := ((unhide htw2).swap.app (m := iota (k + 1)) (by rw [iota_len]; exact hown3) hg3 (by rw [World.size_alloc]; exact hbl3)).swap
      clear hown3 hg3 hbl3
      replace htw3 := hide htw3; replace hb3 := hide hb3
      go_wp2_with fail
      go_roundw
      case rel => exact ⟨k + 1, by omega, by go_num, unhide htw3, unhide hb3⟩
      case measure => simp [intOf]; omega
    · obtain rfl : k = gn := by omega
      obtain ⟨gn, rfl⟩ : ∃ gn, gn = k := ⟨_, rfl⟩
      have h0 : Two wr w.heap.size v0 (applyS (l.take 0) g).1 u7 (applyS (l.take 0) g).2 := by
        show Two wr w.heap.size v0 g u7 (iota g.length)
        rw [unhide hgl]
        exact htw
      clear htw hown0 hlt hk
      replace h0 := hide h0; replace hbw := hide hbw
      go_wp2_with fail
      go_loopw [6, 7, 9] (fun vo vf v wr => ∃ k : Nat, k ≤ ln ∧ v = .int .i64 (k : Int) ∧ Two wr w.heap.size vo (applyS (l.take k) g).1 vf (applyS (l.take k) g).2 ∧ Below w.heap.size w wr) (fun _ _ v _ => ln - (intOf v).toNat)
      case atStart => exact ⟨0, by omega, rfl, unhide h0, unhide hbw⟩
      case round =>
        clear h0 hbw
        obtain ⟨k, hk, rfl, htw, hbw⟩ := hrel
        obtain ⟨V, rfl⟩ : ∃ V : World, V = wr := ⟨_, rfl⟩
        by_cases hlt : k < ln
        · obtain ⟨b, off, x, xa, xn, xc, rfl, hSb, hx, _, _, hlx, hcx⟩ := lst_list ((unhide hl).under hbw) hlt
          have hxm := List.mem_of_getElem? hx
          have hxs := unhide hsm x hxm
          have hsucc := applyS_succ (g := g) hx
          have hlens := applyS_len (l.take k) g
          have hi64 := applyS_i64 (l := l.take k) (g := g) (fun y hy => unhide hto y (List.mem_of_mem_take hy)) (unhide hgi) (by rw [unhide hgl]; omega)
          have hxl := hlx.1
          obtain ⟨st, hst⟩ : ∃ st, applyS (l.take k) g = st := ⟨_, rfl⟩
          rw [hst] at hsucc hlens hi64 htw
          obtain ⟨G, F⟩ := st
          simp only at htw hlens hi64
          obtain ⟨n, hn⟩ : ∃ n, G.length = n := ⟨_, rfl⟩
          have hnb : n ≤ 1000000 := by have := hlens.2; rw [hn, unhide hgl] at this; omega
          obtain ⟨oa, oc, rfl, _, hGl⟩ := own_lst htw.r1 hi64.1
          obtain ⟨fa, fc, rfl, _, hFl⟩ := own_lst htw.r2 hi64.2
          have hFn : F.length = n := by rw [← hlens.1, hn]
          rw [hn] at hGl
          rw [hFn] at hFl
          simp only [hn, hFn]
          clear hst hlens hxm hSb
          replace hsucc := hide hsucc; replace hx := hide hx; replace hlx := hide hlx; replace hcx := hide hcx; replace hxl := hide hxl; replace hGl := hide hGl; replace hFl := hide hFl; replace htw := hide htw; replace hbw := hide hbw; replace hn := hide hn; replace hFn := hide hFn; replace hi64 := hide hi64
          go_wp2_with fail
          go_loopw [10, 11, 12] (fun vn vs v wr => ∃ (i f : Nat) (L1 : List (Nat × Int)), v = .int .i64 (i : Int) ∧ i ≤ n ∧ stepsS x G = L1 ++ stepL x G f i ∧ n ≤ i + f ∧ Two wr V.heap.size vn (outS x G L1) vs (fstS F L1) ∧ Below V.heap.size V wr) (fun _ _ v _ => n - (intOf v).toNat)
          case atStart => exact ⟨0, n, [], rfl, by omega, by rw [← unhide hn]; rfl, by omega, Two.start _ _, Below.refl _ _⟩
          case round =>
            obtain ⟨i, f, L1, rfl, hin, hsteps, hf, htwo, hbW⟩ := hrel
            obtain ⟨wo, rfl⟩ : ∃ wo : World, wo = wr := ⟨_, rfl⟩
            have hL1 : L1.length ≤ n := by
              have h1 := stepL_len x G G.length 0
              have h2 : (stepsS x G).length = L1.length + (stepL x G f i).length := by rw [hsteps, List.length_append]
              have h3 : (stepsS x G).length ≤ n := by rw [← unhide hn]; exact h1
              omega
            have hT := hide htwo
            have hW := hide hbW
            clear htwo hbW
            by_cases hi : i < n
            · obtain ⟨f, rfl⟩ : ∃ q, f = q + 1 := ⟨f - 1, by omega⟩
              have hst2 : stepL x G (f + 1) i = (i, matchS x G i) :: stepL x G f (nextI x G i) := by rw [stepL, if_pos (by rw [unhide hn]; exact hi)]
              rw [hst2] at hsteps
              have hgt := nextI_gt x G i
              have hle := nextI_le x G i (by rw [unhide hn]; exact hi)
              rw [unhide hn] at hle
              have hsteps2 : stepsS x G = (L1 ++ [(i, matchS x G i)]) ++ stepL x G f (nextI x G i) := by rw [hsteps, List.append_assoc]; rfl
              obtain ⟨bf, of, y, rfl, _, hy, hyi, hcy⟩ := lst_int ((unhide hFl).under (unhide hW)) hi
              have hyd := getD_some hy
              have hcl := cell_under (unhide hcx) (unhide hW)
              clear hst2 hsteps hy
              replace hsteps2 := hide hsteps2; replace hyd := hide hyd; replace hgt := hide hgt; replace hle := hide hle; replace hcl := hide hcl
              have hA1 := (unhide hT).below ((Below.refl _ _).alloc (Nat.le_refl _) (Obj.cells #[.int .i64 y] 3))
              have hW1 := (unhide hW).alloc (unhide hW).size (Obj.cells #[.int .i64 y] 3)
              have hro1 := hA1.r2
              have hsz1 := (unhide hW).size
              have hlen1 := fstS_len F L1
              rw [hlen1] at hro1
              replace hA1 := hide hA1; replace hW1 := hide hW1; replace hro1 := hide hro1; replace hlen1 := hide hlen1
              go_wp2_with (at_builtin; refine wpList_append_one rfl _ _ rfl V.heap.size _ _ _ rfl (unhide hro1) _ _ rfl (heap_alloc_new _ _) ?a1 ?b1 ?_)
              case a1 => omega
              case b1 => first | (simp; omega) | omega
              intro vs w1 hown1 hg1 hbl1
              have hWn := Below.grown (unhide hW1) hg1 (by simp; omega) (fun g e => ((unhide hA1).r2.lt g e).1)
              have hTn := ((unhide hA1).swap.app (m := fstS F (L1 ++ [(i, matchS x G i)])) (by rw [fstS_len, List.length_append, fstS_snoc, unhide hyd]; exact hown1) hg1 (by rw [World.size_alloc]; exact hbl1)).swap
              clear hT hW hA1 hW1 hro1 hlen1 hown1 hg1 hbl1 hsz1 hcy
              have hT := hide hTn; have hW := hide hWn
              clear hTn hWn
              have hcl1 := cell_under (unhide hcx) (unhide hW)
              have hmt := rmatch_any xa xn xc x oa n oc G (i : Int) w1 ((unhide hlx).under (unhide hW)) ((unhide hGl).under (unhide hW)) hxs (by omega)
              rcases matchS_inv (x := x) (g := G) (i := (i : Int)) with hm | ⟨q, s, hm, hs, _, _⟩
              · rw [hm] at hmt
                have hs2 := unhide hsteps2
                have hnx : nextI x G i = i + 1 := by unfold nextI; rw [hm]; rfl
                rw [hm, hnx] at hs2
                have hT' := unhide hT
                rw [hm] at hT'
                clear hT hsteps2 hcl hgt hle
                have hT := hide hT'
                clear hT' hnx
                replace hmt := hide hmt; replace hs2 := hide hs2; replace hm := hide hm; replace hcl1 := hide hcl1
                have hcl1' := unhide hcl1
                go_wp2_with fail
                refine (unhide hmt).mono ?_
                rintro e w2 ⟨rfl, hb⟩
                have hTn := (unhide hT).below hb
                have hWn := (unhide hW).trans (hb.mono (unhide hW).size)
                clear hT hW hmt hcl1' hb
                have hT := hide hTn; have hW := hide hWn
                clear hTn hWn
                obtain ⟨bo, oo, z, rfl, _, hz, hzi, hcz⟩ := lst_int ((unhide hGl).under (unhide hW)) hi
                have hzd := getD_some hz
                clear hz
                replace hzd := hide hzd
                have hA2 := (unhide hT).below ((Below.refl _ _).alloc (Nat.le_refl _) (Obj.cells #[.int .i64 z] 3))
                have hW2 := (unhide hW).alloc (unhide hW).size (Obj.cells #[.int .i64 z] 3)
                have hro2 := hA2.r1
                have hsz2 := (unhide hW).size
                have hlen2 := outS_len x G L1
                rw [hlen2] at hro2
                replace hA2 := hide hA2; replace hW2 := hide hW2; replace hro2 := hide hro2; replace hlen2 := hide hlen2
                go_wp2_with (at_builtin; refine wpList_append_one rfl _ _ rfl V.heap.size _ _ _ rfl (unhide hro2) _ _ rfl (heap_alloc_new _ _) ?a2 ?b2 ?_)
                case a2 => omega
                case b2 => first | (simp; omega) | omega
                intro vn w3 hown2 hg2 hbl2
                have hWn := Below.grown (unhide hW2) hg2 (by simp; omega) (fun g e => ((unhide hA2).r1.lt g e).1)
                have hTn := (unhide hA2).app (m := outS x G (L1 ++ [(i, -1)])) (by rw [outS_len, List.length_append, outS_snoc, if_neg (by decide), unhide hzd]; exact hown2) hg2 (by rw [World.size_alloc]; exact hbl2)
                clear hT hW hA2 hW2 hro2 hlen2 hown2 hg2 hbl2 hsz2 hcz
                have hT := hide hTn; have hW := hide hWn
                clear hTn hWn
                go_wp2_with fail
                go_roundw
                case rel => exact ⟨i + 1, f, L1 ++ [(i, -1)], by go_num, by omega, unhide hs2, by omega, unhide hT, unhide hW⟩
                case measure => simp [intOf]; omega
              · rw [hm] at hmt
                have hql : q < xn := by rw [← unhide hxl]; exact (List.getElem?_eq_some_iff.1 hs).1
                have hs2 := unhide hsteps2
                have hsl : s.2.1.length ≤ 1000 := (hxs.2 s (List.mem_of_getElem? hs)).2.1
                have hnx : nextI x G i = i + s.2.1.length := by unfold nextI fromL; rw [hm, if_pos (by omega), Int.toNat_natCast, hs]
                have htS : toS x (q : Int) = s.2.2.2 := by unfold toS; rw [Int.toNat_natCast, hs]
                have hgt' := unhide hgt
                have hle' := unhide hle
                rw [hnx] at hgt' hle'
                rw [hm, hnx] at hs2
                have hT' := unhide hT
                rw [hm] at hT'
                clear hT hsteps2 hcl hgt hle
                have hT := hide hT'
                clear hT' hnx
                replace hmt := hide hmt; replace hs2 := hide hs2; replace hm := hide hm; replace hcl1 := hide hcl1; replace htS := hide htS
                have hcl1' := unhide hcl1
                go_wp2_with fail
                refine (unhide hmt).mono ?_
                rintro e w2 ⟨rfl, hb⟩
                have hTn := (unhide hT).below hb
                have hWn := (unhide hW).trans (hb.mono (unhide hW).size)
                clear hT hW hmt hcl1' hb
                have hT := hide hTn; have hW := hide hWn
                clear hTn hWn
                obtain ⟨bs, os, s', a1, n1, c1, a2, n2, c2, a3, n3, c3, rfl, hSs, hs', ⟨_, _, _⟩, ⟨_, _, hl2⟩, ⟨_, _, _⟩, hti, h1, h2, h3, h4⟩ := lst_sub ((unhide hlx).under (unhide hW)) hql
                rw [hs] at hs'
                cases hs'
                have hn2 : s.2.1.length = n2 := hl2.1
                rw [hn2] at hs2 hgt' hle' hsl
                obtain ⟨tv, htv⟩ : ∃ tv, s.2.2.2 = tv := ⟨_, rfl⟩
                rw [htv] at h4
                have htS2 := (unhide htS).trans htv
                have hcl2 := cell_under (unhide hcx) (unhide hW)
                clear hl2 htv htS
                replace hs := hide hs
                replace hs2 := hide hs2; replace htS2 := hide htS2; replace hn2 := hide hn2
                have hA3 := (unhide hT).below ((Below.refl _ _).alloc (Nat.le_refl _) (Obj.cells #[.int .i64 tv] 3))
                have hW3 := (unhide hW).alloc (unhide hW).size (Obj.cells #[.int .i64 tv] 3)
                have hro3 := hA3.r1
                have hsz3 := (unhide hW).size
                have hlen3 := outS_len x G L1
                rw [hlen3] at hro3
                replace hA3 := hide hA3; replace hW3 := hide hW3; replace hro3 := hide hro3; replace hlen3 := hide hlen3
                go_wp2_with (at_builtin; refine wpList_append_one rfl _ _ rfl V.heap.size _ _ _ rfl (unhide hro3) _ _ rfl (heap_alloc_new _ _) ?a3 ?b3 ?_)
                case a3 => omega
                case b3 => first | (simp; omega) | omega
                intro vn w3 hown3 hg3 hbl3
                have hWn := Below.grown (unhide hW3) hg3 (by simp; omega) (fun g e => ((unhide hA3).r1.lt g e).1)
                have hTn := (unhide hA3).app (m := outS x G (L1 ++ [(i, (q : Int))])) (by rw [outS_len, List.length_append, outS_snoc, if_pos (by omega), unhide htS2]; exact hown3) hg3 (by rw [World.size_alloc]; exact hbl3)
                clear hT hW hA3 hW3 hro3 hlen3 hown3 hg3 hbl3 hsz3 h1 h2 h3 h4 hcl2
                have hT := hide hTn; have hW := hide hWn
                clear hTn hWn
                have hcl3 := cell_under (unhide hcx) (unhide hW)
                obtain ⟨bs', os', s', a1', n1', c1', a2', n2', c2', a3', n3', c3', he, _, hs', ⟨_, _, _⟩, ⟨_, _, hl2'⟩, ⟨_, _, _⟩, _, _, h2', _, _⟩ := lst_sub ((unhide hlx).under (unhide hW)) hql
                cases he
                rw [unhide hs] at hs'
                cases hs'
                obtain rfl : n2 = n2' := (unhide hn2).symm.trans hl2'.1
                clear hl2'
                go_wp2_with fail
                go_roundw
                case rel => exact ⟨i + n2, f, L1 ++ [(i, (q : Int))], by go_num, by omega, unhide hs2, by omega, unhide hT, unhide hW⟩
                case measure => simp [intOf]; omega
            · obtain rfl : i = n := by omega
              rw [stepL_end x G f i (by rw [unhide hn]; exact Nat.le_refl _), List.append_nil] at hsteps
              have hA1 : apply1 x (G, F) = (outS x G L1, fstS F L1) := by unfold apply1; simp only [hsteps]
              have hT2 : Two wo w.heap.size u10 (applyS (l.take (k + 1)) g).1 u11 (applyS (l.take (k + 1)) g).2 := by
                rw [unhide hsucc, hA1]
                have := unhide hT
                exact ⟨own_mono this.r1 (unhide hbw).size, own_mono this.r2 (unhide hbw).size, this.ap⟩
              have hbz := (unhide hbw).trans ((unhide hW).mono (unhide hbw).size)
              clear hsteps hA1 hT hW
              replace hT2 := hide hT2; replace hbz := hide hbz
              go_wp2_with fail
              go_roundw
              case rel => exact ⟨k + 1, by omega, by go_num, unhide hT2, unhide hbz⟩
              case measure => simp [intOf]; omega
        · obtain rfl : k = ln := by omega
          have htk : l.take k = l := List.take_of_length_le (by rw [unhide hll]; exact Nat.le_refl _)
          rw [htk] at htw
          replace htw := hide htw; replace hbw := hide hbw
          clear htk
          go_wp2_with fail
          go_ret2
          exact ⟨_, _, rfl, unhide htw, unhide hbw⟩
end Go.Proofs.Ytmlnjbljdincjaa
