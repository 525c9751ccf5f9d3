/- The reference's journal: Record, Good. -/
import Derived.Test.YtcliegeooooonaaJn6
import Derived.Test.YtcliegeooooonaaWi27
import Derived.Test.YtcliegeooooonaaDg10
namespace Go.Proofs.Ytcliegeooooonaa
open Go.RowKit
set_option maxHeartbeats 1000000 in
theorem rrecord_any (b s : List UInt8) (w : World) (hb : b.length ≤ 1000000) (hs : s.length ≤ 1000000000) :
    Calls Try.prog 25 #[.string ⟨b.toArray⟩, .string ⟨s.toArray⟩] w fun e w' => e = .returned (.string ⟨(Jn.recd b s).toArray⟩) ∧ Below w.heap.size w w' := by
  have hc := fun w => rChain_any ⟨b.toArray⟩ ⟨s.toArray⟩ w (by rw [ba_size]; omega) (by rw [ba_size]; omega)
  rw [chain_ba] at hc
  have ht := rtext_any ⟨s.toArray⟩ w (by rw [ba_size]; omega)
  rw [ba_list] at ht
  have ha : ∀ w, (Op.stringOp .add ⟨(Wi.txt s).toArray⟩ ⟨(Jn.chL b s).toArray⟩).run Try.prog w = .ok (.string ⟨(Jn.recd b s).toArray⟩) w := fun w => str_add2 _ _ (by rw [Jn.chL_len]; have := txt_len s; omega)
  obtain ⟨c, hcc⟩ : ∃ c, Jn.chL b s = c := ⟨_, rfl⟩
  obtain ⟨r, hrr⟩ : ∃ c, Jn.recd b s = c := ⟨_, rfl⟩
  obtain ⟨t, htt⟩ : ∃ c, Wi.txt s = c := ⟨_, rfl⟩
  simp only [hcc, hrr, htt] at hc ht ha ⊢
  clear hcc hrr htt
  replace hc := hide hc; replace ht := hide ht
  go_enter Try.func25, Try.ntmps25
  go_wp2_with fail
  refine (unhide ht).mono ?_
  rintro e w1 ⟨rfl, h1⟩
  replace h1 := hide h1
  go_wp2_with fail
  refine (unhide hc _).mono ?_
  rintro e w2 ⟨rfl, h2⟩
  go_wp2_with fail
  go_ret
  exact ⟨rfl, (unhide h1).trans (h2.mono (unhide h1).size)⟩
/-- what the loop of Good knows -/
def GoodRel (B : Nat) (all : List UInt8) (w : World) (v5 v6 v7 : Value) (wr : World) : Prop :=
  ∃ (L : List (List UInt8)) (k : Nat) (b : List UInt8), k ≤ all.length ∧ v6 = .int .i64 (k : Int) ∧ v7 = .string ⟨b.toArray⟩ ∧ wr.ownsRow B 9 1 v5 L.length (L.map vl) ∧ Below B w wr ∧ Jn.good b0L all = (L ++ (Jn.good b (all.drop k)).1, (Jn.good b (all.drop k)).2) ∧ b.length = 8
set_option maxRecDepth 100000 in
set_option maxHeartbeats 4000000 in
theorem rgood_any (all : List UInt8) (w : World) (hall : all.length ≤ 1000000000) :
    Calls Try.prog 29 #[.string ⟨all.toArray⟩] w (ReadPost all w) := by
  obtain ⟨i1, hi1, hz0, hz1, hz2⟩ := info_parts info_str
  have hof := rOf_any ⟨#[]⟩ w (by decide)
  rw [show (Dg.dig (⟨#[]⟩ : ByteArray).data.toList) = b0L from rfl] at hof
  obtain ⟨B, hB⟩ : ∃ B, w.heap.size = B := ⟨_, rfl⟩
  have zall : (⟨all.toArray⟩ : ByteArray).size = all.length := ba_size all
  replace hof := hide hof; replace hi1 := hide hi1; replace hz0 := hide hz0; replace hz1 := hide hz1; replace hz2 := hide hz2; replace hB := hide hB
  go_enter Try.func29, Try.ntmps29
  go_wp2_with fail
  refine (unhide hof).mono ?_
  rintro e w1 ⟨rfl, hb1⟩
  rw [unhide hB] at hb1
  have hst : GoodRel B all w (.slice none 0 0) (.int .i64 0) (.string ⟨b0L.toArray⟩) w1 := ⟨[], 0, b0L, Nat.zero_le _, rfl, rfl, World.ownsRow_nil _ _ _ _, hb1, by simp, rfl⟩
  replace hst := hide hst
  clear hof hb1
  go_wp2_with fail
  go_loopw [5, 6, 7] (fun v5 v6 v7 wr => GoodRel B all w v5 v6 v7 wr) (fun _ v6 _ _ => all.length - (intOf v6).toNat)
  case atStart => exact unhide hst
  case round =>
    clear hst
    obtain ⟨L, k, b, hk, rfl, rfl, hrow, hbw, hgood, hb8⟩ := hrel
    obtain ⟨wo, rfl⟩ : ∃ wo : World, wo = wr := ⟨_, rfl⟩
    obtain ⟨va, vc, rfl⟩ := own_shape hrow
    have hBo : B ≤ wo.heap.size := by rw [← unhide hB]; exact hbw.size
    obtain ⟨r, hr⟩ : ∃ r, all.drop k = r := ⟨_, rfl⟩
    have hrl : r.length = all.length - k := by rw [← hr, List.length_drop]
    have x1 : (⟨all.toArray⟩ : ByteArray).extract k all.length = ⟨r.toArray⟩ := by rw [← hr]; exact ba_drop all k
    rw [hr] at hgood
    have hLn : L.length ≤ 1000000000 := by
      have h1 := Jn.recs_count b0L (Jn.good b0L all).1
      have h2 := congrArg List.length (Jn.good_eq b0L all)
      rw [List.length_append] at h2
      rw [hgood] at h1 h2
      simp only [List.length_append] at h1 h2
      omega
    have hfin : ∀ wz, Jn.stepR b r = none → Below wo.heap.size wo wz → ReadPost all w (.returned (.tuple #[.slice va L.length vc, .int .i64 (k : Int), .string ⟨b.toArray⟩])) wz := fun wz hst hbz => by
      refine ⟨.slice va L.length vc, ?_, ?_, ?_⟩
      · rw [hgood, Jn.good_none hst]
        rw [show all.length - r.length = k by omega]
      · rw [hgood, Jn.good_none hst, unhide hB]
        simp only [List.append_nil]
        exact own_belowb hrow hbz
      · rw [unhide hB]; exact hbw.trans (hbz.mono hBo)
    obtain ⟨bR, w2, e1, ew, st⟩ := (St.start wo).new (Obj.cells #[.string ⟨r.toArray⟩, .int .i64 0, .bool false] 79)
    have hb2 := st.below
    have hrf : Rf w2 bR ⟨r.toArray⟩ (some r) := by
      rw [← e1, ← ew]
      have := fnew_rf ⟨r.toArray⟩ wo
      rw [ba_list] at this
      exact this
    clear st
    have hnew := fnew_any ⟨r.toArray⟩ wo
    have htx := ftext_any bR ⟨r.toArray⟩ (some r) w2 hrf (by rw [ba_size]; omega)
    have hge : wo.heap.size ≤ bR := by omega
    have i0 : (0 : Int) ≤ (k : Int) := by omega
    have i1' : (k : Int) ≤ (all.length : Int) := by omega
    clear hrf
    replace hrow := hide hrow; replace hbw := hide hbw; replace hgood := hide hgood; replace hfin := hide hfin; replace e1 := hide e1; replace ew := hide ew; replace hb2 := hide hb2; replace hnew := hide hnew; replace htx := hide htx; replace hr := hide hr; replace hrl := hide hrl
    go_wp2_with fail
    refine (unhide hnew).mono ?_
    rintro e w3 ⟨rfl, hw3⟩
    rw [hw3, unhide ew, unhide e1]
    clear hw3 w3 ew e1 hnew
    go_wp2_with fail
    refine (unhide htx).mono ?_
    rintro e w3 ⟨rfl, hrf3, hg3⟩
    have hb3 : Below wo.heap.size wo w3 := Below.grown (unhide hb2) hg3 (unhide hb2).size (fun g e => by cases e; exact hge)
    have hsl := rtext_len (some r)
    obtain ⟨s, hs⟩ : ∃ s, (Wi.rText (some r)).1 = s := ⟨_, rfl⟩
    obtain ⟨o, ho⟩ : ∃ o, (Wi.rText (some r)).2 = o := ⟨_, rfl⟩
    rw [hs] at hsl ⊢
    rw [ho] at hrf3
    simp only [Option.getD_some] at hsl
    have hsl' : s.length ≤ 1000000000 := by have := unhide hrl; omega
    have hbad := fbad_any bR ⟨r.toArray⟩ o w3 hrf3
    have hstep : Jn.stepR b r = if o.isSome ∧ Jn.recd b s <+: r then some (s, r.drop (Jn.recd b s).length, Jn.chL b s) else none := by
      unfold Jn.stepR
      rw [hs, ho]
    have hrec := rrecord_any b s w3 (by rw [hb8]; omega) hsl'
    obtain ⟨RD, hRD⟩ : ∃ x, Jn.recd b s = x := ⟨_, rfl⟩
    have hRl : RD.length ≤ 1000000100 := by rw [← hRD, Jn.recd_len]; have := txt_len s; omega
    have hRp : 1 ≤ RD.length := by rw [← hRD]; exact Jn.recd_pos b s
    rw [hRD] at hstep hrec
    have zRD : (⟨RD.toArray⟩ : ByteArray).size = RD.length := ba_size RD
    clear htx hb2 hg3 hrf3 hs ho hsl hRD
    replace hb3 := hide hb3; replace hbad := hide hbad; replace hstep := hide hstep; replace hrec := hide hrec; replace hb8 := hide hb8
    go_wp2_with fail
    refine (unhide hbad).mono ?_
    rintro e w4 ⟨rfl, hw4⟩
    rw [hw4]
    clear hw4 w4 hbad
    cases o with
    | none =>
      have hp := unhide hfin w3 (by rw [unhide hstep]; simp) (unhide hb3)
      replace hp := hide hp
      clear hfin hstep hrec
      go_wp2_with fail
      go_ret3
      exact unhide hp
    | some q =>
      go_wp2_with fail
      refine (unhide hrec).mono ?_
      rintro e w5 ⟨rfl, hb5⟩
      have hb5' := (unhide hb3).trans (hb5.mono (unhide hb3).size)
      clear hrec hb5 hb3
      replace hb5' := hide hb5'
      by_cases hlong : r.length < RD.length
      · have hp := unhide hfin w5 (by rw [unhide hstep, if_neg (fun h => by have := h.2.length_le; omega)]) (unhide hb5')
        have t1 : ((all.length : Int) - (k : Int)) < (RD.length : Int) := by have := unhide hrl; omega
        replace hp := hide hp
        clear hfin hstep
        go_wp2_with fail
        go_ret3
        exact unhide hp
      · have t1 : ¬ ((all.length : Int) - (k : Int)) < (RD.length : Int) := by have := unhide hrl; omega
        have i2 : (k : Int) + (RD.length : Int) ≤ (all.length : Int) := by omega
        have i3 : (k : Int) ≤ (k : Int) + (RD.length : Int) := by omega
        have e3 : ((k : Int) + (RD.length : Int)).toNat = k + RD.length := by omega
        have x2 : (⟨all.toArray⟩ : ByteArray).extract k (k + RD.length) = ⟨(r.take RD.length).toArray⟩ := by
          have := ba_mid ⟨all.toArray⟩ k RD.length
          rw [ba_list, unhide hr] at this
          exact this
        by_cases hpre : RD <+: r
        · have heq : r.take RD.length = RD := (List.prefix_iff_eq_take.1 hpre).symm
          rw [heq] at x2
          have t2 : (RD == RD) = true := beq_self_eq_true _
          have hst : Jn.stepR b r = some (s, r.drop RD.length, Jn.chL b s) := by rw [unhide hstep, if_pos ⟨rfl, hpre⟩]
          have hch := fun w => rChain_any ⟨b.toArray⟩ ⟨s.toArray⟩ w (by rw [ba_size, unhide hb8]; omega) (by rw [ba_size]; omega)
          simp only [chain_ba] at hch
          have hown5 := own_belowb (unhide hrow) (unhide hb5')
          have hB5 : B ≤ w5.heap.size := Nat.le_trans hBo (unhide hb5').size
          have hnew : Jn.good b0L all = ((L ++ [s]) ++ (Jn.good (Jn.chL b s) (all.drop (k + RD.length))).1, (Jn.good (Jn.chL b s) (all.drop (k + RD.length))).2) := by
            have h1 : all.drop (k + RD.length) = r.drop RD.length := by rw [← unhide hr, List.drop_drop]
            rw [h1, unhide hgood, Jn.good_some hst]
            simp
          have hbw5 := (unhide hbw).trans ((unhide hb5').mono hBo)
          have hcl := Jn.chL_len b s
          obtain ⟨CH, hCH⟩ : ∃ c, Jn.chL b s = c := ⟨_, rfl⟩
          simp only [hCH] at hch hnew hcl
          clear hfin hstep hst hpre hCH hrow hbw hb5' hgood heq hb8
          replace hch := hide hch; replace hnew := hide hnew; replace hcl := hide hcl; replace hbw5 := hide hbw5
          go_wp2_with (at_builtin; refine wpList_append_own _ rfl _ _ 40 rfl B 9 i1 (.string ⟨#[]⟩) 1 16 Try.underlying40 (unhide hi1) (unhide hz0) (unhide hz1) (unhide hz2) rfl (by decide) _ _ _ rfl (hown5.alloc _) ⟨w5.heap.size, 0, none⟩ 1 1 [vl s] rfl rfl ?c1 ?c2 ?c3 ?c4 ?c5 ?_)
          case c1 =>
            intro j u hj
            cases j with
            | zero => first | rfl | (simp at hj; subst hj; first | rfl | (rw [Addr.add_lit, cell_of_row _ _ _ _ _ _ (heap_alloc_new w5 _)]; rfl))
            | succ j => simp at hj
          case c2 => first | rfl | (intro u hu; simp at hu; subst hu; rfl)
          case c3 => unfold maxLen; omega
          case c4 => omega
          case c5 => first | omega | (simp; omega)
          intro v' w6 hown6 hg6 _
          obtain ⟨va', vc', rfl⟩ := own_shape hown6
          have hb6 : Below B w w6 := Below.grown ((unhide hbw5).alloc hB5 (Obj.cells #[vl s] 9)) hg6 (by simp; omega) (fun g hg => (hown5.lt g hg).1)
          have hB6 : B ≤ w6.heap.size := by rw [← unhide hB]; exact hb6.size
          clear hg6 hown5 hbw5
          replace hb6 := hide hb6; replace hown6 := hide hown6
          go_wp2_with fail
          refine (unhide hch w6).mono ?_
          rintro e w7 ⟨rfl, hb7⟩
          have hend : GoodRel B all w (.slice va' (L.length + 1) vc') (.int .i64 ((k : Int) + (RD.length : Int))) (.string ⟨CH.toArray⟩) w7 := by
            refine ⟨L ++ [s], k + RD.length, CH, by omega, by go_num, rfl, ?_, (unhide hb6).trans (hb7.mono hB6), unhide hnew, unhide hcl⟩
            rw [List.length_append, List.map_append]
            exact own_belowb (unhide hown6) hb7
          replace hend := hide hend
          clear hch hb7 hb6 hown6 hnew hcl
          go_wp2_with fail
          go_roundw
          case rel => exact unhide hend
          case measure => simp [intOf]; omega
        · have hp := unhide hfin w5 (by rw [unhide hstep, if_neg (fun h => hpre h.2)]) (unhide hb5')
          have t2 : (r.take RD.length == RD) = false := beq_eq_false_iff_ne.2 fun e => hpre (by rw [← e]; exact List.take_prefix _ _)
          replace hp := hide hp
          clear hfin hstep
          go_wp2_with fail
          go_ret3
          exact unhide hp
end Go.Proofs.Ytcliegeooooonaa
