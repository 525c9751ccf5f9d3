/- Streams: End. -/
import Derived.Test.YtfbgbbbfpkpfkaaTr11
namespace Go.Proofs.Ytfbgbbbfpkpfkaa
open Go.RowKit
theorem FlowI.weaken {Q Q' : Nat → Prop} {bs bo : Nat} {w : World} {vs : List Value} {vo : Value} {sts : List Stg} {out : List Int} (h : FlowI Q bs bo w vs vo sts out) (hq : ∀ b, Q' b → Q b) : FlowI Q' bs bo w vs vo sts out :=
  ⟨h.row, h.box, fun e => h.qs (hq _ e), fun e => h.qo (hq _ e), fun b e => h.lt b (hq b e), h.fam.wide (fun b hb e => hb (hq b e)), h.num, h.numo⟩
theorem split_at {α : Type} {l : List α} {k : Nat} {x : α} (h : l[k]? = some x) : l = l.take k ++ x :: l.drop (k + 1) ∧ (l.take k).length = k := by
  obtain ⟨hi, he⟩ := List.getElem?_eq_some_iff.1 h
  exact ⟨by rw [← he, List.getElem_cons_drop, List.take_append_drop], by rw [List.length_take]; omega⟩
set_option maxRecDepth 100000 in
set_option maxHeartbeats 8000000 in
theorem end_any (la : Option Addr) (ln lc : Nat) (l : List (List Sub)) (sa : Option Addr) (sc : Nat) (sts : List Stg) (w : World) (hll : Lst Enc.lk w (fun b => b < w.heap.size) la ln l) (hsm : ∀ x ∈ l, Small x) (hto : ∀ x ∈ l, ToI x) (hl : Lst Enc.stg w (fun b => b < w.heap.size) sa ln sts) (hn : ln ≤ 1000000)
    (hbd : ∀ s ∈ sts, s.1.length ≤ 300000) (ht : tot sts [] ≤ 200000) :
    Calls Try.prog 14 #[.slice la ln lc, .agg #[.slice sa ln sc]] w fun e w' => ∃ a' c', e = .returned (.slice a' (endS l sts).length c') ∧ Lst Enc.int w' (fun b => b < w'.heap.size) a' (endS l sts).length (endS l sts) ∧ (endS l sts).length ≤ 200000 ∧ Below w.heap.size w w' := by
  have hbd2 : ∀ s ∈ sts, s.1.length ≤ 300000 ∧ s.2.length ≤ 300000 := fun s hs => ⟨hbd s hs, by have := tot_mem hs []; omega⟩
  have hln := hll.1
  have hsn := hl.1
  have hnum := lst_stg_i64 hl
  obtain ⟨b3x, V3, hb3, hV3, st⟩ := (St.start w).new (Obj.cells #[.slice sa ln sc] 29)
  have d3 := st.cell 0 rfl 0 (v := .slice sa ln sc) rfl
  have hz := st.below
  have hop := open_any la ln lc sa sc sts V3 (hl.under hz) hn hbd2
  have hll0 := hide hll
  obtain ⟨ES, hES⟩ : ∃ r, endS l sts = r := ⟨_, rfl⟩
  rw [hES]
  clear st hl hll hbd2
  replace hb3 := hide hb3; replace hV3 := hide hV3; replace hz := hide hz; replace hop := hide hop; replace hnum := hide hnum; replace hbd := hide hbd; replace ht := hide ht; replace hln := hide hln; replace hsn := hide hsn; replace hsm := hide hsm; replace hto := hide hto; replace hES := hide hES
  go_enter Try.func14, Try.ntmps14
  go_upto_region 1 with fail
  rw [unhide hV3, unhide hb3]
  clear hV3 hb3
  go_wp2_with fail
  refine (unhide hop).mono ?_
  rintro e w1 ⟨bf, bs, vs, rfl, hflow, hrow, hlof, hlos, hfam, hb⟩
  have hz1 := (unhide hz).trans (hb.mono (unhide hz).size)
  have hsz3 := (unhide hz).size
  have p1 := ptr_nil ⟨bf, 0, none⟩ w1
  clear hop hz d3 hb
  obtain ⟨b6x, V6, hb6, hV6, st⟩ := (St.start w1).new (Obj.cells #[nilS] 22)
  have hbb := st.below
  have hbox := st.get 0 rfl
  have hz6 := hz1.trans (hbb.mono hz1.size)
  have hge6 : w.heap.size ≤ b6x := by have := hz1.size; omega
  have hI0 : FlowI (fun b => b < w.heap.size) bs b6x V6 vs nilS sts [] := ⟨kept' hbb hrow, hbox, by omega, by omega, fun b hb => Nat.lt_of_lt_of_le hb hz6.size, ((hfam.below hbb).wide (fun b hb => by show ¬ b < w.heap.size; omega)).nils, unhide hnum, fun y hy => by cases hy⟩
  have hflow6 := kept' hbb hflow
  clear st hrow hfam hbb hbox hflow hz1 hlof hlos hsz3
  replace hb6 := hide hb6; replace hV6 := hide hV6; replace hI0 := hide hI0; replace hflow6 := hide hflow6; replace hz6 := hide hz6
  have hmf : ∀ (fn : Fn) (first cap : Array Value) (w : World), (Instr.makeFunc fn first cap).run Try.prog w = .ok (.func fn first cap) w := fun _ _ _ _ => rfl
  go_wp2_with fail
  clear p1
  rw [unhide hV6]
  try rw [unhide hb6]
  clear hV6 hb6
  go_loopw [16] (fun v wr => ∃ (k : Nat) (vs' : List Value) (vo' : Value) (sts' : List Stg) (out : List Int), k ≤ ln ∧ v = .int .i64 (k : Int) ∧ FlowI (fun b => b < w.heap.size) bs b6x wr vs' vo' sts' out ∧ wr.heap[bf]? = some (.cells #[.slice la ln lc, .slice (some ⟨bs, 0, none⟩) ln ln] 68 (0, 0)) ∧ Below w.heap.size w wr ∧ sts'.length = ln ∧ ES = out ++ endS (l.drop k) (sts'.drop k) ∧ tot sts' out ≤ 200000 ∧ ∀ s ∈ sts', s.1.length ≤ 300000) (fun v _ => ln - (intOf v).toNat)
  case atStart => exact ⟨0, vs, _, sts, [], by omega, rfl, unhide hI0, unhide hflow6, unhide hz6, unhide hsn, by rw [List.drop_zero, List.drop_zero, unhide hES]; rfl, unhide ht, unhide hbd⟩
  case round =>
    obtain ⟨k, vs1, vo1, sts1, out, hk, rfl, hI, hfl, hbw, hslen, hEq, htt, hbb⟩ := hrel
    obtain ⟨wo, rfl⟩ : ∃ W : World, W = wr := ⟨_, rfl⟩
    by_cases hlt : k < ln
    · obtain ⟨x, hx⟩ : ∃ x, l[k]? = some x := ⟨_, List.getElem?_eq_getElem (by rw [unhide hln]; exact hlt)⟩
      obtain ⟨s, hs⟩ : ∃ s, sts1[k]? = some s := ⟨_, List.getElem?_eq_getElem (by rw [hslen]; exact hlt)⟩
      obtain ⟨hsp, hspl⟩ := split_at hs
      have hdl : l.drop k = x :: l.drop (k + 1) := by
        obtain ⟨h1, h2⟩ := List.getElem?_eq_some_iff.1 hx
        rw [List.drop_eq_getElem_cons h1, h2]
      have hds : sts1.drop k = s :: sts1.drop (k + 1) := by
        obtain ⟨h1, h2⟩ := List.getElem?_eq_some_iff.1 hs
        rw [List.drop_eq_getElem_cons h1, h2]
      obtain ⟨pre, hpre⟩ : ∃ p, sts1.take k = p := ⟨_, rfl⟩
      obtain ⟨ss, hss⟩ : ∃ p, sts1.drop (k + 1) = p := ⟨_, rfl⟩
      rw [hpre, hss] at hsp
      rw [hpre] at hspl
      rw [hss] at hds
      have hssl : ss.length = (l.drop (k + 1)).length := by rw [← hss, List.length_drop, List.length_drop, hslen, unhide hln]
      rw [hsp] at hI hslen htt hbb
      rw [hdl, hds] at hEq
      clear hsp hpre hss hdl hds hs
      have hsmx := unhide hsm x (List.mem_of_getElem? hx)
      have htox := unhide hto x (List.mem_of_getElem? hx)
      have hlo := (unhide hll0).below hbw
      have hlo2 := hlo.wide (S' := fun b => b < wo.heap.size) (fun b hb => Nat.lt_of_lt_of_le hb hbw.size)
      have hskc := sink_any bs b6x bf la ln lc ln l (unhide hsm) (unhide hto) hn (unhide hln) hn (l.length - (k + 1)) (k + 1) wo 33 #[.pointer (some ⟨b6x, 0, none⟩)] [] (by have := unhide hln; omega) (.inr ⟨.inr rfl, _, rfl⟩) (sinkOK_end bs b6x la ln l) (fun p hp => by cases hp) (fun p hp => by cases hp) hfl hlo2
      have kc : ((k : Int) + 1) = ((k + 1 : Nat) : Int) := by omega
      rw [← kc] at hskc
      have kb : (k : Int) ≤ 1000000 := by omega
      clear kc
      replace hI := hide hI; replace hfl := hide hfl; replace hbw := hide hbw; replace hslen := hide hslen; replace hEq := hide hEq; replace htt := hide htt; replace hbb := hide hbb; replace hx := hide hx; replace hspl := hide hspl; replace hssl := hide hssl; replace hsmx := hide hsmx; replace htox := hide htox; replace hlo := hide hlo; replace hskc := hide hskc
      clear hlo2
      go_wp2_with fail
      refine (unhide hskc).mono ?_
      rintro e wS ⟨v, rfl, ⟨fid, caps, L, rfl, hsh, hLh, hLp, _, hsk⟩, hb⟩
      have hIS := (unhide hI).under hb
      have hIQ := hIS.again
      have hflS := kept' hb (unhide hfl)
      have hzS := (unhide hbw).trans (hb.mono (unhide hbw).size)
      have hlS := (unhide hll0).below hzS
      obtain ⟨QQ, hQQ⟩ : ∃ q, QS wS bs b6x vo1 vs1 = q := ⟨_, rfl⟩
      have hQL : ∀ p ∈ L, QQ p.1 ∧ wS.heap[p.1]? = some p.2 := fun p hp => ⟨by
        rw [← hQQ]
        rcases hLp p hp with e | e | e
        · exact (unhide hI).prot hb (hLh p hp) (.inr ⟨_, _, Option.some.inj ((hLh p hp).symm.trans (e ▸ hflS)), by decide, by decide, by decide⟩)
        · cases e
        · exact (unhide hI).prot hb (hLh p hp) (.inl e), hLh p hp⟩
      have hQf : QQ bf := by rw [← hQQ]; exact (unhide hI).prot hb hflS (.inr ⟨_, _, rfl, by decide, by decide, by decide⟩)
      have hQw : ∀ b, b < w.heap.size → QQ b := by rw [← hQQ]; exact hIS.qsub
      rw [hQQ] at hIQ
      have hlQ := hlS.wide hQw
      obtain ⟨R, hR⟩ : ∃ R, loopS 1 x (feedS (l.drop (k + 1))) s.2.length s ss = R := ⟨_, rfl⟩
      have hEq2 : ES = out ++ (R.2 ++ endS (l.drop (k + 1)) R.1.2) := by rw [← hR]; exact unhide hEq
      clear hskc hI hfl hbw hLh hLp hIS hlS hQQ hb hEq hlo
      replace hIQ := hide hIQ; replace hflS := hide hflS; replace hzS := hide hzS; replace hQL := hide hQL; replace hQf := hide hQf; replace hQw := hide hQw; replace hlQ := hide hlQ; replace hR := hide hR; replace hEq2 := hide hEq2; replace hsk := hide hsk; replace hsh := hide hsh
      go_wp2_with fail
      go_loopg [] s.2.length (fun q wr => ∃ (t : Stg) (tt : List Stg) (done : List Int) (vs' : List Value) (vo' : Value), t.2.length ≤ q ∧ tt.length = ss.length ∧ R.1 = (loopS 1 x (feedS (l.drop (k + 1))) q t tt).1 ∧ R.2 = done ++ (loopS 1 x (feedS (l.drop (k + 1))) q t tt).2 ∧ FlowI QQ bs b6x wr vs' vo' (pre ++ t :: tt) (out ++ done) ∧ Keeps QQ wS wr ∧ tot (pre ++ t :: tt) (out ++ done) ≤ 200000 ∧ ∀ t' ∈ pre ++ t :: tt, t'.1.length ≤ 300000)
      case atStart => exact ⟨s, ss, [], vs1, vo1, Nat.le_refl _, rfl, by rw [unhide hR], by rw [unhide hR]; rfl, by rw [List.append_nil]; exact unhide hIQ, Keeps.refl _ _, by rw [List.append_nil]; exact unhide htt, unhide hbb⟩
      case round =>
        obtain ⟨t, tt, done, vs2, vo2, hq, htl, hr1, hr2, hI2, hkp, htt2, hbb2⟩ := hrel
        obtain ⟨wi, rfl⟩ : ∃ W : World, W = wr := ⟨_, rfl⟩
        have hfi := (hkp.block bf (unhide hQf)).trans (unhide hflS)
        have cf1 : wi.cell? ⟨bf, 1, none⟩ = some (.slice (some ⟨bs, 0, none⟩) ln ln) := by rw [cell_of_row wi bf _ _ _ _ hfi]; rfl
        have hli := Lst.same (w' := wi) (fun b hb => hkp.block b hb) (unhide hlQ)
        have hli2 := hli.wide (S' := fun b => b < wi.heap.size) (fun b hb => hI2.lt b hb)
        have hLi : ∀ p ∈ L, QQ p.1 ∧ wi.heap[p.1]? = some p.2 := fun p hp => ⟨(unhide hQL p hp).1, (hkp.block p.1 (unhide hQL p hp).1).trans (unhide hQL p hp).2⟩
        obtain ⟨v1, v2, _, _, V1, V2, B1, B2, _, c2⟩ := hI2.stage
        obtain ⟨a4, q4, hv2, _, _⟩ := V2.shape
        subst hv2
        rw [unhide hspl] at c2
        obtain ⟨nt, hnt⟩ : ∃ m, t.2.length = m := ⟨_, rfl⟩
        rw [hnt] at c2 hq
        have hlen1 : (pre ++ t :: tt).length = ln := by have := unhide hslen; rw [List.length_append, List.length_cons] at this ⊢; omega
        have hntl : nt ≤ 200000 := by rw [← hnt]; rw [tot_app, tot_cons] at htt2; omega
        have htb := hbb2 t (by simp)
        have i1 : (0 : Int) ≤ (k : Int) := by omega
        have i2 : (k : Int) < (ln : Int) := by omega
        clear V1 V2
        replace hI2 := hide hI2; replace hkp := hide hkp; replace hr1 := hide hr1; replace hr2 := hide hr2; replace hli := hide hli; replace hli2 := hide hli2; replace hLi := hide hLi; replace B1 := hide B1; replace B2 := hide B2; replace hlen1 := hide hlen1; replace htl := hide htl; replace htt2 := hide htt2; replace hbb2 := hide hbb2; replace hfi := hide hfi; replace hnt := hide hnt
        by_cases hgo : 1 ≤ nt
        · have t1 : (0 : Int) < (nt : Int) := by omega
          obtain ⟨q', rfl⟩ : ∃ q', gk = q' + 1 := ⟨gk - 1, by omega⟩
          have hs1 : loopS 1 x (feedS (l.drop (k + 1))) (q' + 1) t tt = ((loopS 1 x (feedS (l.drop (k + 1))) q' (decS x t) (feedS (l.drop (k + 1)) tt (decO x t)).1).1, (feedS (l.drop (k + 1)) tt (decO x t)).2 ++ (loopS 1 x (feedS (l.drop (k + 1))) q' (decS x t) (feedS (l.drop (k + 1)) tt (decO x t)).1).2) := by rw [loopS, if_pos (by rw [unhide hnt]; exact hgo)]
          have hR1 := unhide hr1
          have hR2 := unhide hr2
          rw [hs1] at hR1 hR2
          clear hs1 hr1 hr2
          have hdc := decide_any QQ bs b6x bf la ln lc ln l pre tt t (out ++ done) vs2 vo2 x wi (unhide hfi) (unhide hli2) (by rw [unhide hspl]; exact unhide hx) (unhide hsmx) (unhide htox) hn (unhide hI2) (by rw [unhide hnt]; omega) htb (by rw [unhide hnt]; omega) (unhide hlen1) hn
          rw [unhide hspl] at hdc
          replace hdc := hide hdc; replace hR1 := hide hR1; replace hR2 := hide hR2
          go_wp2_with fail
          refine (unhide hdc).mono ?_
          rintro e w2 ⟨rfl, ⟨vs3, hI3⟩, hk3⟩
          have hli3 := Lst.same (w' := w2) (fun b hb => hk3.block b hb) (unhide hli)
          have hLi3 : ∀ p ∈ L, QQ p.1 ∧ w2.heap[p.1]? = some p.2 := fun p hp => ⟨(unhide hLi p hp).1, (hk3.block p.1 (unhide hLi p hp).1).trans (unhide hLi p hp).2⟩
          have hnb : ∀ t' ∈ pre ++ decS x t :: tt, t'.1.length ≤ 300000 := fun t' ht' => by
            rcases List.mem_append.1 ht' with ht' | ht'
            · exact unhide hbb2 t' (by simp [ht'])
            · rcases List.mem_cons.1 ht' with rfl | ht'
              · exact Nat.le_trans (last2_len _) (by omega)
              · exact unhide hbb2 t' (by simp [ht'])
          have hdb := decN_bd x t (by rw [unhide hnt]; omega)
          have hdw := decS_wait x t
          rw [unhide hnt] at hdw hdb
          have hnt1 : tot (pre ++ decS x t :: tt) (out ++ done) + 1 ≤ 200000 := by have := unhide htt2; rw [tot_app, tot_cons] at this ⊢; rw [unhide hnt] at this; omega
          have hdl : tt.length = (l.drop (k + 1)).length := by rw [unhide htl, unhide hssl]
          have hft := feedS_tot (l.drop (k + 1)) tt (decO x t) hdl
          have hfl := feedS_len (l.drop (k + 1)) tt (decO x t) hdl
          have hfb := feedS_back (l.drop (k + 1)) tt (decO x t) 300000 (by omega) hdl (fun t' ht' => unhide hbb2 t' (by simp [ht']))
          have hkc := unhide hsk QQ w2 (pre ++ [decS x t]) tt (out ++ done) vs3 vo2 (decO x t) hLi3 hli3 (by rw [List.append_assoc]; exact hI3) (by rw [List.length_append, unhide hspl]; rfl) hdl (decO_i64 (unhide htox) (unhide B2)) (by rw [List.append_assoc]; exact hnt1) (by rw [List.append_assoc]; exact hnb)
          obtain ⟨rr, hrr⟩ : ∃ r, feedS (l.drop (k + 1)) tt (decO x t) = r := ⟨_, rfl⟩
          replace hR1 := unhide hR1; replace hR2 := unhide hR2
          rw [hrr] at hkc hft hfl hfb hR1 hR2
          have hk4 := (unhide hkp).trans hk3
          have hnt2 : tot (pre ++ decS x t :: rr.1) (out ++ done ++ rr.2) ≤ 200000 := by rw [tot_app, tot_cons, tot_out] at hnt1 ⊢; rw [tot_out]; rw [show tot tt out = tot tt [] + out.length from by simp [tot]] at hnt1; rw [show tot rr.1 out = tot rr.1 [] + out.length from by simp [tot]]; rw [show tot rr.1 rr.2 = tot rr.1 [] + rr.2.length from by simp [tot]] at hft; omega
          have hbb3 : ∀ t' ∈ pre ++ decS x t :: rr.1, t'.1.length ≤ 300000 := fun t' ht' => by
            rcases List.mem_append.1 ht' with ht' | ht'
            · exact hnb t' (by simp [ht'])
            · rcases List.mem_cons.1 ht' with rfl | ht'
              · exact hnb _ (by simp)
              · exact hfb t' ht'
          have hq3 : (decS x t).2.length ≤ q' := by rw [hdw]; omega
          have hrl : rr.1.length = ss.length := by rw [hfl, ← hdl, unhide htl]
          clear hdc hI3 hft hfl hfb hnt1 hnb hdb hdw hk3 hli3 hLi3 hI2 hkp hli hli2 hLi hfi hbb2 htt2 B1 B2 hrr hdl cf1 c2
          replace hkc := hide hkc; replace hk4 := hide hk4; replace hnt2 := hide hnt2; replace hbb3 := hide hbb3; replace hq3 := hide hq3; replace hrl := hide hrl; replace hR1 := hide hR1; replace hR2 := hide hR2
          rcases unhide hsh with ⟨rfl, p1, p2, p3, p4, rfl⟩ | ⟨rfl | rfl, p1, rfl⟩
          all_goals
            replace hkc := hide (unhide hkc)
            go_wp2_with fail
            refine (unhide hkc).mono ?_
            rintro e w3 ⟨rfl, ⟨vs4, vo4, hI4⟩, hk5⟩
            have hI5 : Hid (FlowI QQ bs b6x w3 vs4 vo4 (pre ++ decS x t :: rr.1) (out ++ (done ++ rr.2))) := hide (by have := hI4; rw [List.append_assoc, List.append_assoc] at this; exact this)
            have hk6 := hide ((unhide hk4).trans hk5)
            clear hkc hI4 hk5
            go_wp2_with fail
            go_roundg q'
            case rel => exact ⟨decS x t, rr.1, done ++ rr.2, vs4, vo4, unhide hq3, unhide hrl, unhide hR1, by rw [unhide hR2, List.append_assoc], unhide hI5, unhide hk6, by rw [← List.append_assoc]; exact unhide hnt2, unhide hbb3⟩
            case measure => omega
        · have t1 : ¬ (0 : Int) < (nt : Int) := by omega
          have hfin : loopS 1 x (feedS (l.drop (k + 1))) gk t tt = ((t, tt), []) := by
            cases gk with
            | zero => rfl
            | succ q => rw [loopS, if_neg (by rw [unhide hnt]; exact hgo)]
          have hR1 := unhide hr1
          have hR2 := unhide hr2
          rw [hfin] at hR1 hR2
          rw [List.append_nil] at hR2
          have hEq3 := unhide hEq2
          rw [hR1, hR2] at hEq3
          have hI6 := (unhide hI2).weaken (unhide hQw)
          have hz7 := (unhide hzS).trans ((unhide hkp).sub (unhide hQw)).below
          have hdr : (pre ++ t :: tt).drop (k + 1) = tt := by rw [← unhide hspl, show pre ++ t :: tt = (pre ++ [t]) ++ tt by simp, List.drop_left' (by simp)]
          clear hfin hr1 hr2 hR1 hR2
          replace hEq3 := hide hEq3; replace hI6 := hide hI6; replace hz7 := hide hz7; replace hdr := hide hdr
          go_wp2_with fail
          go_roundw
          case rel => exact ⟨k + 1, vs2, vo2, pre ++ t :: tt, out ++ done, by omega, by go_num, unhide hI6, unhide hfi, unhide hz7, unhide hlen1, by rw [unhide hdr, List.append_assoc]; exact unhide hEq3, unhide htt2, unhide hbb2⟩
          case measure => simp [intOf]; omega
    · have hkl : k = ln := by omega
      have hE : ES = out := by rw [hEq, List.drop_of_length_le (by rw [unhide hln]; omega)]; simp [endS]
      have hV := hI.fam.view 0 vo1 out rfl rfl
      obtain ⟨a', c', hvo, _, _, hLo⟩ := hV.lst hI.numo
      have hbx := hI.box
      rw [hvo] at hbx
      have d9 := blk_cell hbx
      have hol : out.length ≤ 200000 := by unfold tot at htt; omega
      obtain ⟨m, hm⟩ : ∃ m, out.length = m := ⟨_, rfl⟩
      rw [hm] at d9 hLo hol
      clear hI hfl hV hvo hbx hEq htt hbb
      replace hbw := hide hbw; replace hLo := hide hLo; replace hE := hide hE; replace hm := hide hm
      go_wp2_with fail
      go_ret
      rw [unhide hE, unhide hm]
      exact ⟨a', c', rfl, unhide hLo, hol, unhide hbw⟩
end Go.Proofs.Ytfbgbbbfpkpfkaa
