/- The reference's reader: lists. -/
import Derived.Test.YtidbjccfkembeaaWi27
namespace Go.Proofs.Ytidbjccfkembeaa
open Go.RowKit
attribute [local go_sem ↓] Go.wp_at_zero Go.wp_at_succ

theorem rf_blk_ne {w : World} {base : Nat} {e : TypeId} {s n b : Nat} {v : Value} {xs : List Value} {S : ByteArray} {st : Option (List UInt8)} (h : w.ownsRow base e s v n xs) (hb : Rf w b S st) (hne : e ≠ 69) : v.ownBlock ≠ some b := by
  obtain ⟨p, _, hh, _⟩ := hb
  exact own_ne_blk h hh hne
theorem own_drewN {w : World} {base : Nat} {e : TypeId} {s n : Nat} {v : Value} {xs : List Value} (h : w.ownsRow base e s v n xs) (m : Nat) : (w.drewN m).ownsRow base e s v n xs := h
set_option maxRecDepth 100000 in
set_option maxHeartbeats 4000000 in
theorem fints_any (b : Nat) (S : ByteArray) (st : Option (List UInt8)) (w : World) (h : Rf w b S st) (hs : S.size ≤ 1000000000000) :
    Calls Try.prog 28 #[.pointer (some ⟨b, 0, none⟩)] w fun e w' => ∃ v, e = .returned v ∧ w'.ownsRow w.heap.size 3 1 v (Wi.rList Wi.rInt st).1.length ((Wi.rList Wi.rInt st).1.map (Value.int .i64)) ∧ Rf w' b S (Wi.rList Wi.rInt st).2 ∧ w.grownBy w' (some b) := by
  have hi0 := fint_any b S st w h hs
  have hlt := h.lt
  obtain ⟨W0, hW0⟩ : ∃ W0, w.heap.size = W0 := ⟨_, rfl⟩
  rw [hW0] at hlt ⊢
  have hle : W0 ≤ w.heap.size := by omega
  have hge : w.heap.size ≤ W0 := by omega
  clear hW0
  obtain ⟨i0, hi, hz0, hz1, hz2⟩ := info_parts info_int
  replace hi := hide hi; replace hz0 := hide hz0; replace hz1 := hide hz1; replace hz2 := hide hz2
  obtain ⟨n, hn⟩ : ∃ n, (Wi.rInt st).1 = n := ⟨_, rfl⟩
  obtain ⟨st1, hst1⟩ : ∃ s, (Wi.rInt st).2 = s := ⟨_, rfl⟩
  have hp : Wi.rInt st = (n, st1) := by rw [← hn, ← hst1]
  rw [hn, hst1] at hi0
  clear hn hst1
  replace hi0 := hide hi0
  have bad : Wi.rSize st = none → Hid (Wi.rList Wi.rInt st = ([], none)) := fun h0 => hide (by unfold Wi.rList; rw [h0])
  cases st1 with
  | none =>
    have e1 := bad (size_none hp)
    clear bad hp
    go_enter Try.func28, Try.ntmps28
    go_wp2_with fail
    refine (unhide hi0).mono ?_
    rintro e w1 ⟨rfl, hr1, hg1⟩
    go_wp2_with fail
    go_quiet ((go_at_call 35; with_reducible exact fbad_t hr1 _))
    go_wp2_with fail
    refine (ffail_any b S _ _ (hr1.drewN nq)).mono ?_
    rintro e w3 ⟨rfl, hr3, hg3⟩
    go_wp2_with fail
    go_ret
    rw [e1.out]
    exact ⟨_, rfl, World.ownsRow_nil _ _ _ _, hr3, grown_trans hg1 (grown_trans (grown_drewN _ _) hg3)⟩
  | some r =>
    rcases size_parts hp with ⟨h0, hcmp⟩ | ⟨N, rfl, hN, h0⟩
    · have e1 := bad h0
      clear bad hp h0
      have hs' : decide (n < 0) = true ∨ (decide (n < 0) = false ∧ decide ((r.length : Int) < n) = true) := by
        rcases hcmp with h1 | ⟨h1, h2⟩
        · exact Or.inl (by simpa using h1)
        · exact Or.inr ⟨by simp; omega, by simpa using h2⟩
      replace hcmp := hide hcmp
      rcases hs' with t1 | ⟨t1, t2⟩
      all_goals
        go_enter Try.func28, Try.ntmps28
        go_wp2_with fail
        refine (unhide hi0).mono ?_
        rintro e w1 ⟨rfl, hr1, hg1⟩
        have hrf := hr1
        obtain ⟨p, hp, hh, h2⟩ := hr1
        obtain ⟨c0, c1, c2, f1, f2⟩ := rf_cells hh
        have hlen : (S.size : Int) - (p : Int) = (r.length : Int) := by rw [h2 r rfl, List.length_drop, data_len]; omega
        have hw : IntKind.i64.wrap (r.length : Int) = (r.length : Int) := IntWalk.i64_in _ (by omega)
        clear h2 hh
        replace hrf := hide hrf
        go_wp2_with fail
        go_quiet ((go_at_call 35; with_reducible exact fbad_f (unhide hrf) _))
        go_wp2_with fail
        refine (ffail_any b S _ _ ((unhide hrf).drewN nq)).mono ?_
        rintro e w3 ⟨rfl, hr3, hg3⟩
        go_wp2_with fail
        go_ret
        rw [e1.out]
        exact ⟨_, rfl, World.ownsRow_nil _ _ _ _, hr3, grown_trans hg1 (grown_trans (grown_drewN _ _) hg3)⟩
    · have e1 : Hid (Wi.rList Wi.rInt st = if (Wi.rIter Wi.rInt N (some r)).2 = none then ([], none) else Wi.rIter Wi.rInt N (some r)) := hide (by unfold Wi.rList; rw [h0])
      clear bad hp h0
      have t1 : decide ((N : Int) < 0) = false := by simp
      have t2 : decide (r.length < N) = false := by simp; omega
      go_enter Try.func28, Try.ntmps28
      go_wp2_with fail
      refine (unhide hi0).mono ?_
      rintro e w1 ⟨rfl, hr1, hg1⟩
      have hrf := hr1
      obtain ⟨p, hp, hh, h2⟩ := hr1
      obtain ⟨c0, c1, c2, f1, f2⟩ := rf_cells hh
      have hrd := h2 r rfl
      have hlen : (S.size : Int) - (p : Int) = (r.length : Int) := by rw [hrd, List.length_drop, data_len]; omega
      have hrl : r.length ≤ 1000000000000 := by omega
      have hw : IntKind.i64.wrap (r.length : Int) = (r.length : Int) := IntWalk.i64_in _ (by omega)
      replace hrd := hide hrd
      clear h2 hh
      replace hrf := hide hrf
      go_wp2_with fail
      go_quiet ((go_at_call 35; with_reducible exact fbad_f (unhide hrf) _))
      have hrq := (unhide hrf).drewN nq
      have hgq : w.grownBy (w1.drewN nq) (some b) := grown_trans hg1 (grown_drewN _ _)
      clear hlen hw c0 c1 c2 f1 f2 hrf t1 t2 hrd hg1
      go_wp2_with fail
      go_loopw [4, 5] (fun v7 v16 wr => ∃ k : Nat, k ≤ N ∧ v16 = .int .i64 (k : Int) ∧ wr.ownsRow W0 3 1 v7 k ((Wi.rIter Wi.rInt k (some r)).1.map (Value.int .i64)) ∧ Rf wr b S (Wi.rIter Wi.rInt k (some r)).2 ∧ w.grownBy wr (some b)) (fun _ v _ => (N - intOf v).toNat)
      case atStart => exact ⟨0, by omega, rfl, World.ownsRow_nil _ _ _ _, hrq, hgq⟩
      case round =>
        obtain ⟨k, hk, rfl, hown, hrd, hg⟩ := hrel
        clear hrq hgq
        have hsh := elints_shrink k r
        have hlen := Wi.rIter_len Wi.rInt k (some r)
        have hsucc : Wi.rIter Wi.rInt (k + 1) (some r) = ((Wi.rIter Wi.rInt k (some r)).1 ++ [(Wi.rInt (Wi.rIter Wi.rInt k (some r)).2).1], (Wi.rInt (Wi.rIter Wi.rInt k (some r)).2).2) := rfl
        obtain ⟨P, hP⟩ : ∃ P, Wi.rIter Wi.rInt k (some r) = P := ⟨_, rfl⟩
        rw [hP] at hown hrd hsh hlen hsucc
        by_cases hkn : k < N
        · have hc := fint_any b S P.2 wr hrd hs
          replace hc := hide hc
          replace hsucc := hide hsucc
          clear hP
          go_wp2_with fail
          refine (unhide hc).mono ?_
          rintro e w2 ⟨rfl, hr2, hg2⟩
          have hown2 := hown.kept hg2 (Or.inr (rf_blk_ne hown hrd (by decide)))
          have hgw := grown_trans hg hg2
          have hz2' : W0 ≤ w2.heap.size := Nat.le_trans hle hgw.size
          clear hg2 hg hc
          go_wp2_with (at_builtin; refine wpList_append_own _ rfl _ _ 22 rfl W0 3 i0 (.int .i64 0) 1 8 Try.underlying22 (unhide hi) (unhide hz0) (unhide hz1) (unhide hz2) rfl (by decide) _ _ _ rfl (hown2.alloc _) ⟨w2.heap.size, 0, none⟩ 1 1 [(Value.int .i64) (Wi.rInt P.2).1] rfl rfl ?c1 ?c2 ?c3 ?c4 ?c5 ?_)
          case c1 =>
            intro j u hj
            match j, hj with
            | 0, hj => simp at hj; subst hj; simp [Addr.add]
          case c2 => intro u hu; simp at hu; subst hu; rfl
          case c3 => unfold maxLen; omega
          case c4 => omega
          case c5 => simp; omega
          intro v' w3 hown3 hg3 _
          have hne3 := rf_blk_ne hown2 hr2 (by decide)
          have hr3 : Rf w3 b S (Wi.rInt P.2).2 := by
            have : Rf (w2.alloc (Obj.cells #[(Value.int .i64) (Wi.rInt P.2).1] 3)) b S (Wi.rInt P.2).2 := hr2.kept (World.grownBy_alloc _ _ none) (by simp)
            exact this.kept hg3 hne3
          have hgw3 : w.grownBy w3 (some b) := own_grown hgw (World.grownBy_alloc _ _ _) hg3 (fun g e => by have := (hown2.lt g e).1; omega)
          clear hg3 hne3 hown2 hr2 hgw hown hrd
          go_wp2_with fail
          go_roundw
          case rel =>
            refine ⟨k + 1, by omega, by go_num, ?_, ?_, hgw3⟩
            · rw [unhide hsucc]; simpa using hown3
            · rw [unhide hsucc]; exact hr3
          case measure => simp [intOf]; omega
        · obtain rfl : k = N := by omega
          rw [hP] at e1
          cases hP2 : P.2 with
          | none =>
            rw [hP2] at hrd e1
            replace e1 := hide (e1.out.trans (if_pos rfl))
            replace hP2 := hide hP2; replace hP := hide hP
            go_wp2_with fail
            refine (fbad_any b S _ _ hrd).mono ?_
            rintro e w2 ⟨rfl, rfl⟩
            simp only [Option.isNone_none]
            go_wp2_with fail
            go_ret
            rw [unhide e1]
            exact ⟨_, rfl, World.ownsRow_nil _ _ _ _, hrd, hg⟩
          | some q =>
            have hPn : ¬ (P.2 = none) := by rw [hP2]; simp
            replace e1 := hide (e1.out.trans (if_neg hPn))
            replace hP2 := hide hP2; replace hP := hide hP
            replace hPn := hide hPn
            have hrd' : Rf wr b S (some q) := by rw [← unhide hP2]; exact hrd
            go_wp2_with fail
            refine (fbad_any b S _ _ hrd').mono ?_
            rintro e w2 ⟨rfl, rfl⟩
            simp only [Option.isNone_some]
            go_wp2_with fail
            go_ret
            rw [unhide e1]
            exact ⟨_, rfl, by rw [hlen]; exact hown, hrd, hg⟩
set_option maxRecDepth 100000 in
set_option maxHeartbeats 4000000 in
theorem ftexts_any (b : Nat) (S : ByteArray) (st : Option (List UInt8)) (w : World) (h : Rf w b S st) (hs : S.size ≤ 1000000000000) :
    Calls Try.prog 31 #[.pointer (some ⟨b, 0, none⟩)] w fun e w' => ∃ v, e = .returned v ∧ w'.ownsRow w.heap.size 9 1 v (Wi.rList Wi.rText st).1.length ((Wi.rList Wi.rText st).1.map vstr) ∧ Rf w' b S (Wi.rList Wi.rText st).2 ∧ w.grownBy w' (some b) := by
  have hi0 := fint_any b S st w h hs
  have hlt := h.lt
  obtain ⟨W0, hW0⟩ : ∃ W0, w.heap.size = W0 := ⟨_, rfl⟩
  rw [hW0] at hlt ⊢
  have hle : W0 ≤ w.heap.size := by omega
  have hge : w.heap.size ≤ W0 := by omega
  clear hW0
  obtain ⟨i0, hi, hz0, hz1, hz2⟩ := info_parts info_str
  replace hi := hide hi; replace hz0 := hide hz0; replace hz1 := hide hz1; replace hz2 := hide hz2
  obtain ⟨n, hn⟩ : ∃ n, (Wi.rInt st).1 = n := ⟨_, rfl⟩
  obtain ⟨st1, hst1⟩ : ∃ s, (Wi.rInt st).2 = s := ⟨_, rfl⟩
  have hp : Wi.rInt st = (n, st1) := by rw [← hn, ← hst1]
  rw [hn, hst1] at hi0
  clear hn hst1
  replace hi0 := hide hi0
  have bad : Wi.rSize st = none → Hid (Wi.rList Wi.rText st = ([], none)) := fun h0 => hide (by unfold Wi.rList; rw [h0])
  cases st1 with
  | none =>
    have e1 := bad (size_none hp)
    clear bad hp
    go_enter Try.func31, Try.ntmps31
    go_wp2_with fail
    refine (unhide hi0).mono ?_
    rintro e w1 ⟨rfl, hr1, hg1⟩
    go_wp2_with fail
    go_quiet ((go_at_call 35; with_reducible exact fbad_t hr1 _))
    go_wp2_with fail
    refine (ffail_any b S _ _ (hr1.drewN nq)).mono ?_
    rintro e w3 ⟨rfl, hr3, hg3⟩
    go_wp2_with fail
    go_ret
    rw [e1.out]
    exact ⟨_, rfl, World.ownsRow_nil _ _ _ _, hr3, grown_trans hg1 (grown_trans (grown_drewN _ _) hg3)⟩
  | some r =>
    rcases size_parts hp with ⟨h0, hcmp⟩ | ⟨N, rfl, hN, h0⟩
    · have e1 := bad h0
      clear bad hp h0
      have hs' : decide (n < 0) = true ∨ (decide (n < 0) = false ∧ decide ((r.length : Int) < n) = true) := by
        rcases hcmp with h1 | ⟨h1, h2⟩
        · exact Or.inl (by simpa using h1)
        · exact Or.inr ⟨by simp; omega, by simpa using h2⟩
      replace hcmp := hide hcmp
      rcases hs' with t1 | ⟨t1, t2⟩
      all_goals
        go_enter Try.func31, Try.ntmps31
        go_wp2_with fail
        refine (unhide hi0).mono ?_
        rintro e w1 ⟨rfl, hr1, hg1⟩
        have hrf := hr1
        obtain ⟨p, hp, hh, h2⟩ := hr1
        obtain ⟨c0, c1, c2, f1, f2⟩ := rf_cells hh
        have hlen : (S.size : Int) - (p : Int) = (r.length : Int) := by rw [h2 r rfl, List.length_drop, data_len]; omega
        have hw : IntKind.i64.wrap (r.length : Int) = (r.length : Int) := IntWalk.i64_in _ (by omega)
        clear h2 hh
        replace hrf := hide hrf
        go_wp2_with fail
        go_quiet ((go_at_call 35; with_reducible exact fbad_f (unhide hrf) _))
        go_wp2_with fail
        refine (ffail_any b S _ _ ((unhide hrf).drewN nq)).mono ?_
        rintro e w3 ⟨rfl, hr3, hg3⟩
        go_wp2_with fail
        go_ret
        rw [e1.out]
        exact ⟨_, rfl, World.ownsRow_nil _ _ _ _, hr3, grown_trans hg1 (grown_trans (grown_drewN _ _) hg3)⟩
    · have e1 : Hid (Wi.rList Wi.rText st = if (Wi.rIter Wi.rText N (some r)).2 = none then ([], none) else Wi.rIter Wi.rText N (some r)) := hide (by unfold Wi.rList; rw [h0])
      clear bad hp h0
      have t1 : decide ((N : Int) < 0) = false := by simp
      have t2 : decide (r.length < N) = false := by simp; omega
      go_enter Try.func31, Try.ntmps31
      go_wp2_with fail
      refine (unhide hi0).mono ?_
      rintro e w1 ⟨rfl, hr1, hg1⟩
      have hrf := hr1
      obtain ⟨p, hp, hh, h2⟩ := hr1
      obtain ⟨c0, c1, c2, f1, f2⟩ := rf_cells hh
      have hrd := h2 r rfl
      have hlen : (S.size : Int) - (p : Int) = (r.length : Int) := by rw [hrd, List.length_drop, data_len]; omega
      have hrl : r.length ≤ 1000000000000 := by omega
      have hw : IntKind.i64.wrap (r.length : Int) = (r.length : Int) := IntWalk.i64_in _ (by omega)
      replace hrd := hide hrd
      clear h2 hh
      replace hrf := hide hrf
      go_wp2_with fail
      go_quiet ((go_at_call 35; with_reducible exact fbad_f (unhide hrf) _))
      have hrq := (unhide hrf).drewN nq
      have hgq : w.grownBy (w1.drewN nq) (some b) := grown_trans hg1 (grown_drewN _ _)
      clear hlen hw c0 c1 c2 f1 f2 hrf t1 t2 hrd hg1
      go_wp2_with fail
      go_loopw [4, 5] (fun v7 v16 wr => ∃ k : Nat, k ≤ N ∧ v16 = .int .i64 (k : Int) ∧ wr.ownsRow W0 9 1 v7 k ((Wi.rIter Wi.rText k (some r)).1.map vstr) ∧ Rf wr b S (Wi.rIter Wi.rText k (some r)).2 ∧ w.grownBy wr (some b)) (fun _ v _ => (N - intOf v).toNat)
      case atStart => exact ⟨0, by omega, rfl, World.ownsRow_nil _ _ _ _, hrq, hgq⟩
      case round =>
        obtain ⟨k, hk, rfl, hown, hrd, hg⟩ := hrel
        clear hrq hgq
        have hsh := eltexts_shrink k r
        have hlen := Wi.rIter_len Wi.rText k (some r)
        have hsucc : Wi.rIter Wi.rText (k + 1) (some r) = ((Wi.rIter Wi.rText k (some r)).1 ++ [(Wi.rText (Wi.rIter Wi.rText k (some r)).2).1], (Wi.rText (Wi.rIter Wi.rText k (some r)).2).2) := rfl
        obtain ⟨P, hP⟩ : ∃ P, Wi.rIter Wi.rText k (some r) = P := ⟨_, rfl⟩
        rw [hP] at hown hrd hsh hlen hsucc
        by_cases hkn : k < N
        · have hc := ftext_any b S P.2 wr hrd hs
          replace hc := hide hc
          replace hsucc := hide hsucc
          clear hP
          go_wp2_with fail
          refine (unhide hc).mono ?_
          rintro e w2 ⟨rfl, hr2, hg2⟩
          have hown2 := hown.kept hg2 (Or.inr (rf_blk_ne hown hrd (by decide)))
          have hgw := grown_trans hg hg2
          have hz2' : W0 ≤ w2.heap.size := Nat.le_trans hle hgw.size
          clear hg2 hg hc
          go_wp2_with (at_builtin; refine wpList_append_own _ rfl _ _ 23 rfl W0 9 i0 (.string ⟨#[]⟩) 1 16 Try.underlying23 (unhide hi) (unhide hz0) (unhide hz1) (unhide hz2) rfl (by decide) _ _ _ rfl (hown2.alloc _) ⟨w2.heap.size, 0, none⟩ 1 1 [vstr (Wi.rText P.2).1] rfl rfl ?c1 ?c2 ?c3 ?c4 ?c5 ?_)
          case c1 =>
            intro j u hj
            match j, hj with
            | 0, hj => simp at hj; subst hj; simp [Addr.add]
          case c2 => intro u hu; simp at hu; subst hu; rfl
          case c3 => unfold maxLen; omega
          case c4 => omega
          case c5 => simp; omega
          intro v' w3 hown3 hg3 _
          have hne3 := rf_blk_ne hown2 hr2 (by decide)
          have hr3 : Rf w3 b S (Wi.rText P.2).2 := by
            have : Rf (w2.alloc (Obj.cells #[vstr (Wi.rText P.2).1] 9)) b S (Wi.rText P.2).2 := hr2.kept (World.grownBy_alloc _ _ none) (by simp)
            exact this.kept hg3 hne3
          have hgw3 : w.grownBy w3 (some b) := own_grown hgw (World.grownBy_alloc _ _ _) hg3 (fun g e => by have := (hown2.lt g e).1; omega)
          clear hg3 hne3 hown2 hr2 hgw hown hrd
          go_wp2_with fail
          go_roundw
          case rel =>
            refine ⟨k + 1, by omega, by go_num, ?_, ?_, hgw3⟩
            · rw [unhide hsucc]; simpa using hown3
            · rw [unhide hsucc]; exact hr3
          case measure => simp [intOf]; omega
        · obtain rfl : k = N := by omega
          rw [hP] at e1
          cases hP2 : P.2 with
          | none =>
            rw [hP2] at hrd e1
            replace e1 := hide (e1.out.trans (if_pos rfl))
            replace hP2 := hide hP2; replace hP := hide hP
            go_wp2_with fail
            refine (fbad_any b S _ _ hrd).mono ?_
            rintro e w2 ⟨rfl, rfl⟩
            simp only [Option.isNone_none]
            go_wp2_with fail
            go_ret
            rw [unhide e1]
            exact ⟨_, rfl, World.ownsRow_nil _ _ _ _, hrd, hg⟩
          | some q =>
            have hPn : ¬ (P.2 = none) := by rw [hP2]; simp
            replace e1 := hide (e1.out.trans (if_neg hPn))
            replace hP2 := hide hP2; replace hP := hide hP
            replace hPn := hide hPn
            have hrd' : Rf wr b S (some q) := by rw [← unhide hP2]; exact hrd
            go_wp2_with fail
            refine (fbad_any b S _ _ hrd').mono ?_
            rintro e w2 ⟨rfl, rfl⟩
            simp only [Option.isNone_some]
            go_wp2_with fail
            go_ret
            rw [unhide e1]
            exact ⟨_, rfl, by rw [hlen]; exact hown, hrd, hg⟩
end Go.Proofs.Ytidbjccfkembeaa
