/- The readers of wire: lists. -/
import Derived.Test.YtidbjccfkembeaaWi9
namespace Go.Proofs.Ytidbjccfkembeaa
open Go.RowKit

abbrev vstr (x : List UInt8) : Value := .string ⟨x.toArray⟩
theorem info_int : (Try.prog.info? 3).map (fun i => (i.zero, i.size, i.bytes)) = some (some (.int .i64 0), 1, 8) := by kernel_rfl
theorem info_str : (Try.prog.info? 9).map (fun i => (i.zero, i.size, i.bytes)) = some (some (.string ⟨#[]⟩), 1, 16) := by kernel_rfl
/-- what has become of a world: only block b and what is new has turned, and the new row -/
theorem rd_kept {w w' : World} {b : Nat} {st : Option (List UInt8)} {row : Option Nat} (h : Rd w b st) (hg : w.grownBy w' row) (hne : row ≠ some b) : Rd w' b st :=
  (hg.block b (Array.getElem?_eq_some_iff.1 h).1 (fun e => hne e.symm)).trans h
theorem rd_blk_ne {w : World} {base : Nat} {e : TypeId} {s n b : Nat} {v : Value} {xs : List Value} {st : Option (List UInt8)} (h : w.ownsRow base e s v n xs) (hb : Rd w b st) (hne : e ≠ 56) : v.ownBlock ≠ some b := own_ne_blk h hb hne
theorem size_le {st : Option (List UInt8)} {n : Nat} {r : List UInt8} (h : Wi.rSize st = some (n, r)) : n ≤ r.length ∧ r.length ≤ (st.getD []).length := by
  unfold Wi.rSize at h
  split at h
  · rename_i m q hq
    split at h
    · injection h with h; injection h with h1 h2; subst h1; subst h2
      refine ⟨by omega, ?_⟩
      cases st with
      | none => cases hq
      | some s => exact Wi.rInt_le hq
    · cases h
  · cases h
theorem own_grown {w a b c : World} {g0 : Nat} {row : Option Nat} (h : w.grownBy a (some g0)) (k : a.grownBy b none) (m : b.grownBy c row) (hr : ∀ g, row = some g → w.heap.size ≤ g) : w.grownBy c (some g0) := by
  refine grown_own (grown_own h k (fun g e => by cases e)) m (fun g e => hr g e)

theorem rint_shrink (s : Option (List UInt8)) : ((Wi.rInt s).2.getD []).length ≤ (s.getD []).length := by
  cases s with
  | none => simp [Wi.rInt]
  | some s =>
    cases hd : Wi.dec s with
    | none => rw [Wi.rInt_bad hd]; simp
    | some p => obtain ⟨n, u⟩ := p; rw [Wi.rInt_good hd]; simp
theorem elints_shrink (n : Nat) (r : List UInt8) : (((Wi.rIter Wi.rInt n (some r)).2).getD []).length ≤ r.length := by
  induction n with
  | zero => simp [Wi.rIter]
  | succ n ih => exact Nat.le_trans (rint_shrink _) ih
set_option maxRecDepth 100000 in
set_option maxHeartbeats 2000000 in
theorem elints_any (b : Nat) (st : Option (List UInt8)) (w : World) (h : Rd w b st) (hst : (st.getD []).length ≤ 1000000000000) :
    Calls Try.prog 50 #[.pointer (some ⟨b, 0, none⟩), .func (Fn.func 22) #[.pointer (some ⟨b, 0, none⟩)] #[]] w fun e w' => ∃ v, e = .returned v ∧ w'.ownsRow w.heap.size 3 1 v (Wi.rList Wi.rInt st).1.length ((Wi.rList Wi.rInt st).1.map (Value.int .i64)) ∧ Rd w' b (Wi.rList Wi.rInt st).2 ∧ w.grownBy w' (some b) := by
  have hs := rsize_any b st w h hst
  have hlt : b < w.heap.size := (Array.getElem?_eq_some_iff.1 h).1
  obtain ⟨W0, hW0⟩ : ∃ W0, w.heap.size = W0 := ⟨_, rfl⟩
  rw [hW0] at hlt ⊢
  have hle : W0 ≤ w.heap.size := by omega
  have hge : w.heap.size ≤ W0 := by omega
  clear hW0
  obtain ⟨i0, hi, hz0, hz1, hz2⟩ := info_parts info_int
  replace hi := hide hi; replace hz0 := hide hz0; replace hz1 := hide hz1; replace hz2 := hide hz2
  cases hz : Wi.rSize st with
  | none =>
    rw [hz] at hs
    have e1 : Hid (Wi.rList Wi.rInt st = ([], none)) := by show Wi.rList Wi.rInt st = ([], none); unfold Wi.rList; rw [hz]
    clear hz
    replace hs := hide hs
    go_enter Try.func50, Try.ntmps50
    go_wp2_with fail
    refine (unhide hs).mono ?_
    rintro e w1 ⟨rfl, hr1, hg1⟩
    go_wp2_with fail
    go_ret
    rw [e1.out]
    exact ⟨_, rfl, World.ownsRow_nil _ _ _ _, hr1, hg1⟩
  | some p =>
    obtain ⟨n, r⟩ := p
    rw [hz] at hs
    obtain ⟨hn, hr⟩ := size_le hz
    have e1 : Hid (Wi.rList Wi.rInt st = if (Wi.rIter Wi.rInt n (some r)).2 = none then ([], none) else Wi.rIter Wi.rInt n (some r)) := by show Wi.rList Wi.rInt st = _; unfold Wi.rList; rw [hz]
    clear hz
    replace hs := hide hs
    have hnb : n ≤ 1000000000000 := by omega
    have hrb : r.length ≤ 1000000000000 := by omega
    clear hr hn hst
    go_enter Try.func50, Try.ntmps50
    go_wp2_with fail
    refine (unhide hs).mono ?_
    rintro e w1 ⟨rfl, hr1, hg1⟩
    have hr1' : Rd w1 b (some r) := hr1
    simp only [szN, Option.elim_some, Option.isSome_some]
    clear hr1 hs
    go_wp2_with fail
    go_loopw [7, 16] (fun v7 v16 wr => ∃ k : Nat, k ≤ n ∧ v16 = .int .i64 (k : Int) ∧ wr.ownsRow W0 3 1 v7 k ((Wi.rIter Wi.rInt k (some r)).1.map (Value.int .i64)) ∧ Rd wr b (Wi.rIter Wi.rInt k (some r)).2 ∧ w.grownBy wr (some b)) (fun _ v _ => (n - intOf v).toNat)
    case atStart => exact ⟨0, by omega, rfl, World.ownsRow_nil _ _ _ _, hr1', hg1⟩
    case round =>
      obtain ⟨k, hk, rfl, hown, hrd, hg⟩ := hrel
      clear hr1' hg1
      have hsh := elints_shrink k r
      have hlen := Wi.rIter_len Wi.rInt k (some r)
      have hsucc : Wi.rIter Wi.rInt (k + 1) (some r) = ((Wi.rIter Wi.rInt k (some r)).1 ++ [(Wi.rInt (Wi.rIter Wi.rInt k (some r)).2).1], (Wi.rInt (Wi.rIter Wi.rInt k (some r)).2).2) := rfl
      obtain ⟨P, hP⟩ : ∃ P, Wi.rIter Wi.rInt k (some r) = P := ⟨_, rfl⟩
      rw [hP] at hown hrd hsh hlen hsucc
      by_cases hkn : k < n
      · have hc := rint2_any b P.2 wr hrd (by omega)
        replace hc := hide hc
        replace hsucc := hide hsucc
        clear hP
        have hlb : b < wr.heap.size := (Array.getElem?_eq_some_iff.1 hrd).1
        go_wp2_with fail
        refine (unhide hc).mono ?_
        rintro e w2 ⟨rfl, hr2, hg2⟩
        have hown2 := hown.kept hg2 (Or.inr (rd_blk_ne hown hrd (by decide)))
        have hgw := grown_trans hg hg2
        have hz2' : W0 ≤ w2.heap.size := Nat.le_trans hle hgw.size
        clear hg2 hg hc
        go_wp2_with (at_builtin; refine wpList_append_own _ rfl _ _ 22 rfl W0 3 i0 (.int .i64 0) 1 8 Try.underlying22 (unhide hi) (unhide hz0) (unhide hz1) (unhide hz2) rfl (by decide) _ _ _ rfl (hown2.alloc _) ⟨w2.heap.size, 0, none⟩ 1 1 [(Value.int .i64) (Wi.rInt P.2).1] rfl rfl ?c1 ?c2 ?c3 ?c4 ?c5 ?_)
        case c1 =>
          intro j u hj
          match j, hj with
          | 0, hj => simp at hj; subst hj; simp [Addr.add]
        case c2 => intro u hu; simp at hu; subst hu; rfl
        case c3 => unfold maxLen; omega
        case c4 => omega
        case c5 => simp; omega
        intro v' w3 hown3 hg3 _
        have hne3 := rd_blk_ne hown2 hr2 (by decide)
        have hr3 : Rd w3 b (Wi.rInt P.2).2 := by
          have : Rd (w2.alloc (Obj.cells #[(Value.int .i64) (Wi.rInt P.2).1] 3)) b (Wi.rInt P.2).2 := rd_kept hr2 (World.grownBy_alloc _ _ none) (by simp)
          exact rd_kept this hg3 hne3
        have hgw3 : w.grownBy w3 (some b) := own_grown hgw (World.grownBy_alloc _ _ _) hg3 (fun g e => by have := (hown2.lt g e).1; omega)
        clear hg3 hne3 hown2 hr2 hgw hown hrd
        go_wp2_with fail
        go_roundw
        case rel =>
          refine ⟨k + 1, by omega, by go_num, ?_, ?_, hgw3⟩
          · rw [unhide hsucc]; simpa using hown3
          · rw [unhide hsucc]; exact hr3
        case measure => simp [intOf]; omega
      · obtain rfl : k = n := by omega
        have t1 : decide ((k : Int) < (k : Int)) = false := by simp
        go_wp2_with fail
        refine (rbad_any b _ _ hrd).mono ?_
        rintro e w2 ⟨rfl, rfl⟩
        rw [hP] at e1
        cases hP2 : P.2 with
        | none =>
          rw [hP2] at hrd e1
          replace e1 := hide (e1.out.trans (if_pos rfl))
          replace hP2 := hide hP2; replace hP := hide hP
          simp only [Option.isNone_none]
          go_wp2_with fail
          go_ret
          rw [unhide e1]
          exact ⟨_, rfl, World.ownsRow_nil _ _ _ _, hrd, hg⟩
        | some q =>
          have hPn : ¬ (P.2 = none) := by rw [hP2]; simp
          simp only [Option.isNone_some]
          replace hP2 := hide hP2; replace hP := hide hP
          replace e1 := hide (e1.out.trans (if_neg hPn))
          go_wp2_with fail
          go_ret
          rw [unhide e1]
          exact ⟨_, rfl, by rw [hlen]; exact hown, hrd, hg⟩
theorem rtext_shrink (s : Option (List UInt8)) : ((Wi.rText s).2.getD []).length ≤ (s.getD []).length := by
  unfold Wi.rText
  cases hz : Wi.rSize s with
  | none => simp
  | some p =>
    obtain ⟨n, r⟩ := p
    have := size_le hz
    simp
    omega

theorem eltexts_shrink (n : Nat) (r : List UInt8) : (((Wi.rIter Wi.rText n (some r)).2).getD []).length ≤ r.length := by
  induction n with
  | zero => simp [Wi.rIter]
  | succ n ih => exact Nat.le_trans (rtext_shrink _) ih
set_option maxRecDepth 100000 in
set_option maxHeartbeats 2000000 in
theorem eltexts_any (b : Nat) (st : Option (List UInt8)) (w : World) (h : Rd w b st) (hst : (st.getD []).length ≤ 1000000000000) :
    Calls Try.prog 51 #[.pointer (some ⟨b, 0, none⟩), .func (Fn.func 24) #[.pointer (some ⟨b, 0, none⟩)] #[]] w fun e w' => ∃ v, e = .returned v ∧ w'.ownsRow w.heap.size 9 1 v (Wi.rList Wi.rText st).1.length ((Wi.rList Wi.rText st).1.map vstr) ∧ Rd w' b (Wi.rList Wi.rText st).2 ∧ w.grownBy w' (some b) := by
  have hs := rsize_any b st w h hst
  have hlt : b < w.heap.size := (Array.getElem?_eq_some_iff.1 h).1
  obtain ⟨W0, hW0⟩ : ∃ W0, w.heap.size = W0 := ⟨_, rfl⟩
  rw [hW0] at hlt ⊢
  have hle : W0 ≤ w.heap.size := by omega
  have hge : w.heap.size ≤ W0 := by omega
  clear hW0
  obtain ⟨i0, hi, hz0, hz1, hz2⟩ := info_parts info_str
  replace hi := hide hi; replace hz0 := hide hz0; replace hz1 := hide hz1; replace hz2 := hide hz2
  cases hz : Wi.rSize st with
  | none =>
    rw [hz] at hs
    have e1 : Hid (Wi.rList Wi.rText st = ([], none)) := by show Wi.rList Wi.rText st = ([], none); unfold Wi.rList; rw [hz]
    clear hz
    replace hs := hide hs
    go_enter Try.func51, Try.ntmps51
    go_wp2_with fail
    refine (unhide hs).mono ?_
    rintro e w1 ⟨rfl, hr1, hg1⟩
    go_wp2_with fail
    go_ret
    rw [e1.out]
    exact ⟨_, rfl, World.ownsRow_nil _ _ _ _, hr1, hg1⟩
  | some p =>
    obtain ⟨n, r⟩ := p
    rw [hz] at hs
    obtain ⟨hn, hr⟩ := size_le hz
    have e1 : Hid (Wi.rList Wi.rText st = if (Wi.rIter Wi.rText n (some r)).2 = none then ([], none) else Wi.rIter Wi.rText n (some r)) := by show Wi.rList Wi.rText st = _; unfold Wi.rList; rw [hz]
    clear hz
    replace hs := hide hs
    have hnb : n ≤ 1000000000000 := by omega
    have hrb : r.length ≤ 1000000000000 := by omega
    clear hr hn hst
    go_enter Try.func51, Try.ntmps51
    go_wp2_with fail
    refine (unhide hs).mono ?_
    rintro e w1 ⟨rfl, hr1, hg1⟩
    have hr1' : Rd w1 b (some r) := hr1
    simp only [szN, Option.elim_some, Option.isSome_some]
    clear hr1 hs
    go_wp2_with fail
    go_loopw [7, 16] (fun v7 v16 wr => ∃ k : Nat, k ≤ n ∧ v16 = .int .i64 (k : Int) ∧ wr.ownsRow W0 9 1 v7 k ((Wi.rIter Wi.rText k (some r)).1.map vstr) ∧ Rd wr b (Wi.rIter Wi.rText k (some r)).2 ∧ w.grownBy wr (some b)) (fun _ v _ => (n - intOf v).toNat)
    case atStart => exact ⟨0, by omega, rfl, World.ownsRow_nil _ _ _ _, hr1', hg1⟩
    case round =>
      obtain ⟨k, hk, rfl, hown, hrd, hg⟩ := hrel
      clear hr1' hg1
      have hsh := eltexts_shrink k r
      have hlen := Wi.rIter_len Wi.rText k (some r)
      have hsucc : Wi.rIter Wi.rText (k + 1) (some r) = ((Wi.rIter Wi.rText k (some r)).1 ++ [(Wi.rText (Wi.rIter Wi.rText k (some r)).2).1], (Wi.rText (Wi.rIter Wi.rText k (some r)).2).2) := rfl
      obtain ⟨P, hP⟩ : ∃ P, Wi.rIter Wi.rText k (some r) = P := ⟨_, rfl⟩
      rw [hP] at hown hrd hsh hlen hsucc
      by_cases hkn : k < n
      · have hc := rtextm_any b P.2 wr hrd (by omega)
        replace hc := hide hc
        replace hsucc := hide hsucc
        clear hP
        have hlb : b < wr.heap.size := (Array.getElem?_eq_some_iff.1 hrd).1
        go_wp2_with fail
        refine (unhide hc).mono ?_
        rintro e w2 ⟨rfl, hr2, hg2⟩
        have hown2 := hown.kept hg2 (Or.inr (rd_blk_ne hown hrd (by decide)))
        have hgw := grown_trans hg hg2
        have hz2' : W0 ≤ w2.heap.size := Nat.le_trans hle hgw.size
        clear hg2 hg hc
        go_wp2_with (at_builtin; refine wpList_append_own _ rfl _ _ 23 rfl W0 9 i0 (.string ⟨#[]⟩) 1 16 Try.underlying23 (unhide hi) (unhide hz0) (unhide hz1) (unhide hz2) rfl (by decide) _ _ _ rfl (hown2.alloc _) ⟨w2.heap.size, 0, none⟩ 1 1 [vstr (Wi.rText P.2).1] rfl rfl ?c1 ?c2 ?c3 ?c4 ?c5 ?_)
        case c1 =>
          intro j u hj
          match j, hj with
          | 0, hj => simp at hj; subst hj; simp [Addr.add]
        case c2 => intro u hu; simp at hu; subst hu; rfl
        case c3 => unfold maxLen; omega
        case c4 => omega
        case c5 => simp; omega
        intro v' w3 hown3 hg3 _
        have hne3 := rd_blk_ne hown2 hr2 (by decide)
        have hr3 : Rd w3 b (Wi.rText P.2).2 := by
          have : Rd (w2.alloc (Obj.cells #[vstr (Wi.rText P.2).1] 9)) b (Wi.rText P.2).2 := rd_kept hr2 (World.grownBy_alloc _ _ none) (by simp)
          exact rd_kept this hg3 hne3
        have hgw3 : w.grownBy w3 (some b) := own_grown hgw (World.grownBy_alloc _ _ _) hg3 (fun g e => by have := (hown2.lt g e).1; omega)
        clear hg3 hne3 hown2 hr2 hgw hown hrd
        go_wp2_with fail
        go_roundw
        case rel =>
          refine ⟨k + 1, by omega, by go_num, ?_, ?_, hgw3⟩
          · rw [unhide hsucc]; simpa using hown3
          · rw [unhide hsucc]; exact hr3
        case measure => simp [intOf]; omega
      · obtain rfl : k = n := by omega
        have t1 : decide ((k : Int) < (k : Int)) = false := by simp
        go_wp2_with fail
        refine (rbad_any b _ _ hrd).mono ?_
        rintro e w2 ⟨rfl, rfl⟩
        rw [hP] at e1
        cases hP2 : P.2 with
        | none =>
          rw [hP2] at hrd e1
          replace e1 := hide (e1.out.trans (if_pos rfl))
          replace hP2 := hide hP2; replace hP := hide hP
          simp only [Option.isNone_none]
          go_wp2_with fail
          go_ret
          rw [unhide e1]
          exact ⟨_, rfl, World.ownsRow_nil _ _ _ _, hrd, hg⟩
        | some q =>
          have hPn : ¬ (P.2 = none) := by rw [hP2]; simp
          simp only [Option.isNone_some]
          replace hP2 := hide hP2; replace hP := hide hP
          replace e1 := hide (e1.out.trans (if_neg hPn))
          go_wp2_with fail
          go_ret
          rw [unhide e1]
          exact ⟨_, rfl, by rw [hlen]; exact hown, hrd, hg⟩

theorem rintsm_any (b : Nat) (st : Option (List UInt8)) (w : World) (h : Rd w b st) (hst : (st.getD []).length ≤ 1000000000000) :
    Calls Try.prog 27 #[.pointer (some ⟨b, 0, none⟩)] w fun e w' => ∃ v, e = .returned v ∧ w'.ownsRow w.heap.size 3 1 v (Wi.rList Wi.rInt st).1.length ((Wi.rList Wi.rInt st).1.map (Value.int .i64)) ∧ Rd w' b (Wi.rList Wi.rInt st).2 ∧ w.grownBy w' (some b) := by
  go_enter Try.func27, Try.ntmps27
  go_wp2_with fail
  refine (elints_any b st w h hst).mono ?_
  rintro e w1 ⟨v, rfl, h1, h2, h3⟩
  go_wp2_with fail
  go_ret
  exact ⟨_, rfl, h1, h2, h3⟩

theorem rtextsm_any (b : Nat) (st : Option (List UInt8)) (w : World) (h : Rd w b st) (hst : (st.getD []).length ≤ 1000000000000) :
    Calls Try.prog 30 #[.pointer (some ⟨b, 0, none⟩)] w fun e w' => ∃ v, e = .returned v ∧ w'.ownsRow w.heap.size 9 1 v (Wi.rList Wi.rText st).1.length ((Wi.rList Wi.rText st).1.map vstr) ∧ Rd w' b (Wi.rList Wi.rText st).2 ∧ w.grownBy w' (some b) := by
  go_enter Try.func30, Try.ntmps30
  go_wp2_with fail
  refine (eltexts_any b st w h hst).mono ?_
  rintro e w1 ⟨v, rfl, h1, h2, h3⟩
  go_wp2_with fail
  go_ret
  exact ⟨_, rfl, h1, h2, h3⟩
end Go.Proofs.Ytidbjccfkembeaa
