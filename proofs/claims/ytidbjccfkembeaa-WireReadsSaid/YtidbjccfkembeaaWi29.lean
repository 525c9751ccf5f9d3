/- The law WireReads. -/
import Derived.Test.YtidbjccfkembeaaWi28
namespace Go.Proofs.Ytidbjccfkembeaa
open Go.RowKit
attribute [local go_sem ↓] Go.wp_at_zero Go.wp_at_succ

theorem rlist_shrink {α : Type} (f : Option (List UInt8) → α × Option (List UInt8)) (hf : ∀ n r, (((Wi.rIter f n (some r)).2).getD []).length ≤ r.length) (st : Option (List UInt8)) : ((Wi.rList f st).2.getD []).length ≤ (st.getD []).length := by
  unfold Wi.rList
  cases hz : Wi.rSize st with
  | none => simp
  | some p =>
    obtain ⟨n, r⟩ := p
    have h1 := size_le hz
    have h2 := hf n r
    simp only
    split
    · simp
    · omega
theorem lst_u8b {w : World} {S : Nat → Prop} {a : Option Addr} {len : Nat} {l : List Int} (h : Lst (Enc.num .u8 0 255) w S a len l) {k : Nat} (hk : k < len) :
    ∃ b off x, a = some ⟨b, off, none⟩ ∧ (0 ≤ x ∧ x ≤ 255) ∧ w.cell? ⟨b, off + k, none⟩ = some (.int .u8 x) := by
  obtain ⟨h1, h2⟩ := h
  obtain ⟨b, off, rfl, hb, hc⟩ := h2 (by omega)
  have hx : l[k]? = some (l[k]'(by omega)) := List.getElem?_eq_getElem (by omega)
  obtain ⟨us, ⟨rfl, hlo, hhi⟩, hu⟩ := hc k _ hx
  exact ⟨b, off, _, rfl, ⟨hlo, hhi⟩, by have := hu 0 _ rfl; simpa [Enc.num] using this⟩
theorem Rd.drewN' {w : World} {b : Nat} {st : Option (List UInt8)} (h : Rd w b st) (n : Nat) : Rd (w.drewN n) b st := h
theorem rd_other {w w' : World} {a b : Nat} {st : Option (List UInt8)} (h : Rd w a st) (hg : w.grownBy w' (some b)) (hne : b ≠ a) : Rd w' a st := rd_kept h hg (by simp; exact hne)
theorem rf_other {w w' : World} {a b : Nat} {S : ByteArray} {st : Option (List UInt8)} (h : Rf w a S st) (hg : w.grownBy w' (some b)) (hne : b ≠ a) : Rf w' a S st := h.kept hg (by simp; exact hne)
set_option maxRecDepth 100000 in
set_option maxHeartbeats 8000000 in
theorem reads_any (s : ByteArray) (a : Option Addr) (len cap : Nat) (l : List Int) (w : World) (hs : s.size ≤ maxLen) (hl : Lst (Enc.num .u8 0 255) w (fun b => b < w.heap.size) a len l) (_q1 : len ≤ cap) (_q2 : cap ≤ maxLen) :
    Calls Try.prog 4 #[.string s, .slice a len cap] w fun e w' => e = .returned (.bool true) ∧ Below w.heap.size w w' := by
  unfold maxLen at hs
  obtain ⟨T, hT⟩ : ∃ T, s.data.toList.take 200 = T := ⟨_, rfl⟩
  have hTl : T.length ≤ 200 := by rw [← hT]; simp; omega
  have hcut : s.extract 0 (min (s.size : Int) 200).toNat = ⟨T.toArray⟩ := by
    have hsz : s.data.toList.length = s.size := by rw [Array.length_toList]; rfl
    have e : (min (s.size : Int) 200).toNat = min 200 s.data.toList.length := by omega
    have := ba_take s.data.toList (min 200 s.data.toList.length)
    rw [ba_self] at this
    rw [e, this, ← hT]
    rw [show List.take (min 200 s.data.toList.length) s.data.toList = List.take 200 s.data.toList from (List.take_eq_take_min ..).symm]
  clear hT
  have hTs : (⟨T.toArray⟩ : ByteArray).size ≤ 1000000000000 := by rw [ba_size]; omega
  replace hl := hide hl
  replace hTs := hide hTs
  replace hTl := hide hTl
  go_enter Try.func4, Try.ntmps4
  go_wp2_with fail
  refine (wsanity_any _).mono ?_
  rintro e wa ⟨rfl, hba⟩
  replace hcut := hide hcut
  go_wp2_with fail
  rw [unhide hcut]
  clear hcut
  refine (rnew_any T _).mono ?_
  rintro e w1 ⟨rfl, hw1⟩
  have hr1 : Rd w1 wa.heap.size (some T) := by rw [hw1]; exact rnew_rd T wa
  have hb1 : Below w.heap.size w w1 := by rw [hw1]; exact hba.alloc hba.size _
  have hx1 : w.heap.size ≤ wa.heap.size := hba.size
  obtain ⟨x1, he1⟩ : ∃ x, wa.heap.size = x := ⟨_, rfl⟩
  rw [he1] at hr1 hx1 ⊢
  have hx1l : x1 < w1.heap.size := (Array.getElem?_eq_some_iff.1 hr1).1
  clear hw1 he1 hba
  go_wp2_with fail
  refine (fnew_any ⟨T.toArray⟩ _).mono ?_
  rintro e w2 ⟨rfl, hw2⟩
  have hf2 : Rf w2 w1.heap.size ⟨T.toArray⟩ (some T) := by rw [hw2]; have := fnew_rf ⟨T.toArray⟩ w1; simpa using this
  have hr2 : Rd w2 x1 (some T) := by rw [hw2]; exact rd_below hr1 ((Below.refl _ _).alloc (Nat.le_refl _) _) hx1l
  have hb2 : Below w.heap.size w w2 := by rw [hw2]; exact hb1.alloc hb1.size _
  have hx2 : w.heap.size ≤ w1.heap.size := hb1.size
  have hne : x1 ≠ w1.heap.size := by omega
  obtain ⟨x2, he2⟩ : ∃ x, w1.heap.size = x := ⟨_, rfl⟩
  rw [he2] at hf2 hx2 hne ⊢
  clear hw2 he2 hr1 hb1 hx1l
  have hne' : x2 ≠ x1 := fun h => hne h.symm
  go_wp2_with fail
  go_loopw [8] (fun v wr => ∃ k : Nat, k ≤ len ∧ k ≤ 12 ∧ v = .int .i64 (k : Int) ∧ (∃ st, (st.getD []).length ≤ 200 ∧ Rd wr x1 st ∧ Rf wr x2 ⟨T.toArray⟩ st) ∧ Below w.heap.size w wr) (fun v _ => (12 - intOf v).toNat)
  case atStart => exact ⟨0, by omega, by omega, rfl, ⟨some T, unhide hTl, hr2, hf2⟩, hb2⟩
  case round =>
    obtain ⟨k, hk, hk12, rfl, ⟨st, hst, hr, hf⟩, hb⟩ := hrel
    clear hr2 hf2 hb2
    by_cases hlt : k < len
    · by_cases hlt12 : k < 12
      · obtain ⟨bb, off, x, rfl, hx, hc0⟩ := lst_u8b (unhide hl) hlt
        have hc := cell_under hc0 hb
        clear hc0
        have hst' : (st.getD []).length ≤ 1000000000000 := by omega
        obtain h | h | h | h : x % 4 = 0 ∨ x % 4 = 1 ∨ x % 4 = 2 ∨ x % 4 = 3 := by omega
        · have hsh := rint_shrink st
          have hc1 := rint2_any x1 st _ hr hst'
          have hc2 := fun w h => fint_any x2 ⟨T.toArray⟩ st w h (unhide hTs)
          generalize Wi.rInt st = PP at hsh hc1 hc2
          obtain ⟨NN, ST⟩ := PP
          simp only at hsh hc1 hc2
          have hst4 : (ST.getD []).length ≤ 200 := by omega
          replace hc1 := hide hc1
          replace hc2 := hide hc2
          clear hsh
          go_wp2_with fail
          refine (unhide hc1).mono ?_
          rintro e w3 ⟨rfl, hr3, hg3⟩
          have hf3 := rf_other hf hg3 hne
          have hb3 := hb.grown hg3 hb.size (fun k hk => by cases hk; exact hx1)
          clear hg3 hr hf hb hc1
          go_wp2_with fail
          refine (unhide hc2 _ hf3).mono ?_
          rintro e w4 ⟨rfl, hf4, hg4⟩
          have hr4 := rd_other hr3 hg4 hne'
          have hb4 := hb3.grown hg4 hb3.size (fun k hk => by cases hk; exact hx2)
          clear hg4 hr3 hf3 hb3 hc2
          have hb5 := hb4
          go_wp2_with fail
          refine (rleft_any x1 _ _ hr4).mono ?_
          rintro e wx ⟨rfl, rfl⟩
          go_wp2_with fail
          refine (fleft_any x2 _ _ _ hf4 (unhide hTs)).mono ?_
          rintro e wy ⟨rfl, m, rfl⟩
          have hr6 := Rd.drewN' hr4 m
          have hf6 := hf4.drewN m
          have hb6 := blw_drewN hb5 m
          clear hr4 hf4 hb4 hb5
          go_wp2_with fail
          refine (rbad_any x1 _ _ hr6).mono ?_
          rintro e wx ⟨rfl, rfl⟩
          go_wp2_with fail
          refine (fbad_any x2 _ _ _ hf6).mono ?_
          rintro e wx ⟨rfl, rfl⟩
          go_wp2_with fail
          go_roundw
          case rel => exact ⟨k + 1, by omega, by omega, by go_num, ⟨_, hst4, hr6, hf6⟩, hb6⟩
          case measure => simp [intOf]; omega
        · have hsh := rtext_shrink st
          have hc1 := rtextm_any x1 st _ hr hst'
          have hc2 := fun w h => ftext_any x2 ⟨T.toArray⟩ st w h (unhide hTs)
          generalize Wi.rText st = PP at hsh hc1 hc2
          obtain ⟨NN, ST⟩ := PP
          simp only at hsh hc1 hc2
          have hst4 : (ST.getD []).length ≤ 200 := by omega
          replace hc1 := hide hc1
          replace hc2 := hide hc2
          clear hsh
          go_wp2_with fail
          refine (unhide hc1).mono ?_
          rintro e w3 ⟨rfl, hr3, hg3⟩
          have hf3 := rf_other hf hg3 hne
          have hb3 := hb.grown hg3 hb.size (fun k hk => by cases hk; exact hx1)
          clear hg3 hr hf hb hc1
          go_wp2_with fail
          refine (unhide hc2 _ hf3).mono ?_
          rintro e w4 ⟨rfl, hf4, hg4⟩
          have hr4 := rd_other hr3 hg4 hne'
          have hb4 := hb3.grown hg4 hb3.size (fun k hk => by cases hk; exact hx2)
          clear hg4 hr3 hf3 hb3 hc2
          have hb5 := hb4
          go_wp2_with fail
          refine (rleft_any x1 _ _ hr4).mono ?_
          rintro e wx ⟨rfl, rfl⟩
          go_wp2_with fail
          refine (fleft_any x2 _ _ _ hf4 (unhide hTs)).mono ?_
          rintro e wy ⟨rfl, m, rfl⟩
          have hr6 := Rd.drewN' hr4 m
          have hf6 := hf4.drewN m
          have hb6 := blw_drewN hb5 m
          clear hr4 hf4 hb4 hb5
          go_wp2_with fail
          refine (rbad_any x1 _ _ hr6).mono ?_
          rintro e wx ⟨rfl, rfl⟩
          go_wp2_with fail
          refine (fbad_any x2 _ _ _ hf6).mono ?_
          rintro e wx ⟨rfl, rfl⟩
          go_wp2_with fail
          go_roundw
          case rel => exact ⟨k + 1, by omega, by omega, by go_num, ⟨_, hst4, hr6, hf6⟩, hb6⟩
          case measure => simp [intOf]; omega
        · have hsh := rlist_shrink Wi.rInt elints_shrink st
          have hal := rlist_ints st
          have hc1 := rintsm_any x1 st _ hr hst'
          have hc2 := fun w h => fints_any x2 ⟨T.toArray⟩ st w h (unhide hTs)
          have hln := rlist_len Wi.rInt st
          generalize Wi.rList Wi.rInt st = PP at hsh hal hc1 hc2 hln
          obtain ⟨NN, ST⟩ := PP
          simp only at hsh hal hc1 hc2 hln
          have hst4 : (ST.getD []).length ≤ 200 := by omega
          have hNN : NN.length ≤ 1000000000000 := by omega
          replace hc1 := hide hc1
          replace hc2 := hide hc2
          replace hal := hide hal
          clear hsh hln
          go_wp2_with fail
          refine (unhide hc1).mono ?_
          rintro e w3 ⟨v1, rfl, hown1, hr3, hg3⟩
          have hf3 := rf_other hf hg3 hne
          have hb3 := hb.grown hg3 hb.size (fun k hk => by cases hk; exact hx1)
          clear hg3 hr hf hb hc1
          go_wp2_with fail
          refine (unhide hc2 _ hf3).mono ?_
          rintro e w4 ⟨v2, rfl, hown2, hf4, hg4⟩
          have hr4 := rd_other hr3 hg4 hne'
          have hb4 := hb3.grown hg4 hb3.size (fun k hk => by cases hk; exact hx2)
          have hown3 := hown1.kept hg4 (Or.inr (rf_blk_ne hown1 hf3 (by decide)))
          clear hg4 hr3 hf3 hb3 hc2 hown1
          obtain ⟨ya, yc, rfl⟩ := own_shape hown3
          obtain ⟨za, zc, rfl⟩ := own_shape hown2
          have l3 := (lst_own hown3 (unhide hal)).1
          have l4 := (lst_own hown2 (unhide hal)).1
          clear hown3 hown2
          go_wp2_with fail
          refine (sameInts_any _ _ _ _ _ _ _ _ _ l3 l4 hNN hNN).mono ?_
          rintro e w5 ⟨rfl, m5, rfl⟩
          replace hr4 := Rd.drewN' hr4 m5
          replace hf4 := hf4.drewN m5
          replace hb4 := blw_drewN hb4 m5
          clear l3 l4 hal
          obtain ⟨wz, hwz⟩ : ∃ wz, w4.drewN m5 = wz := ⟨_, rfl⟩
          rw [hwz] at hr4 hf4 hb4 ⊢
          clear hwz
          simp only [decide_true]
          have hb5 := hb4
          go_wp2_with fail
          refine (rleft_any x1 _ _ hr4).mono ?_
          rintro e wx ⟨rfl, rfl⟩
          go_wp2_with fail
          refine (fleft_any x2 _ _ _ hf4 (unhide hTs)).mono ?_
          rintro e wy ⟨rfl, m, rfl⟩
          have hr6 := Rd.drewN' hr4 m
          have hf6 := hf4.drewN m
          have hb6 := blw_drewN hb5 m
          clear hr4 hf4 hb4 hb5
          go_wp2_with fail
          refine (rbad_any x1 _ _ hr6).mono ?_
          rintro e wx ⟨rfl, rfl⟩
          go_wp2_with fail
          refine (fbad_any x2 _ _ _ hf6).mono ?_
          rintro e wx ⟨rfl, rfl⟩
          go_wp2_with fail
          go_roundw
          case rel => exact ⟨k + 1, by omega, by omega, by go_num, ⟨_, hst4, hr6, hf6⟩, hb6⟩
          case measure => simp [intOf]; omega
        · have hsh := rlist_shrink Wi.rText eltexts_shrink st
          have hal := rlist_texts st
          have hc1 := rtextsm_any x1 st _ hr hst'
          have hc2 := fun w h => ftexts_any x2 ⟨T.toArray⟩ st w h (unhide hTs)
          have hln := rlist_len Wi.rText st
          generalize Wi.rList Wi.rText st = PP at hsh hal hc1 hc2 hln
          obtain ⟨NN, ST⟩ := PP
          simp only at hsh hal hc1 hc2 hln
          have hst4 : (ST.getD []).length ≤ 200 := by omega
          have hNN : NN.length ≤ 1000000000000 := by omega
          replace hc1 := hide hc1
          replace hc2 := hide hc2
          replace hal := hide hal
          clear hsh hln
          go_wp2_with fail
          refine (unhide hc1).mono ?_
          rintro e w3 ⟨v1, rfl, hown1, hr3, hg3⟩
          have hf3 := rf_other hf hg3 hne
          have hb3 := hb.grown hg3 hb.size (fun k hk => by cases hk; exact hx1)
          clear hg3 hr hf hb hc1
          go_wp2_with fail
          refine (unhide hc2 _ hf3).mono ?_
          rintro e w4 ⟨v2, rfl, hown2, hf4, hg4⟩
          have hr4 := rd_other hr3 hg4 hne'
          have hb4 := hb3.grown hg4 hb3.size (fun k hk => by cases hk; exact hx2)
          have hown3 := hown1.kept hg4 (Or.inr (rf_blk_ne hown1 hf3 (by decide)))
          clear hg4 hr3 hf3 hb3 hc2 hown1
          obtain ⟨ya, yc, rfl⟩ := own_shape hown3
          obtain ⟨za, zc, rfl⟩ := own_shape hown2
          have l3 := (lst_own_strs hown3 (fun x hx => Nat.le_trans (unhide hal x hx) (Nat.le_trans hst' (by decide)))).1
          have l4 := (lst_own_strs hown2 (fun x hx => Nat.le_trans (unhide hal x hx) (Nat.le_trans hst' (by decide)))).1
          clear hown3 hown2
          go_wp2_with fail
          refine (sameTexts_any _ _ _ _ _ _ _ _ _ l3 l4 hNN hNN).mono ?_
          rintro e w5 ⟨rfl, m5, rfl⟩
          replace hr4 := Rd.drewN' hr4 m5
          replace hf4 := hf4.drewN m5
          replace hb4 := blw_drewN hb4 m5
          clear l3 l4 hal
          obtain ⟨wz, hwz⟩ : ∃ wz, w4.drewN m5 = wz := ⟨_, rfl⟩
          rw [hwz] at hr4 hf4 hb4 ⊢
          clear hwz
          simp only [decide_true]
          have hb5 := hb4
          go_wp2_with fail
          refine (rleft_any x1 _ _ hr4).mono ?_
          rintro e wx ⟨rfl, rfl⟩
          go_wp2_with fail
          refine (fleft_any x2 _ _ _ hf4 (unhide hTs)).mono ?_
          rintro e wy ⟨rfl, m, rfl⟩
          have hr6 := Rd.drewN' hr4 m
          have hf6 := hf4.drewN m
          have hb6 := blw_drewN hb5 m
          clear hr4 hf4 hb4 hb5
          go_wp2_with fail
          refine (rbad_any x1 _ _ hr6).mono ?_
          rintro e wx ⟨rfl, rfl⟩
          go_wp2_with fail
          refine (fbad_any x2 _ _ _ hf6).mono ?_
          rintro e wx ⟨rfl, rfl⟩
          go_wp2_with fail
          go_roundw
          case rel => exact ⟨k + 1, by omega, by omega, by go_num, ⟨_, hst4, hr6, hf6⟩, hb6⟩
          case measure => simp [intOf]; omega
      · go_wp2_with fail
        go_ret
        exact ⟨rfl, hb⟩
    · go_wp2_with fail
      go_ret
      exact ⟨rfl, hb⟩
end Go.Proofs.Ytidbjccfkembeaa
