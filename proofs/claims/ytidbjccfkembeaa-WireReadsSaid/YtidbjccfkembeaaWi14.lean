/- The law WireCanonical: what a reader decodes was the serialization of what it returns. -/
import Derived.Test.YtidbjccfkembeaaWi13
import Derived.Test.YtidbjccfkembeaaWiC
namespace Go.Proofs.Ytidbjccfkembeaa
open Go.RowKit

theorem ba_self (s : ByteArray) : (⟨s.data.toList.toArray⟩ : ByteArray) = s := by simp
theorem ints_canon {T r : List UInt8} {l : List Int} (h : Wi.rList Wi.rInt (some T) = (l, some r)) : T = Wi.ints l ++ r := by
  have := Wi.rList_canon (ser := Wi.int) rfl (fun s a r h => (Wi.rInt_canon h).1) h
  unfold Wi.ints
  exact this
theorem rlist_len {α : Type} (f : Option (List UInt8) → α × Option (List UInt8)) (st : Option (List UInt8)) : (Wi.rList f st).1.length ≤ (st.getD []).length := by
  unfold Wi.rList
  cases hz : Wi.rSize st with
  | none => simp
  | some p =>
    obtain ⟨n, r⟩ := p
    have := size_le hz
    simp only
    split
    · simp
    · rw [Wi.rIter_len]; omega
theorem riter_all {α : Type} {P : α → Prop} (f : Option (List UInt8) → α × Option (List UInt8)) (hf : ∀ st, P (f st).1) (n : Nat) (st : Option (List UInt8)) : ∀ x ∈ (Wi.rIter f n st).1, P x := by
  induction n with
  | zero => intro x hx; simp [Wi.rIter] at hx
  | succ n ih =>
    intro x hx
    simp only [Wi.rIter, List.mem_append, List.mem_singleton] at hx
    rcases hx with hx | rfl
    · exact ih x hx
    · exact hf _
theorem rlist_all {α : Type} {P : α → Prop} (f : Option (List UInt8) → α × Option (List UInt8)) (hf : ∀ st, P (f st).1) (st : Option (List UInt8)) : ∀ x ∈ (Wi.rList f st).1, P x := by
  unfold Wi.rList
  cases hz : Wi.rSize st with
  | none => intro x hx; simp at hx
  | some p =>
    obtain ⟨n, r⟩ := p
    simp only
    split
    · intro x hx; simp at hx
    · exact riter_all f hf n _
theorem rlist_ints (st : Option (List UInt8)) : ∀ x ∈ (Wi.rList Wi.rInt st).1, I64 x := rlist_all Wi.rInt (fun st => Wi.rInt_i64 st) st
theorem rtext_len (st : Option (List UInt8)) : (Wi.rText st).1.length ≤ (st.getD []).length := by
  unfold Wi.rText
  cases hz : Wi.rSize st with
  | none => simp
  | some p =>
    obtain ⟨n, r⟩ := p
    have := size_le hz
    simp
    omega
theorem riter_texts (n : Nat) (st : Option (List UInt8)) : ∀ x ∈ (Wi.rIter Wi.rText n st).1, x.length ≤ (st.getD []).length := by
  have shr : ∀ n, ((Wi.rIter Wi.rText n st).2.getD []).length ≤ (st.getD []).length := by
    intro n
    induction n with
    | zero => simp [Wi.rIter]
    | succ n ih => exact Nat.le_trans (rtext_shrink _) ih
  induction n with
  | zero => intro x hx; simp [Wi.rIter] at hx
  | succ n ih =>
    intro x hx
    simp only [Wi.rIter, List.mem_append, List.mem_singleton] at hx
    rcases hx with hx | rfl
    · exact ih x hx
    · exact Nat.le_trans (rtext_len _) (shr n)
theorem rlist_texts (st : Option (List UInt8)) : ∀ x ∈ (Wi.rList Wi.rText st).1, x.length ≤ (st.getD []).length := by
  unfold Wi.rList
  cases hz : Wi.rSize st with
  | none => intro x hx; simp at hx
  | some p =>
    obtain ⟨n, r⟩ := p
    have := size_le hz
    simp only
    split
    · intro x hx; simp at hx
    · intro x hx
      have h := riter_texts n (some r) x hx
      simp only [Option.getD_some] at h
      omega
def bs (l : List (List UInt8)) : List ByteArray := l.map fun x => ⟨x.toArray⟩
theorem bs_flat (l : List (List UInt8)) : (bs l).flatMap Wi.btxt = l.flatMap Wi.txt := by
  unfold bs
  rw [List.flatMap_map]
  rfl
theorem texts_canon {T r : List UInt8} {l : List (List UInt8)} (h : Wi.rList Wi.rText (some T) = (l, some r)) : T = Wi.btxts (bs l) ++ r := by
  have := Wi.rList_canon (ser := Wi.txt) rfl (fun s a r h => Wi.rText_canon h) h
  unfold Wi.btxts
  rw [bs_flat, show (bs l).length = l.length by simp [bs]]
  exact this
theorem lst_own_strs {w : World} {base n : Nat} {T : TypeId} {a : Option Addr} {c m : Nat} {l : List (List UInt8)} (h : w.ownsRow base T 1 (.slice a m c) n (l.map vstr)) (hl : ∀ x ∈ l, x.length ≤ maxLen) : Lst Enc.str w (· < w.heap.size) a m (bs l) ∧ m = l.length := by
  have hlen : n = l.length := by have := h.1; simpa using this.symm
  rcases h.2 with ⟨hv, hn⟩ | ⟨g, cap, cur, hv, hb, hg, hrest⟩
  · injection hv with h1 h2 h3
    subst h1; subst h2
    have : l = [] := List.eq_nil_of_length_eq_zero (by omega)
    subst this
    exact ⟨Lst.nil _ _ _ _, rfl⟩
  · injection hv with h1 h2 h3
    subst h1; subst h2
    refine ⟨⟨by simp [bs]; exact hlen.symm, fun _ => ⟨g, 0, rfl, (Array.getElem?_eq_some_iff.1 hg).1, fun i x hx => ⟨[.string x], ⟨rfl, ?_⟩, fun j u hj => ?_⟩⟩⟩, hlen⟩
    · unfold bs at hx
      rw [List.getElem?_map] at hx
      cases hi : l[i]? with
      | none => rw [hi] at hx; cases hx
      | some y =>
        rw [hi] at hx
        injection hx with hx
        rw [← hx]
        have := hl y (List.mem_of_getElem? hi)
        rw [ba_size]
        exact this
    · cases j with
      | zero =>
        simp at hj
        subst hj
        have hx' : (l.map vstr)[i]? = some (.string x) := by
          unfold bs at hx
          rw [List.getElem?_map] at hx ⊢
          cases hi : l[i]? with
          | none => rw [hi] at hx; cases hx
          | some y => rw [hi] at hx; injection hx with hx; rw [← hx]; rfl
        have := h.cells (g := g) rfl i _ hx'
        simp only [Enc.str, Nat.mul_one, Nat.add_zero, Nat.zero_add]
        unfold Addr.add at this
        by_cases hi : i = 0
        · subst hi; simpa using this
        · rw [if_neg hi] at this; simpa using this
      | succ j => simp at hj

set_option maxRecDepth 100000 in
set_option maxHeartbeats 4000000 in
theorem canonical_any (s : ByteArray) (w : World) (hs : s.size ≤ maxLen) :
    Calls Try.prog 6 #[.string s] w fun e w' => e = .returned (.bool true) ∧ Below w.heap.size w w' := by
  unfold maxLen at hs
  obtain ⟨T, hT⟩ : ∃ T, s.data.toList.take 200 = T := ⟨_, rfl⟩
  have hTl : T.length ≤ 200 := by rw [← hT]; simp; omega
  have hcut : s.extract 0 (min (s.size : Int) 200).toNat = ⟨T.toArray⟩ := by
    have hsz : s.data.toList.length = s.size := by rw [Array.length_toList]; rfl
    have e : (min (s.size : Int) 200).toNat = min 200 s.data.toList.length := by omega
    have := ba_take s.data.toList (min 200 s.data.toList.length)
    rw [ba_self] at this
    rw [e, this, ← hT]
    rw [show List.take (min 200 s.data.toList.length) s.data.toList = List.take 200 s.data.toList from (List.take_eq_take_min ..).symm]
  clear hT
  obtain ⟨W0, hW0⟩ : ∃ W0, w.heap.size = W0 := ⟨_, rfl⟩
  rw [hW0]
  have hle : W0 ≤ w.heap.size := by omega
  have hsan := hide (wsanity_any w)
  rw [hW0] at hsan
  clear hW0
  go_enter Try.func6, Try.ntmps6
  go_wp2_with fail
  refine (unhide hsan).mono ?_
  rintro e w1 ⟨rfl, hb0⟩
  clear hsan
  replace hcut := hide hcut
  go_wp2_with fail
  rw [unhide hcut]
  clear hcut
  replace hTl := hide hTl
  go_loopw [4] (fun v wr => ∃ j : Int, 0 ≤ j ∧ j ≤ 4 ∧ v = .int .i64 j ∧ Below W0 w wr) (fun v _ => (4 - intOf v).toNat)
  case atStart => exact ⟨0, by omega, by omega, rfl, hb0⟩
  case round =>
    obtain ⟨j, hj0, hj4, rfl, hb⟩ := hrel
    clear hb0
    have hTl' : T.length ≤ 1000000000000 := by have := unhide hTl; omega
    obtain rfl | rfl | rfl | rfl | rfl : j = 0 ∨ j = 1 ∨ j = 2 ∨ j = 3 ∨ j = 4 := by omega
    · go_wp2_with fail
      refine (rnew_any T _).mono ?_
      rintro e w1 ⟨rfl, hw1⟩
      have hr1 : Rd w1 wr.heap.size (some T) := by rw [hw1]; exact rnew_rd T wr
      have hbs : W0 ≤ wr.heap.size := Nat.le_trans hle hb.size
      replace hb : Below W0 w w1 := by rw [hw1]; exact hb.alloc hbs _
      obtain ⟨b1, hbe⟩ : ∃ b, wr.heap.size = b := ⟨_, rfl⟩
      rw [hbe] at hr1 hbs ⊢
      clear hw1 hbe
      
      go_wp2_with fail
      have hcan0 : ∀ r, (Wi.rInt (some T)).2 = some r → T = Wi.int (Wi.rInt (some T)).1 ++ r := fun r h => (Wi.rInt_canon (n := (Wi.rInt (some T)).1) (by rw [← h])).1
      have hin := Wi.rInt_i64 (some T)
      have hc := rint2_any b1 (some T) w1 hr1 hTl'
      generalize Wi.rInt (some T) = PP at *
      obtain ⟨NN, ST⟩ := PP
      simp only at hc hin hcan0
      have hcan := hide hcan0; clear hcan0; replace hc := hide hc; replace hin := hide hin
      refine (unhide hc).mono ?_
      rintro e w2 ⟨rfl, hr2, hg⟩
      replace hb := hb.grown hg (Nat.le_trans hle hb.size) (fun k hk => by cases hk; exact hbs)
      clear hg hr1 hc
      go_wp2_with fail
      refine (wint_any _ _ (unhide hin)).mono ?_
      rintro e w3 ⟨rfl, h3⟩
      replace hr2 := rd_below hr2 h3 (Array.getElem?_eq_some_iff.1 hr2).1
      replace hb := hb.trans (h3.mono (Nat.le_trans hle hb.size))
      clear h3
      replace hcan := unhide hcan
      cases hst : ST with
      | none =>
        rw [hst] at hr2
        replace hst := hide hst
        go_wp2_with fail
        refine (rbad_any b1 none _ hr2).mono ?_
        rintro e wz ⟨rfl, rfl⟩
        simp only [Option.isNone_none]
        go_wp2_with fail
        refine (rbad_any b1 none _ hr2).mono ?_
        rintro e wz ⟨rfl, rfl⟩
        simp only [Option.isNone_none]
        go_wp2_with fail
        refine (rleft_any b1 none _ hr2).mono ?_
        rintro e wz ⟨rfl, rfl⟩
        simp only [Option.getD_none, List.length_nil]
        go_wp2_with fail
        go_roundw
        case rel => exact ⟨1, by omega, by omega, rfl, hb⟩
        case measure => simp [intOf]
      | some r =>
        rw [hst] at hr2
        have hT := hcan r hst
        have f1 := ba_size T
        have f2 := ba_size (Wi.int NN)
        have t1 : wrap64 ((T.length : Int) - (r.length : Int)) = (((Wi.int NN).length : Nat) : Int) := by
          have h0 : T.length = (Wi.int NN).length + r.length := by conv => lhs; rw [hT, List.length_append]
          have h1 := unhide hTl
          rw [IntWalk.wrap64_in _ (by omega)]
          omega
        have f3 : (⟨T.toArray⟩ : ByteArray).extract 0 (Wi.int NN).length = ⟨(Wi.int NN).toArray⟩ := by
          rw [ba_take]
          have : T.take (Wi.int NN).length = Wi.int NN := by
            conv => lhs; rw [hT]
            exact List.take_left
          rw [this]
        have t2 : decide ((r.length : Int) < 0) = false := by simp
        have t3 : (Wi.int NN).length ≤ T.length := by
          have : T.length = (Wi.int NN).length + r.length := by conv => lhs; rw [hT, List.length_append]
          omega
        replace hst := hide hst
        replace hT := hide hT
        go_wp2_with fail
        refine (rbad_any b1 (some r) _ hr2).mono ?_
        rintro e wz ⟨rfl, rfl⟩
        simp only [Option.isNone_some]
        go_wp2_with fail
        refine (rleft_any b1 (some r) _ hr2).mono ?_
        rintro e wz ⟨rfl, rfl⟩
        simp only [Option.getD_some]
        go_wp2_with fail
        refine (rleft_any b1 (some r) _ hr2).mono ?_
        rintro e wz ⟨rfl, rfl⟩
        simp only [Option.getD_some]
        go_wp2_with fail
        refine (rbad_any b1 (some r) _ hr2).mono ?_
        rintro e wz ⟨rfl, rfl⟩
        simp only [Option.isNone_some]
        go_wp2_with fail
        go_roundw
        case rel => exact ⟨1, by omega, by omega, rfl, hb⟩
        case measure => simp [intOf]
    · go_wp2_with fail
      refine (rnew_any T _).mono ?_
      rintro e w1 ⟨rfl, hw1⟩
      have hr1 : Rd w1 wr.heap.size (some T) := by rw [hw1]; exact rnew_rd T wr
      have hbs : W0 ≤ wr.heap.size := Nat.le_trans hle hb.size
      replace hb : Below W0 w w1 := by rw [hw1]; exact hb.alloc hbs _
      obtain ⟨b1, hbe⟩ : ∃ b, wr.heap.size = b := ⟨_, rfl⟩
      rw [hbe] at hr1 hbs ⊢
      clear hw1 hbe
      
      go_wp2_with fail
      have hcan0 : ∀ r, (Wi.rText (some T)).2 = some r → T = Wi.txt (Wi.rText (some T)).1 ++ r := fun r h => Wi.rText_canon (l := (Wi.rText (some T)).1) (by rw [← h])
      have hin : (Wi.rText (some T)).1.length ≤ 1000000000000 := Nat.le_trans (rtext_len (some T)) (by simpa using hTl')
      have hc := rtextm_any b1 (some T) w1 hr1 hTl'
      generalize Wi.rText (some T) = PP at *
      obtain ⟨NN, ST⟩ := PP
      simp only at hc hin hcan0
      have hcan := hide hcan0; clear hcan0; replace hc := hide hc; replace hin := hide hin
      refine (unhide hc).mono ?_
      rintro e w2 ⟨rfl, hr2, hg⟩
      replace hb := hb.grown hg (Nat.le_trans hle hb.size) (fun k hk => by cases hk; exact hbs)
      clear hg hr1 hc
      go_wp2_with fail
      refine (wtext_any ⟨NN.toArray⟩ _ (by rw [ba_size]; exact unhide hin)).mono ?_
      rintro e w3 ⟨rfl, h3⟩
      replace hr2 := rd_below hr2 h3 (Array.getElem?_eq_some_iff.1 hr2).1
      replace hb := hb.trans (h3.mono (Nat.le_trans hle hb.size))
      clear h3
      have hA : (⟨(Wi.txt (⟨NN.toArray⟩ : ByteArray).data.toList).toArray⟩ : ByteArray) = ⟨(Wi.txt NN).toArray⟩ := rfl
      replace hcan := unhide hcan
      cases hst : ST with
      | none =>
        rw [hst] at hr2
        replace hst := hide hst
        go_wp2_with fail
        refine (rbad_any b1 none _ hr2).mono ?_
        rintro e wz ⟨rfl, rfl⟩
        simp only [Option.isNone_none]
        go_wp2_with fail
        refine (rbad_any b1 none _ hr2).mono ?_
        rintro e wz ⟨rfl, rfl⟩
        simp only [Option.isNone_none]
        go_wp2_with fail
        refine (rleft_any b1 none _ hr2).mono ?_
        rintro e wz ⟨rfl, rfl⟩
        simp only [Option.getD_none, List.length_nil]
        go_wp2_with fail
        go_roundw
        case rel => exact ⟨2, by omega, by omega, rfl, hb⟩
        case measure => simp [intOf]
      | some r =>
        rw [hst] at hr2
        have hT := hcan r hst
        have f1 := ba_size T
        have f2 := ba_size (Wi.txt NN)
        have t1 : wrap64 ((T.length : Int) - (r.length : Int)) = (((Wi.txt NN).length : Nat) : Int) := by
          have h0 : T.length = (Wi.txt NN).length + r.length := by conv => lhs; rw [hT, List.length_append]
          have h1 := unhide hTl
          rw [IntWalk.wrap64_in _ (by omega)]
          omega
        have f3 : (⟨T.toArray⟩ : ByteArray).extract 0 (Wi.txt NN).length = ⟨(Wi.txt NN).toArray⟩ := by
          rw [ba_take]
          have : T.take (Wi.txt NN).length = Wi.txt NN := by
            conv => lhs; rw [hT]
            exact List.take_left
          rw [this]
        have t2 : decide ((r.length : Int) < 0) = false := by simp
        have t3 : (Wi.txt NN).length ≤ T.length := by
          have : T.length = (Wi.txt NN).length + r.length := by conv => lhs; rw [hT, List.length_append]
          omega
        replace hst := hide hst
        replace hT := hide hT
        go_wp2_with fail
        refine (rbad_any b1 (some r) _ hr2).mono ?_
        rintro e wz ⟨rfl, rfl⟩
        simp only [Option.isNone_some]
        go_wp2_with fail
        refine (rleft_any b1 (some r) _ hr2).mono ?_
        rintro e wz ⟨rfl, rfl⟩
        simp only [Option.getD_some]
        go_wp2_with fail
        refine (rleft_any b1 (some r) _ hr2).mono ?_
        rintro e wz ⟨rfl, rfl⟩
        simp only [Option.getD_some]
        go_wp2_with fail
        refine (rbad_any b1 (some r) _ hr2).mono ?_
        rintro e wz ⟨rfl, rfl⟩
        simp only [Option.isNone_some]
        go_wp2_with fail
        go_roundw
        case rel => exact ⟨2, by omega, by omega, rfl, hb⟩
        case measure => simp [intOf]
    · go_wp2_with fail
      refine (rnew_any T _).mono ?_
      rintro e w1 ⟨rfl, hw1⟩
      have hr1 : Rd w1 wr.heap.size (some T) := by rw [hw1]; exact rnew_rd T wr
      have hbs : W0 ≤ wr.heap.size := Nat.le_trans hle hb.size
      replace hb : Below W0 w w1 := by rw [hw1]; exact hb.alloc hbs _
      obtain ⟨b1, hbe⟩ : ∃ b, wr.heap.size = b := ⟨_, rfl⟩
      rw [hbe] at hr1 hbs ⊢
      clear hw1 hbe
      
      go_wp2_with fail
      have hcan0 : ∀ r, (Wi.rList Wi.rInt (some T)).2 = some r → T = Wi.ints (Wi.rList Wi.rInt (some T)).1 ++ r := fun r h => ints_canon (l := (Wi.rList Wi.rInt (some T)).1) (by rw [← h])
      have hin := rlist_ints (some T)
      have hlen : (Wi.rList Wi.rInt (some T)).1.length ≤ 200 := Nat.le_trans (rlist_len Wi.rInt (some T)) (by simpa using unhide hTl)
      have hc := rintsm_any b1 (some T) w1 hr1 hTl'
      generalize Wi.rList Wi.rInt (some T) = PP at *
      obtain ⟨NN, ST⟩ := PP
      simp only at hc hin hcan0 hlen
      have hcan := hide hcan0; clear hcan0; replace hc := hide hc; replace hin := hide hin; replace hlen := hide hlen
      refine (unhide hc).mono ?_
      rintro e w2 ⟨v, rfl, hown, hr2, hg⟩
      obtain ⟨va, vc, rfl⟩ := own_shape hown
      obtain ⟨hls, hvl⟩ := lst_own hown (fun x hx => unhide hin x hx)
      clear hown
      replace hls := hide hls; replace hvl := hide hvl
      replace hb := hb.grown hg (Nat.le_trans hle hb.size) (fun k hk => by cases hk; exact hbs)
      clear hg hr1 hc
      go_wp2_with fail
      refine (wints_any va _ vc NN _ (unhide hls) (by have := unhide hlen; omega)).mono ?_
      rintro e w3 ⟨rfl, h3⟩
      replace hr2 := rd_below hr2 h3 (Array.getElem?_eq_some_iff.1 hr2).1
      replace hb := hb.trans (h3.mono (Nat.le_trans hle hb.size))
      clear h3
      replace hcan := unhide hcan
      cases hst : ST with
      | none =>
        rw [hst] at hr2
        replace hst := hide hst
        go_wp2_with fail
        refine (rbad_any b1 none _ hr2).mono ?_
        rintro e wz ⟨rfl, rfl⟩
        simp only [Option.isNone_none]
        go_wp2_with fail
        refine (rbad_any b1 none _ hr2).mono ?_
        rintro e wz ⟨rfl, rfl⟩
        simp only [Option.isNone_none]
        go_wp2_with fail
        refine (rleft_any b1 none _ hr2).mono ?_
        rintro e wz ⟨rfl, rfl⟩
        simp only [Option.getD_none, List.length_nil]
        go_wp2_with fail
        go_roundw
        case rel => exact ⟨3, by omega, by omega, rfl, hb⟩
        case measure => simp [intOf]
      | some r =>
        rw [hst] at hr2
        have hT := hcan r hst
        have f1 := ba_size T
        have f2 := ba_size (Wi.ints NN)
        have t1 : wrap64 ((T.length : Int) - (r.length : Int)) = (((Wi.ints NN).length : Nat) : Int) := by
          have h0 : T.length = (Wi.ints NN).length + r.length := by conv => lhs; rw [hT, List.length_append]
          have h1 := unhide hTl
          rw [IntWalk.wrap64_in _ (by omega)]
          omega
        have f3 : (⟨T.toArray⟩ : ByteArray).extract 0 (Wi.ints NN).length = ⟨(Wi.ints NN).toArray⟩ := by
          rw [ba_take]
          have : T.take (Wi.ints NN).length = Wi.ints NN := by
            conv => lhs; rw [hT]
            exact List.take_left
          rw [this]
        have t2 : decide ((r.length : Int) < 0) = false := by simp
        have t3 : (Wi.ints NN).length ≤ T.length := by
          have : T.length = (Wi.ints NN).length + r.length := by conv => lhs; rw [hT, List.length_append]
          omega
        replace hst := hide hst
        replace hT := hide hT
        go_wp2_with fail
        refine (rbad_any b1 (some r) _ hr2).mono ?_
        rintro e wz ⟨rfl, rfl⟩
        simp only [Option.isNone_some]
        go_wp2_with fail
        refine (rleft_any b1 (some r) _ hr2).mono ?_
        rintro e wz ⟨rfl, rfl⟩
        simp only [Option.getD_some]
        go_wp2_with fail
        refine (rleft_any b1 (some r) _ hr2).mono ?_
        rintro e wz ⟨rfl, rfl⟩
        simp only [Option.getD_some]
        go_wp2_with fail
        refine (rbad_any b1 (some r) _ hr2).mono ?_
        rintro e wz ⟨rfl, rfl⟩
        simp only [Option.isNone_some]
        go_wp2_with fail
        go_roundw
        case rel => exact ⟨3, by omega, by omega, rfl, hb⟩
        case measure => simp [intOf]
    · go_wp2_with fail
      refine (rnew_any T _).mono ?_
      rintro e w1 ⟨rfl, hw1⟩
      have hr1 : Rd w1 wr.heap.size (some T) := by rw [hw1]; exact rnew_rd T wr
      have hbs : W0 ≤ wr.heap.size := Nat.le_trans hle hb.size
      replace hb : Below W0 w w1 := by rw [hw1]; exact hb.alloc hbs _
      obtain ⟨b1, hbe⟩ : ∃ b, wr.heap.size = b := ⟨_, rfl⟩
      rw [hbe] at hr1 hbs ⊢
      clear hw1 hbe
      
      go_wp2_with fail
      have hcan0 : ∀ r, (Wi.rList Wi.rText (some T)).2 = some r → T = Wi.btxts (bs (Wi.rList Wi.rText (some T)).1) ++ r := fun r h => texts_canon (l := (Wi.rList Wi.rText (some T)).1) (by rw [← h])
      have hin := rlist_texts (some T)
      have hlen : (Wi.rList Wi.rText (some T)).1.length ≤ 200 := Nat.le_trans (rlist_len Wi.rText (some T)) (by simpa using unhide hTl)
      have hc := rtextsm_any b1 (some T) w1 hr1 hTl'
      generalize Wi.rList Wi.rText (some T) = PP at *
      obtain ⟨NN, ST⟩ := PP
      simp only at hc hin hcan0 hlen
      have hcan := hide hcan0; clear hcan0; replace hc := hide hc; replace hin := hide hin; replace hlen := hide hlen
      refine (unhide hc).mono ?_
      rintro e w2 ⟨v, rfl, hown, hr2, hg⟩
      obtain ⟨va, vc, rfl⟩ := own_shape hown
      obtain ⟨hls, hvl⟩ := lst_own_strs hown (fun x hx => by have := unhide hin x hx; simp only [Option.getD_some] at this; have h2 := unhide hTl; unfold maxLen; omega)
      clear hown
      replace hls := hide hls; replace hvl := hide hvl
      replace hb := hb.grown hg (Nat.le_trans hle hb.size) (fun k hk => by cases hk; exact hbs)
      clear hg hr1 hc
      go_wp2_with fail
      refine (wtexts_any va _ vc (bs NN) _ (unhide hls) (by have := unhide hlen; omega) (fun x hx => by unfold bs at hx; obtain ⟨y, hy, rfl⟩ := List.mem_map.1 hx; rw [ba_size]; have := unhide hin y hy; simp only [Option.getD_some] at this; have h2 := unhide hTl; omega)).mono ?_
      rintro e w3 ⟨rfl, h3⟩
      replace hr2 := rd_below hr2 h3 (Array.getElem?_eq_some_iff.1 hr2).1
      replace hb := hb.trans (h3.mono (Nat.le_trans hle hb.size))
      clear h3
      replace hcan := unhide hcan
      cases hst : ST with
      | none =>
        rw [hst] at hr2
        replace hst := hide hst
        go_wp2_with fail
        refine (rbad_any b1 none _ hr2).mono ?_
        rintro e wz ⟨rfl, rfl⟩
        simp only [Option.isNone_none]
        go_wp2_with fail
        refine (rbad_any b1 none _ hr2).mono ?_
        rintro e wz ⟨rfl, rfl⟩
        simp only [Option.isNone_none]
        go_wp2_with fail
        refine (rleft_any b1 none _ hr2).mono ?_
        rintro e wz ⟨rfl, rfl⟩
        simp only [Option.getD_none, List.length_nil]
        go_wp2_with fail
        go_roundw
        case rel => exact ⟨4, by omega, by omega, rfl, hb⟩
        case measure => simp [intOf]
      | some r =>
        rw [hst] at hr2
        have hT := hcan r hst
        have f1 := ba_size T
        have f2 := ba_size (Wi.btxts (bs NN))
        have t1 : wrap64 ((T.length : Int) - (r.length : Int)) = (((Wi.btxts (bs NN)).length : Nat) : Int) := by
          have h0 : T.length = (Wi.btxts (bs NN)).length + r.length := by conv => lhs; rw [hT, List.length_append]
          have h1 := unhide hTl
          rw [IntWalk.wrap64_in _ (by omega)]
          omega
        have f3 : (⟨T.toArray⟩ : ByteArray).extract 0 (Wi.btxts (bs NN)).length = ⟨(Wi.btxts (bs NN)).toArray⟩ := by
          rw [ba_take]
          have : T.take (Wi.btxts (bs NN)).length = Wi.btxts (bs NN) := by
            conv => lhs; rw [hT]
            exact List.take_left
          rw [this]
        have t2 : decide ((r.length : Int) < 0) = false := by simp
        have t3 : (Wi.btxts (bs NN)).length ≤ T.length := by
          have : T.length = (Wi.btxts (bs NN)).length + r.length := by conv => lhs; rw [hT, List.length_append]
          omega
        replace hst := hide hst
        replace hT := hide hT
        go_wp2_with fail
        refine (rbad_any b1 (some r) _ hr2).mono ?_
        rintro e wz ⟨rfl, rfl⟩
        simp only [Option.isNone_some]
        go_wp2_with fail
        refine (rleft_any b1 (some r) _ hr2).mono ?_
        rintro e wz ⟨rfl, rfl⟩
        simp only [Option.getD_some]
        go_wp2_with fail
        refine (rleft_any b1 (some r) _ hr2).mono ?_
        rintro e wz ⟨rfl, rfl⟩
        simp only [Option.getD_some]
        go_wp2_with fail
        refine (rbad_any b1 (some r) _ hr2).mono ?_
        rintro e wz ⟨rfl, rfl⟩
        simp only [Option.isNone_some]
        go_wp2_with fail
        go_roundw
        case rel => exact ⟨4, by omega, by omega, rfl, hb⟩
        case measure => simp [intOf]
    · go_wp2_with fail
      go_ret
      exact ⟨rfl, hb⟩
end Go.Proofs.Ytidbjccfkembeaa
