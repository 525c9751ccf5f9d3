/- The reference's reader: New, Bad, Left, fail, Int, Text. -/
import Derived.Test.YtcliegeooooonaaWi7
import Derived.Test.YtcliegeooooonaaWi9
import Derived.Deep.DrawnRows
namespace Go.Proofs.Ytcliegeooooonaa
open Go.RowKit
theorem lst_grown {α : Type} {E : Enc α} {w w' : World} {a : Option Addr} {n b : Nat} {l : List α} {S : Nat → Prop} (h : Lst E w S a n l) (hg : w.grownBy w' (some b)) (hS : ∀ x, S x → x ≠ b ∧ x < w.heap.size) : Lst E w' S a n l :=
  h.same fun x hx => hg.block x (hS x hx).2 (by simp; exact (hS x hx).1)
attribute [local go_sem ↓] Go.wp_at_zero Go.wp_at_succ

/-- the reference's reader of S in block b -/
def Rf (w : World) (b : Nat) (S : ByteArray) (st : Option (List UInt8)) : Prop :=
  ∃ p : Nat, p ≤ S.size ∧ w.heap[b]? = some (.cells #[.string S, .int .i64 (p : Int), .bool st.isNone] 79 (0, 0)) ∧ ∀ r, st = some r → r = S.data.toList.drop p
theorem Rf.lt {w : World} {b : Nat} {S : ByteArray} {st : Option (List UInt8)} (h : Rf w b S st) : b < w.heap.size := by
  obtain ⟨p, _, h, _⟩ := h
  exact (Array.getElem?_eq_some_iff.1 h).1
theorem Rf.below {w w' : World} {b B : Nat} {S : ByteArray} {st : Option (List UInt8)} (h : Rf w b S st) (hb : Below B w w') (hlt : b < B) : Rf w' b S st := by
  obtain ⟨p, hp, h, h2⟩ := h
  exact ⟨p, hp, (hb.block b hlt).trans h, h2⟩
theorem Rf.kept {w w' : World} {b : Nat} {S : ByteArray} {st : Option (List UInt8)} {row : Option Nat} (h : Rf w b S st) (hg : w.grownBy w' row) (hne : row ≠ some b) : Rf w' b S st := by
  obtain ⟨p, hp, h, h2⟩ := h
  exact ⟨p, hp, (hg.block b (Array.getElem?_eq_some_iff.1 h).1 (fun e => hne e.symm)).trans h, h2⟩
theorem Rf.drewN {w : World} {b : Nat} {S : ByteArray} {st : Option (List UInt8)} (h : Rf w b S st) (n : Nat) : Rf (w.drewN n) b S st := h
theorem rf_cells {w : World} {b : Nat} {v0 v1 v2 : Value} {T : TypeId} (h : w.heap[b]? = some (.cells #[v0, v1, v2] T (0, 0))) : w.cell? ⟨b, 0, none⟩ = some v0 ∧ w.cell? ⟨b, 1, none⟩ = some v1 ∧ w.cell? ⟨b, 2, none⟩ = some v2 ∧ w.frozen? ⟨b, 1, none⟩ = false ∧ w.frozen? ⟨b, 2, none⟩ = false := by
  refine ⟨?_, ?_, ?_, ?_, ?_⟩ <;> simp [World.cell?, World.frozen?, h]
theorem fnew_any (s : ByteArray) (w : World) :
    Calls Try.prog 35 #[.string s] w fun e w' => e = .returned (.pointer (some ⟨w.heap.size, 0, none⟩)) ∧ w' = w.alloc (.cells #[.string s, .int .i64 0, .bool false] 79) := by
  go_enter Try.func35, Try.ntmps35
  go_wp2_with fail
  go_ret
  exact ⟨rfl, rfl⟩
theorem fnew_rf (s : ByteArray) (w : World) : Rf (w.alloc (.cells #[.string s, .int .i64 0, .bool false] 79)) w.heap.size s (some s.data.toList) :=
  ⟨0, Nat.zero_le _, heap_alloc_new w _, fun r h => by injection h with h; rw [← h]; rfl⟩
theorem fbad_any (b : Nat) (S : ByteArray) (st : Option (List UInt8)) (w : World) (h : Rf w b S st) :
    Calls Try.prog 37 #[.pointer (some ⟨b, 0, none⟩)] w fun e w' => e = .returned (.bool st.isNone) ∧ w' = w := by
  obtain ⟨p, hp, hh, h2⟩ := h
  obtain ⟨c0, c1, c2, f1, f2⟩ := rf_cells hh
  go_enter Try.func37, Try.ntmps37
  go_wp2_with fail
  go_ret
  exact ⟨rfl, rfl⟩
theorem ffail_any (b : Nat) (S : ByteArray) (st : Option (List UInt8)) (w : World) (h : Rf w b S st) :
    Calls Try.prog 51 #[.pointer (some ⟨b, 0, none⟩)] w fun e w' => e = .returned (.tuple #[]) ∧ Rf w' b S none ∧ w.grownBy w' (some b) := by
  obtain ⟨p, hp, hh, h2⟩ := h
  obtain ⟨c0, c1, c2, f1, f2⟩ := rf_cells hh
  have hfin : Rf (w.setCell ⟨b, 2, none⟩ (.bool true)) b S none := ⟨p, hp, by simp [World.setCell, Array.getElem?_modify, hh], fun r h => by cases h⟩
  replace hfin := hide hfin
  go_enter Try.func51, Try.ntmps51
  go_wp2_with fail
  go_end0
  exact ⟨rfl, unhide hfin, grown_set _ _ _⟩
set_option maxRecDepth 100000 in
set_option maxHeartbeats 1000000 in
theorem fint_any (b : Nat) (S : ByteArray) (st : Option (List UInt8)) (w : World) (h : Rf w b S st) (hs : S.size ≤ 1000000000000) :
    Calls Try.prog 50 #[.pointer (some ⟨b, 0, none⟩)] w fun e w' => e = .returned (.int .i64 (Wi.rInt st).1) ∧ Rf w' b S (Wi.rInt st).2 ∧ w.grownBy w' (some b) := by
  have hrf := h
  obtain ⟨p, hp, hh, h2⟩ := h
  obtain ⟨c0, c1, c2, f1, f2⟩ := rf_cells hh
  cases st with
  | none =>
    have hfin1 : Hid ((Wi.rInt none).1 = 0) := rfl
    have hfin2 : Hid ((Wi.rInt none).2 = none) := rfl
    clear h2
    go_enter Try.func50, Try.ntmps50
    go_wp2_with fail
    refine (fbad_any b S none _ hrf).mono ?_
    rintro e w1 ⟨rfl, rfl⟩
    go_wp2_with fail
    go_ret
    exact ⟨by rw [hfin1.out]; rfl, by rw [hfin2.out]; exact hrf, grown_refl _ _⟩
  | some r =>
    obtain rfl := h2 r rfl
    clear h2
    have hn := num_any S p w hs hp
    cases hd : Wi.dec (S.data.toList.drop p) with
    | none =>
      have e1 : Hid ((Wi.rInt (some (S.data.toList.drop p))).1 = 0) := hide (by rw [Wi.rInt_bad hd])
      have e2 : Hid ((Wi.rInt (some (S.data.toList.drop p))).2 = none) := hide (by rw [Wi.rInt_bad hd])
      have hn' : ∀ n, Calls Try.prog 57 #[.string S, .int .i64 (p : Int)] (w.drewN n) fun e w' => e = .returned (.tuple #[.int .i64 0, .int .i64 (p : Int), .bool false]) ∧ ∃ m, w' = w.drewN m := by
        intro n
        have := num_any S p (w.drewN n) hs hp
        unfold Wi.decN Wi.decU at this
        rw [hd] at this
        simp only [Option.elim_none, Option.isSome_none, Int.natCast_zero, Int.add_zero] at this
        exact Calls.quiet_of_same this
      clear hn hd
      replace hn' := hide hn'
      replace hrf := hide hrf
      go_enter Try.func50, Try.ntmps50
      go_wp2_with fail
      refine (fbad_any b S _ _ (unhide hrf)).mono ?_
      rintro e w1 ⟨rfl, rfl⟩
      simp only [Option.isNone_some]
      go_wp2_with fail
      go_quiet ((go_at_call 57; with_reducible exact unhide hn' _))
      go_wp2_with fail
      refine (ffail_any b S _ _ ((unhide hrf).drewN nq)).mono ?_
      rintro e w2 ⟨rfl, hr2, hg2⟩
      go_wp2_with fail
      go_ret
      exact ⟨by rw [e1.out]; rfl, by rw [e2.out]; exact hr2, grown_trans (grown_drewN _ _) hg2⟩
    | some q =>
      obtain ⟨n, u⟩ := q
      have hu := Wi.dec_used hd
      rw [List.length_drop, data_len] at hu
      have e1 : Hid ((Wi.rInt (some (S.data.toList.drop p))).1 = n) := hide (by rw [Wi.rInt_good hd])
      have e2 : Hid ((Wi.rInt (some (S.data.toList.drop p))).2 = some ((S.data.toList.drop p).drop u)) := hide (by rw [Wi.rInt_good hd])
      have hn' : ∀ m, Calls Try.prog 57 #[.string S, .int .i64 (p : Int)] (w.drewN m) fun e w' => e = .returned (.tuple #[.int .i64 n, .int .i64 ((p : Int) + (u : Int)), .bool true]) ∧ ∃ m, w' = w.drewN m := by
        intro m
        have := num_any S p (w.drewN m) hs hp
        unfold Wi.decN Wi.decU at this
        rw [hd] at this
        simp only [Option.elim_some, Option.isSome_some] at this
        exact Calls.quiet_of_same this
      have hfin : ∀ m, Rf ((w.drewN m).setCell ⟨b, 1, none⟩ (.int .i64 ((p : Int) + (u : Int)))) b S (some ((S.data.toList.drop p).drop u)) := by
        intro m
        refine ⟨p + u, by omega, ?_, fun r h => by injection h with h; rw [← h, List.drop_drop]⟩
        simp [World.setCell, Array.getElem?_modify, hh]
      clear hn hd
      replace hn' := hide hn'
      replace hrf := hide hrf
      replace hfin := hide hfin
      go_enter Try.func50, Try.ntmps50
      go_wp2_with fail
      refine (fbad_any b S _ _ (unhide hrf)).mono ?_
      rintro e w1 ⟨rfl, rfl⟩
      simp only [Option.isNone_some]
      go_wp2_with fail
      go_quiet ((go_at_call 57; with_reducible exact unhide hn' _))
      go_wp2_with fail
      go_ret
      exact ⟨by rw [e1.out]; rfl, by rw [e2.out]; exact unhide hfin _, grown_trans (grown_drewN _ _) (grown_set _ _ _)⟩
end Go.Proofs.Ytcliegeooooonaa
