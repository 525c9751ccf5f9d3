/- wire.New, SameInts, SameTexts, decodes. -/
import Derived.Test.YtidbjccfkembeaaWi10
import Derived.Laws.StructEq
namespace Go.Proofs.Ytidbjccfkembeaa
open Go.RowKit

theorem ba_ne {x y : ByteArray} (h : ¬ x = y) : (x == y) = false := by
  cases x with
  | mk a =>
    cases y with
    | mk b =>
      show (a == b) = false
      rw [beq_eq_false_iff_ne]
      exact fun e => h (by rw [e])
theorem ba_eq (x : ByteArray) : (x == x) = true := by
  cases x with
  | mk a =>
    show (a == a) = true
    exact beq_self_eq_true a
theorem rnew_any (s : List UInt8) (w : World) :
    Calls Try.prog 20 #[.string ⟨s.toArray⟩] w fun e w' => e = .returned (.pointer (some ⟨w.heap.size, 0, none⟩)) ∧ w' = w.alloc (.cells #[.string ⟨s.toArray⟩, .bool false] 56) := by
  go_enter Try.func20, Try.ntmps20
  go_wp2_with fail
  go_ret
  exact ⟨rfl, rfl⟩
theorem rnew_rd (s : List UInt8) (w : World) : Rd (w.alloc (.cells #[.string ⟨s.toArray⟩, .bool false] 56)) w.heap.size (some s) := heap_alloc_new w _

set_option maxHeartbeats 1000000 in
theorem sameInts_any (a : Option Addr) (n c : Nat) (l : List Int) (a' : Option Addr) (n' c' : Nat) (l' : List Int) (w : World) (hl : Lst Enc.int w (· < w.heap.size) a n l) (hl' : Lst Enc.int w (· < w.heap.size) a' n' l') (hn : n ≤ 1000000000000) (hn' : n' ≤ 1000000000000) :
    Calls Try.prog 26 #[.slice a n c, .slice a' n' c'] w fun e w' => e = .returned (.bool (decide (l = l'))) ∧ ∃ m, w' = w.drewN m := by
  have h1 := hl.1
  have h2 := hl'.1
  by_cases hne : n = n'
  · subst hne
    replace h1 := hide h1; replace h2 := hide h2
    go_enter Try.func26, Try.ntmps26
    go_wp2_with fail
    go_loopw [5] (fun v wr => ∃ k m : Nat, k ≤ n ∧ v = .int .i64 (k : Int) ∧ l.take k = l'.take k ∧ wr = w.drewN m) (fun v _ => (n - intOf v).toNat)
    case atStart => exact ⟨0, 0, by omega, rfl, rfl, rfl⟩
    case round =>
      obtain ⟨k, m, hk, rfl, htk, rfl⟩ := hrel
      replace htk := hide htk
      by_cases hlt : k < n
      · obtain ⟨b, off, x, rfl, hb, hx, hxi, hc⟩ := lst_int hl hlt
        obtain ⟨b', off', x', rfl, hb', hx', hxi', hc'⟩ := lst_int hl' hlt
        replace hx := hide hx; replace hx' := hide hx'
        have i1 : (0 : Int) ≤ (k : Int) := by omega
        have i2 : (k : Int) < (n : Int) := by omega
        have d1 : (w.drewN m).cell? ⟨b, off + k, none⟩ = some (.int .i64 x) := hc
        have d2 : (w.drewN m).cell? ⟨b', off' + k, none⟩ = some (.int .i64 x') := hc'
        clear hl hl' hxi hxi' d1 d2
        by_cases hxx : x = x'
        · subst hxx
          go_wp2_with fail
          go_quiet (fail)
          go_wp2_with fail
          go_roundw
          case rel =>
            obtain ⟨q1, e1⟩ := List.getElem?_eq_some_iff.1 (unhide hx)
            obtain ⟨q2, e2⟩ := List.getElem?_eq_some_iff.1 (unhide hx')
            exact ⟨k + 1, m + nq, by omega, by go_num, by rw [List.take_succ_eq_append_getElem q1, List.take_succ_eq_append_getElem q2, unhide htk, e1, e2], rfl⟩
          case measure => simp [intOf]; omega
        · have hfin : decide (l = l') = false := by
            rw [decide_eq_false_iff_not]
            rintro rfl
            exact hxx (Option.some.inj ((unhide hx).symm.trans (unhide hx')))
          have t1 : (x != x') = true := by first | simpa using hxx | (show (!(decide (x = x'))) = true; simp [hxx])
          replace hfin := hide hfin
          replace hxx := hide hxx
          go_wp2_with fail
          go_quiet (fail)
          go_wp2_with fail
          go_ret
          rw [unhide hfin]
          exact ⟨rfl, m + nq, by first | rfl | rw [World.drewN_drewN]⟩
      · have hfin : decide (l = l') = true := by
          rw [decide_eq_true_iff]
          have := unhide htk
          rwa [List.take_of_length_le (by rw [unhide h1]; omega), List.take_of_length_le (by rw [unhide h2]; omega)] at this
        replace hfin := hide hfin
        have t1 : decide ((k : Int) < (n : Int)) = false := by simp; omega
        clear htk hl hl'
        go_wp2_with fail
        go_ret
        rw [unhide hfin]
        exact ⟨rfl, m, rfl⟩
  · have hfin : decide (l = l') = false := by
      rw [decide_eq_false_iff_not]
      rintro rfl
      omega
    have t1 : ((n : Int) != (n' : Int)) = true := by simp; omega
    replace hfin := hide hfin
    replace hne := hide hne
    clear h1 h2 hl hl'
    go_enter Try.func26, Try.ntmps26
    go_wp2_with fail
    go_ret
    rw [unhide hfin]
    exact ⟨rfl, 0, rfl⟩

set_option maxHeartbeats 1000000 in
theorem sameTexts_any (a : Option Addr) (n c : Nat) (l : List ByteArray) (a' : Option Addr) (n' c' : Nat) (l' : List ByteArray) (w : World) (hl : Lst Enc.str w (· < w.heap.size) a n l) (hl' : Lst Enc.str w (· < w.heap.size) a' n' l') (hn : n ≤ 1000000000000) (hn' : n' ≤ 1000000000000) :
    Calls Try.prog 29 #[.slice a n c, .slice a' n' c'] w fun e w' => e = .returned (.bool (decide (l = l'))) ∧ ∃ m, w' = w.drewN m := by
  have h1 := hl.1
  have h2 := hl'.1
  by_cases hne : n = n'
  · subst hne
    replace h1 := hide h1; replace h2 := hide h2
    go_enter Try.func29, Try.ntmps29
    go_wp2_with fail
    go_loopw [5] (fun v wr => ∃ k m : Nat, k ≤ n ∧ v = .int .i64 (k : Int) ∧ l.take k = l'.take k ∧ wr = w.drewN m) (fun v _ => (n - intOf v).toNat)
    case atStart => exact ⟨0, 0, by omega, rfl, rfl, rfl⟩
    case round =>
      obtain ⟨k, m, hk, rfl, htk, rfl⟩ := hrel
      replace htk := hide htk
      by_cases hlt : k < n
      · obtain ⟨b, off, x, rfl, hb, hx, hxi, hc⟩ := lst_str hl hlt
        obtain ⟨b', off', x', rfl, hb', hx', hxi', hc'⟩ := lst_str hl' hlt
        replace hx := hide hx; replace hx' := hide hx'
        have i1 : (0 : Int) ≤ (k : Int) := by omega
        have i2 : (k : Int) < (n : Int) := by omega
        have d1 : (w.drewN m).cell? ⟨b, off + k, none⟩ = some (.string x) := hc
        have d2 : (w.drewN m).cell? ⟨b', off' + k, none⟩ = some (.string x') := hc'
        clear hl hl' hxi hxi' d1 d2
        by_cases hxx : x = x'
        · subst hxx
          have t2 := ba_eq x
          have t1 : (x != x) = false := by rw [bne, ba_eq]; rfl
          go_wp2_with fail
          go_quiet (fail)
          go_wp2_with fail
          go_roundw
          case rel =>
            obtain ⟨q1, e1⟩ := List.getElem?_eq_some_iff.1 (unhide hx)
            obtain ⟨q2, e2⟩ := List.getElem?_eq_some_iff.1 (unhide hx')
            exact ⟨k + 1, m + nq, by omega, by go_num, by rw [List.take_succ_eq_append_getElem q1, List.take_succ_eq_append_getElem q2, unhide htk, e1, e2], rfl⟩
          case measure => simp [intOf]; omega
        · have hfin : decide (l = l') = false := by
            rw [decide_eq_false_iff_not]
            rintro rfl
            exact hxx (Option.some.inj ((unhide hx).symm.trans (unhide hx')))
          have t1 : (x.toList == x'.toList) = false := by rw [← beq_toListBytes]; exact ba_ne hxx
          replace hfin := hide hfin
          replace hxx := hide hxx
          go_wp2_with fail
          go_quiet (fail)
          go_wp2_with fail
          go_ret
          rw [unhide hfin]
          exact ⟨rfl, m + nq, by first | rfl | rw [World.drewN_drewN]⟩
      · have hfin : decide (l = l') = true := by
          rw [decide_eq_true_iff]
          have := unhide htk
          rwa [List.take_of_length_le (by rw [unhide h1]; omega), List.take_of_length_le (by rw [unhide h2]; omega)] at this
        replace hfin := hide hfin
        have t1 : decide ((k : Int) < (n : Int)) = false := by simp; omega
        clear htk hl hl'
        go_wp2_with fail
        go_ret
        rw [unhide hfin]
        exact ⟨rfl, m, rfl⟩
  · have hfin : decide (l = l') = false := by
      rw [decide_eq_false_iff_not]
      rintro rfl
      omega
    have t1 : ((n : Int) != (n' : Int)) = true := by simp; omega
    replace hfin := hide hfin
    replace hne := hide hne
    clear h1 h2 hl hl'
    go_enter Try.func29, Try.ntmps29
    go_wp2_with fail
    go_ret
    rw [unhide hfin]
    exact ⟨rfl, 0, rfl⟩
end Go.Proofs.Ytidbjccfkembeaa
