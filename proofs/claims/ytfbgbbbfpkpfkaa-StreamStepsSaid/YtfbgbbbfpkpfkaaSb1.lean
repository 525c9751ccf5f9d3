/- Lookups: the small functions. -/
import Derived.Test.YtfbgbbbfpkpfkaaSb0
import Derived.Test.YtfbgbbbfpkpfkaaPlain
namespace Go.Proofs.Ytfbgbbbfpkpfkaa
open Go.RowKit

theorem mod_any (n m : Int) (w : World) (hm : 1 ≤ m) (hm2 : m ≤ 4611686018427387904) :
    Calls Try.prog 52 #[.int .i64 n, .int .i64 m] w fun e w' => e = .returned (.int .i64 (n % m)) ∧ w' = w := by
  go_enter Try.func52, Try.ntmps52
  go_wp2
  go_ret
  exact ⟨by simp [mod_plain n m hm hm2], rfl⟩

/-- A draw of numbers: a struct in block b, whose list reads nothing outside S. -/
def DrawAt (w : World) (b : Nat) (S : Nat → Prop) : Prop :=
  ∃ (a : Option Addr) (len cap k : Nat) (l : List Int), w.heap[b]? = some (.cells #[.slice a len cap, .int .i64 (k : Int)] 59 (0, 0)) ∧ k ≤ len ∧ len ≤ maxLen ∧ Lst Enc.int w S a len l ∧ ¬ S b

theorem heap_set {w : World} {b off : Nat} {t : TypeId} {cs : Array Value} (h : w.heap[b]? = some (.cells cs t (0, 0))) (u : Value) : (w.setCell ⟨b, off, none⟩ u).heap[b]? = some (.cells (cs.setIfInBounds off u) t (0, 0)) := by
  simp [World.setCell, Array.getElem?_modify, h]

theorem DrawAt.same {w w' : World} {b : Nat} {S : Nat → Prop} (h : DrawAt w b S) (hb : w'.heap[b]? = w.heap[b]?) (hS : ∀ c, S c → w'.heap[c]? = w.heap[c]?) : DrawAt w' b S := by
  obtain ⟨a, len, cap, k, l, h1, h2, h3, h4, h5⟩ := h
  exact ⟨a, len, cap, k, l, hb.trans h1, h2, h3, h4.same hS, h5⟩

theorem Lst.int_at {w : World} {S : Nat → Prop} {a : Option Addr} {len : Nat} {l : List Int} (h : Lst Enc.int w S a len l) {k : Nat} (hk : k < len) :
    ∃ b off x, a = some ⟨b, off, none⟩ ∧ S b ∧ l[k]? = some x ∧ I64 x ∧ w.cell? ⟨b, off + k, none⟩ = some (.int .i64 x) := by
  obtain ⟨h1, h2⟩ := h
  obtain ⟨b, off, rfl, hb, hc⟩ := h2 (by omega)
  have hx : l[k]? = some (l[k]'(by omega)) := List.getElem?_eq_getElem _
  obtain ⟨us, ⟨rfl, hr⟩, hu⟩ := hc k _ hx
  have := hu 0 _ rfl
  simp [Enc.num] at this
  exact ⟨b, off, _, rfl, hb, hx, hr, this⟩

set_option maxHeartbeats 1000000 in
theorem next_any (b : Nat) (S : Nat → Prop) (m : Int) (w : World) (hd : DrawAt w b S) (hm : 1 ≤ m) (hm2 : m ≤ 4611686018427387904) :
    Calls Try.prog 28 #[.pointer (some ⟨b, 0, none⟩), .int .i64 m] w fun e w' => ∃ v, e = .returned (.int .i64 v) ∧ 0 ≤ v ∧ v < m ∧ DrawAt w' b S ∧ w.grownBy w' (some b) ∧ w'.heap.size = w.heap.size := by
  obtain ⟨a, len, cap, k, l, hb, hk, hlen, hl, hS⟩ := hd
  unfold maxLen at hlen
  have hc0 : w.cell? ⟨b, 0, none⟩ = some (.slice a len cap) := by simp [World.cell?, hb]
  have hc1 : w.cell? ⟨b, 1, none⟩ = some (.int .i64 (k : Int)) := by simp [World.cell?, hb]
  have hf : w.frozen? ⟨b, 1, none⟩ = false := by simp [World.frozen?, hb]
  by_cases hlt : k < len
  · obtain ⟨bb, off, x, rfl, hSb, hx, ⟨hx1, hx2⟩, hz⟩ := hl.int_at hlt
    have hne : bb ≠ b := fun e => hS (e ▸ hSb)
    have hge : ¬ len ≤ k := by omega
    go_enter Try.func28, Try.ntmps28
    go_wp2_with fail
    go_quiet (fail)
    go_wp2_with fail
    have hz' : ((w.drewN nq).setCell ⟨b, 1, none⟩ (.int .i64 (↑k + 1))).cell? ⟨bb, off + k, none⟩ = some (.int .i64 x) := by
      rw [World.cell?_setCell_other]
      · exact hz
      · intro h; injection h with h1 h2; exact hne h1.symm
    have e1 : IntKind.i64.wrap (k : Int) = k := IntWalk.i64_in _ (by omega)
    clear hge
    go_quiet ((go_at_call 52; exact Calls.quiet_of_same (mod_any _ _ _ hm hm2)))
    go_wp2_with fail
    go_ret
    have hbd : ∀ n j : Nat, (((w.drewN n).setCell ⟨b, 1, none⟩ (.int .i64 (↑k + 1))).drewN j).heap[b]? = some (.cells #[.slice (some ⟨bb, off, none⟩) len cap, .int .i64 ((k + 1 : Nat) : Int)] 59 (0, 0)) := by
      intro n j
      rw [show ((k + 1 : Nat) : Int) = (k : Int) + 1 by omega]
      exact heap_set (w := w.drewN n) (off := 1) hb _
    have hoth : ∀ n j c : Nat, c ≠ b → (((w.drewN n).setCell ⟨b, 1, none⟩ (.int .i64 (↑k + 1))).drewN j).heap[c]? = w.heap[c]? := fun n j c hc => Below.heap_setCell (w.drewN n) _ _ _ hc
    refine ⟨_, rfl, Int.emod_nonneg _ (by omega), Int.emod_lt_of_pos _ (by omega), ⟨_, len, cap, k + 1, l, hbd _ _, by omega, by unfold maxLen; omega, hl.same (fun c hc => hoth _ _ _ (fun e => hS (e ▸ hc))), hS⟩, ⟨rfl, rfl, rfl, by simp [World.setCell], fun c _ hc => hoth _ _ _ (fun e => hc (by rw [e]))⟩, by simp [World.setCell]⟩
  · have hge : len ≤ k := by omega
    have hge' : decide (len ≤ k) = true := by simpa using hge
    go_enter Try.func28, Try.ntmps28
    go_wp2_with fail
    go_quiet (fail)
    go_wp2_with fail
    go_ret
    exact ⟨0, rfl, by omega, by omega, ⟨a, len, cap, k, l, hb, by omega, by unfold maxLen; omega, hl.same (fun _ _ => rfl), hS⟩, ⟨rfl, rfl, rfl, Nat.le_refl _, fun _ _ _ => rfl⟩, rfl⟩

/-- The same, the number as a natural one; what is kept of old blocks at hand. -/
theorem next_nat (b : Nat) (S : Nat → Prop) (m : Nat) (w : World) (hd : DrawAt w b S) (hm : 1 ≤ m) (hm2 : m ≤ 4611686018427387904) :
    Calls Try.prog 28 #[.pointer (some ⟨b, 0, none⟩), .int .i64 (m : Int)] w fun e w' => ∃ v : Nat, e = .returned (.int .i64 (v : Int)) ∧ v < m ∧ DrawAt w' b S ∧ w.grownBy w' (some b) ∧ w'.heap.size = w.heap.size :=
  (next_any b S m w hd (by omega) (by omega)).mono fun e w' ⟨v, he, h0, h1, h2, h3, h4⟩ => ⟨v.toNat, by rw [he, Int.toNat_of_nonneg h0], by omega, h2, h3, h4⟩

set_option maxHeartbeats 1000000 in
theorem sameInts_any (a : Option Addr) (n c : Nat) (l : List Int) (a' : Option Addr) (n' c' : Nat) (l' : List Int) (w : World) (hl : Lst Enc.int w (· < w.heap.size) a n l) (hl' : Lst Enc.int w (· < w.heap.size) a' n' l') (hn : n ≤ 1000000000000) (hn' : n' ≤ 1000000000000) :
    Calls Try.prog 15 #[.slice a n c, .slice a' n' c'] w fun e w' => e = .returned (.bool (decide (l = l'))) ∧ ∃ m, w' = w.drewN m := by
  have h1 := hl.1
  have h2 := hl'.1
  by_cases hne : n = n'
  · subst hne
    replace h1 := hide h1; replace h2 := hide h2
    go_enter Try.func15, Try.ntmps15
    go_wp2_with fail
    go_loopw [5] (fun v wr => ∃ k m : Nat, k ≤ n ∧ v = .int .i64 (k : Int) ∧ l.take k = l'.take k ∧ wr = w.drewN m) (fun v _ => (n - intOf v).toNat)
    case atStart => exact ⟨0, 0, by omega, rfl, rfl, rfl⟩
    case round =>
      obtain ⟨k, m, hk, rfl, htk, rfl⟩ := hrel
      replace htk := hide htk
      by_cases hlt : k < n
      · obtain ⟨b, off, x, rfl, hb, hx, hxi, hc⟩ := lst_int hl hlt
        obtain ⟨b', off', x', rfl, hb', hx', hxi', hc'⟩ := lst_int hl' hlt
        replace hx := hide hx; replace hx' := hide hx'
        have i1 : (0 : Int) ≤ (k : Int) := by omega
        have i2 : (k : Int) < (n : Int) := by omega
        have d1 : (w.drewN m).cell? ⟨b, off + k, none⟩ = some (.int .i64 x) := hc
        have d2 : (w.drewN m).cell? ⟨b', off' + k, none⟩ = some (.int .i64 x') := hc'
        clear hl hl' hxi hxi' d1 d2
        by_cases hxx : x = x'
        · subst hxx
          go_wp2_with fail
          go_quiet (fail)
          go_wp2_with fail
          go_roundw
          case rel =>
            obtain ⟨q1, e1⟩ := List.getElem?_eq_some_iff.1 (unhide hx)
            obtain ⟨q2, e2⟩ := List.getElem?_eq_some_iff.1 (unhide hx')
            exact ⟨k + 1, m + nq, by omega, by go_num, by rw [List.take_succ_eq_append_getElem q1, List.take_succ_eq_append_getElem q2, unhide htk, e1, e2], rfl⟩
          case measure => simp [intOf]; omega
        · have hfin : decide (l = l') = false := by
            rw [decide_eq_false_iff_not]
            rintro rfl
            exact hxx (Option.some.inj ((unhide hx).symm.trans (unhide hx')))
          have t1 : (x != x') = true := by first | simpa using hxx | (show (!(decide (x = x'))) = true; simp [hxx])
          replace hfin := hide hfin
          replace hxx := hide hxx
          go_wp2_with fail
          go_quiet (fail)
          go_wp2_with fail
          go_ret
          rw [unhide hfin]
          exact ⟨rfl, m + nq, by first | rfl | rw [World.drewN_drewN]⟩
      · have hfin : decide (l = l') = true := by
          rw [decide_eq_true_iff]
          have := unhide htk
          rwa [List.take_of_length_le (by rw [unhide h1]; omega), List.take_of_length_le (by rw [unhide h2]; omega)] at this
        replace hfin := hide hfin
        have t1 : decide ((k : Int) < (n : Int)) = false := by simp; omega
        clear htk hl hl'
        go_wp2_with fail
        go_ret
        rw [unhide hfin]
        exact ⟨rfl, m, rfl⟩
  · have hfin : decide (l = l') = false := by
      rw [decide_eq_false_iff_not]
      rintro rfl
      omega
    have t1 : ((n : Int) != (n' : Int)) = true := by simp; omega
    replace hfin := hide hfin
    replace hne := hide hne
    clear h1 h2 hl hl'
    go_enter Try.func15, Try.ntmps15
    go_wp2_with fail
    go_ret
    rw [unhide hfin]
    exact ⟨rfl, 0, rfl⟩


theorem sameInts_blw (a : Option Addr) (n c : Nat) (l : List Int) (a' : Option Addr) (n' c' : Nat) (l' : List Int) (w : World) (hl : Lst Enc.int w (· < w.heap.size) a n l) (hl' : Lst Enc.int w (· < w.heap.size) a' n' l') (hn : n ≤ 1000000000000) (hn' : n' ≤ 1000000000000) :
    Calls Try.prog 15 #[.slice a n c, .slice a' n' c'] w fun e w' => e = .returned (.bool (decide (l = l'))) ∧ Below w.heap.size w w' := by
  refine (sameInts_any a n c l a' n' c' l' w hl hl' hn hn').mono ?_
  rintro e w' ⟨h, m, rfl⟩
  exact ⟨h, blw_drewN (Below.refl _ _) m⟩
/-- all numbers are indices -/
def okAll (l : List Int) (m : Int) : Bool := l.all fun x => decide (0 ≤ x ∧ x < m)
theorem okAll_take_bad {l : List Int} {m : Int} {k : Nat} {x : Int} (hx : l[k]? = some x) (h : decide (0 ≤ x ∧ x < m) = false) : okAll l m = false := by
  unfold okAll
  rw [List.all_eq_false]
  exact ⟨x, List.mem_of_getElem? hx, by rw [h]; simp⟩
theorem okAll_succ {l : List Int} {m : Int} {k : Nat} {x : Int} (hx : l[k]? = some x) (h : decide (0 ≤ x ∧ x < m) = true) (ht : okAll (l.take k) m = true) : okAll (l.take (k + 1)) m = true := by
  unfold okAll at *
  rw [List.take_add_one, hx, List.all_append, ht]
  simpa using h
theorem standsS_out {l g : List Int} {i : Int} (h : ¬ (0 ≤ i ∧ i + l.length ≤ g.length)) : standsS l g i = false := decide_eq_false fun ⟨h1, h2, _⟩ => h ⟨h1, h2⟩
theorem standsS_bad {l g : List Int} {j k : Nat} {x y : Int} (hx : g[j + k]? = some x) (hy : l[k]? = some y) (hne : x ≠ y) : standsS l g (j : Int) = false := decide_eq_false fun ⟨_, _, h3⟩ => by
  have hk := (List.getElem?_eq_some_iff.1 hy).1
  have := h3 k hk
  rw [Int.toNat_natCast, hx, hy] at this
  exact hne (Option.some.inj this)
theorem standsS_good {l g : List Int} {j : Nat} (h : j + l.length ≤ g.length) (hk : ∀ k, k < l.length → g[j + k]? = l[k]?) : standsS l g (j : Int) = true := decide_eq_true ⟨by omega, by omega, fun k hk' => by rw [Int.toNat_natCast]; exact hk k hk'⟩
set_option maxHeartbeats 1000000 in
theorem stands_any (a : Option Addr) (n c : Nat) (l : List Int) (a' : Option Addr) (n' c' : Nat) (g : List Int) (i : Int) (w : World) (hl : Lst Enc.int w (· < w.heap.size) a n l) (hg : Lst Enc.int w (· < w.heap.size) a' n' g) (hn : n ≤ 1000000000000) (hn' : n' ≤ 1000000000000) (hi : -1000000000000 ≤ i ∧ i ≤ 1000000000000) :
    Calls Try.prog 66 #[.slice a n c, .slice a' n' c', .int .i64 i] w fun e w' => e = .returned (.bool (standsS l g i)) ∧ ∃ m, w' = w.drewN m := by
  have h1 := hl.1
  have h2 := hg.1
  by_cases hin : 0 ≤ i ∧ i + n ≤ n'
  · obtain ⟨j, rfl⟩ := Int.eq_ofNat_of_zero_le hin.1
    have hjn : j + n ≤ n' := by omega
    replace h1 := hide h1; replace h2 := hide h2
    clear hin
    go_enter Try.func66, Try.ntmps66
    go_wp2_with fail
    go_loopw [7] (fun v wr => ∃ k m : Nat, k ≤ n ∧ v = .int .i64 (k : Int) ∧ (∀ q, q < k → g[j + q]? = l[q]?) ∧ wr = w.drewN m) (fun v _ => (n - intOf v).toNat)
    case atStart => exact ⟨0, 0, by omega, rfl, fun q hq => by omega, rfl⟩
    case round =>
      obtain ⟨k, m, hk, rfl, htk, rfl⟩ := hrel
      replace htk := hide htk
      by_cases hlt : k < n
      · obtain ⟨b, off, y, rfl, hb, hy, hyi, hc⟩ := lst_int hl hlt
        obtain ⟨b', off', x, rfl, hb', hx, hxi, hc'⟩ := lst_int hg (show j + k < n' by omega)
        replace hx := hide hx; replace hy := hide hy
        have i1 : (0 : Int) ≤ (j : Int) + (k : Int) := by omega
        have i2 : (j : Int) + (k : Int) < (n' : Int) := by omega
        have i3 : IntKind.i64.wrap ((j : Int) + (k : Int)) = ((j + k : Nat) : Int) := by rw [IntWalk.i64_in _ (by omega)]; omega
        have d1 : (w.drewN m).cell? ⟨b, off + k, none⟩ = some (.int .i64 y) := hc
        have d2 : (w.drewN m).cell? ⟨b', off' + (j + k), none⟩ = some (.int .i64 x) := hc'
        clear hl hg hxi hyi d1 d2
        by_cases hxx : x = y
        · subst hxx
          go_wp2_with fail
          go_quiet (fail)
          go_wp2_with fail
          go_roundw
          case rel =>
            refine ⟨k + 1, m + nq, by omega, by go_num, fun q hq => ?_, rfl⟩
            rcases Nat.lt_succ_iff_lt_or_eq.1 hq with hq | rfl
            · exact unhide htk q hq
            · exact (unhide hx).trans (unhide hy).symm
          case measure => simp [intOf]; omega
        · have hfin := standsS_bad (unhide hx) (unhide hy) hxx
          have t1 : (x != y) = true := by first | simpa using hxx | (show (!(decide (x = y))) = true; simp [hxx])
          replace hxx := hide hxx; replace hfin := hide hfin
          go_wp2_with fail
          go_quiet (fail)
          go_wp2_with fail
          go_ret
          rw [unhide hfin]
          exact ⟨rfl, m + nq, by first | rfl | rw [World.drewN_drewN]⟩
      · have hfin : standsS l g (j : Int) = true := standsS_good (by rw [unhide h1, unhide h2]; exact hjn) (fun q hq => unhide htk q (by rw [unhide h1] at hq; omega))
        replace hfin := hide hfin
        clear htk hl hg
        go_wp2_with fail
        go_ret
        rw [unhide hfin]
        exact ⟨rfl, m, rfl⟩
  · have hfin := standsS_out (l := l) (g := g) (i := i) (by rw [h1, h2]; exact hin)
    rw [hfin]
    clear hfin h1 h2 hl hg
    by_cases h0 : 0 ≤ i
    · have t2 : (n' : Int) < i + (n : Int) := by omega
      replace hin := hide hin
      go_enter Try.func66, Try.ntmps66
      go_wp2_with fail
      go_ret
      exact ⟨rfl, 0, rfl⟩
    · replace hin := hide hin
      go_enter Try.func66, Try.ntmps66
      go_wp2_with fail
      go_ret
      exact ⟨rfl, 0, rfl⟩
end Go.Proofs.Ytfbgbbbfpkpfkaa
