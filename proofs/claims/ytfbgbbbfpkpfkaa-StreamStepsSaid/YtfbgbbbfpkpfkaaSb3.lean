/- Lookups: Clone, closures, IndexFunc, ContainsFunc. -/
import Derived.Test.YtfbgbbbfpkpfkaaSb2
namespace Go.Proofs.Ytfbgbbbfpkpfkaa
open Go.RowKit

theorem nil_some (g : Addr) (n c : Nat) (w : World) : Sem.run Try.prog (binOp .eql 22 (.slice (some g) n c) (.slice none 0 0)) w = .ok (.bool false) w := by kernel_rfl
theorem nil_none (n c : Nat) (w : World) : Sem.run Try.prog (binOp .eql 22 (.slice none n c) (.slice none 0 0)) w = .ok (.bool true) w := by kernel_rfl
set_option maxHeartbeats 1000000 in
theorem clone_any (a : Option Addr) (n c : Nat) (l : List Int) (w : World) (hl : Lst Enc.int w (· < w.heap.size) a n l) (hn : n ≤ 1000000) :
    Calls Try.prog 35 #[.slice a n c] w fun e w' => ∃ v, e = .returned v ∧ w'.ownsRow w.heap.size 3 1 v n (vints l) ∧ Below w.heap.size w w' := by
  cases a with
  | none =>
    have h0 : n = 0 := by
      by_cases h : 0 < n
      · obtain ⟨b, off, he, _⟩ := hl.2 h
        cases he
      · omega
    subst h0
    have hnil : l = [] := List.eq_nil_of_length_eq_zero hl.1
    subst hnil
    have q := nil_none 0 c
    go_enter Try.func35, Try.ntmps35
    go_wp2_with fail
    go_ret
    exact ⟨_, rfl, World.ownsRow_nil _ _ _ _, Below.refl _ _⟩
  | some g =>
    have q := nil_some g n c
    go_enter Try.func35, Try.ntmps35
    have hb0 : Below w.heap.size w (w.alloc (Obj.cells #[] 3)) := (Below.refl _ _).alloc (Nat.le_refl _) _
    have hown := own_lit (base := w.heap.size) (s := 1) (n := 0) (heap_alloc_new w (Obj.cells #[] 3)) (Nat.le_refl _) (by decide) rfl
    have hlA := hl.under hb0
    replace hlA := hide hlA; replace hown := hide hown
    go_wp2_with (at_builtin; refine wpList_append_ints rfl _ _ rfl w.heap.size _ _ _ rfl (unhide hown) (· < (w.alloc (Obj.cells #[] 3)).heap.size) _ _ _ _ rfl (unhide hlA) ?d1 ?d2 ?_)
    case d1 => omega
    intro v' w2 hown2 hg2
    have hb2 := Below.grown hb0 hg2 (by simp) (fun g e => ((unhide hown).lt g e).1)
    clear hg2 q
    go_wp2_with fail
    go_ret
    exact ⟨_, rfl, hown2, hb2⟩
set_option maxHeartbeats 1000000 in
/-- whether a number is no index -/
theorem out_any (x : Int) (b : Nat) (m : Int) (w : World) (hb : w.cell? ⟨b, 0, none⟩ = some (.int .i64 m)) :
    Calls Try.prog 49 #[.int .i64 x, .pointer (some ⟨b, 0, none⟩)] w fun e w' => e = .returned (.bool (!decide (0 ≤ x ∧ x < m))) ∧ w' = w := by
  by_cases h1 : 0 ≤ x
  · have t1 : ¬ x < 0 := by omega
    by_cases h2 : x < m
    · rw [decide_eq_true ⟨h1, h2⟩]
      have t2 : ¬ m ≤ x := by omega
      go_enter Try.func49, Try.ntmps49
      go_wp2
      go_ret
      exact ⟨rfl, rfl⟩
    · rw [decide_eq_false (fun h => h2 h.2 : ¬ (0 ≤ x ∧ x < m))]
      have t2 : m ≤ x := by omega
      go_enter Try.func49, Try.ntmps49
      go_wp2
      go_ret
      exact ⟨rfl, rfl⟩
  · rw [decide_eq_false (fun h => h1 h.1 : ¬ (0 ≤ x ∧ x < m))]
    have t1 : x < 0 := by omega
    go_enter Try.func49, Try.ntmps49
    go_wp2
    go_ret
    exact ⟨rfl, rfl⟩
theorem many_any (a : Option Addr) (n c : Nat) (w : World) :
    Calls Try.prog 48 #[.agg #[.slice a n c]] w fun e w' => e = .returned (.bool (decide (24 < (n : Int)))) ∧ Below w.heap.size w w' := by
  go_enter Try.func48, Try.ntmps48
  go_wp2
  go_ret
  exact ⟨rfl, (Below.refl _ _).alloc (Nat.le_refl _) _⟩
set_option maxHeartbeats 1000000 in
theorem indexOut_any (a : Option Addr) (n c : Nat) (l : List Int) (b : Nat) (m : Int) (w : World) (hl : Lst Enc.int w (· < w.heap.size) a n l) (hn : n ≤ 1000000000000) (hb : w.cell? ⟨b, 0, none⟩ = some (.int .i64 m)) :
    Calls Try.prog 63 #[.slice a n c, .func (.func 49) #[] #[.pointer (some ⟨b, 0, none⟩)]] w fun e w' => (∃ v : Int, e = .returned (.int .i64 v) ∧ decide (0 ≤ v) = !okAll l m) ∧ w' = w := by
  have h1 := hl.1
  replace h1 := hide h1
  go_enter Try.func63, Try.ntmps63
  go_wp2_with fail
  go_loopw [8] (fun v wr => ∃ k : Nat, k ≤ n ∧ v = .int .i64 (k : Int) ∧ okAll (l.take k) m = true ∧ wr = w) (fun v _ => (n - intOf v).toNat)
  case atStart => exact ⟨0, by omega, rfl, rfl, rfl⟩
  case round =>
    obtain ⟨k, hk, rfl, htk, ew⟩ := hrel
    subst ew
    replace htk := hide htk
    by_cases hlt : k < n
    · obtain ⟨b', off, x, rfl, hb', hx, hxi, hc⟩ := lst_int hl hlt
      have hci := out_any x b m wr hb
      replace hx := hide hx
      clear hl
      by_cases hg : (0 ≤ x ∧ x < m)
      · rw [decide_eq_true hg] at hci
        replace hci := hide hci; replace hg := hide hg
        go_wp2_with fail
        refine (unhide hci).mono ?_
        rintro e w1 ⟨rfl, ew⟩
        subst ew
        clear hci
        go_wp2_with fail
        go_roundw
        case rel => exact ⟨k + 1, by omega, by go_num, okAll_succ (unhide hx) (decide_eq_true (unhide hg)) (unhide htk), trivial⟩
        case measure => simp [intOf]; omega
      · have hfin := okAll_take_bad (unhide hx) (decide_eq_false hg)
        rw [decide_eq_false hg] at hci
        replace hci := hide hci; replace hg := hide hg; replace hfin := hide hfin
        go_wp2_with fail
        refine (unhide hci).mono ?_
        rintro e w1 ⟨rfl, ew⟩
        subst ew
        clear hci
        go_wp2_with fail
        go_ret
        exact ⟨⟨_, rfl, by rw [unhide hfin]; simp⟩, rfl⟩
    · have hfin : okAll l m = true := by
        have := unhide htk
        rwa [List.take_of_length_le (by rw [unhide h1]; omega)] at this
      replace hfin := hide hfin
      clear htk
      go_wp2_with fail
      go_ret
      exact ⟨⟨_, rfl, by rw [unhide hfin]; decide⟩, rfl⟩
theorem containsOut_any (a : Option Addr) (n c : Nat) (l : List Int) (b : Nat) (m : Int) (w : World) (hl : Lst Enc.int w (· < w.heap.size) a n l) (hn : n ≤ 1000000000000) (hb : w.cell? ⟨b, 0, none⟩ = some (.int .i64 m)) :
    Calls Try.prog 50 #[.slice a n c, .func (.func 49) #[] #[.pointer (some ⟨b, 0, none⟩)]] w fun e w' => e = .returned (.bool (!okAll l m)) ∧ w' = w := by
  have hc := indexOut_any a n c l b m w hl hn hb
  obtain ⟨q, hq⟩ : ∃ q, (!okAll l m) = q := ⟨_, rfl⟩
  rw [hq] at hc ⊢
  clear hq hl
  replace hc := hide hc
  go_enter Try.func50, Try.ntmps50
  go_wp2_with fail
  refine (unhide hc).mono ?_
  rintro e w1 ⟨⟨v, rfl, hv⟩, ew⟩
  subst ew
  clear hc
  replace hv := hide hv
  go_wp2_with fail
  go_ret
  exact ⟨ret_bool (unhide hv), rfl⟩
def many (l : List (List Sub)) : Bool := l.any fun x => decide (24 < (x.length : Int))
theorem many_bad {l : List (List Sub)} {k : Nat} {x : List Sub} (hx : l[k]? = some x) (h : decide (24 < (x.length : Int)) = true) : many l = true := by
  unfold many
  rw [List.any_eq_true]
  exact ⟨x, List.mem_of_getElem? hx, h⟩
theorem many_succ {l : List (List Sub)} {k : Nat} {x : List Sub} (hx : l[k]? = some x) (h : decide (24 < (x.length : Int)) = false) (ht : many (l.take k) = false) : many (l.take (k + 1)) = false := by
  unfold many at *
  rw [List.take_add_one, hx, List.any_append, ht]
  simpa using h
set_option maxHeartbeats 1000000 in
theorem indexMany_any (a : Option Addr) (n c : Nat) (l : List (List Sub)) (w : World) (hl : Lst Enc.lk w (· < w.heap.size) a n l) (hn : n ≤ 1000000000000) :
    Calls Try.prog 62 #[.slice a n c, .func (.func 48) #[] #[]] w fun e w' => (∃ v : Int, e = .returned (.int .i64 v) ∧ decide (0 ≤ v) = many l) ∧ Below w.heap.size w w' := by
  have h1 := hl.1
  replace h1 := hide h1
  replace hl := hide hl
  go_enter Try.func62, Try.ntmps62
  go_wp2_with fail
  go_loopw [8] (fun v wr => ∃ k : Nat, k ≤ n ∧ v = .int .i64 (k : Int) ∧ many (l.take k) = false ∧ Below w.heap.size w wr) (fun v _ => (n - intOf v).toNat)
  case atStart => exact ⟨0, by omega, rfl, rfl, Below.refl _ _⟩
  case round =>
    obtain ⟨k, hk, rfl, htk, hbw⟩ := hrel
    replace htk := hide htk
    by_cases hlt : k < n
    · obtain ⟨b', off, x, a', n', c', rfl, hb', hx, _, _, hlx, hc⟩ := lst_list ((unhide hl).under hbw) hlt
      have hci := many_any a' n' c' wr
      have hxl := hlx.1
      replace hx := hide hx; replace hbw := hide hbw; replace hci := hide hci; replace hxl := hide hxl
      clear hlx
      by_cases hg : 24 < n'
      · have hfin := many_bad (unhide hx) (decide_eq_true (by rw [unhide hxl]; omega))
        have tg : (24 : Int) < (n' : Int) := by omega
        replace hfin := hide hfin
        go_wp2_with fail
        refine (unhide hci).mono ?_
        rintro e w1 ⟨rfl, hb⟩
        have hb1 := (unhide hbw).trans (hb.mono (unhide hbw).size)
        clear hci hb
        go_wp2_with fail
        go_ret
        exact ⟨⟨_, rfl, by rw [unhide hfin]; simp⟩, hb1⟩
      · have tg : ¬ (24 : Int) < (n' : Int) := by omega
        have hsc := many_succ (unhide hx) (decide_eq_false (by rw [unhide hxl]; omega)) (unhide htk)
        replace hsc := hide hsc
        go_wp2_with fail
        refine (unhide hci).mono ?_
        rintro e w1 ⟨rfl, hb⟩
        have hb1 := (unhide hbw).trans (hb.mono (unhide hbw).size)
        clear hci hb
        go_wp2_with fail
        go_roundw
        case rel => exact ⟨k + 1, by omega, by go_num, unhide hsc, hb1⟩
        case measure => simp [intOf]; omega
    · have hfin : many l = false := by
        have := unhide htk
        rwa [List.take_of_length_le (by rw [unhide h1]; omega)] at this
      replace hfin := hide hfin; replace hbw := hide hbw
      clear htk
      go_wp2_with fail
      go_ret
      exact ⟨⟨_, rfl, by rw [unhide hfin]; decide⟩, unhide hbw⟩
theorem containsMany_any (a : Option Addr) (n c : Nat) (l : List (List Sub)) (w : World) (hl : Lst Enc.lk w (· < w.heap.size) a n l) (hn : n ≤ 1000000000000) :
    Calls Try.prog 47 #[.slice a n c, .func (.func 48) #[] #[]] w fun e w' => e = .returned (.bool (many l)) ∧ Below w.heap.size w w' := by
  have hc := indexMany_any a n c l w hl hn
  obtain ⟨q, hq⟩ : ∃ q, many l = q := ⟨_, rfl⟩
  rw [hq] at hc ⊢
  clear hq hl
  replace hc := hide hc
  go_enter Try.func47, Try.ntmps47
  go_wp2_with fail
  refine (unhide hc).mono ?_
  rintro e w1 ⟨⟨v, rfl, hv⟩, hb⟩
  clear hc
  replace hv := hide hv
  go_wp2_with fail
  go_ret
  exact ⟨ret_bool (unhide hv), hb⟩
end Go.Proofs.Ytfbgbbbfpkpfkaa
