/- Axes: Check, the program's and the reference's. -/
import Derived.Test.YthkppilelpaieaaAx5
namespace Go.Proofs.Ythkppilelpaieaa
open Go.RowKit
/-- an axis: Tag, Low, Usual, High -/
abbrev Axis := ByteArray × (Int × (Int × Int))
abbrev Enc.axis : Enc Axis := Enc.pair Enc.str (Enc.pair Enc.int (Enc.pair Enc.int Enc.int))
theorem lst_axis {w : World} {S : Nat → Prop} {a : Option Addr} {len : Nat} {l : List Axis} (h : Lst Enc.axis w S a len l) {k : Nat} (hk : k < len) :
    ∃ b off t, a = some ⟨b, off, none⟩ ∧ S b ∧ l[k]? = some t ∧ t.1.size ≤ maxLen ∧ I64 t.2.1 ∧ I64 t.2.2.1 ∧ I64 t.2.2.2 ∧ w.cell? ⟨b, off + k * 4, none⟩ = some (.string t.1) ∧ w.cell? ⟨b, off + k * 4 + 1, none⟩ = some (.int .i64 t.2.1) ∧ w.cell? ⟨b, off + k * 4 + 2, none⟩ = some (.int .i64 t.2.2.1) ∧ w.cell? ⟨b, off + k * 4 + 3, none⟩ = some (.int .i64 t.2.2.2) := by
  obtain ⟨h1, h2⟩ := h
  obtain ⟨b, off, rfl, hb, hc⟩ := h2 (by omega)
  have hx : l[k]? = some (l[k]'(by omega)) := List.getElem?_eq_getElem _
  obtain ⟨us, ⟨u0, v0, rfl, ⟨rfl, i0⟩, u1, v1, rfl, ⟨rfl, i1⟩, u2, v2, rfl, ⟨rfl, i2⟩, rfl, i3⟩, hu⟩ := hc k _ hx
  exact ⟨b, off, _, rfl, hb, hx, i0, i1, i2, i3, hu 0 _ rfl, hu 1 _ rfl, hu 2 _ rfl, hu 3 _ rfl⟩
def twice (l : List Axis) (s : ByteArray) : Bool := l.any fun b => decide (s = b.1)
theorem twice_hit {l : List Axis} {k : Nat} {t : Axis} {s : ByteArray} (hx : l[k]? = some t) (h : s = t.1) : twice l s = true := by
  unfold twice
  rw [List.any_eq_true]
  exact ⟨t, List.mem_of_getElem? hx, decide_eq_true h⟩
theorem twice_succ {l : List Axis} {k : Nat} {t : Axis} {s : ByteArray} (hx : l[k]? = some t) (h : ¬ s = t.1) (ht : twice (l.take k) s = false) : twice (l.take (k + 1)) s = false := by
  unfold twice at *
  rw [List.take_add_one, hx, List.any_append, ht]
  simpa using h
def near (n : Int) : Bool := decide (-1000 ≤ n ∧ n ≤ 1000)
/-- what is wrong with an axis behind others -/
def axErr (l : List Axis) (a : Axis) : Int :=
  if tagS a.1 = false then 40 else if twice l a.1 = true then 6 else if near a.2.1 = false ∨ near a.2.2.1 = false ∨ near a.2.2.2 = false then 3 else if a.2.2.1 < a.2.1 ∨ a.2.2.2 < a.2.2.1 then 8 else 0
def errAt (l : List Axis) (k : Nat) : Int := match l[k]? with
  | some a => axErr (l.take k) a
  | none => 0
def errFrom (l : List Axis) : Nat → Nat → Int
  | 0, _ => 0
  | f + 1, k => if errAt l k = 0 then errFrom l f (k + 1) else errAt l k
def axCheck (l : List Axis) : Int := if 3 < l.length then 2 else errFrom l l.length 0
theorem errFrom_skip (l : List Axis) : ∀ (f k j : Nat), (∀ i, k ≤ i → i < k + j → errAt l i = 0) → errFrom l (f + j) k = errFrom l f (k + j) := by
  intro f k j
  induction j generalizing k with
  | zero => intro _; rfl
  | succ j ih =>
    intro h
    rw [show f + (j + 1) = (f + j) + 1 by omega, errFrom, if_pos (h k (Nat.le_refl _) (by omega)), ih (k + 1) (fun i h1 h2 => h i (by omega) (by omega)), show k + 1 + j = k + (j + 1) by omega]
theorem axCheck_many {l : List Axis} (h : 3 < l.length) : axCheck l = 2 := if_pos h
theorem axCheck_bad {l : List Axis} {k : Nat} {a : Axis} {c : Int} (h : ¬ 3 < l.length) (hx : l[k]? = some a) (h0 : ∀ i, i < k → errAt l i = 0) (hc : axErr (l.take k) a = c) (hc0 : c ≠ 0) : axCheck l = c := by
  have hk := (List.getElem?_eq_some_iff.1 hx).1
  have he : errAt l k = c := by unfold errAt; rw [hx]; exact hc
  unfold axCheck
  rw [if_neg h, show l.length = (l.length - k - 1 + 1) + k by omega, errFrom_skip l _ 0 k (fun i _ h2 => h0 i (by omega)), Nat.zero_add, errFrom, he, if_neg hc0]
theorem axCheck_ok {l : List Axis} (h : ¬ 3 < l.length) (h0 : ∀ i, i < l.length → errAt l i = 0) : axCheck l = 0 := by
  unfold axCheck
  rw [if_neg h, show errFrom l l.length 0 = errFrom l (0 + l.length) 0 by rw [Nat.zero_add], errFrom_skip l 0 0 l.length (fun i _ h2 => h0 i (by omega))]
  rfl
theorem err_succ {l : List Axis} {k : Nat} {a : Axis} (hx : l[k]? = some a) (h0 : ∀ i, i < k → errAt l i = 0) (hc : axErr (l.take k) a = 0) : ∀ i, i < k + 1 → errAt l i = 0 := fun i hi => by
  by_cases h : i < k
  · exact h0 i h
  · obtain rfl : i = k := by omega
    unfold errAt
    rw [hx]
    exact hc
theorem twc_any (s : ByteArray) (lo us hi : Int) (b : Nat) (t : ByteArray) (w : World) (hb : w.cell? ⟨b, 0, none⟩ = some (.string t)) :
    Calls Try.prog 29 #[.agg #[.string s, .int .i64 lo, .int .i64 us, .int .i64 hi], .pointer (some ⟨b, 0, none⟩)] w fun e w' => e = .returned (.bool (decide (t = s))) ∧ Below w.heap.size w w' := by
  have hB : Below w.heap.size w (w.alloc (Obj.cells #[.string s, .int .i64 lo, .int .i64 us, .int .i64 hi] 29)) := (Below.refl _ _).alloc (Nat.le_refl _) _
  have c1 : (w.alloc (Obj.cells #[.string s, .int .i64 lo, .int .i64 us, .int .i64 hi] 29)).cell? ⟨b, 0, none⟩ = some (.string t) := cell_under hb hB
  have hd := ba_dec t s
  replace hd := hide hd; replace hB := hide hB
  go_enter Try.func29, Try.ntmps29
  go_wp2_with fail
  go_ret
  exact ⟨ret_bool (unhide hd), unhide hB⟩
set_option maxHeartbeats 1000000 in
theorem indexA_any (a : Option Addr) (n c : Nat) (l : List Axis) (b : Nat) (s : ByteArray) (w : World) (hl : Lst Enc.axis w (· < w.heap.size) a n l) (hn : n ≤ 1000000000000) (hb : w.cell? ⟨b, 0, none⟩ = some (.string s)) :
    Calls Try.prog 48 #[.slice a n c, .func (.func 29) #[] #[.pointer (some ⟨b, 0, none⟩)]] w fun e w' => (∃ v : Int, e = .returned (.int .i64 v) ∧ decide (0 ≤ v) = twice l s) ∧ Below w.heap.size w w' := by
  have h1 := hl.1
  replace h1 := hide h1
  replace hl := hide hl
  replace hb := hide hb
  go_enter Try.func48, Try.ntmps48
  go_wp2_with fail
  go_loopw [8] (fun v wr => ∃ k : Nat, k ≤ n ∧ v = .int .i64 (k : Int) ∧ twice (l.take k) s = false ∧ Below w.heap.size w wr) (fun v _ => (n - intOf v).toNat)
  case atStart => exact ⟨0, by omega, rfl, rfl, Below.refl _ _⟩
  case round =>
    obtain ⟨k, hk, rfl, htk, hbw⟩ := hrel
    replace htk := hide htk
    by_cases hlt : k < n
    · obtain ⟨b', off, t, rfl, hb', hx, _, _, _, _, c0, c1, c2, c3⟩ := lst_axis ((unhide hl).under hbw) hlt
      obtain ⟨ts, lo, us, hi⟩ := t
      simp only at c0 c1 c2 c3
      have hci := twc_any ts lo us hi b s wr (cell_under (unhide hb) hbw)
      replace hx := hide hx; replace hbw := hide hbw
      by_cases hg : s = ts
      · have hfin := twice_hit (unhide hx) hg
        rw [decide_eq_true hg] at hci
        replace hfin := hide hfin; replace hci := hide hci; replace hg := hide hg
        go_wp2_with fail
        refine (unhide hci).mono ?_
        rintro e w1 ⟨rfl, hbb⟩
        have hb1 := (unhide hbw).trans (hbb.mono (unhide hbw).size)
        clear hci hbb
        go_wp2_with fail
        go_ret
        exact ⟨⟨_, rfl, by rw [unhide hfin]; simp⟩, hb1⟩
      · have hsc := twice_succ (unhide hx) hg (unhide htk)
        rw [decide_eq_false hg] at hci
        replace hsc := hide hsc; replace hci := hide hci; replace hg := hide hg
        go_wp2_with fail
        refine (unhide hci).mono ?_
        rintro e w1 ⟨rfl, hbb⟩
        have hb1 := (unhide hbw).trans (hbb.mono (unhide hbw).size)
        clear hci hbb
        go_wp2_with fail
        go_roundw
        case rel => exact ⟨k + 1, by omega, by go_num, unhide hsc, hb1⟩
        case measure => simp [intOf]; omega
    · have hfin : twice l s = false := by
        have := unhide htk
        rwa [List.take_of_length_le (by rw [unhide h1]; omega)] at this
      replace hfin := hide hfin; replace hbw := hide hbw
      clear htk
      go_wp2_with fail
      go_ret
      exact ⟨⟨_, rfl, by rw [unhide hfin]; decide⟩, unhide hbw⟩
theorem containsA_any (a : Option Addr) (n c : Nat) (l : List Axis) (b : Nat) (s : ByteArray) (w : World) (hl : Lst Enc.axis w (· < w.heap.size) a n l) (hn : n ≤ 1000000000000) (hb : w.cell? ⟨b, 0, none⟩ = some (.string s)) :
    Calls Try.prog 28 #[.slice a n c, .func (.func 29) #[] #[.pointer (some ⟨b, 0, none⟩)]] w fun e w' => e = .returned (.bool (twice l s)) ∧ Below w.heap.size w w' := by
  have hc := indexA_any a n c l b s w hl hn hb
  obtain ⟨q, hq⟩ : ∃ q, twice l s = q := ⟨_, rfl⟩
  rw [hq] at hc ⊢
  clear hq hl hb
  replace hc := hide hc
  go_enter Try.func28, Try.ntmps28
  go_wp2_with fail
  refine (unhide hc).mono ?_
  rintro e w1 ⟨⟨v, rfl, hv⟩, hbb⟩
  clear hc
  replace hv := hide hv
  go_wp2_with fail
  go_ret
  exact ⟨ret_bool (unhide hv), hbb⟩
end Go.Proofs.Ythkppilelpaieaa
