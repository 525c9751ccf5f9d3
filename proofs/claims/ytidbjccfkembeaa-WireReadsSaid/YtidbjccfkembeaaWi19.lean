/- The methods bytes and same of the laws' values. -/
import Derived.Test.YtidbjccfkembeaaWi18
namespace Go.Proofs.Ytidbjccfkembeaa
open Go.RowKit
attribute [local go_sem ↓] Go.wp_at_zero Go.wp_at_succ

theorem Lst.take {α : Type} {E : Enc α} {w : World} {S : Nat → Prop} {a : Option Addr} {len k : Nat} {l : List α} (h : Lst E w S a len l) (hk : k ≤ len) : Lst E w S a k (l.take k) := by
  have h0 := h.1
  refine ⟨by rw [List.length_take]; omega, fun hpos => ?_⟩
  obtain ⟨b, off, rfl, hb, hc⟩ := h.2 (by omega)
  refine ⟨b, off, rfl, hb, fun i x hx => hc i x ?_⟩
  rw [List.getElem?_take] at hx
  split at hx
  · exact hx
  · cases hx
theorem take20 {α : Type} {l : List α} {len : Nat} (h : l.length = len) : l.take (min (len : Int) 20).toNat = l.take 20 := by
  have e : (min (len : Int) 20).toNat = min 20 l.length := by omega
  rw [e]
  exact (List.take_eq_take_min ..).symm
/-- a value of the laws, in the world w -/
structure Val (w : World) (cs : Array Value) (k n : Int) (s : ByteArray) (l : List Int) (t : List ByteArray) : Prop where
  hk : 0 ≤ k ∧ k ≤ 255
  hn : I64 n
  hs : s.size ≤ maxLen
  ex : ∃ a1 n1 c1 a2 n2 c2, cs = #[.int .u8 k, .int .i64 n, .string s, .slice a1 n1 c1, .slice a2 n2 c2] ∧ n1 ≤ c1 ∧ c1 ≤ maxLen ∧ n2 ≤ c2 ∧ c2 ≤ maxLen ∧ Lst Enc.int w (· < w.heap.size) a1 n1 l ∧ Lst Enc.str w (· < w.heap.size) a2 n2 t
theorem Val.below {w w' : World} {cs : Array Value} {k n : Int} {s : ByteArray} {l : List Int} {t : List ByteArray} (h : Val w cs k n s l t) (hb : Below w.heap.size w w') : Val w' cs k n s l t := by
  obtain ⟨h1, h2, h3, a1, n1, c1, a2, n2, c2, e, q1, q2, q3, q4, l1, l2⟩ := h
  exact ⟨h1, h2, h3, a1, n1, c1, a2, n2, c2, e, q1, q2, q3, q4, (l1.below hb).wide (fun b h => Nat.lt_of_lt_of_le h hb.size), (l2.below hb).wide (fun b h => Nat.lt_of_lt_of_le h hb.size)⟩
/-- the serialization of a value by a kind -/
def serV (q : Int) (n : Int) (s : ByteArray) (l : List Int) (t : List ByteArray) : List UInt8 :=
  if q % 4 = 0 then Wi.int n else if q % 4 = 1 then Wi.btxt (cut1 s) else if q % 4 = 2 then Wi.ints (l.take 20) else Wi.btxts (cutL t)
theorem ser0 {q n : Int} {s : ByteArray} {l : List Int} {t : List ByteArray} (h : q % 4 = 0) : serV q n s l t = Wi.int n := if_pos h
theorem ser1 {q n : Int} {s : ByteArray} {l : List Int} {t : List ByteArray} (h : q % 4 = 1) : serV q n s l t = Wi.btxt (cut1 s) := by unfold serV; rw [if_neg (by omega), if_pos h]
theorem ser2 {q n : Int} {s : ByteArray} {l : List Int} {t : List ByteArray} (h : q % 4 = 2) : serV q n s l t = Wi.ints (l.take 20) := by unfold serV; rw [if_neg (by omega), if_neg (by omega), if_pos h]
theorem ser3 {q n : Int} {s : ByteArray} {l : List Int} {t : List ByteArray} (h : q % 4 = 3) : serV q n s l t = Wi.btxts (cutL t) := by unfold serV; rw [if_neg (by omega), if_neg (by omega), if_neg (by omega)]
theorem lst_own_vba {w : World} {base n : Nat} {T : TypeId} {v : Value} {l : List ByteArray} (h : w.ownsRow base T 1 v n (l.map vba)) (hl : ∀ x ∈ l, x.size ≤ maxLen) : ∃ a c, v = .slice a l.length c ∧ Lst Enc.str w (fun b => b < w.heap.size ∧ base ≤ b) a l.length l := by
  have hlen : n = l.length := by have := h.1; simpa using this.symm
  rcases h.2 with ⟨hv, hn⟩ | ⟨g, cap, cur, hv, hb, hg, hrest⟩
  · have : l = [] := List.eq_nil_of_length_eq_zero (by omega)
    subst this
    exact ⟨_, _, hv, Lst.nil _ _ _ _⟩
  · refine ⟨_, _, by rw [hv, hlen], rfl, fun _ => ⟨g, 0, rfl, ⟨(Array.getElem?_eq_some_iff.1 hg).1, hb⟩, fun i x hx => ⟨[.string x], ⟨rfl, hl x (List.mem_of_getElem? hx)⟩, fun j u hj => ?_⟩⟩⟩
    subst hv
    cases j with
    | zero =>
      simp at hj
      subst hj
      have := h.cells (g := g) rfl i (.string x) (by simp [hx])
      simp only [Enc.str, Nat.mul_one, Nat.add_zero, Nat.zero_add]
      unfold Addr.add at this
      by_cases hi : i = 0
      · subst hi; simpa using this
      · rw [if_neg hi] at this; simpa using this
    | succ j => simp at hj
theorem cutL_size (t : List ByteArray) : ∀ x ∈ cutL t, x.size ≤ 100 := by
  intro x hx
  obtain ⟨y, _, rfl⟩ := List.mem_map.1 hx
  exact cut1_size y
theorem cutL_len (t : List ByteArray) : (cutL t).length ≤ 20 := by
  unfold cutL
  rw [List.length_map, List.length_take]
  omega
set_option maxRecDepth 100000 in
set_option maxHeartbeats 2000000 in
theorem bytes_any (cs : Array Value) (k n : Int) (s : ByteArray) (l : List Int) (t : List ByteArray) (q : Int) (w : World) (hv : Val w cs k n s l t) (hq : 0 ≤ q ∧ q ≤ 255) :
    Calls Try.prog 36 #[.agg cs, .int .u8 q] w fun e w' => e = .returned (.string ⟨(serV q n s l t).toArray⟩) ∧ Below w.heap.size w w' := by
  obtain ⟨hk, hn, hs, a1, n1, c1, a2, n2, c2, rfl, q1, q2, q3, q4, l1, l2⟩ := hv
  unfold maxLen at hs q2 q4
  have hx := cut1_size s
  unfold cut1 at hx
  have m1 : (0 : Int) ≤ min (s.size : Int) 100 := by omega
  have m2 : min (s.size : Int) 100 ≤ (s.size : Int) := by omega
  have m3 : (0 : Int) ≤ min (n1 : Int) 20 := by omega
  have m4 : min (n1 : Int) 20 ≤ (n1 : Int) := by omega
  have hbel : Below w.heap.size w (w.alloc (Obj.cells #[.int .u8 k, .int .i64 n, .string s, .slice a1 n1 c1, .slice a2 n2 c2] 45)) := (Below.refl _ _).alloc (Nat.le_refl _) _
  have hsz : w.heap.size ≤ (w.alloc (Obj.cells #[.int .u8 k, .int .i64 n, .string s, .slice a1 n1 c1, .slice a2 n2 c2] 45)).heap.size := hbel.size
  have l1' := ((l1.below hbel).wide (fun b h => Nat.lt_of_lt_of_le h hbel.size)).take (k := (min (n1 : Int) 20).toNat) (by omega)
  rw [take20 l1.1] at l1'
  have l2' := (l2.below hbel).wide (fun b h => Nat.lt_of_lt_of_le h hbel.size)
  replace l1' := hide l1'
  replace l2' := hide l2'
  clear l1 l2
  replace hbel := hide hbel
  replace hsz := hide hsz
  obtain h | h | h | h : q % 4 = 0 ∨ q % 4 = 1 ∨ q % 4 = 2 ∨ q % 4 = 3 := by omega
  · have e := hide (ser0 (q := q) (n := n) (s := s) (l := l) (t := t) h)
    go_enter Try.func36, Try.ntmps36
    go_wp2_with fail
    refine (wint_any n _ hn).mono ?_
    rintro e1 w1 ⟨rfl, hb1⟩
    go_wp2_with fail
    go_ret
    rw [unhide e]
    exact ⟨rfl, (unhide hbel).trans (hb1.mono (unhide hsz))⟩
  · have e := hide (ser1 (q := q) (n := n) (s := s) (l := l) (t := t) h)
    go_enter Try.func36, Try.ntmps36
    go_wp2_with fail
    refine (wtextb_any _ _ (by omega)).mono ?_
    rintro e1 w1 ⟨rfl, hb1⟩
    go_wp2_with fail
    go_ret
    rw [unhide e]
    exact ⟨rfl, (unhide hbel).trans (hb1.mono (unhide hsz))⟩
  · have e := hide (ser2 (q := q) (n := n) (s := s) (l := l) (t := t) h)
    go_enter Try.func36, Try.ntmps36
    go_wp2_with fail
    refine (wints_any _ _ _ _ _ (unhide l1') (by omega)).mono ?_
    rintro e1 w1 ⟨rfl, hb1⟩
    go_wp2_with fail
    go_ret
    rw [unhide e]
    exact ⟨rfl, (unhide hbel).trans (hb1.mono (unhide hsz))⟩
  · have e := hide (ser3 (q := q) (n := n) (s := s) (l := l) (t := t) h)
    go_enter Try.func36, Try.ntmps36
    go_wp2_with fail
    refine (cut_any _ _ _ _ _ (unhide l2') (by unfold maxLen; omega)).mono ?_
    rintro e1 w1 ⟨v, rfl, hown, hb1⟩
    obtain ⟨a, c, rfl, hl⟩ := lst_own_vba hown (fun x hx => Nat.le_trans (cutL_size t x hx) (by decide))
    have hl' := hl.wide (S' := fun b => b < w1.heap.size) (fun b h => h.1)
    have hlen := cutL_len t
    clear hl hown
    go_wp2_with fail
    refine (wtexts_any _ _ _ _ _ hl' (by omega) (fun x hx => Nat.le_trans (cutL_size t x hx) (by omega))).mono ?_
    rintro e2 w2 ⟨rfl, hb2⟩
    go_wp2_with fail
    go_ret
    rw [unhide e]
    have hb1' := (unhide hbel).trans (hb1.mono (unhide hsz))
    exact ⟨rfl, hb1'.trans (hb2.mono hb1'.size)⟩
end Go.Proofs.Ytidbjccfkembeaa
