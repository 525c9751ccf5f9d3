/- Axes: Same, and rows of axes that are written. -/
import Derived.Test.YthkppilelpaieaaAx16
import Derived.Test.YthkppilelpaieaaOpenA
namespace Go.Proofs.Ythkppilelpaieaa
open Go.RowKit
set_option maxHeartbeats 4000000 in
theorem same_any (a : Option Addr) (n c : Nat) (b : Option Addr) (d : Nat) (l : List Int) (w : World) (h1 : Lst Enc.int w (· < w.heap.size) a n l) (h2 : Lst Enc.int w (· < w.heap.size) b n l) (hn : n ≤ 1000000000000) :
    Calls Try.prog 15 #[.slice a n c, .slice b n d] w fun e w' => e = .returned (.bool true) ∧ Below w.heap.size w w' := by
  replace h1 := hide h1; replace h2 := hide h2
  go_enter Try.func15, Try.ntmps15
  have t0 : ((n : Int) != (n : Int)) = false := by simp
  go_wp2_with fail
  go_loopw [5] (fun v wr => ∃ k : Nat, k ≤ n ∧ v = .int .i64 (k : Int) ∧ Below w.heap.size w wr) (fun v _ => n - (intOf v).toNat)
  case atStart => exact ⟨0, by omega, rfl, Below.refl _ _⟩
  case round =>
    obtain ⟨k, hk, rfl, hbw⟩ := hrel
    obtain ⟨wo, rfl⟩ : ∃ wo : World, wo = wr := ⟨_, rfl⟩
    by_cases hlt : k < n
    · have tk : (k : Int) < (n : Int) := by omega
      obtain ⟨b1, o1, x, rfl, _, hx, _, c1⟩ := lst_int ((unhide h1).under hbw) hlt
      obtain ⟨b2, o2, y, rfl, _, hy, _, c2⟩ := lst_int ((unhide h2).under hbw) hlt
      obtain rfl : x = y := Option.some.inj (hx.symm.trans hy)
      have tx : (x != x) = false := by simp
      clear hx hy
      replace hbw := hide hbw
      go_wp2_with fail
      go_quiet (fail)
      go_wp2_with fail
      go_roundw
      case rel => exact ⟨k + 1, by omega, by go_num, ⟨(unhide hbw).os, (unhide hbw).tape, (unhide hbw).output, (unhide hbw).size, (unhide hbw).block⟩⟩
      case measure => simp [intOf]; omega
    · have hke : k = n := by omega
      subst hke
      replace hbw := hide hbw
      go_wp2_with fail
      go_ret
      exact ⟨rfl, unhide hbw⟩
/-- a row of axes, with the block in which it lies -/
def AxB (W : World) (g : Nat) (l : List Axis) : Prop :=
  ∃ cs : Array Value, W.heap[g]? = some (.cells cs 29 (0, 0)) ∧ ∀ (i : Nat) (x : Axis), l[i]? = some x → x.1.size ≤ maxLen ∧ I64 x.2.1 ∧ I64 x.2.2.1 ∧ I64 x.2.2.2 ∧
    cs[i * 4]? = some (.string x.1) ∧ cs[i * 4 + 1]? = some (.int .i64 x.2.1) ∧ cs[i * 4 + 2]? = some (.int .i64 x.2.2.1) ∧ cs[i * 4 + 3]? = some (.int .i64 x.2.2.2)
theorem AxB.lst {W : World} {g : Nat} {l : List Axis} (h : AxB W g l) : Lst Enc.axis W (· < W.heap.size) (some ⟨g, 0, none⟩) l.length l := by
  obtain ⟨cs, hg, hc⟩ := h
  refine ⟨rfl, fun _ => ⟨g, 0, rfl, (Array.getElem?_eq_some_iff.1 hg).1, fun i x hx => ?_⟩⟩
  obtain ⟨i0, i1, i2, i3, c0, c1, c2, c3⟩ := hc i x hx
  obtain ⟨s, lo, us, hi⟩ := x
  refine ⟨[.string s, .int .i64 lo, .int .i64 us, .int .i64 hi], axis_rep i0 i1 i2 i3, fun j u hj => ?_⟩
  have hjl := (List.getElem?_eq_some_iff.1 hj).1
  have e4 : Enc.axis.n = 4 := rfl
  rw [cell_of_row _ _ _ _ _ _ hg, e4, Nat.zero_add]
  simp at hjl
  obtain rfl | rfl | rfl | rfl : j = 0 ∨ j = 1 ∨ j = 2 ∨ j = 3 := by omega
  · cases hj; exact c0
  · cases hj; exact c1
  · cases hj; exact c2
  · cases hj; exact c3
theorem AxB.of {W : World} {S : Nat → Prop} {g n : Nat} {l : List Axis} {cs : Array Value} (hl : Lst Enc.axis W S (some ⟨g, 0, none⟩) n l) (hg : W.heap[g]? = some (.cells cs 29 (0, 0))) : AxB W g l := by
  refine ⟨cs, hg, fun i x hx => ?_⟩
  have hi := (List.getElem?_eq_some_iff.1 hx).1
  have hn := hl.1
  obtain ⟨b, off, t, e, _, ht, i0, i1, i2, i3, c0, c1, c2, c3⟩ := lst_axis hl (show i < n by omega)
  cases e
  obtain rfl : x = t := Option.some.inj (hx.symm.trans ht)
  rw [cell_of_row _ _ _ _ _ _ hg, Nat.zero_add] at c0 c1 c2 c3
  exact ⟨i0, i1, i2, i3, c0, c1, c2, c3⟩
theorem AxB.kept {W W' : World} {g : Nat} {l : List Axis} (h : AxB W g l) (hb : Below W.heap.size W W') : AxB W' g l := by
  obtain ⟨cs, hg, hc⟩ := h
  exact ⟨cs, (hb.block g (Array.getElem?_eq_some_iff.1 hg).1).trans hg, hc⟩
theorem AxB.lt {W : World} {g : Nat} {l : List Axis} (h : AxB W g l) : g < W.heap.size := by
  obtain ⟨cs, hg, _⟩ := h
  exact (Array.getElem?_eq_some_iff.1 hg).1
theorem AxB.cell {W : World} {g i : Nat} {l : List Axis} {x : Axis} (h : AxB W g l) (hx : l[i]? = some x) :
    W.cell? ⟨g, i * 4, none⟩ = some (.string x.1) ∧ W.cell? ⟨g, i * 4 + 1, none⟩ = some (.int .i64 x.2.1) ∧ W.cell? ⟨g, i * 4 + 2, none⟩ = some (.int .i64 x.2.2.1) ∧ W.cell? ⟨g, i * 4 + 3, none⟩ = some (.int .i64 x.2.2.2) ∧ ∀ o, W.frozen? ⟨g, o, none⟩ = false := by
  obtain ⟨cs, hg, hc⟩ := h
  obtain ⟨i0, i1, i2, i3, c0, c1, c2, c3⟩ := hc i x hx
  exact ⟨(cell_of_row _ _ _ _ _ _ hg).trans c0, (cell_of_row _ _ _ _ _ _ hg).trans c1, (cell_of_row _ _ _ _ _ _ hg).trans c2, (cell_of_row _ _ _ _ _ _ hg).trans c3, fun o => by simp [World.frozen?, hg]⟩
/-- one field is written -/
theorem AxB.put {W : World} {g i f : Nat} {l : List Axis} {x : Axis} {v : Value} (h : AxB W g l) (hx : l[i]? = some x) (y : Axis) (hf : f < 4) (hv : ([.string y.1, .int .i64 y.2.1, .int .i64 y.2.2.1, .int .i64 y.2.2.2] : List Value)[f]? = some v)
    (hs : ∀ j, j < 4 → j ≠ f → ([.string y.1, .int .i64 y.2.1, .int .i64 y.2.2.1, .int .i64 y.2.2.2] : List Value)[j]? = ([.string x.1, .int .i64 x.2.1, .int .i64 x.2.2.1, .int .i64 x.2.2.2] : List Value)[j]?)
    (q0 : y.1.size ≤ maxLen) (q1 : I64 y.2.1) (q2 : I64 y.2.2.1) (q3 : I64 y.2.2.2) : AxB (W.setCell ⟨g, i * 4 + f, none⟩ v) g (l.set i y) := by
  obtain ⟨cs, hg, hc⟩ := h
  obtain ⟨_, _, _, _, x0, x1, x2, x3⟩ := hc i x hx
  have hsz : i * 4 + 3 < cs.size := (Array.getElem?_eq_some_iff.1 x3).1
  have hil := (List.getElem?_eq_some_iff.1 hx).1
  have hat : ∀ j, j < 4 → cs[i * 4 + j]? = ([.string x.1, .int .i64 x.2.1, .int .i64 x.2.2.1, .int .i64 x.2.2.2] : List Value)[j]? := fun j hj => by
    obtain rfl | rfl | rfl | rfl : j = 0 ∨ j = 1 ∨ j = 2 ∨ j = 3 := by omega
    · exact x0
    · exact x1
    · exact x2
    · exact x3
  have hset : ∀ k j, j < 4 → (cs.setIfInBounds (i * 4 + f) v)[k * 4 + j]? = if k = i then ([.string y.1, .int .i64 y.2.1, .int .i64 y.2.2.1, .int .i64 y.2.2.2] : List Value)[j]? else cs[k * 4 + j]? := fun k j hj => by
    rw [Array.getElem?_setIfInBounds]
    by_cases hk : k = i
    · subst hk
      rw [if_pos rfl]
      by_cases hjf : j = f
      · subst hjf
        rw [if_pos rfl, if_pos (by omega), hv]
      · rw [if_neg (by omega), hat j hj, hs j hj hjf]
    · rw [if_neg (by omega), if_neg hk]
  refine ⟨_, heap_set hg v, fun k z hz => ?_⟩
  by_cases hk : k = i
  · subst hk
    rw [List.getElem?_set_self hil] at hz
    obtain rfl : y = z := Option.some.inj hz
    refine ⟨q0, q1, q2, q3, ?_, ?_, ?_, ?_⟩
    · exact (hset k 0 (by omega)).trans (if_pos rfl)
    · rw [hset k 1 (by omega), if_pos rfl]; rfl
    · rw [hset k 2 (by omega), if_pos rfl]; rfl
    · rw [hset k 3 (by omega), if_pos rfl]; rfl
  · rw [List.getElem?_set_ne (fun e => hk e.symm)] at hz
    obtain ⟨i0, i1, i2, i3, c0, c1, c2, c3⟩ := hc k z hz
    refine ⟨i0, i1, i2, i3, ?_, ?_, ?_, ?_⟩
    · exact ((hset k 0 (by omega)).trans (if_neg hk)).trans c0
    · rw [hset k 1 (by omega), if_neg hk]; exact c1
    · rw [hset k 2 (by omega), if_neg hk]; exact c2
    · rw [hset k 3 (by omega), if_neg hk]; exact c3
theorem arr3_open {w : World} {S : Nat → Prop} {k : IntKind} {lo hi : Int} {cs : Array Value} {l : List Int} (h : (Enc.arr 3 (Enc.num k lo hi)).rep w S cs.toList l) :
    ∃ a b c : Int, lo ≤ a ∧ a ≤ hi ∧ lo ≤ b ∧ b ≤ hi ∧ lo ≤ c ∧ c ≤ hi ∧ cs = #[.int k a, .int k b, .int k c] := by
  obtain ⟨h1, h2, h3⟩ := h
  match l, h1 with
  | [a, b, c], _ =>
    obtain ⟨e1, l1, l2⟩ := h3 0 a rfl
    obtain ⟨e2, l3, l4⟩ := h3 1 b rfl
    obtain ⟨e3, l5, l6⟩ := h3 2 c rfl
    refine ⟨a, b, c, l1, l2, l3, l4, l5, l6, ?_⟩
    apply Array.toList_inj.1
    have hn : (Enc.num k lo hi).n = 1 := rfl
    rw [hn] at e1 e2 e3 h2
    match hcs : cs.toList, h2 with
    | [u, v, x], _ =>
      rw [hcs] at e1 e2 e3
      simp at e1 e2 e3
      rw [e1, e2, e3]
theorem AxB.num {W : World} {g i : Nat} {l : List Axis} (h : AxB W g l) (hi : i < l.length) (v : Int) (hv : I64 v) (f : Nat) (hf : f = 1 ∨ f = 2 ∨ f = 3) : ∃ l3 : List Axis, l3.length = l.length ∧ AxB (W.setCell ⟨g, i * 4 + f, none⟩ (.int .i64 v)) g l3 := by
  have hx : l[i]? = some (l[i]'hi) := List.getElem?_eq_getElem _
  obtain ⟨i0, i1, i2, i3, _⟩ := (show ∃ cs, _ from h).choose_spec.2 i _ hx
  rcases hf with rfl | rfl | rfl
  · exact ⟨_, List.length_set, h.put hx ((l[i]'hi).1, v, (l[i]'hi).2.2.1, (l[i]'hi).2.2.2) (by omega) rfl (fun j hj hne => match j, hj, hne with | 0, _, _ => rfl | 1, _, h => absurd rfl h | 2, _, _ => rfl | 3, _, _ => rfl) i0 hv i2 i3⟩
  · exact ⟨_, List.length_set, h.put hx ((l[i]'hi).1, (l[i]'hi).2.1, v, (l[i]'hi).2.2.2) (by omega) rfl (fun j hj hne => match j, hj, hne with | 0, _, _ => rfl | 1, _, _ => rfl | 2, _, h => absurd rfl h | 3, _, _ => rfl) i0 i1 hv i3⟩
  · exact ⟨_, List.length_set, h.put hx ((l[i]'hi).1, (l[i]'hi).2.1, (l[i]'hi).2.2.1, v) (by omega) rfl (fun j hj hne => match j, hj, hne with | 0, _, _ => rfl | 1, _, _ => rfl | 2, _, _ => rfl | 3, _, h => absurd rfl h) i0 i1 i2 hv⟩
theorem AxB.str {W : World} {g i : Nat} {l : List Axis} (h : AxB W g l) (hi : i < l.length) (s : ByteArray) (hs : s.size ≤ maxLen) : ∃ l3 : List Axis, l3.length = l.length ∧ AxB (W.setCell ⟨g, i * 4, none⟩ (.string s)) g l3 := by
  have hx : l[i]? = some (l[i]'hi) := List.getElem?_eq_getElem _
  obtain ⟨i0, i1, i2, i3, _⟩ := (show ∃ cs, _ from h).choose_spec.2 i _ hx
  exact ⟨_, List.length_set, h.put (f := 0) hx (s, (l[i]'hi).2.1, (l[i]'hi).2.2.1, (l[i]'hi).2.2.2) (by omega) rfl (fun j hj hne => match j, hj, hne with | 0, _, h => absurd rfl h | 1, _, _ => rfl | 2, _, _ => rfl | 3, _, _ => rfl) hs i1 i2 i3⟩
theorem rem_nat {c z : Int} {m : Nat} (hz : IntKind.u64.wrap c = z) (hm : 1 ≤ m) : ∃ i : Nat, Int.tmod z (m : Int) = (i : Int) ∧ i < m ∧ 0 ≤ z ∧ z ≤ 18446744073709551615 := by
  rw [IntKind.wrap_u64] at hz
  have h0 : 0 ≤ z ∧ z ≤ 18446744073709551615 := by omega
  rw [Int.tmod_eq_emod_of_nonneg h0.1]
  have h1 := Int.emod_nonneg z (show (m : Int) ≠ 0 by omega)
  have h2 := Int.emod_lt_of_pos z (show (0 : Int) < (m : Int) by omega)
  exact ⟨(z % (m : Int)).toNat, by omega, by omega, h0⟩
theorem odd_cell {W : World} {b v : Nat} {T : TypeId} (h : W.heap[b]? = some (.cells #[.string ⟨#[]⟩, .string ⟨#[119, 103, 104, 116]⟩, .string ⟨#[87, 103, 104, 116]⟩, .string ⟨#[97, 98, 99, 100, 101]⟩, .string ⟨#[122]⟩] T (0, 0))) (hv : v < 5) : ∃ s : ByteArray, s.size ≤ 5 ∧ W.cell? ⟨b, v, none⟩ = some (.string s) := by
  have hc : ∀ k, W.cell? ⟨b, k, none⟩ = _ := fun k => cell_of_row _ _ k _ _ _ h
  obtain rfl | rfl | rfl | rfl | rfl : v = 0 ∨ v = 1 ∨ v = 2 ∨ v = 3 ∨ v = 4 := by omega
  · exact ⟨_, by decide, (hc 0).trans rfl⟩
  · exact ⟨_, by decide, (hc 1).trans rfl⟩
  · exact ⟨_, by decide, (hc 2).trans rfl⟩
  · exact ⟨_, by decide, (hc 3).trans rfl⟩
  · exact ⟨_, by decide, (hc 4).trans rfl⟩
theorem normS_small {l : List Axis} {u N : List Int} (hl : l.length ≤ 5) (hN : (normS l u).1 = N) : N.length ≤ 1000000 := by
  rw [← hN]
  unfold normS
  split
  · split
    · show (normL l u).length ≤ 1000000
      unfold normL
      rw [List.length_zipWith]
      omega
    · exact Nat.zero_le _
  · exact Nat.zero_le _
theorem zeros_row (n : Nat) : ((List.replicate n (0 : Int)).map (Value.int .i64)).toArray = madeCells #[Value.int .i64 0] n := by
  apply Array.toList_inj.1
  rw [toList_madeCells_one, List.map_replicate]
theorem set_ints (zs : List Int) (j : Nat) (y : Int) : ((zs.map (Value.int .i64)).toArray.setIfInBounds j (.int .i64 y)) = ((zs.set j y).map (Value.int .i64)).toArray := by
  simp
end Go.Proofs.Ythkppilelpaieaa
