/- Lists, strings and rows: small lemmas for all seats. -/
import Derived.Test.YtfbgbbbfpkpfkaaOpen
import Derived.Test.YtfbgbbbfpkpfkaaSt
import Derived.Laws.Concat
import Derived.Laws.StructEq
namespace Go.Proofs.Ytfbgbbbfpkpfkaa
open Go.RowKit

theorem ba_app (l : List UInt8) (s : ByteArray) : (⟨l.toArray⟩ : ByteArray) ++ s = ⟨(l ++ s.data.toList).toArray⟩ := by
  apply ByteArray.ext
  simp [ByteArray.data_append]
theorem ba_size (l : List UInt8) : (⟨l.toArray⟩ : ByteArray).size = l.length := by
  show l.toArray.size = _
  simp
theorem size_i64 (n : Nat) (h : n ≤ 1000000000000) : I64 (n : Int) := ⟨by omega, by omega⟩
theorem str_add {w : World} (l : List UInt8) (s : ByteArray) (h : l.length + s.size ≤ 9223372036854775807) : (Op.stringOp .add ⟨l.toArray⟩ s).run Try.prog w = .ok (.string ⟨(l ++ s.data.toList).toArray⟩) w := by
  rw [run_string_add_sum _ _ _ (by rw [ba_size]; exact h), ba_app]
theorem lst_int {w : World} {S : Nat → Prop} {a : Option Addr} {len : Nat} {l : List Int} (h : Lst Enc.int w S a len l) {k : Nat} (hk : k < len) :
    ∃ b off x, a = some ⟨b, off, none⟩ ∧ S b ∧ l[k]? = some x ∧ I64 x ∧ w.cell? ⟨b, off + k, none⟩ = some (.int .i64 x) := by
  obtain ⟨h1, h2⟩ := h
  obtain ⟨b, off, rfl, hb, hc⟩ := h2 (by omega)
  have hx : l[k]? = some (l[k]'(by omega)) := List.getElem?_eq_getElem (by omega)
  obtain ⟨us, ⟨rfl, hlo, hhi⟩, hu⟩ := hc k _ hx
  exact ⟨b, off, _, rfl, hb, hx, ⟨hlo, hhi⟩, by have := hu 0 _ rfl; simpa [Enc.num, Enc.int] using this⟩
theorem lst_str {w : World} {S : Nat → Prop} {a : Option Addr} {len : Nat} {l : List ByteArray} (h : Lst Enc.str w S a len l) {k : Nat} (hk : k < len) :
    ∃ b off x, a = some ⟨b, off, none⟩ ∧ S b ∧ l[k]? = some x ∧ x.size ≤ maxLen ∧ w.cell? ⟨b, off + k, none⟩ = some (.string x) := by
  obtain ⟨h1, h2⟩ := h
  obtain ⟨b, off, rfl, hb, hc⟩ := h2 (by omega)
  have hx : l[k]? = some (l[k]'(by omega)) := List.getElem?_eq_getElem (by omega)
  obtain ⟨us, ⟨rfl, hlo⟩, hu⟩ := hc k _ hx
  exact ⟨b, off, _, rfl, hb, hx, hlo, by have := hu 0 _ rfl; simpa [Enc.str] using this⟩
theorem add_lists (l m : List UInt8) (h : l.length + m.length ≤ 9223372036854775807) (w : World) : (Op.stringOp .add ⟨l.toArray⟩ ⟨m.toArray⟩).run Try.prog w = .ok (.string ⟨(l ++ m).toArray⟩) w := by
  rw [run_string_add_sum _ _ _ (by rw [ba_size, ba_size]; exact h), ba_app]
theorem grown_set {w : World} (b i : Nat) (v : Value) : w.grownBy (w.setCell ⟨b, i, none⟩ v) (some b) :=
  ⟨rfl, rfl, rfl, by simp [World.setCell], fun k _ hk => Below.heap_setCell _ _ _ _ (fun e => hk (by simp [e]))⟩
theorem grown_refl (w : World) (r : Option Nat) : w.grownBy w r := grown_of_below (Below.refl _ _) r
theorem info_int : (Try.prog.info? 3).map (fun i => (i.zero, i.size, i.bytes)) = some (some (.int .i64 0), 1, 8) := by kernel_rfl
theorem info_str : (Try.prog.info? 9).map (fun i => (i.zero, i.size, i.bytes)) = some (some (.string ⟨#[]⟩), 1, 16) := by kernel_rfl
theorem own_grown {w a b c : World} {g0 : Nat} {row : Option Nat} (h : w.grownBy a (some g0)) (k : a.grownBy b none) (m : b.grownBy c row) (hr : ∀ g, row = some g → w.heap.size ≤ g) : w.grownBy c (some g0) := by
  refine grown_own (grown_own h k (fun g e => by cases e)) m (fun g e => hr g e)
theorem ba_ne {x y : ByteArray} (h : ¬ x = y) : (x == y) = false := by
  cases x with
  | mk a =>
    cases y with
    | mk b =>
      show (a == b) = false
      rw [beq_eq_false_iff_ne]
      exact fun e => h (by rw [e])
theorem ba_eq (x : ByteArray) : (x == x) = true := by
  cases x with
  | mk a =>
    show (a == a) = true
    exact beq_self_eq_true a
theorem ba_take (s : List UInt8) (u : Nat) : (⟨s.toArray⟩ : ByteArray).extract 0 u = ⟨(s.take u).toArray⟩ := by
  apply ByteArray.ext
  rw [ByteArray.data_extract]
  simp
theorem ba_drop (s : List UInt8) (u : Nat) : (⟨s.toArray⟩ : ByteArray).extract u s.length = ⟨(s.drop u).toArray⟩ := by
  apply ByteArray.ext
  rw [ByteArray.data_extract]
  simp
  exact List.take_of_length_le (by simp)
theorem len_zero {α : Type} (l : List α) : ((l.length : Int) == 0) = l.isEmpty := by
  cases l with
  | nil => rfl
  | cons x l => simp; omega
theorem lst_ints {w : World} {S : Nat → Prop} {b T : Nat} {l : List Int} (h : w.heap[b]? = some (.cells (l.map (Value.int .i64)).toArray T (0, 0))) (hl : ∀ x ∈ l, I64 x) (hS : S b) : Lst Enc.int w S (some ⟨b, 0, none⟩) l.length l := by
  refine ⟨rfl, fun _ => ⟨b, 0, rfl, hS, fun i x hx => ⟨[.int .i64 x], ⟨rfl, hl x (List.mem_of_getElem? hx)⟩, fun j u hj => ?_⟩⟩⟩
  cases j with
  | zero =>
    simp at hj
    subst hj
    rw [cell_of_row w b _ _ T (0, 0) h]
    simp [Enc.num, hx]
  | succ j => simp at hj
theorem lst_strs {w : World} {S : Nat → Prop} {b T : Nat} {l : List ByteArray} (h : w.heap[b]? = some (.cells (l.map Value.string).toArray T (0, 0))) (hl : ∀ x ∈ l, x.size ≤ maxLen) (hS : S b) : Lst Enc.str w S (some ⟨b, 0, none⟩) l.length l := by
  refine ⟨rfl, fun _ => ⟨b, 0, rfl, hS, fun i x hx => ⟨[.string x], ⟨rfl, hl x (List.mem_of_getElem? hx)⟩, fun j u hj => ?_⟩⟩⟩
  cases j with
  | zero =>
    simp at hj
    subst hj
    rw [cell_of_row w b _ _ T (0, 0) h]
    simp [Enc.str, hx]
  | succ j => simp at hj
theorem lst_own {w : World} {base n : Nat} {T : TypeId} {a : Option Addr} {c m : Nat} {l : List Int} (h : w.ownsRow base T 1 (.slice a m c) n (l.map (Value.int .i64))) (hl : ∀ x ∈ l, I64 x) : Lst Enc.int w (· < w.heap.size) a m l ∧ m = l.length := by
  have hlen : n = l.length := by have := h.1; simpa using this.symm
  rcases h.2 with ⟨hv, hn⟩ | ⟨g, cap, cur, hv, hb, hg, hrest⟩
  · injection hv with h1 h2 h3
    subst h1; subst h2
    have : l = [] := List.eq_nil_of_length_eq_zero (by omega)
    subst this
    exact ⟨Lst.nil _ _ _ _, rfl⟩
  · injection hv with h1 h2 h3
    subst h1; subst h2
    refine ⟨⟨hlen.symm, fun _ => ⟨g, 0, rfl, (Array.getElem?_eq_some_iff.1 hg).1, fun i x hx => ⟨[.int .i64 x], ⟨rfl, hl x (List.mem_of_getElem? hx)⟩, fun j u hj => ?_⟩⟩⟩, hlen⟩
    cases j with
    | zero =>
      simp at hj
      subst hj
      have := h.cells (g := g) rfl i (.int .i64 x) (by simp [hx])
      simp only [Enc.num, Nat.mul_one, Nat.add_zero, Nat.zero_add]
      unfold Addr.add at this
      by_cases hi : i = 0
      · subst hi; simpa using this
      · rw [if_neg hi] at this; simpa using this
    | succ j => simp at hj
theorem blw_drewN {B : Nat} {a w : World} (h : Below B a w) (n : Nat) : Below B a (w.drewN n) := h.trans ⟨rfl, rfl, rfl, Nat.le_refl _, fun _ _ => rfl⟩
theorem ba_self (s : ByteArray) : (⟨s.data.toList.toArray⟩ : ByteArray) = s := by simp
theorem own_ne_old {w : World} {base : Nat} {e : TypeId} {s : Nat} {v : Value} {n b : Nat} {xs : List Value} (h : w.ownsRow base e s v n xs) (hb : b < base) : some b ≠ v.ownBlock := fun he => by have := (h.lt b he.symm).1; omega
theorem Lst.take {α : Type} {E : Enc α} {w : World} {S : Nat → Prop} {a : Option Addr} {len k : Nat} {l : List α} (h : Lst E w S a len l) (hk : k ≤ len) : Lst E w S a k (l.take k) := by
  have h0 := h.1
  refine ⟨by rw [List.length_take]; omega, fun hpos => ?_⟩
  obtain ⟨b, off, rfl, hb, hc⟩ := h.2 (by omega)
  refine ⟨b, off, rfl, hb, fun i x hx => hc i x ?_⟩
  rw [List.getElem?_take] at hx
  split at hx
  · exact hx
  · cases hx
abbrev vba (x : ByteArray) : Value := .string x
theorem lst_own_vba {w : World} {base n : Nat} {T : TypeId} {v : Value} {l : List ByteArray} (h : w.ownsRow base T 1 v n (l.map vba)) (hl : ∀ x ∈ l, x.size ≤ maxLen) : ∃ a c, v = .slice a l.length c ∧ Lst Enc.str w (fun b => b < w.heap.size ∧ base ≤ b) a l.length l := by
  have hlen : n = l.length := by have := h.1; simpa using this.symm
  rcases h.2 with ⟨hv, hn⟩ | ⟨g, cap, cur, hv, hb, hg, hrest⟩
  · have : l = [] := List.eq_nil_of_length_eq_zero (by omega)
    subst this
    exact ⟨_, _, hv, Lst.nil _ _ _ _⟩
  · refine ⟨_, _, by rw [hv, hlen], rfl, fun _ => ⟨g, 0, rfl, ⟨(Array.getElem?_eq_some_iff.1 hg).1, hb⟩, fun i x hx => ⟨[.string x], ⟨rfl, hl x (List.mem_of_getElem? hx)⟩, fun j u hj => ?_⟩⟩⟩
    subst hv
    cases j with
    | zero =>
      simp at hj
      subst hj
      have := h.cells (g := g) rfl i (.string x) (by simp [hx])
      simp only [Enc.str, Nat.mul_one, Nat.add_zero, Nat.zero_add]
      unfold Addr.add at this
      by_cases hi : i = 0
      · subst hi; simpa using this
      · rw [if_neg hi] at this; simpa using this
    | succ j => simp at hj
theorem ba_dec (x y : ByteArray) : (x.toList == y.toList) = decide (x = y) := by
  rw [← beq_toListBytes]
  by_cases h : x = y
  · subst h; rw [ba_eq]; simp
  · rw [ba_ne h]; simp [h]
theorem ret_bool {a b : Bool} (h : a = b) : Ending.returned (.bool a) = Ending.returned (.bool b) := by rw [h]
theorem Lst.under {α : Type} {E : Enc α} {w w' : World} {a : Option Addr} {len : Nat} {l : List α} (h : Lst E w (fun b => b < w.heap.size) a len l) (hb : Below w.heap.size w w') : Lst E w' (fun b => b < w'.heap.size) a len l :=
  (h.below hb).wide (fun _ h => Nat.lt_of_lt_of_le h hb.size)
theorem Lst.drewN {α : Type} {E : Enc α} {w : World} {a : Option Addr} {len : Nat} {l : List α} (h : Lst E w (fun b => b < w.heap.size) a len l) (m : Nat) : Lst E (w.drewN m) (fun b => b < (w.drewN m).heap.size) a len l :=
  Lst.same (w := w) (w' := w.drewN m) (fun _ _ => rfl) h
theorem Lst.drew {α : Type} {E : Enc α} {w : World} {a : Option Addr} {len : Nat} {l : List α} (h : Lst E w (fun b => b < w.heap.size) a len l) : Lst E w.drew (fun b => b < w.drew.heap.size) a len l := h.drewN 1
theorem cell_under {w w' : World} {a : Addr} {v : Value} (h : w.cell? a = some v) (hb : Below w.heap.size w w') : w'.cell? a = some v := (hb.cell (World.block_lt_of_cell? w a h)).trans h
theorem ba_inj {x y : List UInt8} : ((⟨x.toArray⟩ : ByteArray) = ⟨y.toArray⟩) ↔ x = y := by
  constructor
  · intro h
    injection h with h
    simpa using h
  · rintro rfl; rfl
theorem data_len (s : ByteArray) : s.data.toList.length = s.size := by rw [Array.length_toList]; rfl
theorem Lst.i64 {w : World} {S : Nat → Prop} {a : Option Addr} {len : Nat} {l : List Int} (h : Lst Enc.int w S a len l) : ∀ x ∈ l, I64 x := by
  intro x hx
  obtain ⟨i, hi, e⟩ := List.getElem_of_mem hx
  obtain ⟨b, off, y, _, _, hy, hyi, _⟩ := lst_int h (k := i) (by have := h.1; omega)
  rw [List.getElem?_eq_getElem hi, e] at hy
  injection hy with hy
  rw [hy]
  exact hyi
theorem cell_grown {w w' : World} {x j b : Nat} {v : Value} (h : w.cell? ⟨x, j, none⟩ = some v) (hg : w.grownBy w' (some b)) (hne : x ≠ b) : w'.cell? ⟨x, j, none⟩ = some v :=
  (World.cell?_of_block (a := ⟨x, j, none⟩) (hg.block x (World.block_lt_of_cell? w ⟨x, j, none⟩ h) (by simp; exact hne))).trans h
theorem grown_drewN {w : World} (n : Nat) (r : Option Nat) : w.grownBy (w.drewN n) r := ⟨rfl, rfl, rfl, Nat.le_refl _, fun _ _ _ => rfl⟩
theorem ret_int {a b : Int} (h : a = b) : Ending.returned (.int .i64 a) = Ending.returned (.int .i64 b) := by rw [h]
theorem ba_mid (S : ByteArray) (a n : Nat) : S.extract a (a + n) = ⟨((S.data.toList.drop a).take n).toArray⟩ := by
  apply ByteArray.ext
  rw [ByteArray.data_extract]
  apply Array.toList_inj.1
  simp
theorem ret_str {a b : ByteArray} (h : a = b) : Ending.returned (.string a) = Ending.returned (.string b) := by rw [h]
end Go.Proofs.Ytfbgbbbfpkpfkaa
