/- Merged: XSb0 XSb1 XSb2 XSb3 XSb4 XSb5 XSb6 XSb7 XSb8 XSb9 XSbP XSbR -/
import Derived.Test.YtbodidhggdggmaaLst
import Derived.Test.YtbodidhggdggmaaPlain
import Derived.Lib.AppendZeros
import Derived.Deep.LoopGhost
-- @@XSb0
/- Lookups: what Match computes, in plain Lean; how lookups lie in memory. -/
namespace Go.Proofs.Ytbodidhggdggmaa
open Go.RowKit

/-- a substitution: Before, From, After, To -/
abbrev Sub := List Int × (List Int × (List Int × Int))
abbrev Enc.sub : Enc Sub := Enc.pair (Enc.list Enc.int) (Enc.pair (Enc.list Enc.int) (Enc.pair (Enc.list Enc.int) Enc.int))
abbrev Enc.lk : Enc (List Sub) := Enc.list Enc.sub
/-- l stands in g from i on -/
def standsS (l g : List Int) (i : Int) : Bool := decide (0 ≤ i ∧ i + l.length ≤ g.length ∧ ∀ k, k < l.length → g[i.toNat + k]? = l[k]?)
def subAt (s : Sub) (g : List Int) (i : Int) : Bool := decide (0 < s.2.1.length) && standsS s.2.1 g i && standsS s.1 g (i - s.1.length) && standsS s.2.2.1 g (i + s.2.1.length)
def findSub (g : List Int) (i : Int) : List Sub → Nat → Int
  | [], _ => -1
  | s :: x, k => if subAt s g i then k else findSub g i x (k + 1)
def matchS (x : List Sub) (g : List Int) (i : Int) : Int := if 0 ≤ i ∧ i < g.length then findSub g i x 0 else -1
theorem findSub_skip (g : List Int) (i : Int) (x : List Sub) : ∀ (j k : Nat), j ≤ x.length → (∀ m s, m < j → x[m]? = some s → subAt s g i = false) → findSub g i x k = findSub g i (x.drop j) (k + j) := by
  intro j
  induction j generalizing x with
  | zero => intro k _ _; simp
  | succ j ih =>
    intro k hj h
    cases x with
    | nil => simp at hj
    | cons s x =>
      have h0 := h 0 s (by omega) rfl
      rw [findSub, if_neg (by rw [h0]; simp), ih x (k + 1) (by simpa using hj) (fun m t hm ht => h (m + 1) t (by omega) (by simpa using ht)), List.drop_succ_cons, show k + 1 + j = k + (j + 1) by omega]
theorem matchS_out {x : List Sub} {g : List Int} {i : Int} (h : ¬ (0 ≤ i ∧ i < g.length)) : matchS x g i = -1 := if_neg h
theorem matchS_none {x : List Sub} {g : List Int} {i : Int} (h : ∀ m s, m < x.length → x[m]? = some s → subAt s g i = false) : matchS x g i = -1 := by
  unfold matchS
  split
  · rw [findSub_skip g i x x.length 0 (Nat.le_refl _) h, List.drop_length]
    rfl
  · rfl
theorem matchS_some {x : List Sub} {g : List Int} {i : Int} (hi : 0 ≤ i ∧ i < g.length) {k : Nat} {s : Sub} (hs : x[k]? = some s) (h : ∀ m s, m < k → x[m]? = some s → subAt s g i = false) (ht : subAt s g i = true) : matchS x g i = k := by
  obtain ⟨hk, he⟩ := List.getElem?_eq_some_iff.1 hs
  unfold matchS
  rw [if_pos hi, findSub_skip g i x k 0 (Nat.le_of_lt hk) h, List.drop_eq_getElem_cons hk, findSub, he, if_pos ht]
  simp
theorem matchS_inv {x : List Sub} {g : List Int} {i : Int} : matchS x g i = -1 ∨ ∃ (k : Nat) (s : Sub), matchS x g i = k ∧ x[k]? = some s ∧ subAt s g i = true ∧ 0 ≤ i ∧ i < g.length := by
  unfold matchS
  split
  · rename_i hi
    have : ∀ (y : List Sub) (j : Nat), findSub g i y j = -1 ∨ ∃ (k : Nat) (s : Sub), findSub g i y j = ((j + k : Nat) : Int) ∧ y[k]? = some s ∧ subAt s g i = true := by
      intro y
      induction y with
      | nil => intro j; exact .inl rfl
      | cons s y ih =>
        intro j
        by_cases hs : subAt s g i = true
        · exact .inr ⟨0, s, by rw [findSub, if_pos hs]; rfl, rfl, hs⟩
        · rw [findSub, if_neg hs]
          rcases ih (j + 1) with h | ⟨k, t, h1, h2, h3⟩
          · exact .inl h
          · exact .inr ⟨k + 1, t, by rw [h1]; omega, by simpa using h2, h3⟩
    rcases this x 0 with h | ⟨k, s, h1, h2, h3⟩
    · exact .inl h
    · exact .inr ⟨k, s, by rw [h1, Nat.zero_add], h2, h3, hi.1, hi.2⟩
  · exact .inl rfl

/-- lookups with small lists -/
def Small (x : List Sub) : Prop := x.length ≤ 1000 ∧ ∀ s ∈ x, s.1.length ≤ 1000 ∧ s.2.1.length ≤ 1000 ∧ s.2.2.1.length ≤ 1000

theorem lst_list {α : Type} {E : Enc α} {w : World} {S : Nat → Prop} {a : Option Addr} {len : Nat} {l : List (List α)} (h : Lst (Enc.list E) w S a len l) {k : Nat} (hk : k < len) :
    ∃ b off x a' len' cap', a = some ⟨b, off, none⟩ ∧ S b ∧ l[k]? = some x ∧ len' ≤ cap' ∧ cap' ≤ maxLen ∧ Lst E w S a' len' x ∧ w.cell? ⟨b, off + k, none⟩ = some (.slice a' len' cap') := by
  obtain ⟨h1, h2⟩ := h
  obtain ⟨b, off, rfl, hb, hc⟩ := h2 (by omega)
  have hx : l[k]? = some (l[k]'(by omega)) := List.getElem?_eq_getElem _
  obtain ⟨us, ⟨a', len', cap', rfl, h3, h4, h5⟩, hu⟩ := hc k _ hx
  have := hu 0 _ rfl
  simp [Enc.list] at this
  exact ⟨b, off, _, a', len', cap', rfl, hb, hx, h3, h4, h5, this⟩
theorem lst_sub {w : World} {S : Nat → Prop} {a : Option Addr} {len : Nat} {l : List Sub} (h : Lst Enc.sub w S a len l) {k : Nat} (hk : k < len) :
    ∃ b off s a1 n1 c1 a2 n2 c2 a3 n3 c3, a = some ⟨b, off, none⟩ ∧ S b ∧ l[k]? = some s ∧ (n1 ≤ c1 ∧ c1 ≤ maxLen ∧ Lst Enc.int w S a1 n1 s.1) ∧ (n2 ≤ c2 ∧ c2 ≤ maxLen ∧ Lst Enc.int w S a2 n2 s.2.1) ∧ (n3 ≤ c3 ∧ c3 ≤ maxLen ∧ Lst Enc.int w S a3 n3 s.2.2.1) ∧ I64 s.2.2.2 ∧
      w.cell? ⟨b, off + k * 4, none⟩ = some (.slice a1 n1 c1) ∧ w.cell? ⟨b, off + k * 4 + 1, none⟩ = some (.slice a2 n2 c2) ∧ w.cell? ⟨b, off + k * 4 + 2, none⟩ = some (.slice a3 n3 c3) ∧ w.cell? ⟨b, off + k * 4 + 3, none⟩ = some (.int .i64 s.2.2.2) := by
  obtain ⟨h1, h2⟩ := h
  obtain ⟨b, off, rfl, hb, hc⟩ := h2 (by omega)
  have hx : l[k]? = some (l[k]'(by omega)) := List.getElem?_eq_getElem _
  obtain ⟨us, ⟨u1, v1, rfl, ⟨a1, n1, c1, rfl, p1⟩, u2, v2, rfl, ⟨a2, n2, c2, rfl, p2⟩, u3, v3, rfl, ⟨a3, n3, c3, rfl, p3⟩, rfl, hi⟩, hu⟩ := hc k _ hx
  exact ⟨b, off, _, a1, n1, c1, a2, n2, c2, a3, n3, c3, rfl, hb, hx, p1, p2, p3, hi, hu 0 _ rfl, hu 1 _ rfl, hu 2 _ rfl, hu 3 _ rfl⟩
/-- the cells of a substitution -/
theorem sub_rep {w : World} {S : Nat → Prop} {us : List Value} {s : Sub} (h : Enc.sub.rep w S us s) : ∃ a1 n1 c1 a2 n2 c2 a3 n3 c3, us = [.slice a1 n1 c1, .slice a2 n2 c2, .slice a3 n3 c3, .int .i64 s.2.2.2] ∧ (n1 ≤ c1 ∧ c1 ≤ maxLen ∧ Lst Enc.int w S a1 n1 s.1) ∧ (n2 ≤ c2 ∧ c2 ≤ maxLen ∧ Lst Enc.int w S a2 n2 s.2.1) ∧ (n3 ≤ c3 ∧ c3 ≤ maxLen ∧ Lst Enc.int w S a3 n3 s.2.2.1) ∧ I64 s.2.2.2 := by
  obtain ⟨u1, v1, rfl, ⟨a1, n1, c1, rfl, p1⟩, u2, v2, rfl, ⟨a2, n2, c2, rfl, p2⟩, u3, v3, rfl, ⟨a3, n3, c3, rfl, p3⟩, rfl, hi⟩ := h
  exact ⟨a1, n1, c1, a2, n2, c2, a3, n3, c3, rfl, p1, p2, p3, hi⟩
end Go.Proofs.Ytbodidhggdggmaa
-- @@XSb1
/- Lookups: the small functions. -/
namespace Go.Proofs.Ytbodidhggdggmaa
open Go.RowKit

theorem mod_any (n m : Int) (w : World) (hm : 1 ≤ m) (hm2 : m ≤ 4611686018427387904) :
    Calls Try.prog 36 #[.int .i64 n, .int .i64 m] w fun e w' => e = .returned (.int .i64 (n % m)) ∧ w' = w := by
  go_enter Try.func36, Try.ntmps36
  go_wp2
  go_ret
  exact ⟨by simp [mod_plain n m hm hm2], rfl⟩

/-- A draw of numbers: a struct in block b, whose list reads nothing outside S. -/
def DrawAt (w : World) (b : Nat) (S : Nat → Prop) : Prop :=
  ∃ (a : Option Addr) (len cap k : Nat) (l : List Int), w.heap[b]? = some (.cells #[.slice a len cap, .int .i64 (k : Int)] 76 (0, 0)) ∧ k ≤ len ∧ len ≤ maxLen ∧ Lst Enc.int w S a len l ∧ ¬ S b

theorem heap_set {w : World} {b off : Nat} {t : TypeId} {cs : Array Value} (h : w.heap[b]? = some (.cells cs t (0, 0))) (u : Value) : (w.setCell ⟨b, off, none⟩ u).heap[b]? = some (.cells (cs.setIfInBounds off u) t (0, 0)) := by
  simp [World.setCell, Array.getElem?_modify, h]

theorem DrawAt.same {w w' : World} {b : Nat} {S : Nat → Prop} (h : DrawAt w b S) (hb : w'.heap[b]? = w.heap[b]?) (hS : ∀ c, S c → w'.heap[c]? = w.heap[c]?) : DrawAt w' b S := by
  obtain ⟨a, len, cap, k, l, h1, h2, h3, h4, h5⟩ := h
  exact ⟨a, len, cap, k, l, hb.trans h1, h2, h3, h4.same hS, h5⟩

theorem Lst.int_at {w : World} {S : Nat → Prop} {a : Option Addr} {len : Nat} {l : List Int} (h : Lst Enc.int w S a len l) {k : Nat} (hk : k < len) :
    ∃ b off x, a = some ⟨b, off, none⟩ ∧ S b ∧ l[k]? = some x ∧ I64 x ∧ w.cell? ⟨b, off + k, none⟩ = some (.int .i64 x) := by
  obtain ⟨h1, h2⟩ := h
  obtain ⟨b, off, rfl, hb, hc⟩ := h2 (by omega)
  have hx : l[k]? = some (l[k]'(by omega)) := List.getElem?_eq_getElem _
  obtain ⟨us, ⟨rfl, hr⟩, hu⟩ := hc k _ hx
  have := hu 0 _ rfl
  simp [Enc.num] at this
  exact ⟨b, off, _, rfl, hb, hx, hr, this⟩

set_option maxHeartbeats 1000000 in
theorem next_any (b : Nat) (S : Nat → Prop) (m : Int) (w : World) (hd : DrawAt w b S) (hm : 1 ≤ m) (hm2 : m ≤ 4611686018427387904) :
    Calls Try.prog 34 #[.pointer (some ⟨b, 0, none⟩), .int .i64 m] w fun e w' => ∃ v, e = .returned (.int .i64 v) ∧ 0 ≤ v ∧ v < m ∧ DrawAt w' b S ∧ w.grownBy w' (some b) ∧ w'.heap.size = w.heap.size := by
  obtain ⟨a, len, cap, k, l, hb, hk, hlen, hl, hS⟩ := hd
  unfold maxLen at hlen
  have hc0 : w.cell? ⟨b, 0, none⟩ = some (.slice a len cap) := by simp [World.cell?, hb]
  have hc1 : w.cell? ⟨b, 1, none⟩ = some (.int .i64 (k : Int)) := by simp [World.cell?, hb]
  have hf : w.frozen? ⟨b, 1, none⟩ = false := by simp [World.frozen?, hb]
  by_cases hlt : k < len
  · obtain ⟨bb, off, x, rfl, hSb, hx, ⟨hx1, hx2⟩, hz⟩ := hl.int_at hlt
    have hne : bb ≠ b := fun e => hS (e ▸ hSb)
    have hge : ¬ len ≤ k := by omega
    go_enter Try.func34, Try.ntmps34
    go_wp2_with fail
    go_quiet (fail)
    go_wp2_with fail
    have hz' : ((w.drewN nq).setCell ⟨b, 1, none⟩ (.int .i64 (↑k + 1))).cell? ⟨bb, off + k, none⟩ = some (.int .i64 x) := by
      rw [World.cell?_setCell_other]
      · exact hz
      · intro h; injection h with h1 h2; exact hne h1.symm
    have e1 : IntKind.i64.wrap (k : Int) = k := IntWalk.i64_in _ (by omega)
    clear hge
    go_quiet ((go_at_call 36; exact Calls.quiet_of_same (mod_any _ _ _ hm hm2)))
    go_wp2_with fail
    go_ret
    have hbd : ∀ n j : Nat, (((w.drewN n).setCell ⟨b, 1, none⟩ (.int .i64 (↑k + 1))).drewN j).heap[b]? = some (.cells #[.slice (some ⟨bb, off, none⟩) len cap, .int .i64 ((k + 1 : Nat) : Int)] 76 (0, 0)) := by
      intro n j
      rw [show ((k + 1 : Nat) : Int) = (k : Int) + 1 by omega]
      exact heap_set (w := w.drewN n) (off := 1) hb _
    have hoth : ∀ n j c : Nat, c ≠ b → (((w.drewN n).setCell ⟨b, 1, none⟩ (.int .i64 (↑k + 1))).drewN j).heap[c]? = w.heap[c]? := fun n j c hc => Below.heap_setCell (w.drewN n) _ _ _ hc
    refine ⟨_, rfl, Int.emod_nonneg _ (by omega), Int.emod_lt_of_pos _ (by omega), ⟨_, len, cap, k + 1, l, hbd _ _, by omega, by unfold maxLen; omega, hl.same (fun c hc => hoth _ _ _ (fun e => hS (e ▸ hc))), hS⟩, ⟨rfl, rfl, rfl, by simp [World.setCell], fun c _ hc => hoth _ _ _ (fun e => hc (by rw [e]))⟩, by simp [World.setCell]⟩
  · have hge : len ≤ k := by omega
    have hge' : decide (len ≤ k) = true := by simpa using hge
    go_enter Try.func34, Try.ntmps34
    go_wp2_with fail
    go_quiet (fail)
    go_wp2_with fail
    go_ret
    exact ⟨0, rfl, by omega, by omega, ⟨a, len, cap, k, l, hb, by omega, by unfold maxLen; omega, hl.same (fun _ _ => rfl), hS⟩, ⟨rfl, rfl, rfl, Nat.le_refl _, fun _ _ _ => rfl⟩, rfl⟩

/-- The same, the number as a natural one; what is kept of old blocks at hand. -/
theorem next_nat (b : Nat) (S : Nat → Prop) (m : Nat) (w : World) (hd : DrawAt w b S) (hm : 1 ≤ m) (hm2 : m ≤ 4611686018427387904) :
    Calls Try.prog 34 #[.pointer (some ⟨b, 0, none⟩), .int .i64 (m : Int)] w fun e w' => ∃ v : Nat, e = .returned (.int .i64 (v : Int)) ∧ v < m ∧ DrawAt w' b S ∧ w.grownBy w' (some b) ∧ w'.heap.size = w.heap.size :=
  (next_any b S m w hd (by omega) (by omega)).mono fun e w' ⟨v, he, h0, h1, h2, h3, h4⟩ => ⟨v.toNat, by rw [he, Int.toNat_of_nonneg h0], by omega, h2, h3, h4⟩

/-- all numbers are indices -/
def okAll (l : List Int) (m : Int) : Bool := l.all fun x => decide (0 ≤ x ∧ x < m)
theorem okAll_take_bad {l : List Int} {m : Int} {k : Nat} {x : Int} (hx : l[k]? = some x) (h : decide (0 ≤ x ∧ x < m) = false) : okAll l m = false := by
  unfold okAll
  rw [List.all_eq_false]
  exact ⟨x, List.mem_of_getElem? hx, by rw [h]; simp⟩
theorem okAll_succ {l : List Int} {m : Int} {k : Nat} {x : Int} (hx : l[k]? = some x) (h : decide (0 ≤ x ∧ x < m) = true) (ht : okAll (l.take k) m = true) : okAll (l.take (k + 1)) m = true := by
  unfold okAll at *
  rw [List.take_add_one, hx, List.all_append, ht]
  simpa using h
theorem standsS_out {l g : List Int} {i : Int} (h : ¬ (0 ≤ i ∧ i + l.length ≤ g.length)) : standsS l g i = false := decide_eq_false fun ⟨h1, h2, _⟩ => h ⟨h1, h2⟩
theorem standsS_bad {l g : List Int} {j k : Nat} {x y : Int} (hx : g[j + k]? = some x) (hy : l[k]? = some y) (hne : x ≠ y) : standsS l g (j : Int) = false := decide_eq_false fun ⟨_, _, h3⟩ => by
  have hk := (List.getElem?_eq_some_iff.1 hy).1
  have := h3 k hk
  rw [Int.toNat_natCast, hx, hy] at this
  exact hne (Option.some.inj this)
theorem standsS_good {l g : List Int} {j : Nat} (h : j + l.length ≤ g.length) (hk : ∀ k, k < l.length → g[j + k]? = l[k]?) : standsS l g (j : Int) = true := decide_eq_true ⟨by omega, by omega, fun k hk' => by rw [Int.toNat_natCast]; exact hk k hk'⟩
end Go.Proofs.Ytbodidhggdggmaa
-- @@XSb2
/- Lookups: append of a list to a row of numbers; Grow, Concat, Clone, IndexFunc, ContainsFunc. -/
namespace Go.Proofs.Ytbodidhggdggmaa
open Go.RowKit

def vints (l : List Int) : List Value := l.map (Value.int .i64)
theorem vints_len (l : List Int) : (vints l).length = l.length := by unfold vints; simp
theorem vints_app (l m : List Int) : vints l ++ vints m = vints (l ++ m) := by unfold vints; simp
theorem vints_one (l : List Int) : ∀ u ∈ vints l, u.oneCell' = true := by
  intro u hu
  obtain ⟨x, _, rfl⟩ := List.mem_map.1 hu
  rfl
theorem lst_vints {w : World} {S : Nat → Prop} {b off n : Nat} {l : List Int} (h : Lst Enc.int w S (some ⟨b, off, none⟩) n l) : ∀ (j : Nat) (u : Value), (vints l)[j]? = some u → w.cell? ((⟨b, off, none⟩ : Addr).add j) = some u := by
  intro j u hu
  unfold vints at hu
  rw [List.getElem?_map] at hu
  cases hx : l[j]? with
  | none => rw [hx] at hu; cases hu
  | some x =>
    rw [hx] at hu
    simp at hu
    subst hu
    have hj : j < n := by rw [← h.1]; exact (List.getElem?_eq_some_iff.1 hx).1
    obtain ⟨b', off', y, he, _, hy, _, hc⟩ := lst_int h hj
    cases he
    rw [hx] at hy
    cases hy
    rw [Addr.add_lit]
    exact hc
theorem run_append_empty {P : Program} {w : World} (base : Nat) (t ty e : TypeId) (i : TypeInfo) (size c : Nat) (ht : P.underlying t = some (.slice e)) (hi : P.info? e = some i)
    (v : Value) (n : Nat) (xs : List Value) (hown : w.ownsRow base e size v n xs) :
    (Builtin.append_ #[t, t] ty #[v, .slice none 0 c]).run P w = .ok v w := by
  rcases hown.2 with ⟨rfl, rfl⟩ | ⟨g, cap, cur, rfl, _, _, hnc, _⟩
  · simp [Builtin.append_, run_underlying ht, sizeOf, typeInfo, hi, Builtin.lenOf, Builtin.firstCells]
  · simp [Builtin.append_, run_underlying ht, sizeOf, typeInfo, hi, Builtin.lenOf, Builtin.firstCells, hnc, storeCells]
/-- append of a list to an own row of numbers -/
theorem wpList_append_ints {w : World} {ops : Array Oper} {rest : List Oper} {o : Oper} {a : Act} {Q : Exit → Act → World → Prop} (hgd : o.guard = none) (s x : Operand)
    (ho : o.op = .call { callee := .builtin .append, args := #[s, x], argTypes := #[38, 38] })
    (base : Nat) (v : Value) (k : Nat) (xs : List Value) (hs : a.eval s = v) (hown : w.ownsRow base 3 1 v k xs)
    (S : Nat → Prop) (ad : Option Addr) (n c : Nat) (l : List Int) (hx : a.eval x = .slice ad n c) (hl : Lst Enc.int w S ad n l) (h63 : k + n ≤ 1000000000000) (hbase : base ≤ w.heap.size)
    (h : ∀ v' w', w'.ownsRow base 3 1 v' (k + n) (xs ++ vints l) → w.grownBy w' v.ownBlock → wpList Try.prog ops Q rest (a.put o.dst v') w') : wpList Try.prog ops Q (o :: rest) a w := by
  obtain ⟨i3, hi3, hiz3, his3, hiy3⟩ := info_parts info_int
  have hlen := hl.1
  have go : ∀ g, ad = some g → (∀ (j : Nat) (u : Value), (vints l)[j]? = some u → w.cell? (g.add j) = some u) → wpList Try.prog ops Q (o :: rest) a w := fun g hg hc => by
    subst hg
    exact wpList_append_own w hgd s x 38 ho base 3 i3 (.int .i64 0) 1 8 Try.underlying38 hi3 hiz3 his3 hiy3 rfl (by decide) v k xs hs hown g n c (vints l) hx (by rw [vints_len, hlen, Nat.mul_one]) hc (vints_one l) (by unfold maxLen; omega) (by omega) hbase (fun v' w' h1 h2 _ => h v' w' h1 h2)
  by_cases h0 : n = 0
  · subst h0
    have hnil : l = [] := List.eq_nil_of_length_eq_zero hlen
    subst hnil
    cases ad with
    | none =>
      refine Lib.wpList_append_run w hgd s x 38 38 ho v _ hs hx v w (run_append_empty base _ _ _ i3 1 c Try.underlying38 hi3 v k xs hown) (h v w ?_ (grown_of_below (Below.refl _ _) _))
      simpa [vints] using hown
    | some g => exact go g rfl (fun j u hu => by simp [vints] at hu)
  · obtain ⟨b, off, rfl, _⟩ := hl.2 (by omega)
    exact go _ rfl (lst_vints hl)
theorem own_empty {w : World} {base : Nat} {T g n c : Nat} {xs : List Value} (h : w.ownsRow base T 1 (.slice (some ⟨g, 0, none⟩) n c) n xs) : w.ownsRow base T 1 (.slice (some ⟨g, 0, none⟩) 0 c) 0 [] := by
  rcases h.2 with ⟨h', _⟩ | ⟨g', cap, cur, h', hb, hg, hn, hc, hs, ht⟩
  · cases h'
  · injection h' with e1 e2 e3
    subst e3
    injection e1 with e1
    injection e1 with e1
    subst e1
    exact ⟨rfl, .inr ⟨g, c, cur, rfl, hb, hg, Nat.zero_le _, hc, hs, rfl⟩⟩
theorem vints_snoc (l : List Int) (m : List Int) : vints (l ++ m) = vints l ++ vints m := (vints_app l m).symm
/-- three lists -/
def pre3 (x y z : Nat) (k : Nat) : Nat := ([x, y, z].take k).sum
def cat3 (x y z : List Int) (k : Nat) : List Int := ([x, y, z].take k).flatten
theorem cat3_len (x y z : List Int) (k : Nat) : (cat3 x y z k).length = pre3 x.length y.length z.length k := by
  unfold cat3 pre3
  rw [List.length_flatten, List.map_take]
  rfl
end Go.Proofs.Ytbodidhggdggmaa
-- @@XSb3
/- Lookups: Clone, closures, IndexFunc, ContainsFunc. -/
namespace Go.Proofs.Ytbodidhggdggmaa
open Go.RowKit

theorem nil_some (g : Addr) (n c : Nat) (w : World) : Sem.run Try.prog (binOp .eql 38 (.slice (some g) n c) (.slice none 0 0)) w = .ok (.bool false) w := by kernel_rfl
theorem nil_none (n c : Nat) (w : World) : Sem.run Try.prog (binOp .eql 38 (.slice none n c) (.slice none 0 0)) w = .ok (.bool true) w := by kernel_rfl
def many (l : List (List Sub)) : Bool := l.any fun x => decide (24 < (x.length : Int))
theorem many_bad {l : List (List Sub)} {k : Nat} {x : List Sub} (hx : l[k]? = some x) (h : decide (24 < (x.length : Int)) = true) : many l = true := by
  unfold many
  rw [List.any_eq_true]
  exact ⟨x, List.mem_of_getElem? hx, h⟩
theorem many_succ {l : List (List Sub)} {k : Nat} {x : List Sub} (hx : l[k]? = some x) (h : decide (24 < (x.length : Int)) = false) (ht : many (l.take k) = false) : many (l.take (k + 1)) = false := by
  unfold many at *
  rw [List.take_add_one, hx, List.any_append, ht]
  simpa using h
end Go.Proofs.Ytbodidhggdggmaa
-- @@XSb4
/- Lookups: the program's Match. -/
namespace Go.Proofs.Ytbodidhggdggmaa
open Go.RowKit

/-- the three lists of a substitution, one after the other -/
def allOf (s : Sub) : List Int := s.1 ++ (s.2.1 ++ s.2.2.1)
theorem allOf_len (s : Sub) : (allOf s).length = s.1.length + s.2.1.length + s.2.2.1.length := by unfold allOf; simp [Nat.add_assoc]
theorem getElem?_app3 (a b c : List Int) : (∀ k, k < b.length → (a ++ (b ++ c))[a.length + k]? = b[k]?) ∧ (∀ k, k < c.length → (a ++ (b ++ c))[a.length + b.length + k]? = c[k]?) := by
  refine ⟨fun k hk => ?_, fun k hk => ?_⟩
  · rw [List.getElem?_append_right (by omega), Nat.add_sub_cancel_left, List.getElem?_append_left hk]
  · rw [List.getElem?_append_right (by omega), show a.length + b.length + k - a.length = b.length + k by omega, List.getElem?_append_right (by omega), Nat.add_sub_cancel_left]
/-- a substitution stands where its three lists stand -/
theorem subAt_iff (s : Sub) (g : List Int) (i : Nat) : subAt s g (i : Int) = true ↔ 0 < s.2.1.length ∧ s.1.length ≤ i ∧ i + s.2.1.length + s.2.2.1.length ≤ g.length ∧ ∀ k, k < (allOf s).length → g[i - s.1.length + k]? = (allOf s)[k]? := by
  unfold subAt standsS
  rw [Bool.and_eq_true, Bool.and_eq_true, Bool.and_eq_true, decide_eq_true_iff, decide_eq_true_iff, decide_eq_true_iff, decide_eq_true_iff]
  obtain ⟨q1, q2⟩ := getElem?_app3 s.1 s.2.1 s.2.2.1
  constructor
  · rintro ⟨⟨⟨h1, -, h2, h3⟩, h4, h5, h6⟩, h7, h8, h9⟩
    refine ⟨h1, by omega, by omega, fun k hk => ?_⟩
    rw [allOf_len] at hk
    unfold allOf
    by_cases k1 : k < s.1.length
    · rw [List.getElem?_append_left k1, ← h6 k k1]
      congr 1
      omega
    · by_cases k2 : k < s.1.length + s.2.1.length
      · have := q1 (k - s.1.length) (by omega)
        rw [show s.1.length + (k - s.1.length) = k by omega] at this
        rw [this, ← h3 (k - s.1.length) (by omega)]
        congr 1
        omega
      · have := q2 (k - s.1.length - s.2.1.length) (by omega)
        rw [show s.1.length + s.2.1.length + (k - s.1.length - s.2.1.length) = k by omega] at this
        rw [this, ← h9 (k - s.1.length - s.2.1.length) (by omega)]
        congr 1
        omega
  · rintro ⟨h1, h2, h3, h4⟩
    rw [allOf_len] at h4
    unfold allOf at h4
    refine ⟨⟨⟨h1, by omega, by omega, fun k hk => ?_⟩, by omega, by omega, fun k hk => ?_⟩, by omega, by omega, fun k hk => ?_⟩
    · rw [← q1 k hk, ← h4 (s.1.length + k) (by omega)]
      congr 1
      omega
    · have := h4 k (by omega)
      rw [List.getElem?_append_left hk] at this
      rw [← this]
      congr 1
      omega
    · rw [← q2 k hk, ← h4 (s.1.length + s.2.1.length + k) (by omega)]
      congr 1
      omega
theorem subAt_no {s : Sub} {g : List Int} {i : Nat} (h : ¬ (0 < s.2.1.length ∧ s.1.length ≤ i ∧ i + s.2.1.length + s.2.2.1.length ≤ g.length)) : subAt s g (i : Int) = false := by
  cases hb : subAt s g (i : Int) with
  | false => rfl
  | true =>
    have := (subAt_iff s g i).1 hb
    exact absurd ⟨this.1, this.2.1, this.2.2.1⟩ h
theorem subAt_bad {s : Sub} {g : List Int} {i k : Nat} {x y : Int} (hx : g[i - s.1.length + k]? = some x) (hy : (allOf s)[k]? = some y) (hne : x ≠ y) : subAt s g (i : Int) = false := by
  cases hb : subAt s g (i : Int) with
  | false => rfl
  | true =>
    have := ((subAt_iff s g i).1 hb).2.2.2 k (List.getElem?_eq_some_iff.1 hy).1
    rw [hx, hy] at this
    exact absurd (Option.some.inj this) hne
end Go.Proofs.Ytbodidhggdggmaa
-- @@XSb5
/- Lookups: the reference's Match. -/
namespace Go.Proofs.Ytbodidhggdggmaa
open Go.RowKit
end Go.Proofs.Ytbodidhggdggmaa
-- @@XSb6
/- Lookups: Check. -/
namespace Go.Proofs.Ytbodidhggdggmaa
open Go.RowKit
def okSub (s : Sub) (m : Int) : Bool := decide (1 ≤ s.2.1.length ∧ s.2.1.length ≤ 3 ∧ s.1.length ≤ 2 ∧ s.2.2.1.length ≤ 2) && (decide (0 ≤ s.2.2.2 ∧ s.2.2.2 < m) && okAll (allOf s) m)
def okLk (x : List Sub) (m : Int) : Bool := x.all fun s => okSub s m
def checkS (l : List (List Sub)) (m : Int) : Int := if 4 < l.length ∨ many l = true then 2 else if l.all (fun x => okLk x m) = true then 0 else 33
theorem checkS_many {l : List (List Sub)} {m : Int} (h : 4 < l.length ∨ many l = true) : checkS l m = 2 := if_pos h
theorem checkS_bad {l : List (List Sub)} {m : Int} (h1 : ¬ 4 < l.length) (h2 : many l = false) {k : Nat} {x : List Sub} (hx : l[k]? = some x) {j : Nat} {s : Sub} (hs : x[j]? = some s) (h : okSub s m = false) : checkS l m = 33 := by
  unfold checkS
  rw [if_neg (by rw [h2]; simp; omega), if_neg]
  intro ha
  have := List.all_eq_true.1 ha x (List.mem_of_getElem? hx)
  have := List.all_eq_true.1 this s (List.mem_of_getElem? hs)
  rw [h] at this
  cases this
theorem checkS_ok {l : List (List Sub)} {m : Int} (h1 : ¬ 4 < l.length) (h2 : many l = false) (h : ∀ (k : Nat) (x : List Sub), l[k]? = some x → okLk x m = true) : checkS l m = 0 := by
  unfold checkS
  rw [if_neg (by rw [h2]; simp; omega), if_pos]
  rw [List.all_eq_true]
  intro x hx
  obtain ⟨k, hk, he⟩ := List.mem_iff_getElem.1 hx
  exact h k x (by rw [List.getElem?_eq_getElem hk, he])
theorem okLk_of {x : List Sub} {m : Int} (h : ∀ (j : Nat) s, x[j]? = some s → okSub s m = true) : okLk x m = true := by
  unfold okLk
  rw [List.all_eq_true]
  intro s hs
  obtain ⟨k, hk, he⟩ := List.mem_iff_getElem.1 hs
  exact h k s (by rw [List.getElem?_eq_getElem hk, he])
theorem okSub_size {s : Sub} {m : Int} (h : ¬ (1 ≤ s.2.1.length ∧ s.2.1.length ≤ 3 ∧ s.1.length ≤ 2 ∧ s.2.2.1.length ≤ 2)) : okSub s m = false := by
  unfold okSub
  rw [decide_eq_false h]
  rfl
theorem okSub_to {s : Sub} {m : Int} (h : ¬ (0 ≤ s.2.2.2 ∧ s.2.2.2 < m)) : okSub s m = false := by
  unfold okSub
  rw [decide_eq_false h]
  simp
theorem okSub_all {s : Sub} {m : Int} (h : okAll (allOf s) m = false) : okSub s m = false := by
  unfold okSub
  rw [h]
  simp
theorem okSub_yes {s : Sub} {m : Int} (h1 : 1 ≤ s.2.1.length ∧ s.2.1.length ≤ 3 ∧ s.1.length ≤ 2 ∧ s.2.2.1.length ≤ 2) (h2 : 0 ≤ s.2.2.2 ∧ s.2.2.2 < m) (h3 : okAll (allOf s) m = true) : okSub s m = true := by
  unfold okSub
  rw [decide_eq_true h1, decide_eq_true h2, h3]
  rfl
end Go.Proofs.Ytbodidhggdggmaa
-- @@XSb7
/- Lookups: the reference's Lookups and Check. -/
namespace Go.Proofs.Ytbodidhggdggmaa
open Go.RowKit
theorem okAll_all (s : Sub) (m : Int) : okAll (allOf s) m = (okAll s.1 m && (okAll s.2.1 m && okAll s.2.2.1 m)) := by
  unfold okAll allOf
  rw [List.all_append, List.all_append]
end Go.Proofs.Ytbodidhggdggmaa
-- @@XSb8
/- append to an own row of numbers: where the new row lies. -/
namespace Go.Proofs.Ytbodidhggdggmaa
open Go.RowKit
theorem run_append_own2 {P : Program} (w : World) (base : Nat) (t ty e : TypeId) (i : TypeInfo) (z : Value) (size bytes : Nat) (ht : P.underlying t = some (.slice e)) (hi : P.info? e = some i) (hz : i.zero = some z)
    (hsize : i.size = size) (hby : i.bytes = bytes) (hzs : z.cells.size = size) (hsz : 0 < size)
    (v : Value) (n : Nat) (xs : List Value) (hown : w.ownsRow base e size v n xs)
    (a : Addr) (m c : Nat) (news : List Value) (hl : news.length = m * size) (hnews : ∀ j u, news[j]? = some u → w.cell? (a.add j) = some u) (h1 : ∀ u ∈ news, u.oneCell' = true)
    (h63 : n + m ≤ maxLen) (hbytes : (n + m) * bytes ≤ 140737488355328) (hbase : base ≤ w.heap.size) :
    ∃ v' w', (Builtin.append_ #[t, t] ty #[v, .slice (some a) m c]).run P w = .ok v' w' ∧ w'.ownsRow base e size v' (n + m) (xs ++ news) ∧ w.grownBy w' v.ownBlock ∧ (v'.ownBlock = v.ownBlock ∨ v'.ownBlock = some w.heap.size) := by
  obtain ⟨v', w', hr, q1, q2, q3⟩ := run_append_own (P := P) w base t ty e i z size bytes ht hi hz hsize hby hzs hsz v n xs hown a m c news hl hnews h1 h63 hbytes hbase
  refine ⟨v', w', hr, q1, q2, ?_⟩
  subst hsize
  subst hby
  have hsmall : n + m ≤ 9223372036854775807 := by simp only [maxLen] at h63; omega
  rcases hown.2 with ⟨rfl, rfl⟩ | ⟨g, cap, cur, rfl, hbg, hg, hnc, hcm, hcs, htake⟩
  · by_cases hm : m = 0
    · rw [q3.2 ⟨rfl, hm⟩]
      exact .inl rfl
    · have hr2 := run_append_nil (P := P) w t ty e i z ht hi hz a m c news hl hnews (by omega) (by omega) (by have hb := hbytes; simp only [Nat.zero_add] at hb; omega)
      have he := hr.symm.trans hr2
      injection he with he _
      rw [he]
      exact .inr rfl
  · by_cases hroom : n + m ≤ cap
    · have hfit : n * i.size + news.length ≤ cur.size := by rw [hl, hcs, ← Nat.add_mul]; exact Nat.mul_le_mul_right _ hroom
      have hr2 := run_append_room (P := P) w t ty e i ht hi g n cap cur hg a m c news hl hnews h1 hroom hfit
      have he := hr.symm.trans hr2
      injection he with he _
      rw [he]
      exact .inl rfl
    · have holds : ∀ j u, xs[j]? = some u → w.cell? ((⟨g, 0, none⟩ : Addr).add j) = some u := hown.cells (g := g) rfl
      have hr2 := run_append_grow (P := P) w t ty e i z ht hi hz ⟨g, 0, none⟩ n cap xs hown.1 holds a m c news hl hnews (by omega) (by omega) (growslice_fits (by omega) hbytes)
      have he := hr.symm.trans hr2
      injection he with he _
      rw [he]
      exact .inr rfl
/-- append of one number that has just been made to an own row -/
theorem wpList_append_one {w : World} {ops : Array Oper} {rest : List Oper} {o : Oper} {a : Act} {Q : Exit → Act → World → Prop} (hgd : o.guard = none) (s x : Operand)
    (ho : o.op = .call { callee := .builtin .append, args := #[s, x], argTypes := #[38, 38] })
    (base : Nat) (v : Value) (k : Nat) (l : List Int) (hs : a.eval s = v) (hown : w.ownsRow base 3 1 v k (vints l)) (b : Nat) (y : Int) (hx : a.eval x = .slice (some ⟨b, 0, none⟩) 1 1) (hb : w.heap[b]? = some (.cells #[.int .i64 y] 3 (0, 0)))
    (h63 : k ≤ 1000000000) (hbase : base ≤ w.heap.size)
    (h : ∀ v' w', w'.ownsRow base 3 1 v' (k + 1) (vints (l ++ [y])) → w.grownBy w' v.ownBlock → (v'.ownBlock = v.ownBlock ∨ v'.ownBlock = some w.heap.size) → wpList Try.prog ops Q rest (a.put o.dst v') w') : wpList Try.prog ops Q (o :: rest) a w := by
  obtain ⟨i3, hi3, hiz3, his3, hiy3⟩ := info_parts info_int
  obtain ⟨v', w', hr, q1, q2, q3⟩ := run_append_own2 (P := Try.prog) w base 38 o.type 3 i3 (.int .i64 0) 1 8 Try.underlying38 hi3 hiz3 his3 hiy3 rfl (by decide) v k (vints l) hown ⟨b, 0, none⟩ 1 1 (vints [y]) rfl
    (fun j u hj => by
      have hj0 : j = 0 := by have := (List.getElem?_eq_some_iff.1 hj).1; simp [vints] at this; omega
      subst hj0
      rw [Addr.add_lit, cell_of_row _ _ _ _ _ _ hb]
      simpa [vints] using hj) (vints_one _) (by unfold maxLen; omega) (by omega) hbase
  rw [vints_app] at q1
  exact Lib.wpList_append_run w hgd s x 38 38 ho v _ hs hx v' w' hr (h v' w' q1 q2 q3)
end Go.Proofs.Ytbodidhggdggmaa
-- @@XSb9
/- Lookups: Glyphs, renamed. -/
namespace Go.Proofs.Ytbodidhggdggmaa
open Go.RowKit
def glyphsS (l : List Int) (m : Int) : List Int := (l.take 24).map fun x => x % m
theorem glyphsS_len (l : List Int) (m : Int) : (glyphsS l m).length ≤ 24 := by unfold glyphsS; simp; omega
theorem glyphsS_mem (l : List Int) (m : Int) (hm : 1 ≤ m) : ∀ x ∈ glyphsS l m, 0 ≤ x ∧ x < m := by
  intro x hx
  unfold glyphsS at hx
  obtain ⟨y, _, rfl⟩ := List.mem_map.1 hx
  exact ⟨Int.emod_nonneg _ (by omega), Int.emod_lt_of_pos _ (by omega)⟩
theorem take_snoc {α : Type} {l : List α} {k : Nat} {x : α} (hx : l[k]? = some x) : l.take k ++ [x] = l.take (k + 1) := by
  rw [List.take_add_one, hx]
  rfl
theorem own_lst {w : World} {base n : Nat} {v : Value} {l : List Int} (h : w.ownsRow base 3 1 v n (vints l)) (hl : ∀ x ∈ l, I64 x) : ∃ a c, v = .slice a l.length c ∧ n = l.length ∧ Lst Enc.int w (· < w.heap.size) a l.length l := by
  have hn : n = l.length := by have := h.1; rw [vints_len] at this; omega
  obtain ⟨a, c, rfl⟩ := own_shape h
  have := (lst_own h hl).1
  subst hn
  exact ⟨a, c, rfl, rfl, this⟩
theorem own_belowb {w w' : World} {base n : Nat} {T s : Nat} {v : Value} {xs : List Value} (h : w.ownsRow base T s v n xs) (hb : Below w.heap.size w w') : w'.ownsRow base T s v n xs :=
  h.kept (row := none) (grown_of_below hb none) (by cases hv : v.ownBlock with
    | none => exact .inl rfl
    | some g => exact .inr (by simp))
def renS (l : List Int) : List Int := l.map fun x => 70 - 9 * x
end Go.Proofs.Ytbodidhggdggmaa
-- @@XSbP
/- Lookups: what Apply computes, in plain Lean; two own rows of numbers. -/
namespace Go.Proofs.Ytbodidhggdggmaa
open Go.RowKit
def fromL (x : List Sub) (k : Int) : Nat := match x[k.toNat]? with
  | some s => s.2.1.length
  | none => 0
def toS (x : List Sub) (k : Int) : Int := match x[k.toNat]? with
  | some s => s.2.2.2
  | none => 0
def nextI (x : List Sub) (g : List Int) (i : Nat) : Nat := if 0 ≤ matchS x g i then i + fromL x (matchS x g i) else i + 1
def stepL (x : List Sub) (g : List Int) : Nat → Nat → List (Nat × Int)
  | 0, _ => []
  | f + 1, i => if i < g.length then (i, matchS x g i) :: stepL x g f (nextI x g i) else []
def stepsS (x : List Sub) (g : List Int) : List (Nat × Int) := stepL x g g.length 0
def outS (x : List Sub) (g : List Int) (L : List (Nat × Int)) : List Int := L.map fun q => if 0 ≤ q.2 then toS x q.2 else g.getD q.1 0
def fstS (first : List Int) (L : List (Nat × Int)) : List Int := L.map fun q => first.getD q.1 0
def apply1 (x : List Sub) (st : List Int × List Int) : List Int × List Int := (outS x st.1 (stepsS x st.1), fstS st.2 (stepsS x st.1))
def iota (n : Nat) : List Int := (List.range n).map fun i : Nat => (i : Int)
def applyS (l : List (List Sub)) (g : List Int) : List Int × List Int := l.foldl (fun st x => apply1 x st) (g, iota g.length)
theorem nextI_gt (x : List Sub) (g : List Int) (i : Nat) : i < nextI x g i := by
  unfold nextI
  rcases matchS_inv (x := x) (g := g) (i := (i : Int)) with h | ⟨k, s, h1, h2, h3, _⟩
  · rw [h]; simp
  · rw [h1, if_pos (by omega)]
    unfold fromL
    rw [Int.toNat_natCast, h2]
    have := ((subAt_iff s g i).1 h3).1
    show i < i + s.2.1.length
    omega
theorem nextI_le (x : List Sub) (g : List Int) (i : Nat) (hi : i < g.length) : nextI x g i ≤ g.length := by
  unfold nextI
  rcases matchS_inv (x := x) (g := g) (i := (i : Int)) with h | ⟨k, s, h1, h2, h3, _⟩
  · rw [h]; simp; omega
  · rw [h1, if_pos (by omega)]
    unfold fromL
    rw [Int.toNat_natCast, h2]
    have := ((subAt_iff s g i).1 h3).2.2.1
    show i + s.2.1.length ≤ g.length
    omega
theorem stepL_len (x : List Sub) (g : List Int) : ∀ f i, (stepL x g f i).length ≤ f := by
  intro f
  induction f with
  | zero => intro i; simp [stepL]
  | succ f ih =>
    intro i
    unfold stepL
    split
    · have := ih (nextI x g i)
      simp
      exact this
    · simp
theorem stepL_end (x : List Sub) (g : List Int) (f i : Nat) (h : g.length ≤ i) : stepL x g f i = [] := by
  cases f with
  | zero => rfl
  | succ f => unfold stepL; rw [if_neg (by omega)]
theorem outS_snoc (x : List Sub) (g : List Int) (L : List (Nat × Int)) (i : Nat) (m : Int) : outS x g (L ++ [(i, m)]) = outS x g L ++ [if 0 ≤ m then toS x m else g.getD i 0] := by unfold outS; simp
theorem fstS_snoc (fs : List Int) (L : List (Nat × Int)) (i : Nat) (m : Int) : fstS fs (L ++ [(i, m)]) = fstS fs L ++ [fs.getD i 0] := by unfold fstS; simp
theorem outS_len (x : List Sub) (g : List Int) (L : List (Nat × Int)) : (outS x g L).length = L.length := by unfold outS; simp
theorem fstS_len (fs : List Int) (L : List (Nat × Int)) : (fstS fs L).length = L.length := by unfold fstS; simp
theorem applyS_succ {l : List (List Sub)} {g : List Int} {k : Nat} {x : List Sub} (hx : l[k]? = some x) : applyS (l.take (k + 1)) g = apply1 x (applyS (l.take k) g) := by
  unfold applyS
  rw [← take_snoc hx, List.foldl_append]
  rfl
theorem applyS_app (l m : List (List Sub)) (g : List Int) : applyS (l ++ m) g = m.foldl (fun st x => apply1 x st) (applyS l g) := by
  unfold applyS
  rw [List.foldl_append]
theorem apply1_len (x : List Sub) (st : List Int × List Int) : (apply1 x st).1.length = (apply1 x st).2.length ∧ (apply1 x st).1.length ≤ st.1.length := by
  unfold apply1
  rw [outS_len, fstS_len]
  exact ⟨rfl, stepL_len _ _ _ _⟩
theorem foldl_len (l : List (List Sub)) : ∀ st : List Int × List Int, st.1.length = st.2.length → (l.foldl (fun st x => apply1 x st) st).1.length = (l.foldl (fun st x => apply1 x st) st).2.length ∧ (l.foldl (fun st x => apply1 x st) st).1.length ≤ st.1.length := by
  induction l with
  | nil => intro st h; exact ⟨h, Nat.le_refl _⟩
  | cons x l ih =>
    intro st _
    have h1 := apply1_len x st
    have h2 := ih (apply1 x st) h1.1
    exact ⟨h2.1, Nat.le_trans h2.2 h1.2⟩
theorem iota_len (n : Nat) : (iota n).length = n := by unfold iota; simp
theorem applyS_len (l : List (List Sub)) (g : List Int) : (applyS l g).1.length = (applyS l g).2.length ∧ (applyS l g).1.length ≤ g.length := foldl_len l (g, iota g.length) (iota_len _).symm
def AllI (l : List Int) : Prop := ∀ x ∈ l, I64 x
theorem getD_i64 {l : List Int} (h : AllI l) (k : Nat) : I64 (l.getD k 0) := by
  rw [List.getD_eq_getElem?_getD]
  cases hk : l[k]? with
  | none => exact ⟨by decide, by decide⟩
  | some x => exact h x (List.mem_of_getElem? hk)
def ToI (x : List Sub) : Prop := ∀ s ∈ x, I64 s.2.2.2
theorem toS_i64 {x : List Sub} (h : ToI x) (k : Int) : I64 (toS x k) := by
  unfold toS
  split
  · rename_i s hs
    exact h s (List.mem_of_getElem? hs)
  · exact ⟨by decide, by decide⟩
theorem apply1_i64 {x : List Sub} {st : List Int × List Int} (hx : ToI x) (h1 : AllI st.1) (h2 : AllI st.2) : AllI (apply1 x st).1 ∧ AllI (apply1 x st).2 := by
  constructor
  · intro y hy
    obtain ⟨q, _, rfl⟩ := List.mem_map.1 hy
    show I64 (if 0 ≤ q.2 then toS x q.2 else st.1.getD q.1 0)
    split
    · exact toS_i64 hx _
    · exact getD_i64 h1 _
  · intro y hy
    obtain ⟨q, _, rfl⟩ := List.mem_map.1 hy
    exact getD_i64 h2 _
theorem foldl_i64 (l : List (List Sub)) (hl : ∀ x ∈ l, ToI x) : ∀ st : List Int × List Int, AllI st.1 → AllI st.2 → AllI (l.foldl (fun st x => apply1 x st) st).1 ∧ AllI (l.foldl (fun st x => apply1 x st) st).2 := by
  induction l with
  | nil => intro st h1 h2; exact ⟨h1, h2⟩
  | cons x l ih =>
    intro st h1 h2
    have h3 := apply1_i64 (hl x (by simp)) h1 h2
    exact ih (fun y hy => hl y (by simp [hy])) _ h3.1 h3.2
theorem iota_i64 (n : Nat) (hn : n ≤ 1000000000) : AllI (iota n) := by
  intro y hy
  unfold iota at hy
  obtain ⟨i, hi, rfl⟩ := List.mem_map.1 hy
  have := List.mem_range.1 hi
  exact ⟨by omega, by omega⟩
theorem applyS_i64 {l : List (List Sub)} {g : List Int} (hl : ∀ x ∈ l, ToI x) (hg : AllI g) (hn : g.length ≤ 1000000000) : AllI (applyS l g).1 ∧ AllI (applyS l g).2 := foldl_i64 l hl _ hg (iota_i64 _ hn)
theorem iota_snoc (k : Nat) : iota k ++ [(k : Int)] = iota (k + 1) := by unfold iota; rw [List.range_succ, List.map_append]; rfl

/-- two own rows of numbers -/
structure Two (w : World) (B : Nat) (v1 : Value) (l1 : List Int) (v2 : Value) (l2 : List Int) : Prop where
  r1 : w.ownsRow B 3 1 v1 l1.length (vints l1)
  r2 : w.ownsRow B 3 1 v2 l2.length (vints l2)
  ap : ∀ b, v1.ownBlock = some b → v2.ownBlock = some b → False
theorem Two.start (w : World) (B : Nat) : Two w B (.slice none 0 0) [] (.slice none 0 0) [] := ⟨World.ownsRow_nil _ _ _ _, World.ownsRow_nil _ _ _ _, fun b h => by simp [Value.ownBlock] at h⟩
theorem Two.below {w w' : World} {B : Nat} {v1 v2 : Value} {l1 l2 : List Int} (h : Two w B v1 l1 v2 l2) (hb : Below w.heap.size w w') : Two w' B v1 l1 v2 l2 := ⟨own_belowb h.r1 hb, own_belowb h.r2 hb, h.ap⟩
theorem Two.swap {w : World} {B : Nat} {v1 v2 : Value} {l1 l2 : List Int} (h : Two w B v1 l1 v2 l2) : Two w B v2 l2 v1 l1 := ⟨h.r2, h.r1, fun b h1 h2 => h.ap b h2 h1⟩
/-- behind an append to the first one -/
theorem Two.app {w w' : World} {B : Nat} {v1 v1' v2 : Value} {l1 l2 m : List Int} (h : Two w B v1 l1 v2 l2) (ho : w'.ownsRow B 3 1 v1' m.length (vints m)) (hg : w.grownBy w' v1.ownBlock) (hb : v1'.ownBlock = v1.ownBlock ∨ v1'.ownBlock = some w.heap.size) : Two w' B v1' m v2 l2 := by
  refine ⟨ho, h.r2.kept hg ?_, fun b h1 h2 => ?_⟩
  · cases hv : v2.ownBlock with
    | none => exact .inl rfl
    | some g => exact .inr (fun e => h.ap g e.symm hv)
  · rcases hb with hb | hb
    · exact h.ap b (hb.symm.trans h1) h2
    · rw [hb] at h1
      cases h1
      have := (h.r2.lt _ h2).2
      omega
end Go.Proofs.Ytbodidhggdggmaa
-- @@XSbR
/- Rows of numbers: small lemmas for the seats that do not have the lookups. -/
namespace Go.Proofs.Ytbodidhggdggmaa
open Go.RowKit
theorem row_below {w w' : World} {B n s : Nat} {T : TypeId} {v : Value} {xs : List Value} (h : w.ownsRow B T s v n xs) (hB : B ≤ w.heap.size) (hg : w.grownBy w' v.ownBlock) : Below B w w' :=
  ⟨hg.os, hg.tape, hg.output, hg.size, fun b hb => hg.block b (by omega) (fun e => by have := (h.lt b e.symm).1; omega)⟩
theorem make_ints (n : Nat) (hn : n ≤ 1000000) (w : World) : (Instr.makeSlice 38 (.int .i64 (n : Int)) (.int .i64 (n : Int))).run Try.prog w = .ok (.slice (some ⟨w.heap.size, 0, none⟩) n n) (w.alloc (.cells (madeCells #[Value.int .i64 0] n) 3)) := by
  obtain ⟨i0, hi, hz0, hz1, hz2⟩ := info_parts info_int
  have := run_make (P := Try.prog) w 38 3 i0 (.int .i64 0) Try.underlying38 hi hz0 .i64 .i64 (n : Int) (n : Int) (by omega) (by omega) (by rw [hz2]; omega) (by omega)
  have h2 : (Instr.makeSlice 38 (.int .i64 (n : Int)) (.int .i64 (n : Int))).run Try.prog w = .ok (.slice (some ⟨w.heap.size, 0, none⟩) n n) (w.alloc (.cells (madeCells (Value.int .i64 0).cells (n * 1)) 3)) := by simpa [hz1] using this
  rw [Nat.mul_one] at h2
  exact h2
theorem own_same {w w' : World} {base : Nat} {e : TypeId} {s n : Nat} {v : Value} {xs : List Value} (h : w.ownsRow base e s v n xs) (hk : ∀ b, v.ownBlock = some b → w'.heap[b]? = w.heap[b]?) : w'.ownsRow base e s v n xs := by
  refine ⟨h.1, ?_⟩
  rcases h.2 with hn | ⟨g, cap, cur, rfl, hb, hg, rest⟩
  · exact .inl hn
  · exact .inr ⟨g, cap, cur, rfl, hb, (hk g rfl).trans hg, rest⟩
theorem own_lst2 {w : World} {base n : Nat} {v : Value} {l : List Int} (h : w.ownsRow base 3 1 v n (vints l)) (hl : ∀ x ∈ l, I64 x) : ∃ a c, v = .slice a l.length c ∧ l.length ≤ c ∧ c ≤ maxLen ∧ Lst Enc.int w (fun b => base ≤ b ∧ b < w.heap.size) a l.length l := by
  have hn : n = l.length := by have := h.1; rw [vints_len] at this; omega
  subst hn
  have h0 := h
  rcases h.2 with ⟨rfl, h0'⟩ | ⟨g, cap, cur, rfl, hb, hg, hnc, hcm, _⟩
  · have : l = [] := List.eq_nil_of_length_eq_zero h0'
    subst this
    exact ⟨none, 0, rfl, Nat.le_refl _, Nat.zero_le _, Lst.nil _ _ _ _⟩
  · have h1 := (lst_own h0 hl).1
    refine ⟨_, cap, rfl, hnc, hcm, rfl, fun hpos => ?_⟩
    obtain ⟨b, off, he, _, hc⟩ := h1.2 hpos
    have hbg : b = g := by injection he with he; injection he with he _; exact he.symm
    exact ⟨b, off, he, by rw [hbg]; exact ⟨hb, (Array.getElem?_eq_some_iff.1 hg).1⟩, hc⟩
theorem own_next {w w2 : World} {Br b0 n s : Nat} {T : TypeId} {v : Value} {ys : List Value} (h : w.ownsRow Br T s v n ys) (hg : w.grownBy w2 (some b0)) (hlt : b0 < Br) : w2.ownsRow Br T s v n ys := h.kept hg (by
  cases hv : v.ownBlock with
  | none => exact .inl rfl
  | some g => exact .inr (fun e => by injection e with e; have := (h.lt g hv).1; omega))
theorem DrawAt.below {w w' : World} {b B : Nat} (h : DrawAt w b (· < B)) (hB : ∀ c, c < B → c < w.heap.size) (hb : Below w.heap.size w w') : DrawAt w' b (· < B) := by
  obtain ⟨a, len, cap, k, l, h1, h2, h3, h4, h5⟩ := h
  exact ⟨a, len, cap, k, l, (hb.block _ (Array.getElem?_eq_some_iff.1 h1).1).trans h1, h2, h3, h4.same (fun c hc => hb.block c (hB c hc)), h5⟩
theorem DrawAt.lt {w : World} {b : Nat} {S : Nat → Prop} (h : DrawAt w b S) : b < w.heap.size := by
  obtain ⟨a, len, cap, k, l, h1, _⟩ := h
  exact (Array.getElem?_eq_some_iff.1 h1).1
theorem wpList_append_el {w : World} {ops : Array Oper} {rest : List Oper} {o : Oper} {a : Act} {Q : Exit → Act → World → Prop} {t e : TypeId} {z : Value} {size bytes : Nat} (ht : Try.prog.underlying t = some (.slice e)) (hinfo : (Try.prog.info? e).map (fun i => (i.zero, i.size, i.bytes)) = some (some z, size, bytes))
    (hzs : z.cells.size = size) (hsz : 0 < size) (hby : bytes ≤ 1000) (hgd : o.guard = none) (s x : Operand) (ho : o.op = .call { callee := .builtin .append, args := #[s, x], argTypes := #[t, t] })
    (base : Nat) (v : Value) (n : Nat) (xs : List Value) (hs : a.eval s = v) (hown : w.ownsRow base e size v n xs) (b : Nat) (us : List Value) (hx : a.eval x = .slice (some ⟨b, 0, none⟩) 1 1) (hb : w.heap[b]? = some (.cells us.toArray e (0, 0)))
    (hul : us.length = size) (hone : ∀ u ∈ us, u.oneCell' = true) (hn : n ≤ 1000) (hbase : base ≤ w.heap.size)
    (h : ∀ v' w', w'.ownsRow base e size v' (n + 1) (xs ++ us) → w.grownBy w' v.ownBlock → (v'.ownBlock = v.ownBlock ∨ v'.ownBlock = some w.heap.size) → wpList Try.prog ops Q rest (a.put o.dst v') w') : wpList Try.prog ops Q (o :: rest) a w := by
  obtain ⟨i3, hi3, hiz3, his3, hiy3⟩ := info_parts hinfo
  obtain ⟨v', w', hrun, q1, q2, q3⟩ := run_append_own2 (P := Try.prog) w base t o.type e i3 z size bytes ht hi3 hiz3 his3 hiy3 hzs hsz v n xs hown ⟨b, 0, none⟩ 1 1 us (by rw [hul, Nat.one_mul])
    (fun j u hj => by rw [Addr.add_lit, Nat.zero_add, cell_of_row _ _ _ _ _ _ hb]; simpa using hj) hone (by unfold maxLen; omega) (by have : (n + 1) * bytes ≤ 1001 * 1000 := Nat.mul_le_mul (by omega) hby; omega) hbase
  exact Lib.wpList_append_run w hgd s x t t ho v _ hs hx v' w' hrun (h v' w' q1 q2 q3)
/-- a row whose cells read as data -/
theorem row_lst {α : Type} {E : Enc α} {w : World} {base : Nat} {e : TypeId} {S : Nat → Prop} {v : Value} {l : List α} {xs : List Value} (h : w.ownsRow base e E.n v l.length xs) (hf : Flat E w S xs l) (hS : ∀ b, S b → b < w.heap.size) : ∃ a c, v = .slice a l.length c ∧ l.length ≤ c ∧ c ≤ maxLen ∧ Lst E w (· < w.heap.size) a l.length l := by
  rcases h.2 with ⟨rfl, h0⟩ | ⟨g, cap, cur, rfl, hbg, hg, hn, hc, hcs, ht⟩
  · have hl : l = [] := List.eq_nil_of_length_eq_zero h0
    subst hl
    exact ⟨none, 0, rfl, Nat.le_refl _, Nat.zero_le _, Lst.nil _ _ _ _⟩
  · refine ⟨some ⟨g, 0, none⟩, cap, rfl, hn, hc, rfl, fun hpos => ⟨g, 0, rfl, (Array.getElem?_eq_some_iff.1 hg).1, fun i y hy => ?_⟩⟩
    obtain ⟨us, hr, hu⟩ := hf.at_ i y hy
    refine ⟨us, E.wide hS hr, fun j u hj => ?_⟩
    have hcell := h.cells (g := g) rfl _ u (hu j u hj)
    rw [Addr.add_lit] at hcell
    rw [← hcell, Nat.add_assoc]
/-- what a maker of data holds: its draw of numbers, and the row that it makes -/
structure RI (w W : World) (B b0 Br : Nat) (T : TypeId) (s : Nat) (v : Value) (n : Nat) (xs : List Value) : Prop where
  bel : Below B w W
  draw : DrawAt W b0 (· < B)
  row : W.ownsRow Br T s v n xs
  lo : B ≤ b0
  hi : b0 < Br
section
variable {w W W' : World} {B b0 Br n s : Nat} {T : TypeId} {v : Value} {xs : List Value}
theorem RI.lt (h : RI w W B b0 Br T s v n xs) : b0 < W.heap.size := h.draw.lt
theorem RI.below (h : RI w W B b0 Br T s v n xs) (hb : Below W.heap.size W W') : RI w W' B b0 Br T s v n xs :=
  ⟨h.bel.trans (hb.mono (by have := h.lt; have := h.lo; omega)), h.draw.below (fun c hc => by have := h.lt; have := h.lo; omega) hb, own_belowb h.row hb, h.lo, h.hi⟩
theorem RI.next (h : RI w W B b0 Br T s v n xs) (hd : DrawAt W' b0 (· < B)) (hg : W.grownBy W' (some b0)) : RI w W' B b0 Br T s v n xs :=
  ⟨h.bel.trans ⟨hg.os, hg.tape, hg.output, hg.size, fun b hb => hg.block b (by have := h.lt; have := h.lo; omega) (fun e => by injection e; have := h.lo; omega)⟩, hd, own_next h.row hg h.hi, h.lo, h.hi⟩
theorem RI.set (h : RI w W B b0 Br T s v n xs) {bs o : Nat} {u : Value} (hlt : b0 < bs) (hne : v.ownBlock ≠ some bs) : RI w (W.setCell ⟨bs, o, none⟩ u) B b0 Br T s v n xs := by
  have hg := grown_set (w := W) bs o u
  have hk : ∀ b, b ≠ bs → (W.setCell ⟨bs, o, none⟩ u).heap[b]? = W.heap[b]? := fun b hb => by
    rcases Nat.lt_or_ge b W.heap.size with hl | hl
    · exact hg.block b hl (fun e => by injection e; omega)
    · rw [Array.getElem?_eq_none hl, Array.getElem?_eq_none (by rw [World.size_setCell]; exact hl)]
  have hlo := h.lo
  exact ⟨h.bel.trans ⟨hg.os, hg.tape, hg.output, hg.size, fun b hb => hk b (by omega)⟩, h.draw.same (hk b0 (by omega)) (fun c hc => hk c (by omega)), own_same h.row (fun b hb => hk b (fun e => hne (e ▸ hb))), h.lo, h.hi⟩
theorem RI.push (h : RI w W B b0 Br T s v n xs) {v' : Value} {m : Nat} {ys : List Value} (hr : W'.ownsRow Br T s v' m ys) (hg : W.grownBy W' v.ownBlock) : RI w W' B b0 Br T s v' m ys := by
  have hlo := h.lo
  have hhi := h.hi
  have hlt := h.lt
  have hne : ∀ b, b < Br → some b ≠ v.ownBlock := fun b hb e => by have := (h.row.lt b e.symm).1; omega
  exact ⟨h.bel.trans ⟨hg.os, hg.tape, hg.output, hg.size, fun b hb => hg.block b (by omega) (hne b (by omega))⟩, h.draw.same (hg.block b0 (by omega) (hne b0 (by omega))) (fun c hc => hg.block c (by omega) (hne c (by omega))), hr, h.lo, h.hi⟩
end
end Go.Proofs.Ytbodidhggdggmaa
