/- The generators' draw: numbers taken from a list, one after the other. -/
import Derived.Test.YtbbbldaccpfooaaR01
namespace Go.Proofs.Ytbbbldaccpfooaa
open Go.RowKit
/-- A draw of numbers: a struct in block b, whose list reads nothing outside S. -/
def DrawAt (w : World) (b : Nat) (S : Nat → Prop) : Prop :=
  ∃ (a : Option Addr) (len cap k : Nat) (l : List Int), w.heap[b]? = some (.cells #[.slice a len cap, .int .i64 (k : Int)] 83 (0, 0)) ∧ k ≤ len ∧ len ≤ maxLen ∧ Lst Enc.int w S a len l ∧ ¬ S b

theorem heap_set {w : World} {b off : Nat} {t : TypeId} {cs : Array Value} (h : w.heap[b]? = some (.cells cs t (0, 0))) (u : Value) : (w.setCell ⟨b, off, none⟩ u).heap[b]? = some (.cells (cs.setIfInBounds off u) t (0, 0)) := by
  simp [World.setCell, Array.getElem?_modify, h]

theorem DrawAt.same {w w' : World} {b : Nat} {S : Nat → Prop} (h : DrawAt w b S) (hb : w'.heap[b]? = w.heap[b]?) (hS : ∀ c, S c → w'.heap[c]? = w.heap[c]?) : DrawAt w' b S := by
  obtain ⟨a, len, cap, k, l, h1, h2, h3, h4, h5⟩ := h
  exact ⟨a, len, cap, k, l, hb.trans h1, h2, h3, h4.same hS, h5⟩

theorem Lst.int_at {w : World} {S : Nat → Prop} {a : Option Addr} {len : Nat} {l : List Int} (h : Lst Enc.int w S a len l) {k : Nat} (hk : k < len) :
    ∃ b off x, a = some ⟨b, off, none⟩ ∧ S b ∧ l[k]? = some x ∧ I64 x ∧ w.cell? ⟨b, off + k, none⟩ = some (.int .i64 x) := by
  obtain ⟨h1, h2⟩ := h
  obtain ⟨b, off, rfl, hb, hc⟩ := h2 (by omega)
  have hx : l[k]? = some (l[k]'(by omega)) := List.getElem?_eq_getElem _
  obtain ⟨us, ⟨rfl, hr⟩, hu⟩ := hc k _ hx
  have := hu 0 _ rfl
  simp [Enc.num] at this
  exact ⟨b, off, _, rfl, hb, hx, hr, this⟩

set_option maxHeartbeats 1000000 in
theorem next_any (b : Nat) (S : Nat → Prop) (m : Int) (w : World) (hd : DrawAt w b S) (hm : 1 ≤ m) (hm2 : m ≤ 4611686018427387904) :
    Calls Try.prog 25 #[.pointer (some ⟨b, 0, none⟩), .int .i64 m] w fun e w' => ∃ v, e = .returned (.int .i64 v) ∧ 0 ≤ v ∧ v < m ∧ DrawAt w' b S ∧ w.grownBy w' (some b) ∧ w'.heap.size = w.heap.size := by
  obtain ⟨a, len, cap, k, l, hb, hk, hlen, hl, hS⟩ := hd
  unfold maxLen at hlen
  have hc0 : w.cell? ⟨b, 0, none⟩ = some (.slice a len cap) := by simp [World.cell?, hb]
  have hc1 : w.cell? ⟨b, 1, none⟩ = some (.int .i64 (k : Int)) := by simp [World.cell?, hb]
  have hf : w.frozen? ⟨b, 1, none⟩ = false := by simp [World.frozen?, hb]
  by_cases hlt : k < len
  · obtain ⟨bb, off, x, rfl, hSb, hx, ⟨hx1, hx2⟩, hz⟩ := hl.int_at hlt
    have hne : bb ≠ b := fun e => hS (e ▸ hSb)
    have hge : ¬ len ≤ k := by omega
    go_enter Try.func25, Try.ntmps25
    go_wp2_with fail
    go_quiet (fail)
    go_wp2_with fail
    have hz' : ((w.drewN nq).setCell ⟨b, 1, none⟩ (.int .i64 (↑k + 1))).cell? ⟨bb, off + k, none⟩ = some (.int .i64 x) := by
      rw [World.cell?_setCell_other]
      · exact hz
      · intro h; injection h with h1 h2; exact hne h1.symm
    have e1 : IntKind.i64.wrap (k : Int) = k := IntWalk.i64_in _ (by omega)
    clear hge
    go_quiet ((go_at_call 12; exact Calls.quiet_of_same (mod_any _ _ _ hm hm2)))
    go_wp2_with fail
    go_ret
    have hbd : ∀ n j : Nat, (((w.drewN n).setCell ⟨b, 1, none⟩ (.int .i64 (↑k + 1))).drewN j).heap[b]? = some (.cells #[.slice (some ⟨bb, off, none⟩) len cap, .int .i64 ((k + 1 : Nat) : Int)] 83 (0, 0)) := by
      intro n j
      rw [show ((k + 1 : Nat) : Int) = (k : Int) + 1 by omega]
      exact heap_set (w := w.drewN n) (off := 1) hb _
    have hoth : ∀ n j c : Nat, c ≠ b → (((w.drewN n).setCell ⟨b, 1, none⟩ (.int .i64 (↑k + 1))).drewN j).heap[c]? = w.heap[c]? := fun n j c hc => Below.heap_setCell (w.drewN n) _ _ _ hc
    refine ⟨_, rfl, Int.emod_nonneg _ (by omega), Int.emod_lt_of_pos _ (by omega), ⟨_, len, cap, k + 1, l, hbd _ _, by omega, by unfold maxLen; omega, hl.same (fun c hc => hoth _ _ _ (fun e => hS (e ▸ hc))), hS⟩, ⟨rfl, rfl, rfl, by simp [World.setCell], fun c _ hc => hoth _ _ _ (fun e => hc (by rw [e]))⟩, by simp [World.setCell]⟩
  · have hge : len ≤ k := by omega
    have hge' : decide (len ≤ k) = true := by simpa using hge
    go_enter Try.func25, Try.ntmps25
    go_wp2_with fail
    go_quiet (fail)
    go_wp2_with fail
    go_ret
    exact ⟨0, rfl, by omega, by omega, ⟨a, len, cap, k, l, hb, by omega, by unfold maxLen; omega, hl.same (fun _ _ => rfl), hS⟩, ⟨rfl, rfl, rfl, Nat.le_refl _, fun _ _ _ => rfl⟩, rfl⟩

/-- The same, the number as a natural one; what is kept of old blocks at hand. -/
theorem next_nat (b : Nat) (S : Nat → Prop) (m : Nat) (w : World) (hd : DrawAt w b S) (hm : 1 ≤ m) (hm2 : m ≤ 4611686018427387904) :
    Calls Try.prog 25 #[.pointer (some ⟨b, 0, none⟩), .int .i64 (m : Int)] w fun e w' => ∃ v : Nat, e = .returned (.int .i64 (v : Int)) ∧ v < m ∧ DrawAt w' b S ∧ w.grownBy w' (some b) ∧ w'.heap.size = w.heap.size :=
  (next_any b S m w hd (by omega) (by omega)).mono fun e w' ⟨v, he, h0, h1, h2, h3, h4⟩ => ⟨v.toNat, by rw [he, Int.toNat_of_nonneg h0], by omega, h2, h3, h4⟩

theorem Lst.list_at {α : Type} {E : Enc α} {w : World} {S : Nat → Prop} {a : Option Addr} {len : Nat} {l : List (List α)} (h : Lst (Enc.list E) w S a len l) {k : Nat} (hk : k < len) :
    ∃ b off x a' len' cap', a = some ⟨b, off, none⟩ ∧ S b ∧ l[k]? = some x ∧ len' ≤ cap' ∧ cap' ≤ maxLen ∧ Lst E w S a' len' x ∧ w.cell? ⟨b, off + k, none⟩ = some (.slice a' len' cap') := by
  obtain ⟨h1, h2⟩ := h
  obtain ⟨b, off, rfl, hb, hc⟩ := h2 (by omega)
  have hx : l[k]? = some (l[k]'(by omega)) := List.getElem?_eq_getElem _
  obtain ⟨us, ⟨a', len', cap', rfl, h3, h4, h5⟩, hu⟩ := hc k _ hx
  have := hu 0 _ rfl
  simp [Enc.list] at this
  exact ⟨b, off, _, a', len', cap', rfl, hb, hx, h3, h4, h5, this⟩

set_option maxHeartbeats 1000000 in
theorem draw_any (S : Nat → Prop) (a : Option Addr) (len cap : Nat) (L : List (List Int)) (k : Nat) (w : World) (hL : Lst (Enc.list Enc.int) w S a len L) (_hlen : len ≤ maxLen) (_hk : k ≤ 9223372036854775807) (hS : ∀ c, S c → c < w.heap.size) :
    Calls Try.prog 24 #[.slice a len cap, .int .i64 (k : Int)] w fun e w' => ∃ b, e = .returned (.pointer (some ⟨b, 0, none⟩)) ∧ DrawAt w' b S ∧ Below w.heap.size w w' ∧ b < w'.heap.size ∧ w.heap.size ≤ b := by
  unfold maxLen at _hlen
  by_cases hlt : k < len
  · obtain ⟨bb, off, x, a', len', cap', rfl, hSb, hx, h3, h4, h5, hz⟩ := hL.list_at hlt
    have hge : ¬ len ≤ k := by omega
    go_enter Try.func24, Try.ntmps24
    go_wp2_with fail
    go_ret
    refine ⟨w.heap.size, rfl, ⟨a', len', cap', 0, x, heap_alloc_new _ _, Nat.zero_le _, by omega, h5.same (fun c hc => Below.heap_alloc _ _ _ (hS c hc)), fun hc => Nat.lt_irrefl _ (hS _ hc)⟩, (Below.refl _ _).alloc (Nat.le_refl _) _, by simp, Nat.le_refl _⟩
  · have hge : decide (len ≤ k) = true := by simp; omega
    go_enter Try.func24, Try.ntmps24
    go_wp2_with fail
    go_ret
    refine ⟨w.heap.size, rfl, ⟨none, 0, 0, 0, [], heap_alloc_new _ _, Nat.zero_le _, by unfold maxLen; omega, Lst.nil _ _ _ _, fun hc => Nat.lt_irrefl _ (hS _ hc)⟩, (Below.refl _ _).alloc (Nat.le_refl _) _, by simp, Nat.le_refl _⟩
end Go.Proofs.Ytbbbldaccpfooaa
