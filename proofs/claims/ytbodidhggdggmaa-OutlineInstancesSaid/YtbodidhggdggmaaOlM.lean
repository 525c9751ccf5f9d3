/- Outlines whose points are changed one by one: plain Lean. -/
import Derived.Test.YtbodidhggdggmaaOlD
namespace Go.Proofs.Ytbodidhggdggmaa
open Go.RowKit
def rowN (g : Nat → Pt → Pt) (n : Nat) (c : List Pt) : List Pt := c.mapIdx (fun i p => g (n + i) p)
def imgO (g : Nat → Pt → Pt) : Nat → Ot → Ot
  | _, [] => []
  | n, c :: o => rowN g n c :: imgO g (n + c.length) o
def mix {α : Type} (a b : List α) (k : Nat) : List α := a.take k ++ b.drop k
theorem rowN_len (g : Nat → Pt → Pt) (n : Nat) (c : List Pt) : (rowN g n c).length = c.length := by simp [rowN]
theorem rowN_get {g : Nat → Pt → Pt} {n i : Nat} {c : List Pt} {p : Pt} (h : c[i]? = some p) : (rowN g n c)[i]? = some (g (n + i) p) := by simp [rowN, h]
theorem imgO_len (g : Nat → Pt → Pt) (o : Ot) : ∀ n, (imgO g n o).length = o.length := by
  induction o with
  | nil => intro n; rfl
  | cons c o ih => intro n; rw [imgO, List.length_cons, ih, List.length_cons]
theorem imgO_get (g : Nat → Pt → Pt) (o : Ot) : ∀ (n k : Nat) (c : List Pt), o[k]? = some c → (imgO g n o)[k]? = some (rowN g (n + (o.take k).flatten.length) c) := by
  induction o with
  | nil => intro n k c h; simp at h
  | cons d o ih =>
    intro n k c h
    cases k with
    | zero => simp at h; subst h; simp [imgO]
    | succ k =>
      rw [imgO, List.getElem?_cons_succ, ih _ k c (by simpa using h), List.take_succ_cons, List.flatten_cons, List.length_append, Nat.add_assoc]
theorem imgO_lens (g : Nat → Pt → Pt) (o : Ot) : ∀ n, (imgO g n o).map List.length = o.map List.length := by
  induction o with
  | nil => intro n; rfl
  | cons c o ih => intro n; rw [imgO, List.map_cons, List.map_cons, ih, rowN_len]
theorem sml_lens {a b : Ot} (h : a.map List.length = b.map List.length) (hb : Sml b) : Sml a := by
  have hl : a.length = b.length := by simpa using congrArg List.length h
  refine ⟨by rw [hl]; exact hb.1, fun c hc => ?_⟩
  have h1 : c.length ∈ a.map List.length := List.mem_map_of_mem hc
  rw [h] at h1
  obtain ⟨d, h2, h3⟩ := List.mem_map.1 h1
  rw [← h3]
  exact hb.2 d h2
theorem imgO_sml {g : Nat → Pt → Pt} {n : Nat} {o : Ot} (h : Sml o) : Sml (imgO g n o) := sml_lens (imgO_lens g o n) h
theorem mix_zero {α : Type} (a b : List α) : mix a b 0 = b := by simp [mix]
theorem mix_all {α : Type} {a b : List α} {k : Nat} (ha : a.length ≤ k) (hb : b.length ≤ k) : mix a b k = a := by simp [mix, List.take_of_length_le ha, List.drop_of_length_le hb]
theorem mix_len {α : Type} {a b : List α} (h : a.length = b.length) (k : Nat) : (mix a b k).length = b.length := by simp [mix]; omega
theorem mix_get {α : Type} {a b : List α} (h : a.length = b.length) (k : Nat) : (mix a b k)[k]? = b[k]? := by
  unfold mix
  by_cases hk : k ≤ a.length
  · rw [List.getElem?_append_right (by rw [List.length_take]; omega), List.length_take, List.getElem?_drop]
    congr 1
    omega
  · rw [List.getElem?_eq_none (by simp; omega), List.getElem?_eq_none (by omega)]
theorem mix_old {α : Type} {a b : List α} (h : a.length = b.length) {j k : Nat} (hj : k ≤ j) : (mix a b k)[j]? = b[j]? := by
  unfold mix
  by_cases hk : k ≤ a.length
  · rw [List.getElem?_append_right (by rw [List.length_take]; omega), List.length_take, List.getElem?_drop]
    congr 1
    omega
  · rw [List.getElem?_eq_none (by simp; omega), List.getElem?_eq_none (by omega)]
theorem mix_step {α : Type} {a b : List α} (h : a.length = b.length) {k : Nat} {x : α} (ha : a[k]? = some x) : (mix a b k).set k x = mix a b (k + 1) := by
  have hk := (List.getElem?_eq_some_iff.1 ha).1
  unfold mix
  rw [List.set_append_right _ _ (by rw [List.length_take]; omega), List.length_take, Nat.min_eq_left (by omega), Nat.sub_self, List.take_add_one, ha]
  rw [List.drop_eq_getElem_cons (show k < b.length by omega), List.set_cons_zero, List.append_assoc]
  rfl
theorem take_flat_len {o : Ot} {k : Nat} {c : List Pt} (h : o[k]? = some c) : (o.take (k + 1)).flatten.length = (o.take k).flatten.length + c.length := by rw [take_flat h, List.length_append]
/-- the state while contour k is written: its first i points are done -/
def stO (a b : Ot) (r z : List Pt) (k i : Nat) : Ot := (mix a b k).set k (mix r z i)
theorem stO_get {a b : Ot} {r z : List Pt} {k : Nat} (i : Nat) (h : a.length = b.length) (hk : k < b.length) : (stO a b r z k i)[k]? = some (mix r z i) := by
  unfold stO
  rw [List.getElem?_set_self (by rw [mix_len h]; exact hk)]
theorem stO_set {a b : Ot} {r z : List Pt} {k i : Nat} {p : Pt} (hr : r.length = z.length) (hp : r[i]? = some p) : (stO a b r z k i).set k ((mix r z i).set i p) = stO a b r z k (i + 1) := by
  unfold stO
  rw [List.set_set, mix_step hr hp]
theorem stO_done {a b : Ot} {r z : List Pt} {k i : Nat} (h : a.length = b.length) (hr : r.length = z.length) (hi : z.length ≤ i) (hk : a[k]? = some r) : stO a b r z k i = mix a b (k + 1) := by
  unfold stO
  rw [mix_all (by omega) hi, mix_step h hk]
theorem stO_start {a b : Ot} {r z : List Pt} {k : Nat} (h : a.length = b.length) (hz : b[k]? = some z) : stO a b r z k 0 = mix a b k := by
  unfold stO
  rw [mix_zero]
  have hk := (List.getElem?_eq_some_iff.1 hz).1
  refine List.ext_getElem? fun j => ?_
  by_cases hj : j = k
  · subst hj; rw [List.getElem?_set_self (by rw [mix_len h]; exact hk), mix_get h, hz]
  · rw [List.getElem?_set_ne (Ne.symm hj)]
theorem al1 (w : World) (o : Obj) : ∃ b V, w.heap.size = b ∧ w.alloc o = V ∧ V.heap[b]? = some o ∧ Below w.heap.size w V ∧ V.heap.size = b + 1 := ⟨_, _, rfl, rfl, heap_alloc_new w o, (Below.refl _ _).alloc (Nat.le_refl _) o, by rw [World.size_alloc]⟩
theorem frozen_under {w w' : World} {a : Addr} {v : Value} (h : w.frozen? a = false) (hc : w.cell? a = some v) (hb : Below w.heap.size w w') : w'.frozen? a = false := (hb.frozen (World.block_lt_of_cell? w a hc)).trans h
theorem OO.putS {w0 w : World} {base ob n cap : Nat} {u : Value} {o : Ot} {c : List Pt} (h : OO w0 base (.slice (some ⟨ob, 0, none⟩) n cap) o) (hb : Below w0.heap.size w0 w) (hu : Rw w w0.heap.size u c) {k : Nat} (hk : k < o.length) (hbase : base ≤ w0.heap.size) :
    base ≤ ob ∧ ob < w0.heap.size ∧ w.frozen? ⟨ob, k, none⟩ = false ∧ OO (w.setCell ⟨ob, k, none⟩ u) base (.slice (some ⟨ob, 0, none⟩) n cap) (o.set k c) ∧ ∃ y, w.cell? ⟨ob, k, none⟩ = some y := by
  obtain ⟨g, cp, hv, q1, q2, q3, q4⟩ := h.put hb hu hk hbase
  obtain ⟨g', cp', y, hv', _, _, hy, _⟩ := (h.below hb).upd (List.getElem?_eq_getElem hk)
  obtain ⟨e1, _⟩ := Value.slice.inj hv
  obtain ⟨e2, _⟩ := Value.slice.inj hv'
  have e1 : ob = g := by injection e1 with e1; injection e1
  have e2 : ob = g' := by injection e2 with e2; injection e2
  subst e1
  subst e2
  exact ⟨q1, q2, q3, q4, y, hy⟩
theorem OO.ptS {w : World} {base ob n cap : Nat} {o : Ot} (h : OO w base (.slice (some ⟨ob, 0, none⟩) n cap) o) {k i : Nat} {c : List Pt} {p : Pt} (hc : o[k]? = some c) (hp : c[i]? = some p) :
    ∃ gk capk, w.cell? ⟨ob, k, none⟩ = some (.slice (some ⟨gk, 0, none⟩) c.length capk) ∧ base ≤ gk ∧ gk < w.heap.size ∧ ob < w.heap.size ∧ gk ≠ ob ∧ base ≤ ob ∧
      (w.cell? ⟨gk, i * 3, none⟩ = some (.int .i64 p.1) ∧ w.cell? ⟨gk, i * 3 + 1, none⟩ = some (.int .i64 p.2.1) ∧ w.cell? ⟨gk, i * 3 + 2, none⟩ = some (.bool p.2.2)) ∧ (w.frozen? ⟨gk, i * 3, none⟩ = false ∧ w.frozen? ⟨gk, i * 3 + 1, none⟩ = false ∧ w.frozen? ⟨gk, i * 3 + 2, none⟩ = false) ∧
      (∀ w', Below w.heap.size w w' → ∀ j u q, j < 3 → (pcell p).set j u = pcell q → I64 q.1 → I64 q.2.1 → OO (w'.setCell ⟨gk, i * 3 + j, none⟩ u) base (.slice (some ⟨ob, 0, none⟩) n cap) (o.set k (c.set i q))) ∧
      (∀ w', Below w.heap.size w w' → ∀ q : Pt, I64 q.1 → I64 q.2.1 → OO (((w'.setCell ⟨gk, i * 3, none⟩ (.int .i64 q.1)).setCell ⟨gk, i * 3 + 1, none⟩ (.int .i64 q.2.1)).setCell ⟨gk, i * 3 + 2, none⟩ (.bool q.2.2)) base (.slice (some ⟨ob, 0, none⟩) n cap) (o.set k (c.set i q))) := by
  obtain ⟨g, cp, gk, capk, hv, q1, q2, q3, q4, q5, q6, q7, q8, _⟩ := h.pt hc hp
  obtain ⟨e1, _⟩ := Value.slice.inj hv
  have e1 : ob = g := by injection e1 with e1; injection e1
  subst e1
  have key : ∀ w', Below w.heap.size w w' → (∀ j u q, j < 3 → (pcell p).set j u = pcell q → I64 q.1 → I64 q.2.1 → OO (w'.setCell ⟨gk, i * 3 + j, none⟩ u) base (.slice (some ⟨ob, 0, none⟩) n cap) (o.set k (c.set i q))) ∧
      (∀ q : Pt, I64 q.1 → I64 q.2.1 → OO (((w'.setCell ⟨gk, i * 3, none⟩ (.int .i64 q.1)).setCell ⟨gk, i * 3 + 1, none⟩ (.int .i64 q.2.1)).setCell ⟨gk, i * 3 + 2, none⟩ (.bool q.2.2)) base (.slice (some ⟨ob, 0, none⟩) n cap) (o.set k (c.set i q))) := fun w' hb => by
    obtain ⟨g', cp', gk', capk', hv', r1, _, _, _, _, _, _, _, r9, r10⟩ := (h.below hb).pt hc hp
    obtain ⟨e1, _⟩ := Value.slice.inj hv'
    have e1 : ob = g' := by injection e1 with e1; injection e1
    subst e1
    have e3 := (cell_under q1 hb).symm.trans r1
    injection e3 with e3
    obtain ⟨e3, _⟩ := Value.slice.inj e3
    have e3 : gk = gk' := by injection e3 with e3; injection e3
    subst e3
    exact ⟨r9, r10⟩
  exact ⟨gk, capk, q1, q2, q3, q4, q5, q6, q7, q8, fun w' hb => (key w' hb).1, fun w' hb => (key w' hb).2⟩
end Go.Proofs.Ytbodidhggdggmaa
