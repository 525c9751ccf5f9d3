/- Outlines that the functions make: each contour's own row (or none). -/
import Derived.Test.YtbodidhggdggmaaOl0
namespace Go.Proofs.Ytbodidhggdggmaa
open Go.RowKit
def AllP (c : List Pt) : Prop := ∀ p ∈ c, I64 p.1 ∧ I64 p.2.1
def pcells (c : List Pt) : List Value := c.flatMap pcell
theorem pcells_len (c : List Pt) : (pcells c).length = c.length * 3 := by
  induction c with
  | nil => rfl
  | cons p c ih => unfold pcells at *; rw [List.flatMap_cons, List.length_append, ih, List.length_cons]; show 3 + _ = _; omega
theorem pcells_get (c : List Pt) : ∀ (k : Nat) (p : Pt) (j : Nat), c[k]? = some p → j < 3 → (pcells c)[k * 3 + j]? = (pcell p)[j]? := by
  induction c with
  | nil => intro k p j h; simp at h
  | cons q c ih =>
    intro k p j h hj
    unfold pcells at *
    rw [List.flatMap_cons]
    have e : (pcell q).length = 3 := rfl
    cases k with
    | zero => simp at h; subst h; rw [Nat.zero_mul, Nat.zero_add, List.getElem?_append_left (by omega)]
    | succ k =>
      rw [List.getElem?_append_right (by rw [e]; omega), e, show (k + 1) * 3 + j - 3 = k * 3 + j by omega]
      exact ih k p j (by simpa using h) hj
theorem pcells_append (c d : List Pt) : pcells (c ++ d) = pcells c ++ pcells d := by unfold pcells; rw [List.flatMap_append]
theorem pcells_set (c : List Pt) : ∀ (k : Nat) (p q : Pt) (j : Nat) (u : Value), c[k]? = some p → j < 3 → (pcell p).set j u = pcell q → (pcells c).set (k * 3 + j) u = pcells (c.set k q) := by
  induction c with
  | nil => intro k p q j u h; simp at h
  | cons r c ih =>
    intro k p q j u h hj hq
    unfold pcells at *
    have e : (pcell r).length = 3 := rfl
    cases k with
    | zero =>
      simp at h; subst h
      rw [List.flatMap_cons, List.set_cons_zero, List.flatMap_cons, Nat.zero_mul, Nat.zero_add, List.set_append_left _ _ (by omega), hq]
    | succ k =>
      rw [List.flatMap_cons, List.set_cons_succ, List.flatMap_cons, List.set_append_right _ _ (by rw [e]; omega), e, show (k + 1) * 3 + j - 3 = k * 3 + j by omega, ih k p q j u (by simpa using h) hj hq]
theorem AllP.set {c : List Pt} (h : AllP c) (k : Nat) {q : Pt} (h1 : I64 q.1) (h2 : I64 q.2.1) : AllP (c.set k q) := fun p hp => by
  rcases List.mem_or_eq_of_mem_set hp with h' | rfl
  · exact h p h'
  · exact ⟨h1, h2⟩
theorem allP_lst {w : World} {S : Nat → Prop} {a : Option Addr} {n : Nat} {l : List Pt} (h : Lst Enc.pt w S a n l) : AllP l := by
  intro p hp
  obtain ⟨k, hk, e⟩ := List.getElem_of_mem hp
  obtain ⟨b, off, _, _, hc⟩ := h.2 (by have := h.1; omega)
  obtain ⟨us, hr, _⟩ := hc k p (by rw [List.getElem?_eq_getElem hk, e])
  exact (pt_inv hr).2
/-- a contour in a row of its own -/
def Rw (w : World) (base : Nat) (v : Value) (c : List Pt) : Prop := w.ownsRow base 56 3 v c.length (pcells c) ∧ AllP c
theorem Rw.nil (w : World) (base : Nat) : Rw w base (.slice none 0 0) [] := ⟨World.ownsRow_nil _ _ _ _, fun p h => by simp at h⟩
theorem Rw.form {w : World} {base : Nat} {v : Value} {c : List Pt} (h : Rw w base v c) : (v = .slice none 0 0 ∧ c = []) ∨ ∃ g cap, v = .slice (some ⟨g, 0, none⟩) c.length cap ∧ base ≤ g ∧ g < w.heap.size ∧ c.length ≤ cap ∧ cap ≤ maxLen := by
  rcases h.1.2 with ⟨hv, hn⟩ | ⟨g, cap, cur, hv, hb, hg, h1, h2, _⟩
  · exact .inl ⟨hv, List.eq_nil_of_length_eq_zero hn⟩
  · exact .inr ⟨g, cap, hv, hb, (Array.getElem?_eq_some_iff.1 hg).1, h1, h2⟩
theorem Rw.lst {w : World} {base : Nat} {v : Value} {c : List Pt} (h : Rw w base v c) : ∃ a cap, v = .slice a c.length cap ∧ c.length ≤ cap ∧ cap ≤ maxLen ∧ Lst Enc.pt w (fun b => base ≤ b ∧ b < w.heap.size) a c.length c := by
  rcases h.form with ⟨rfl, rfl⟩ | ⟨g, cap, rfl, hb, hg, h1, h2⟩
  · exact ⟨none, 0, rfl, Nat.le_refl _, by decide, Lst.nil _ _ _ _⟩
  refine ⟨_, cap, rfl, h1, h2, rfl, fun _ => ⟨g, 0, rfl, ⟨hb, hg⟩, fun i p hp => ⟨pcell p, ?_, fun j u hj => ?_⟩⟩⟩
  · have := h.2 p (List.mem_of_getElem? hp)
    exact pt_rep this.1 this.2
  · have hj3 : j < 3 := (List.getElem?_eq_some_iff.1 hj).1
    have hi := (List.getElem?_eq_some_iff.1 hp).1
    have e : Enc.pt.n = 3 := rfl
    rw [e, Nat.zero_add, h.1.cellAt _ (by omega), pcells_get c i p j hp hj3, hj]
theorem Rw.below {w w' : World} {base : Nat} {v : Value} {c : List Pt} (h : Rw w base v c) (hb : Below w.heap.size w w') : Rw w' base v c :=
  ⟨h.1.kept (grown_of_below hb none) (by cases v.ownBlock <;> simp), h.2⟩
theorem Rw.mono {w : World} {base base' : Nat} {v : Value} {c : List Pt} (h : Rw w base v c) (hb : base' ≤ base) : Rw w base' v c := ⟨⟨h.1.1, h.1.2.imp id fun ⟨g, cap, cur, e, q, r⟩ => ⟨g, cap, cur, e, Nat.le_trans hb q, r⟩⟩, h.2⟩
theorem Rw.grown {w w' : World} {base : Nat} {v : Value} {c : List Pt} {row : Option Nat} (h : Rw w base v c) (hg : w.grownBy w' row) (hne : v.ownBlock = none ∨ v.ownBlock ≠ row) : Rw w' base v c := ⟨h.1.kept hg hne, h.2⟩
/-- an outline of its own: the row of slices, and each contour's row -/
def OO (w : World) (base : Nat) (v : Value) (o : Ot) : Prop := ∃ vs, w.ownsRow base 54 1 v o.length vs ∧ vs.length = o.length ∧ (∀ (k : Nat) (c : List Pt) (u : Value), o[k]? = some c → vs[k]? = some u → Rw w base u c) ∧ ∀ (i j : Nat) (u u' : Value), i ≠ j → vs[i]? = some u → vs[j]? = some u' → u.ownBlock = none ∨ u.ownBlock ≠ u'.ownBlock
theorem OO.nil (w : World) (base : Nat) : OO w base (.slice none 0 0) [] := ⟨[], World.ownsRow_nil _ _ _ _, rfl, fun k c u h => by simp at h, fun i j u u' _ h => by simp at h⟩
theorem OO.lst {w : World} {base : Nat} {v : Value} {o : Ot} (h : OO w base v o) : ∃ a cap, v = .slice a o.length cap ∧ o.length ≤ cap ∧ cap ≤ maxLen ∧ Lst Enc.ct w (fun b => base ≤ b ∧ b < w.heap.size) a o.length o := by
  obtain ⟨vs, h1, h2, h3, _⟩ := h
  rcases h1.2 with ⟨hv, hn⟩ | ⟨g, cap, cur, hv, hb, hg, q1, q2, _⟩
  · have e : o = [] := List.eq_nil_of_length_eq_zero (by omega)
    subst e
    exact ⟨none, 0, hv, Nat.le_refl _, by decide, Lst.nil _ _ _ _⟩
  · subst hv
    refine ⟨_, _, rfl, q1, q2, rfl, fun _ => ⟨g, 0, rfl, ⟨hb, (Array.getElem?_eq_some_iff.1 hg).1⟩, fun k c hc => ?_⟩⟩
    have hk := (List.getElem?_eq_some_iff.1 hc).1
    have hu : vs[k]? = some (vs[k]'(by omega)) := List.getElem?_eq_getElem _
    obtain ⟨ak, capk, e, p1, p2, p3⟩ := (h3 k c _ hc hu).lst
    rw [e] at hu
    refine ⟨[.slice ak c.length capk], ⟨_, _, _, rfl, p1, p2, p3⟩, fun j u hj => ?_⟩
    cases j with
    | zero =>
      simp at hj
      subst hj
      have en : Enc.ct.n = 1 := rfl
      rw [en, Nat.mul_one, Nat.add_zero, Nat.zero_add, h1.cellAt _ (by omega), hu]
    | succ j => simp at hj
theorem OO.below {w w' : World} {base : Nat} {v : Value} {o : Ot} (h : OO w base v o) (hb : Below w.heap.size w w') : OO w' base v o := by
  obtain ⟨vs, h1, h2, h3, h4⟩ := h
  exact ⟨vs, h1.kept (grown_of_below hb none) (by cases v.ownBlock <;> simp), h2, fun k c u hc hu => (h3 k c u hc hu).below hb, h4⟩
theorem OO.mono {w : World} {base base' : Nat} {v : Value} {o : Ot} (h : OO w base v o) (hb : base' ≤ base) : OO w base' v o := by
  obtain ⟨vs, h1, h2, h3, h4⟩ := h
  exact ⟨vs, ⟨h1.1, h1.2.imp id fun ⟨g, cap, cur, e, q, r⟩ => ⟨g, cap, cur, e, Nat.le_trans hb q, r⟩⟩, h2, fun k c u hc hu => (h3 k c u hc hu).mono hb, h4⟩
theorem getElem?_set_at {α : Type} {l : List α} {k j : Nat} {x y : α} (h : (l.set k x)[j]? = some y) : (j = k ∧ y = x) ∨ (j ≠ k ∧ l[j]? = some y) := by
  by_cases e : j = k
  · subst e
    have := (List.getElem?_eq_some_iff.1 h).1
    rw [List.length_set] at this
    rw [List.getElem?_set_self this] at h
    exact .inl ⟨rfl, by injection h with h; exact h.symm⟩
  · rw [List.getElem?_set_ne (Ne.symm e)] at h
    exact .inr ⟨e, h⟩
/-- the row's block differs from a contour's -/
theorem Rw.apart {w : World} {base base' n s : Nat} {v u : Value} {c : List Pt} {xs : List Value} (h : Rw w base u c) (hv : w.ownsRow base' 54 s v n xs) : u.ownBlock = none ∨ u.ownBlock ≠ v.ownBlock := own_ne h.1 hv (by decide)
/-- contour k of an outline of its own -/
theorem OO.ct {w : World} {base : Nat} {v : Value} {o : Ot} (h : OO w base v o) {k : Nat} {c : List Pt} (hc : o[k]? = some c) :
    ∃ g cap u, v = .slice (some ⟨g, 0, none⟩) o.length cap ∧ base ≤ g ∧ g < w.heap.size ∧ w.cell? ⟨g, k, none⟩ = some u ∧ w.frozen? ⟨g, k, none⟩ = false ∧ Rw w base u c := by
  obtain ⟨vs, h1, h2, h3, h4⟩ := h
  have hk := (List.getElem?_eq_some_iff.1 hc).1
  rcases h1.2 with ⟨hv, hn⟩ | ⟨g, cap, cur, hv, hb, hg, _⟩
  · omega
  subst hv
  have hu : vs[k]? = some (vs[k]'(by omega)) := List.getElem?_eq_getElem _
  exact ⟨g, cap, _, rfl, hb, (Array.getElem?_eq_some_iff.1 hg).1, (h1.cellAt k (by omega)).trans hu, h1.frozenAt k, h3 k c _ hc hu⟩
/-- contour k of an outline of its own, and its change in place -/
theorem OO.upd {w : World} {base : Nat} {v : Value} {o : Ot} (h : OO w base v o) {k : Nat} {c : List Pt} (hc : o[k]? = some c) :
    ∃ g cap u, v = .slice (some ⟨g, 0, none⟩) o.length cap ∧ base ≤ g ∧ g < w.heap.size ∧ w.cell? ⟨g, k, none⟩ = some u ∧ w.frozen? ⟨g, k, none⟩ = false ∧ Rw w base u c ∧ (u.ownBlock = none ∨ u.ownBlock ≠ some g) ∧ ∀ w' c', Rw w' base u c' → w.grownBy w' u.ownBlock → OO w' base v (o.set k c') := by
  obtain ⟨vs, h1, h2, h3, h4⟩ := h
  have hk := (List.getElem?_eq_some_iff.1 hc).1
  rcases h1.2 with ⟨hv, hn⟩ | ⟨g, cap, cur, hv, hb, hg, _⟩
  · omega
  subst hv
  have hu : vs[k]? = some (vs[k]'(by omega)) := List.getElem?_eq_getElem _
  have hr := h3 k c _ hc hu
  have hrc := (h1.cellAt k (by omega)).trans hu
  generalize vs[k]'(by omega) = u at hu hr hrc
  refine ⟨g, cap, u, rfl, hb, (Array.getElem?_eq_some_iff.1 hg).1, hrc, h1.frozenAt k, hr, hr.apart h1, fun w' c' hr' hg' => ⟨vs, ?_, by rw [List.length_set]; exact h2, fun m d y hd hy => ?_, h4⟩⟩
  · rw [List.length_set]
    refine h1.kept hg' (.inr fun e => ?_)
    rcases hr.apart h1 with h0 | h0
    · rw [h0] at e; simp [Value.ownBlock] at e
    · exact h0 e.symm
  · rcases getElem?_set_at hd with ⟨rfl, rfl⟩ | ⟨hne, hd⟩
    · rw [hu] at hy
      injection hy with hy
      subst hy
      exact hr'
    · exact (h3 m d y hd hy).grown hg' (h4 m k y _ hne hy hu)
theorem Rw.cell {w : World} {base g cap : Nat} {c : List Pt} (h : Rw w base (.slice (some ⟨g, 0, none⟩) c.length cap) c) {i : Nat} {p q : Pt} {j : Nat} {u : Value} (hp : c[i]? = some p) (hj : j < 3) (hu : (pcell p).set j u = pcell q) (i1 : I64 q.1) (i2 : I64 q.2.1) :
    Rw (w.setCell ⟨g, i * 3 + j, none⟩ u) base (.slice (some ⟨g, 0, none⟩) (c.set i q).length cap) (c.set i q) ∧ w.grownBy (w.setCell ⟨g, i * 3 + j, none⟩ u) (some g) := by
  obtain ⟨r1, r2⟩ := h.1.stored (i * 3 + j) u
  rw [pcells_set c i p q j u hp hj hu] at r1
  exact ⟨⟨by rw [List.length_set]; exact r1, h.2.set i i1 i2⟩, r2⟩
theorem Rw.set3 {w : World} {base g cap : Nat} {c : List Pt} (h : Rw w base (.slice (some ⟨g, 0, none⟩) c.length cap) c) {i : Nat} {p : Pt} (q : Pt) (hp : c[i]? = some p) (i1 : I64 q.1) (i2 : I64 q.2.1) :
    Rw (((w.setCell ⟨g, i * 3, none⟩ (.int .i64 q.1)).setCell ⟨g, i * 3 + 1, none⟩ (.int .i64 q.2.1)).setCell ⟨g, i * 3 + 2, none⟩ (.bool q.2.2)) base (.slice (some ⟨g, 0, none⟩) c.length cap) (c.set i q) ∧
    w.grownBy (((w.setCell ⟨g, i * 3, none⟩ (.int .i64 q.1)).setCell ⟨g, i * 3 + 1, none⟩ (.int .i64 q.2.1)).setCell ⟨g, i * 3 + 2, none⟩ (.bool q.2.2)) (some g) := by
  have hi := (List.getElem?_eq_some_iff.1 hp).1
  have hpi := h.2 p (List.mem_of_getElem? hp)
  obtain ⟨a1, a2⟩ := h.cell (q := (q.1, p.2)) (j := 0) (u := .int .i64 q.1) hp (by decide) rfl i1 hpi.2
  obtain ⟨b1, b2⟩ := a1.cell (i := i) (p := (q.1, p.2)) (q := (q.1, q.2.1, p.2.2)) (j := 1) (u := .int .i64 q.2.1) (List.getElem?_set_self hi) (by decide) rfl i1 i2
  obtain ⟨c1, c2⟩ := b1.cell (i := i) (p := (q.1, q.2.1, p.2.2)) (q := q) (j := 2) (u := .bool q.2.2) (List.getElem?_set_self (by simpa using hi)) (by decide) rfl i1 i2
  simp only [List.set_set, List.length_set] at c1
  exact ⟨c1, grown_trans a2 (grown_trans b2 c2)⟩
theorem Rw.at_ {w : World} {base g cap : Nat} {c : List Pt} (h : Rw w base (.slice (some ⟨g, 0, none⟩) c.length cap) c) {i : Nat} {p : Pt} (hp : c[i]? = some p) :
    (w.cell? ⟨g, i * 3, none⟩ = some (.int .i64 p.1) ∧ w.cell? ⟨g, i * 3 + 1, none⟩ = some (.int .i64 p.2.1) ∧ w.cell? ⟨g, i * 3 + 2, none⟩ = some (.bool p.2.2)) ∧ (w.frozen? ⟨g, i * 3, none⟩ = false ∧ w.frozen? ⟨g, i * 3 + 1, none⟩ = false ∧ w.frozen? ⟨g, i * 3 + 2, none⟩ = false) := by
  have hi := (List.getElem?_eq_some_iff.1 hp).1
  have hat : ∀ j, j < 3 → w.cell? ⟨g, i * 3 + j, none⟩ = (pcell p)[j]? := fun j hj => by rw [h.1.cellAt _ (by omega), pcells_get c i p j hp hj]
  exact ⟨⟨hat 0 (by omega), hat 1 (by omega), hat 2 (by omega)⟩, h.1.frozenAt _, h.1.frozenAt _, h.1.frozenAt _⟩
/-- one cell of one point, or the point, is written -/
theorem OO.pt {w : World} {base : Nat} {v : Value} {o : Ot} (h : OO w base v o) {k i : Nat} {c : List Pt} {p : Pt} (hc : o[k]? = some c) (hp : c[i]? = some p) :
    ∃ g cap gk capk, v = .slice (some ⟨g, 0, none⟩) o.length cap ∧ w.cell? ⟨g, k, none⟩ = some (.slice (some ⟨gk, 0, none⟩) c.length capk) ∧ base ≤ gk ∧ gk < w.heap.size ∧ g < w.heap.size ∧ gk ≠ g ∧ base ≤ g ∧
      (w.cell? ⟨gk, i * 3, none⟩ = some (.int .i64 p.1) ∧ w.cell? ⟨gk, i * 3 + 1, none⟩ = some (.int .i64 p.2.1) ∧ w.cell? ⟨gk, i * 3 + 2, none⟩ = some (.bool p.2.2)) ∧ (w.frozen? ⟨gk, i * 3, none⟩ = false ∧ w.frozen? ⟨gk, i * 3 + 1, none⟩ = false ∧ w.frozen? ⟨gk, i * 3 + 2, none⟩ = false) ∧
      (∀ j u q, j < 3 → (pcell p).set j u = pcell q → I64 q.1 → I64 q.2.1 → OO (w.setCell ⟨gk, i * 3 + j, none⟩ u) base v (o.set k (c.set i q))) ∧
      (∀ q : Pt, I64 q.1 → I64 q.2.1 → OO (((w.setCell ⟨gk, i * 3, none⟩ (.int .i64 q.1)).setCell ⟨gk, i * 3 + 1, none⟩ (.int .i64 q.2.1)).setCell ⟨gk, i * 3 + 2, none⟩ (.bool q.2.2)) base v (o.set k (c.set i q))) := by
  obtain ⟨g, cap, u, hv, q1, q2, q3, q4, hr, q5, hup⟩ := h.upd hc
  have hi := (List.getElem?_eq_some_iff.1 hp).1
  rcases hr.form with ⟨rfl, rfl⟩ | ⟨gk, capk, rfl, hbk, hgk, _⟩
  · simp at hi
  obtain ⟨r1, r2⟩ := hr.at_ hp
  have hne : gk ≠ g := fun e => by subst e; simp [Value.ownBlock] at q5
  refine ⟨g, cap, gk, capk, hv, q3, hbk, hgk, q2, hne, q1, r1, r2, fun j x q hj hx i1 i2 => ?_, fun q i1 i2 => ?_⟩
  · obtain ⟨a1, a2⟩ := hr.cell (q := q) (j := j) (u := x) hp hj hx i1 i2
    rw [List.length_set] at a1
    exact hup _ _ a1 a2
  · obtain ⟨a1, a2⟩ := hr.set3 q hp i1 i2
    exact hup _ _ a1 a2
/-- a contour is put in place of another one -/
theorem OO.put {w0 w : World} {base : Nat} {v u : Value} {o : Ot} {c : List Pt} (h : OO w0 base v o) (hb : Below w0.heap.size w0 w) (hu : Rw w w0.heap.size u c) {k : Nat} (hk : k < o.length) (hbase : base ≤ w0.heap.size) :
    ∃ g cap, v = .slice (some ⟨g, 0, none⟩) o.length cap ∧ base ≤ g ∧ g < w0.heap.size ∧ w.frozen? ⟨g, k, none⟩ = false ∧ OO (w.setCell ⟨g, k, none⟩ u) base v (o.set k c) := by
  have h' := h.below hb
  obtain ⟨vs, h1, h2, h3, h4⟩ := h
  obtain ⟨g, cap, x, hv, q1, q2, q3, q4, q5⟩ := OO.ct ⟨vs, h1, h2, h3, h4⟩ (List.getElem?_eq_getElem hk)
  have hw1 : w.ownsRow base 54 1 v o.length vs := h1.kept (grown_of_below hb none) (by cases v.ownBlock <;> simp)
  have hfresh : ∀ (y : Value) (m : Nat), vs[m]? = some y → y.ownBlock = none ∨ y.ownBlock ≠ u.ownBlock := fun y m hy => by
    have hm := (List.getElem?_eq_some_iff.1 hy).1
    have hr := h3 m _ y (List.getElem?_eq_getElem (by omega)) hy
    cases hyb : y.ownBlock with
    | none => exact .inl rfl
    | some b =>
      refine .inr fun e => ?_
      have l1 := (hr.1.lt b hyb).2
      have l2 := (hu.1.lt b e.symm).1
      omega
  have hgf : v.ownBlock = some g := by rw [hv]; rfl
  subst hv
  obtain ⟨r1, r2⟩ := hw1.stored k u
  refine ⟨g, cap, rfl, q1, q2, hw1.frozenAt k, vs.set k u, by rw [List.length_set]; exact r1, by rw [List.length_set, List.length_set]; exact h2, fun m d y hd hy => ?_, fun i j y y' hij hy hy' => ?_⟩
  · rcases getElem?_set_at hd with ⟨rfl, rfl⟩ | ⟨hne, hd⟩
    · rcases getElem?_set_at hy with ⟨_, rfl⟩ | ⟨hne, _⟩
      · exact ((hu.mono hbase).grown r2 ((hu.apart hw1).imp id (fun e => by rw [hgf] at e; exact e)))
      · exact absurd rfl hne
    · rcases getElem?_set_at hy with ⟨e, _⟩ | ⟨_, hy⟩
      · exact absurd e hne
      · have hr := (h3 m d y hd hy).below hb
        exact hr.grown r2 ((hr.apart hw1).imp id (fun e => by rw [hgf] at e; exact e))
  · rcases getElem?_set_at hy with ⟨e1, e2⟩ | ⟨n1, ky⟩
    · rcases getElem?_set_at hy' with ⟨f1, f2⟩ | ⟨m1, ky'⟩
      · exact absurd (e1.trans f1.symm) hij
      · rw [e2]
        rcases hfresh y' j ky' with h0 | h0
        · rw [h0]
          cases u.ownBlock <;> simp
        · exact .inr h0.symm
    · rcases getElem?_set_at hy' with ⟨f1, f2⟩ | ⟨m1, ky'⟩
      · rw [f2]; exact hfresh y i ky
      · exact h4 i j y y' hij ky ky'
/-- a contour is appended -/
theorem OO.push {w0 w : World} {base : Nat} {v u : Value} {o : Ot} {c : List Pt} (h : OO w0 base v o) (hb : Below w0.heap.size w0 w) (hu : Rw w w0.heap.size u c) (hbase : base ≤ w0.heap.size) :
    ∃ vs, w.ownsRow base 54 1 v o.length vs ∧ ∀ w' v', w'.ownsRow base 54 1 v' (o.length + 1) (vs ++ [u]) → w.grownBy w' v.ownBlock → OO w' base v' (o ++ [c]) := by
  obtain ⟨vs, h1, h2, h3, h4⟩ := h
  have hw1 : w.ownsRow base 54 1 v o.length vs := h1.kept (grown_of_below hb none) (by cases v.ownBlock <;> simp)
  refine ⟨vs, hw1, fun w' v' hrow hg => ?_⟩
  have hd : ∀ (m : Nat) (y : Value), vs[m]? = some y → y.ownBlock = none ∨ y.ownBlock ≠ u.ownBlock := fun m y hy => by
    have hm := (List.getElem?_eq_some_iff.1 hy).1
    have hr := h3 m _ y (List.getElem?_eq_getElem (by omega)) hy
    cases hyb : y.ownBlock with
    | none => exact .inl rfl
    | some b =>
      refine .inr fun e => ?_
      have l1 := (hr.1.lt b hyb).2
      have l2 := (hu.1.lt b e.symm).1
      omega
  have at_ : ∀ (k : Nat) (x : Value), (vs ++ [u])[k]? = some x → (vs[k]? = some x ∧ k < o.length) ∨ (k = o.length ∧ x = u) := fun k x h => by
    rcases Nat.lt_or_ge k vs.length with hk | hk
    · rw [List.getElem?_append_left hk] at h
      exact .inl ⟨h, by omega⟩
    · rw [List.getElem?_append_right hk] at h
      have hk2 := (List.getElem?_eq_some_iff.1 h).1
      simp at hk2
      have : k - vs.length = 0 := by omega
      rw [this] at h
      injection h with h
      exact .inr ⟨by omega, h.symm⟩
  refine ⟨vs ++ [u], by rw [List.length_append]; exact hrow, by simp [h2], fun k d x hd' hx => ?_, fun i j x x' hij hx hx' => ?_⟩
  · rcases at_ k x hx with ⟨q1, q2⟩ | ⟨rfl, rfl⟩
    · rw [List.getElem?_append_left q2] at hd'
      have hr := (h3 k d x hd' q1).below hb
      exact hr.grown hg (hr.apart hw1)
    · rw [List.getElem?_append_right (Nat.le_refl _), Nat.sub_self] at hd'
      injection hd' with hd'
      subst hd'
      exact (hu.mono hbase).grown hg (hu.apart hw1)
  · rcases at_ i x hx with ⟨q1, q2⟩ | ⟨e1, e2⟩
    · rcases at_ j x' hx' with ⟨p1, p2⟩ | ⟨f1, f2⟩
      · exact h4 i j x x' hij q1 p1
      · subst f2; exact hd i x q1
    · rcases at_ j x' hx' with ⟨p1, p2⟩ | ⟨f1, f2⟩
      · subst e2
        rcases hd j x' p1 with h0 | h0
        · rw [h0]; cases x.ownBlock <;> simp
        · exact .inr h0.symm
      · exact absurd (e1.trans f1.symm) hij
end Go.Proofs.Ytbodidhggdggmaa
