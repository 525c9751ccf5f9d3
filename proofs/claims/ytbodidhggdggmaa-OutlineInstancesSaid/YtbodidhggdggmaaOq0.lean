/- Deltas that numbers make: how they lie in memory. -/
import Derived.Test.YtbodidhggdggmaaOlU
import Derived.Test.YtbodidhggdggmaaOlY
namespace Go.Proofs.Ytbodidhggdggmaa
open Go.RowKit
def tcells (l : List Tent) : List Value := l.flatMap fun t => [.int .i64 t.1, .int .i64 t.2.1, .int .i64 t.2.2]
def mcells (l : List Mv) : List Value := l.flatMap fun m => [.int .i64 m.1, .int .i64 m.2]
theorem fm_len {α : Type} {f : α → List Value} {n : Nat} (hf : ∀ x, (f x).length = n) (l : List α) : (l.flatMap f).length = l.length * n := by
  induction l with
  | nil => simp
  | cons x l ih => rw [List.flatMap_cons, List.length_append, ih, hf, List.length_cons, Nat.add_mul, Nat.one_mul, Nat.add_comm]
theorem fm_get {α : Type} {f : α → List Value} {n : Nat} (hf : ∀ x, (f x).length = n) (l : List α) : ∀ (k : Nat) (x : α) (j : Nat), l[k]? = some x → j < n → (l.flatMap f)[k * n + j]? = (f x)[j]? := by
  induction l with
  | nil => intro k x j h; simp at h
  | cons y l ih =>
    intro k x j h hj
    rw [List.flatMap_cons]
    cases k with
    | zero => simp at h; subst h; rw [Nat.zero_mul, Nat.zero_add, List.getElem?_append_left (by rw [hf]; exact hj)]
    | succ k =>
      have e : (k + 1) * n + j - n = k * n + j := by rw [Nat.add_mul, Nat.one_mul]; omega
      rw [List.getElem?_append_right (by rw [hf, Nat.add_mul, Nat.one_mul]; omega), hf, e]
      exact ih k x j (by simpa using h) hj
def GoodT (l : List Tent) : Prop := ∀ t ∈ l, I64 t.1 ∧ I64 t.2.1 ∧ I64 t.2.2
def GoodM (l : List Mv) : Prop := ∀ m ∈ l, I64 m.1 ∧ I64 m.2
/-- a row of its own reads as a list -/
theorem own_lstE {α : Type} {E : Enc α} {f : α → List Value} {w : World} {base e : Nat} {v : Value} {l : List α} (h : w.ownsRow base e E.n v l.length (l.flatMap f)) (hf : ∀ x, (f x).length = E.n) (hr : ∀ x ∈ l, E.rep w (fun b => base ≤ b ∧ b < w.heap.size) (f x) x) :
    ∃ a c, v = .slice a l.length c ∧ l.length ≤ c ∧ c ≤ maxLen ∧ Lst E w (fun b => base ≤ b ∧ b < w.heap.size) a l.length l := by
  rcases h.2 with ⟨hv, hn⟩ | ⟨g, cap, cur, hv, hb, hg, q1, q2, _⟩
  · have e : l = [] := List.eq_nil_of_length_eq_zero hn
    subst e
    exact ⟨none, 0, hv, Nat.le_refl _, by decide, Lst.nil _ _ _ _⟩
  · subst hv
    refine ⟨_, cap, rfl, q1, q2, rfl, fun _ => ⟨g, 0, rfl, ⟨hb, (Array.getElem?_eq_some_iff.1 hg).1⟩, fun i x hx => ⟨f x, hr x (List.mem_of_getElem? hx), fun j u hj => ?_⟩⟩⟩
    have hjn := (List.getElem?_eq_some_iff.1 hj).1
    rw [hf] at hjn
    have hi := (List.getElem?_eq_some_iff.1 hx).1
    have hlt : i * E.n + j < l.length * E.n := by
      have : (i + 1) * E.n ≤ l.length * E.n := Nat.mul_le_mul_right _ hi
      rw [Nat.add_mul, Nat.one_mul] at this
      omega
    rw [Nat.zero_add, h.cellAt _ hlt, fm_get hf l i x j hx hjn, hj]
/-- deltas of their own -/
def OD (w : World) (base : Nat) (v : Value) (l : List Dl) : Prop := ∃ vs, w.ownsRow base 48 2 v l.length vs ∧
  ∀ (k : Nat) (d : Dl), l[k]? = some d → ∃ vr vm, vs[k * 2]? = some vr ∧ vs[k * 2 + 1]? = some vm ∧ w.ownsRow base 63 3 vr d.1.length (tcells d.1) ∧ w.ownsRow base 65 2 vm d.2.length (mcells d.2) ∧ GoodT d.1 ∧ GoodM d.2
theorem OD.nil (w : World) (base : Nat) : OD w base (.slice none 0 0) [] := ⟨[], World.ownsRow_nil _ _ _ _, fun k d h => by simp at h⟩
theorem own_blw {w w' : World} {base n T s : Nat} {v : Value} {xs : List Value} (h : w.ownsRow base T s v n xs) (hb : Below w.heap.size w w') : w'.ownsRow base T s v n xs := h.kept (grown_of_below hb none) (by cases v.ownBlock <;> simp)
theorem own_mono {w : World} {base base' n T s : Nat} {v : Value} {xs : List Value} (h : w.ownsRow base T s v n xs) (hb : base' ≤ base) : w.ownsRow base' T s v n xs := ⟨h.1, h.2.imp id fun ⟨g, cap, cur, e, q, r⟩ => ⟨g, cap, cur, e, Nat.le_trans hb q, r⟩⟩
theorem OD.below {w w' : World} {base : Nat} {v : Value} {l : List Dl} (h : OD w base v l) (hb : Below w.heap.size w w') : OD w' base v l := by
  obtain ⟨vs, h1, h2⟩ := h
  refine ⟨vs, own_blw h1 hb, fun k d hd => ?_⟩
  obtain ⟨vr, vm, e1, e2, r1, r2, r3⟩ := h2 k d hd
  exact ⟨vr, vm, e1, e2, own_blw r1 hb, own_blw r2 hb, r3⟩
theorem OD.push {w0 w : World} {base : Nat} {v vr vm : Value} {l : List Dl} {d : Dl} (h : OD w0 base v l) (hb : Below w0.heap.size w0 w) (hr : w.ownsRow base 63 3 vr d.1.length (tcells d.1)) (hm : w.ownsRow base 65 2 vm d.2.length (mcells d.2)) (gt : GoodT d.1) (gm : GoodM d.2) :
    ∃ vs, w.ownsRow base 48 2 v l.length vs ∧ ∀ w' v', w'.ownsRow base 48 2 v' (l.length + 1) (vs ++ [vr, vm]) → w.grownBy w' v.ownBlock → OD w' base v' (l ++ [d]) := by
  obtain ⟨vs, h1, h2⟩ := h.below hb
  refine ⟨vs, h1, fun w' v' hrow hg => ⟨vs ++ [vr, vm], by rw [List.length_append]; exact hrow, fun k e he => ?_⟩⟩
  have hvl : vs.length = l.length * 2 := h1.1
  rcases Nat.lt_or_ge k l.length with hk | hk
  · rw [List.getElem?_append_left hk] at he
    obtain ⟨xr, xm, e1, e2, r1, r2, r3⟩ := h2 k e he
    exact ⟨xr, xm, by rw [List.getElem?_append_left (by omega)]; exact e1, by rw [List.getElem?_append_left (by omega)]; exact e2, r1.kept hg (own_ne r1 h1 (by decide)), r2.kept hg (own_ne r2 h1 (by decide)), r3⟩
  · rw [List.getElem?_append_right hk] at he
    have hk2 := (List.getElem?_eq_some_iff.1 he).1
    simp at hk2
    have ek : k - l.length = 0 := by omega
    rw [ek] at he
    injection he with he
    subst he
    exact ⟨vr, vm, by rw [List.getElem?_append_right (by omega), show k * 2 - vs.length = 0 by omega]; rfl, by rw [List.getElem?_append_right (by omega), show k * 2 + 1 - vs.length = 1 by omega]; rfl, hr.kept hg (own_ne hr h1 (by decide)), hm.kept hg (own_ne hm h1 (by decide)), gt, gm⟩
theorem OD.lst {w : World} {base : Nat} {v : Value} {l : List Dl} (h : OD w base v l) : ∃ a c, v = .slice a l.length c ∧ l.length ≤ c ∧ c ≤ maxLen ∧ Lst Enc.dl w (fun b => base ≤ b ∧ b < w.heap.size) a l.length l := by
  obtain ⟨vs, h1, h2⟩ := h
  rcases h1.2 with ⟨hv, hn⟩ | ⟨g, cap, cur, hv, hb, hg, q1, q2, _⟩
  · have e : l = [] := List.eq_nil_of_length_eq_zero hn
    subst e
    exact ⟨none, 0, hv, Nat.le_refl _, by decide, Lst.nil _ _ _ _⟩
  · subst hv
    refine ⟨_, cap, rfl, q1, q2, rfl, fun _ => ⟨g, 0, rfl, ⟨hb, (Array.getElem?_eq_some_iff.1 hg).1⟩, fun k d hd => ?_⟩⟩
    have hk := (List.getElem?_eq_some_iff.1 hd).1
    obtain ⟨vr, vm, e1, e2, r1, r2, r3, r4⟩ := h2 k d hd
    obtain ⟨ta, tc, rfl, t1, t2, t3⟩ := own_lstE (E := Enc.tent) r1 (fun _ => rfl) (fun t ht => by obtain ⟨i1, i2, i3⟩ := r3 t ht; exact ⟨[.int .i64 t.1], _, rfl, ⟨rfl, i1⟩, [.int .i64 t.2.1], _, rfl, ⟨rfl, i2⟩, rfl, i3⟩)
    obtain ⟨xa, xc, rfl, m1, m2, m3⟩ := own_lstE (E := Enc.mv) r2 (fun _ => rfl) (fun m hm => by obtain ⟨i1, i2⟩ := r4 m hm; exact ⟨[.int .i64 m.1], _, rfl, ⟨rfl, i1⟩, rfl, i2⟩)
    refine ⟨[.slice ta d.1.length tc, .slice xa d.2.length xc], ⟨[.slice ta d.1.length tc], _, rfl, ⟨_, _, _, rfl, t1, t2, t3⟩, _, _, _, rfl, m1, m2, m3⟩, fun j u hj => ?_⟩
    have hj2 := (List.getElem?_eq_some_iff.1 hj).1
    simp at hj2
    have en : Enc.dl.n = 2 := rfl
    have : j = 0 ∨ j = 1 := by omega
    rcases this with rfl | rfl
    · rw [en, Nat.zero_add, h1.cellAt _ (by omega)]
      exact e1.trans hj
    · rw [en, Nat.zero_add, h1.cellAt _ (by omega)]
      exact e2.trans hj
def tentL : List Tent := [(0, 64, 64), (-64, -64, 0), (0, 32, 64), (16, 40, 60), (-64, 0, 64), (-50, -20, -20)]
theorem tentL_good : ∀ t ∈ tentL, I64 t.1 ∧ I64 t.2.1 ∧ I64 t.2.2 := by
  intro t ht
  simp [tentL] at ht
  rcases ht with rfl | rfl | rfl | rfl | rfl | rfl <;> exact ⟨⟨by decide, by decide⟩, ⟨by decide, by decide⟩, ⟨by decide, by decide⟩⟩
def GoodD (cnt axes : Nat) (d : Dl) : Prop := d.1.length = axes ∧ (∀ t ∈ d.1, t ∈ tentL) ∧ d.2.length = cnt ∧ ∀ m ∈ d.2, -8 ≤ m.1 ∧ m.1 ≤ 8 ∧ -8 ≤ m.2 ∧ m.2 ≤ 8
theorem tentL_valid {l : List Tent} (h : ∀ t ∈ l, t ∈ tentL) : allV l = true := by
  unfold allV
  rw [List.all_eq_true]
  intro t ht
  have := h t ht
  simp [tentL] at this
  rcases this with rfl | rfl | rfl | rfl | rfl | rfl <;> decide
end Go.Proofs.Ytbodidhggdggmaa
