/- Lookups: own rows of own rows; what few leaves. -/
import Derived.Test.YtmlnjbljdincjaaSb18
namespace Go.Proofs.Ytmlnjbljdincjaa
open Go.RowKit
theorem wpList_append_el {w : World} {ops : Array Oper} {rest : List Oper} {o : Oper} {a : Act} {Q : Exit → Act → World → Prop} {t e : TypeId} {z : Value} {size bytes : Nat} (ht : Try.prog.underlying t = some (.slice e)) (hinfo : (Try.prog.info? e).map (fun i => (i.zero, i.size, i.bytes)) = some (some z, size, bytes))
    (hzs : z.cells.size = size) (hsz : 0 < size) (hby : bytes ≤ 1000) (hgd : o.guard = none) (s x : Operand) (ho : o.op = .call { callee := .builtin .append, args := #[s, x], argTypes := #[t, t] })
    (base : Nat) (v : Value) (n : Nat) (xs : List Value) (hs : a.eval s = v) (hown : w.ownsRow base e size v n xs) (b : Nat) (us : List Value) (hx : a.eval x = .slice (some ⟨b, 0, none⟩) 1 1) (hb : w.heap[b]? = some (.cells us.toArray e (0, 0)))
    (hul : us.length = size) (hone : ∀ u ∈ us, u.oneCell' = true) (hn : n ≤ 1000) (hbase : base ≤ w.heap.size)
    (h : ∀ v' w', w'.ownsRow base e size v' (n + 1) (xs ++ us) → w.grownBy w' v.ownBlock → (v'.ownBlock = v.ownBlock ∨ v'.ownBlock = some w.heap.size) → wpList Try.prog ops Q rest (a.put o.dst v') w') : wpList Try.prog ops Q (o :: rest) a w := by
  obtain ⟨i3, hi3, hiz3, his3, hiy3⟩ := info_parts hinfo
  obtain ⟨v', w', hrun, q1, q2, q3⟩ := run_append_own2 (P := Try.prog) w base t o.type e i3 z size bytes ht hi3 hiz3 his3 hiy3 hzs hsz v n xs hown ⟨b, 0, none⟩ 1 1 us (by rw [hul, Nat.one_mul])
    (fun j u hj => by rw [Addr.add_lit, Nat.zero_add, cell_of_row _ _ _ _ _ _ hb]; simpa using hj) hone (by unfold maxLen; omega) (by have : (n + 1) * bytes ≤ 1001 * 1000 := Nat.mul_le_mul (by omega) hby; omega) hbase
  exact Lib.wpList_append_run w hgd s x t t ho v _ hs hx v' w' hrun (h v' w' q1 q2 q3)
def fewSub (s : Sub) : Sub := (s.1.take 6, s.2.1.take 6, s.2.2.1.take 6, s.2.2.2)
def fewX (x : List Sub) : List Sub := (x.take 30).map fewSub
def fewS (l : List (List Sub)) : List (List Sub) := (l.take 6).map fewX
theorem snoc_at {α : Type} {l : List α} {a x : α} {k : Nat} (h : (l ++ [a])[k]? = some x) : (k < l.length ∧ l[k]? = some x) ∨ (k = l.length ∧ x = a) := by
  rcases Nat.lt_or_ge k l.length with hk | hk
  · rw [List.getElem?_append_left hk] at h
    exact .inl ⟨hk, h⟩
  · obtain ⟨h1, h2⟩ := List.getElem?_eq_some_iff.1 h
    have : k = l.length := by simp at h1; omega
    subst this
    refine .inr ⟨rfl, ?_⟩
    rw [List.getElem?_append_right (Nat.le_refl _), Nat.sub_self] at h
    exact (Option.some.inj h).symm
/-- own rows, one for each lookup, no two in one block -/
def InR (w : World) (base : Nat) (S : Nat → Prop) (us : List Value) (l : List (List Sub)) : Prop :=
  us.length = l.length ∧ (∀ (k : Nat) (u : Value) (x : List Sub), us[k]? = some u → l[k]? = some x → ∃ ys, w.ownsRow base 43 4 u x.length ys ∧ Flat Enc.sub w S ys x) ∧ ∀ (i j : Nat) (u u' : Value) b, us[i]? = some u → us[j]? = some u' → u.ownBlock = some b → u'.ownBlock = some b → i = j
section
variable {w w' : World} {base : Nat} {S : Nat → Prop} {us : List Value} {l : List (List Sub)} {u u' : Value} {x : List Sub}
theorem InR.nil (w : World) (base : Nat) (S : Nat → Prop) : InR w base S [] [] := ⟨rfl, fun k u x h => by simp at h, fun i j u u' b h => by simp at h⟩
theorem InR.kept (h : InR w base S us l) (hk : ∀ u ∈ us, ∀ b, u.ownBlock = some b → w'.heap[b]? = w.heap[b]?) (hS : ∀ b, S b → w'.heap[b]? = w.heap[b]?) : InR w' base S us l :=
  ⟨h.1, fun k u x hu hx => (h.2.1 k u x hu hx).imp fun _ hy => ⟨own_same hy.1 (fun b hb => hk u (List.mem_of_getElem? hu) b hb), hy.2.same hS⟩, h.2.2⟩
theorem InR.lt (h : InR w base S us l) (hu : u ∈ us) {b : Nat} (hb : u.ownBlock = some b) : base ≤ b ∧ b < w.heap.size := by
  obtain ⟨k, hk, rfl⟩ := List.mem_iff_getElem.1 hu
  obtain ⟨ys, h1, _⟩ := h.2.1 k _ (l[k]'(by have := h.1; omega)) (List.getElem?_eq_getElem hk) (List.getElem?_eq_getElem _)
  exact h1.lt b hb
theorem InR.push (h : InR w base S us l) : InR w base S (us ++ [.slice none 0 0]) (l ++ [[]]) := by
  have hl := h.1
  refine ⟨by simp [hl], fun k u x hu hx => ?_, fun i j u u' b hi hj hu hu' => ?_⟩
  · rcases snoc_at hu with ⟨h1, h2⟩ | ⟨h1, rfl⟩
    · rcases snoc_at hx with ⟨_, h3⟩ | ⟨h3, _⟩
      · exact h.2.1 k u x h2 h3
      · omega
    · rcases snoc_at hx with ⟨h3, _⟩ | ⟨_, rfl⟩
      · omega
      · exact ⟨[], World.ownsRow_nil _ _ _ _, rfl⟩
  · rcases snoc_at hi with ⟨_, h2⟩ | ⟨_, rfl⟩
    · rcases snoc_at hj with ⟨_, h3⟩ | ⟨_, rfl⟩
      · exact h.2.2 i j u u' b h2 h3 hu hu'
      · cases hu'
    · cases hu
theorem InR.last (h : InR w base S (us ++ [u]) (l ++ [x])) : ∃ ys, w.ownsRow base 43 4 u x.length ys ∧ Flat Enc.sub w S ys x := by
  have hl := h.1
  simp at hl
  exact h.2.1 us.length u x (by simp) (by rw [hl]; simp)
theorem InR.app {ys zs : List Value} {s : Sub} (h : InR w base S (us ++ [u]) (l ++ [x])) (hfl : Flat Enc.sub w S ys x) (hz : Enc.sub.rep w S zs s) (hrow : w'.ownsRow base 43 4 u' (x.length + 1) (ys ++ zs)) (hg : w.grownBy w' u.ownBlock)
    (hb : u'.ownBlock = u.ownBlock ∨ u'.ownBlock = some w.heap.size) (hS : ∀ b, S b → b < base) (hbase : base ≤ w.heap.size) : InR w' base S (us ++ [u']) (l ++ [x ++ [s]]) := by
  have hl := h.1
  simp at hl
  have hlt : ∀ v ∈ us ++ [u], ∀ b, v.ownBlock = some b → base ≤ b ∧ b < w.heap.size := fun v hv b hb => h.lt hv hb
  have hS' : ∀ b, S b → w'.heap[b]? = w.heap[b]? := fun b hb => hg.block b (by have := hS b hb; omega) (fun e => by have := (hlt u (by simp) b e.symm).1; have := hS b hb; omega)
  have hat : ∀ (k : Nat) v, us[k]? = some v → (us ++ [u])[k]? = some v := fun k v hk => by rw [List.getElem?_append_left (List.getElem?_eq_some_iff.1 hk).1]; exact hk
  have hlast : (us ++ [u])[us.length]? = some u := by simp
  refine ⟨by simp [hl], fun k v y hv hy => ?_, fun i j v v' b hi hj hv hv' => ?_⟩
  · rcases snoc_at hv with ⟨h1, h2⟩ | ⟨h1, rfl⟩
    · rcases snoc_at hy with ⟨_, h3⟩ | ⟨h3, _⟩
      · obtain ⟨ys', q1, q2⟩ := h.2.1 k v y (hat k v h2) (by rw [List.getElem?_append_left (by omega)]; exact h3)
        exact ⟨ys', own_same q1 (fun b hb => hg.block b (q1.lt b hb).2 (fun e => by have := h.2.2 k us.length v u b (hat k v h2) hlast hb e.symm; omega)), q2.same hS'⟩
      · omega
    · rcases snoc_at hy with ⟨h3, _⟩ | ⟨_, rfl⟩
      · omega
      · exact ⟨ys ++ zs, by rw [List.length_append]; exact hrow, (hfl.append (Flat.single hz)).same hS'⟩
  · have mid : ∀ (k : Nat) v, us[k]? = some v → v.ownBlock = some b → u'.ownBlock = some b → False := fun k v hk h1 h2 => by
      have hk' := (List.getElem?_eq_some_iff.1 hk).1
      rcases hb with e | e
      · have := h.2.2 k us.length v u b (hat k v hk) hlast h1 (e.symm.trans h2)
        omega
      · have := (hlt v (by simp [List.mem_of_getElem? hk]) b h1).2
        rw [e] at h2
        injection h2
        omega
    rcases snoc_at hi with ⟨_, h2⟩ | ⟨h2, rfl⟩
    · rcases snoc_at hj with ⟨_, h3⟩ | ⟨_, rfl⟩
      · exact h.2.2 i j v v' b (hat i v h2) (hat j v' h3) hv hv'
      · exact (mid i v h2 hv hv').elim
    · rcases snoc_at hj with ⟨_, h3⟩ | ⟨h3, _⟩
      · exact (mid j v' h3 hv' hv).elim
      · omega
theorem row_rep {ys : List Value} (h1 : w.ownsRow base 43 4 u x.length ys) (h2 : Flat Enc.sub w S ys x) (hS : ∀ b, S b → b < w.heap.size) : Enc.lk.rep w (· < w.heap.size) [u] x := by
  rcases h1.2 with ⟨rfl, h0⟩ | ⟨g, cap, cur, rfl, hbg, hg, hn, hc, hcs, ht⟩
  · have hl : x = [] := List.eq_nil_of_length_eq_zero h0
    subst hl
    exact ⟨none, 0, 0, rfl, Nat.le_refl _, Nat.zero_le _, Lst.nil _ _ _ _⟩
  · refine ⟨some ⟨g, 0, none⟩, x.length, cap, rfl, hn, hc, rfl, fun hpos => ⟨g, 0, rfl, (Array.getElem?_eq_some_iff.1 hg).1, fun i y hy => ?_⟩⟩
    obtain ⟨us, hr, hu⟩ := h2.at_ i y hy
    refine ⟨us, Enc.sub.wide hS hr, fun j u hj => ?_⟩
    have hcell := h1.cells (g := g) rfl _ u (hu j u hj)
    rw [Addr.add_lit] at hcell
    rw [← hcell, Nat.add_assoc]
theorem flat_of : ∀ {us : List Value} {l : List (List Sub)}, us.length = l.length → (∀ (k : Nat) (u : Value) (x : List Sub), us[k]? = some u → l[k]? = some x → Enc.lk.rep w S [u] x) → Flat Enc.lk w S us l := by
  intro us
  induction us with
  | nil => intro l hl _; cases l with
    | nil => rfl
    | cons x l => simp at hl
  | cons u us ih =>
    intro l hl h
    cases l with
    | nil => simp at hl
    | cons x l => exact ⟨[u], us, rfl, h 0 u x rfl rfl, ih (by simpa using hl) (fun k v y h1 h2 => h (k + 1) v y (by simpa using h1) (by simpa using h2))⟩
theorem InR.lst {b0 : Nat} {v : Value} (hout : w.ownsRow b0 37 1 v us.length us) (h : InR w base S us l) (hS : ∀ b, S b → b < w.heap.size) : ∃ a c, v = .slice a l.length c ∧ Lst Enc.lk w (· < w.heap.size) a l.length l := by
  have hfl : Flat Enc.lk w (· < w.heap.size) us l := flat_of h.1 (fun k u x h1 h2 => by
    obtain ⟨ys, q1, q2⟩ := h.2.1 k u x h1 h2
    exact row_rep q1 q2 hS)
  have hl := h.1
  rw [hl] at hout
  rcases hout.2 with ⟨rfl, h0⟩ | ⟨g, cap, cur, rfl, hbg, hg, hn, hc, hcs, ht⟩
  · have hl : l = [] := List.eq_nil_of_length_eq_zero h0
    subst hl
    exact ⟨none, 0, rfl, Lst.nil _ _ _ _⟩
  · refine ⟨_, cap, rfl, rfl, fun hpos => ⟨g, 0, rfl, (Array.getElem?_eq_some_iff.1 hg).1, fun i x hx => ?_⟩⟩
    obtain ⟨us, hr, hu⟩ := hfl.at_ i x hx
    refine ⟨us, hr, fun j u hj => ?_⟩
    have hcell := hout.cells (g := g) rfl _ u (hu j u hj)
    rw [Addr.add_lit] at hcell
    rw [← hcell, Nat.add_assoc]
end
end Go.Proofs.Ytmlnjbljdincjaa
