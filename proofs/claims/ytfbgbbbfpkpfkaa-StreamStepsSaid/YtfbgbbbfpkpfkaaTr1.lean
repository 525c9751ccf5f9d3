/- Streams: slices of numbers that the call owns, wherever they begin in their blocks; families of them. -/
import Derived.Test.YtfbgbbbfpkpfkaaTr0
import Derived.Test.YtfbgbbbfpkpfkaaSb18
import Derived.ArgAppend
namespace Go.Proofs.Ytfbgbbbfpkpfkaa
open Go.RowKit

/-- A slice of numbers in a block that may be written. -/
def View (w : World) (S : Nat → Prop) (v : Value) (l : List Int) : Prop :=
  (v = .slice none 0 0 ∧ l = []) ∨ ∃ (g off cap : Nat) (cur : Array Value), v = .slice (some ⟨g, off, none⟩) l.length cap ∧ S g ∧ w.heap[g]? = some (.cells cur 3 (0, 0)) ∧ off + cap ≤ cur.size ∧ l.length ≤ cap ∧ cap ≤ maxLen ∧ ∀ j x, l[j]? = some x → cur[off + j]? = some (.int .i64 x)
section
variable {w w' : World} {S S' : Nat → Prop} {v : Value} {l : List Int}
theorem View.nil (w : World) (S : Nat → Prop) : View w S (.slice none 0 0) [] := .inl ⟨rfl, rfl⟩
theorem View.shape (h : View w S v l) : ∃ a c, v = .slice a l.length c ∧ l.length ≤ c ∧ c ≤ maxLen := by
  rcases h with ⟨rfl, rfl⟩ | ⟨g, off, cap, cur, rfl, _, _, _, h1, h2, _⟩
  · exact ⟨_, _, rfl, Nat.le_refl _, Nat.zero_le _⟩
  · exact ⟨_, _, rfl, h1, h2⟩
theorem View.blk (h : View w S v l) {b : Nat} (hb : v.ownBlock = some b) : S b ∧ b < w.heap.size ∧ ∃ cur, w.heap[b]? = some (.cells cur 3 (0, 0)) := by
  rcases h with ⟨rfl, rfl⟩ | ⟨g, off, cap, cur, rfl, h1, h2, _⟩
  · cases hb
  · injection hb with hb
    have hb : g = b := hb
    subst hb
    exact ⟨h1, (Array.getElem?_eq_some_iff.1 h2).1, cur, h2⟩
theorem View.same (h : View w S v l) (hk : ∀ b, v.ownBlock = some b → w'.heap[b]? = w.heap[b]?) : View w' S v l := by
  rcases h with ⟨rfl, rfl⟩ | ⟨g, off, cap, cur, rfl, h1, h2, h3⟩
  · exact View.nil _ _
  · exact .inr ⟨g, off, cap, cur, rfl, h1, (hk g rfl).trans h2, h3⟩
theorem View.wide (h : View w S v l) (hk : ∀ b, S b → S' b) : View w S' v l := by
  rcases h with ⟨rfl, rfl⟩ | ⟨g, off, cap, cur, rfl, h1, h2⟩
  · exact View.nil _ _
  · exact .inr ⟨g, off, cap, cur, rfl, hk g h1, h2⟩
theorem View.cell {g off cap : Nat} (h : View w S (.slice (some ⟨g, off, none⟩) l.length cap) l) {j : Nat} {x : Int} (hx : l[j]? = some x) : w.cell? ⟨g, off + j, none⟩ = some (.int .i64 x) := by
  rcases h with ⟨h0, rfl⟩ | ⟨g', off', cap', cur, h0, _, h2, _, _, _, h6⟩
  · cases hx
  · injection h0 with e1 e2 e3
    injection e1 with e1
    injection e1 with e1 e4
    subst e1; subst e4
    rw [cell_of_row w g _ cur _ _ h2]
    exact h6 j x hx
theorem View.lst (h : View w S v l) (hl : AllI l) : ∃ a c, v = .slice a l.length c ∧ l.length ≤ c ∧ c ≤ maxLen ∧ Lst Enc.int w (fun b => b < w.heap.size) a l.length l := by
  have h' := h
  rcases h with ⟨rfl, rfl⟩ | ⟨g, off, cap, cur, rfl, h1, h2, h3, h4, h5, h6⟩
  · exact ⟨_, _, rfl, Nat.le_refl _, Nat.zero_le _, Lst.nil _ _ _ _⟩
  · refine ⟨_, _, rfl, h4, h5, rfl, fun hpos => ⟨g, off, rfl, (Array.getElem?_eq_some_iff.1 h2).1, fun i x hx => ⟨[.int .i64 x], ⟨rfl, hl x (List.mem_of_getElem? hx)⟩, fun j u hj => ?_⟩⟩⟩
    cases j with
    | zero =>
      simp at hj
      subst hj
      have := h'.cell hx
      simpa [Enc.num] using this
    | succ j => simp at hj
/-- a part of it from an element on -/
theorem View.drop (h : View w S v l) {a : Option Addr} {c k : Nat} (hv : v = .slice a l.length c) (hk : k ≤ l.length) : View w S (sliced a k l.length c 1) (l.drop k) ∧ (sliced a k l.length c 1).ownBlock = v.ownBlock := by
  rcases h with ⟨rfl, rfl⟩ | ⟨g, off, cap, cur, rfl, h1, h2, h3, h4, h5, h6⟩
  · injection hv with e1 e2 e3
    subst e1; subst e3
    have : k = 0 := by simpa using hk
    subst this
    exact ⟨.inl ⟨rfl, rfl⟩, rfl⟩
  · injection hv with e1 e2 e3
    subst e1; subst e3
    unfold sliced
    by_cases hc : cap = k
    · have hl : l.length = k := by omega
      rw [if_pos hc]
      refine ⟨.inr ⟨g, off, 0, cur, ?_, h1, h2, by omega, ?_, Nat.zero_le _, fun j x hx => ?_⟩, rfl⟩
      · rw [List.length_drop, hc, hl, Nat.sub_self]
      · rw [List.length_drop]; omega
      · rw [List.drop_of_length_le (by omega)] at hx
        cases hx
    · rw [if_neg hc]
      refine ⟨.inr ⟨g, off + k, cap - k, cur, ?_, h1, h2, by omega, ?_, by omega, fun j x hx => ?_⟩, ?_⟩
      · rw [List.length_drop]
        simp [Addr.add_lit]
      · rw [List.length_drop]; omega
      · rw [List.getElem?_drop] at hx
        have := h6 (k + j) x hx
        rw [← this]
        congr 1
        omega
      · simp [Value.ownBlock, Addr.add_lit]
/-- its beginning, to be read -/
theorem View.take (h : View w S v l) (hl : AllI l) {a : Option Addr} {c k : Nat} (hv : v = .slice a l.length c) (hk : k ≤ l.length) (hk0 : 0 < k) : sliced a 0 k c 1 = .slice a k c ∧ ∃ g off, a = some ⟨g, off, none⟩ ∧ Lst Enc.int w (fun b => b < w.heap.size) a k (l.take k) := by
  obtain ⟨a', c', e, h1, h2, h3⟩ := h.lst hl
  rw [hv] at e
  injection e with e1 e2 e3
  subst e1; subst e3
  obtain ⟨b, off, rfl, _⟩ := h3.2 (by omega)
  refine ⟨?_, b, off, rfl, h3.take hk⟩
  unfold sliced
  rw [if_neg (by omega)]
  simp [Addr.add_lit]
end
theorem heap_setCells (b : Nat) (T : TypeId) : ∀ (vs : List Value) (o : Nat) (w : World) (cur : Array Value), w.heap[b]? = some (.cells cur T (0, 0)) → ∃ cur', (w.setCells b o vs).heap[b]? = some (.cells cur' T (0, 0)) ∧ cur'.size = cur.size := by
  intro vs
  induction vs with
  | nil => intro o w cur h; exact ⟨cur, h, rfl⟩
  | cons v vs ih =>
    intro o w cur h
    obtain ⟨cur', h1, h2⟩ := ih (o + 1) (w.setCell ⟨b, o, none⟩ v) _ (heap_set h v)
    exact ⟨cur', h1, by rw [h2]; simp⟩
theorem grown_setCells (b : Nat) : ∀ (vs : List Value) (o : Nat) (w : World), w.grownBy (w.setCells b o vs) (some b) ∧ (w.setCells b o vs).heap.size = w.heap.size := by
  intro vs
  induction vs with
  | nil => intro o w; exact ⟨grown_refl _ _, rfl⟩
  | cons v vs ih =>
    intro o w
    obtain ⟨h1, h2⟩ := ih (o + 1) (w.setCell ⟨b, o, none⟩ v)
    exact ⟨grown_trans (grown_set b o v) h1, by rw [World.setCells, h2]; simp [World.setCell]⟩
theorem vints_at {l : List Int} {j : Nat} {u : Value} (h : (vints l)[j]? = some u) : ∃ x, l[j]? = some x ∧ .int .i64 x = u := by
  unfold vints at h
  rw [List.getElem?_map] at h
  cases hx : l[j]? with
  | none => rw [hx] at h; cases h
  | some x => rw [hx] at h; injection h with h; exact ⟨x, rfl, h⟩
theorem vints_get {l : List Int} {j : Nat} {x : Int} (h : l[j]? = some x) : (vints l)[j]? = some (.int .i64 x) := by
  unfold vints
  rw [List.getElem?_map, h]
  rfl
/-- what append makes of it -/
theorem run_append_view {w : World} {S : Nat → Prop} {v : Value} {l : List Int} (h : View w S v l) (hS : S w.heap.size) (ty : TypeId) (a : Addr) (m c : Nat) (xs : List Int) (hm : xs.length = m) (hxs : ∀ j x, xs[j]? = some x → w.cell? (a.add j) = some (.int .i64 x)) (hb : l.length + m ≤ 1000000000000) :
    ∃ v' w', (Builtin.append_ #[22, 22] ty #[v, .slice (some a) m c]).run Try.prog w = .ok v' w' ∧ View w' S v' (l ++ xs) ∧ w.grownBy w' v.ownBlock ∧ (v'.ownBlock = v.ownBlock ∨ v'.ownBlock = some w.heap.size) := by
  obtain ⟨i3, hi3, hiz3, his3, hiy3⟩ := info_parts info_int
  have hnews : ∀ j u, (vints xs)[j]? = some u → w.cell? (a.add j) = some u := fun j u hj => by
    obtain ⟨x, hx, rfl⟩ := vints_at hj
    exact hxs j x hx
  have fresh : ∀ (v' : Value) (w' : World) (olds : List Int), olds = l → w'.ownsRow w.heap.size 3 1 v' (l.length + m) (vints olds ++ vints xs) → (∀ k, v'.ownBlock = some k → k = w.heap.size) → View w' S v' (l ++ xs) := by
    intro v' w' olds ho hown hat
    subst ho
    rw [vints_app] at hown
    have hlen : olds.length + m = (olds ++ xs).length := by rw [List.length_append, hm]
    rw [hlen] at hown
    rcases hown.2 with ⟨rfl, h0⟩ | ⟨g, cap, cur, rfl, _, hg, hn, hc, hcs, ht⟩
    · have : olds ++ xs = [] := List.eq_nil_of_length_eq_zero h0
      rw [this]
      exact View.nil _ _
    · refine .inr ⟨g, 0, cap, cur, rfl, ?_, hg, by omega, hn, hc, fun j x hx => ?_⟩
      · rw [hat g rfl]; exact hS
      · have hv := vints_get hx
        rw [← ht, List.getElem?_take] at hv
        split at hv
        · rw [Nat.zero_add]; simpa using hv
        · cases hv
  rcases h with ⟨rfl, rfl⟩ | ⟨g, off, cap, cur, rfl, h1, h2, h3, h4, h5, h6⟩
  · obtain ⟨v', w', hr, q1, q2, q3⟩ := run_append_own2 (P := Try.prog) w w.heap.size 22 ty 3 i3 (.int .i64 0) 1 8 Try.underlying22 hi3 hiz3 his3 hiy3 rfl (by decide) (.slice none 0 0) 0 [] (World.ownsRow_nil _ _ _ _) a m c (vints xs) (by rw [vints_len, hm, Nat.mul_one]) hnews (vints_one xs) (by unfold maxLen; omega) (by simp only [List.length_nil] at hb; omega) (Nat.le_refl _)
    refine ⟨v', w', hr, fresh v' w' [] rfl (by simpa [vints] using q1) (fun k hk => ?_), q2, q3⟩
    rcases q3 with e | e
    · rw [hk] at e; cases e
    · rw [hk] at e; injection e
  · by_cases hroom : l.length + m ≤ cap
    · have hr := run_append_room_cells (P := Try.prog) w 22 ty 3 i3 Try.underlying22 hi3 g off l.length cap a m c (vints xs) (by rw [vints_len, hm, his3, Nat.mul_one]) hnews (vints_one xs) hroom
        (fun j hj => by
          rw [vints_len] at hj
          rw [cell_of_row w g _ cur _ _ h2, his3, Nat.mul_one, Array.getElem?_eq_getElem (by omega)]
          rfl)
        (fun j hj => by simp [World.frozen?, h2])
      rw [his3, Nat.mul_one] at hr
      obtain ⟨cur', e1, e2⟩ := heap_setCells g 3 (vints xs) (off + l.length) w cur h2
      obtain ⟨g1, g2⟩ := grown_setCells g (vints xs) (off + l.length) w
      refine ⟨_, _, hr, ?_, g1, .inl rfl⟩
      have hlen : l.length + m = (l ++ xs).length := by rw [List.length_append, hm]
      rw [hlen]
      refine .inr ⟨g, off, cap, cur', rfl, h1, e1, by omega, by omega, h5, fun j x hx => ?_⟩
      rw [← cell_of_row _ g _ cur' _ _ e1]
      by_cases hj : j < l.length
      · rw [List.getElem?_append_left hj] at hx
        rw [World.cell?_setCells_out g _ _ _ _ (fun _ _ => Or.inl (by simp; omega)), cell_of_row w g _ cur _ _ h2]
        exact h6 j x hx
      · rw [List.getElem?_append_right (by omega)] at hx
        have hjx : j - l.length < (vints xs).length := by rw [vints_len]; exact (List.getElem?_eq_some_iff.1 hx).1
        have := World.cell?_setCells_in g (vints xs) (off + l.length) w (fun j hj => by
          rw [vints_len] at hj
          rw [cell_of_row w g _ cur _ _ h2, Array.getElem?_eq_getElem (by omega)]
          rfl) (j - l.length) hjx
        rw [show off + l.length + (j - l.length) = off + j by omega] at this
        rw [this]
        have hv := vints_get hx
        rw [← hv, List.getElem?_eq_getElem hjx]
    · have hold : ∀ j u, (vints l)[j]? = some u → w.cell? ((⟨g, off, none⟩ : Addr).add j) = some u := fun j u hj => by
        obtain ⟨x, hx, rfl⟩ := vints_at hj
        rw [Addr.add_lit, cell_of_row w g _ cur _ _ h2]
        exact h6 j x hx
      obtain ⟨v', w', hr, q1, q2⟩ := run_append_arg_grows (P := Try.prog) w 22 ty 3 i3 (.int .i64 0) 1 8 Try.underlying22 hi3 hiz3 his3 hiy3 rfl (by decide) ⟨g, off, none⟩ l.length cap (vints l) (by rw [vints_len, Nat.mul_one])
        hold
        a m c (vints xs) (by rw [vints_len, hm, Nat.mul_one]) hnews (by omega) (by unfold maxLen; omega) (by omega)
      have hr2 := run_append_grow (P := Try.prog) w 22 ty 3 i3 (.int .i64 0) Try.underlying22 hi3 hiz3 ⟨g, off, none⟩ l.length cap (vints l) (by rw [vints_len, his3, Nat.mul_one]) hold a m c (vints xs) (by rw [vints_len, hm, his3, Nat.mul_one]) hnews (by omega) (by omega) (growslice_fits (by omega) (by rw [hiy3]; omega))
      have he := hr.symm.trans hr2
      injection he with he _
      have hat : v'.ownBlock = some w.heap.size := by rw [he]; rfl
      refine ⟨v', w', hr, fresh v' w' l rfl q1 (fun k hk => ?_), ⟨q2.os, q2.tape, q2.output, q2.size, fun i hi _ => q2.block i hi (by simp)⟩, .inr hat⟩
      exact (Option.some.inj (hat.symm.trans hk)).symm
/-- append of one number that has just been made -/
theorem wpList_append_view1 {w : World} {S : Nat → Prop} {ops : Array Oper} {rest : List Oper} {o : Oper} {a : Act} {Q : Exit → Act → World → Prop} (hgd : o.guard = none) (s x : Operand)
    (ho : o.op = .call { callee := .builtin .append, args := #[s, x], argTypes := #[22, 22] })
    (v : Value) (l : List Int) (hs : a.eval s = v) (h : View w S v l) (hS : S w.heap.size) (b : Nat) (y : Int) (hx : a.eval x = .slice (some ⟨b, 0, none⟩) 1 1) (hb : w.heap[b]? = some (.cells #[.int .i64 y] 3 (0, 0)))
    (h63 : l.length ≤ 1000000000)
    (hK : ∀ v' w', View w' S v' (l ++ [y]) → w.grownBy w' v.ownBlock → (v'.ownBlock = v.ownBlock ∨ v'.ownBlock = some w.heap.size) → wpList Try.prog ops Q rest (a.put o.dst v') w') : wpList Try.prog ops Q (o :: rest) a w := by
  obtain ⟨v', w', hr, q1, q2, q3⟩ := run_append_view h hS o.type ⟨b, 0, none⟩ 1 1 [y] rfl (fun j x hj => by
    have hj0 : j = 0 := by have := (List.getElem?_eq_some_iff.1 hj).1; simp at this; omega
    subst hj0
    rw [Addr.add_lit, cell_of_row _ _ _ _ _ _ hb]
    simpa using hj) (by omega)
  exact Lib.wpList_append_run w hgd s x 22 22 ho v _ hs hx v' w' hr (hK v' w' q1 q2 q3)
/-- append of some numbers -/
theorem wpList_append_viewn {w : World} {S : Nat → Prop} {ops : Array Oper} {rest : List Oper} {o : Oper} {a : Act} {Q : Exit → Act → World → Prop} (hgd : o.guard = none) (s x : Operand)
    (ho : o.op = .call { callee := .builtin .append, args := #[s, x], argTypes := #[22, 22] })
    (v : Value) (l : List Int) (hs : a.eval s = v) (h : View w S v l) (hS : S w.heap.size) (b off m c : Nat) (xs : List Int) (S' : Nat → Prop) (hx : a.eval x = .slice (some ⟨b, off, none⟩) m c) (hl : Lst Enc.int w S' (some ⟨b, off, none⟩) m xs)
    (h63 : l.length + m ≤ 1000000000)
    (hK : ∀ v' w', View w' S v' (l ++ xs) → w.grownBy w' v.ownBlock → (v'.ownBlock = v.ownBlock ∨ v'.ownBlock = some w.heap.size) → wpList Try.prog ops Q rest (a.put o.dst v') w') : wpList Try.prog ops Q (o :: rest) a w := by
  obtain ⟨v', w', hr, q1, q2, q3⟩ := run_append_view h hS o.type ⟨b, off, none⟩ m c xs hl.1 (fun j x hj => by
    have hlen := hl.1
    have hj' := (List.getElem?_eq_some_iff.1 hj).1
    obtain ⟨b', off', y, e, _, hy, _, hc⟩ := lst_int hl (k := j) (by omega)
    injection e with e
    injection e with e1 e2
    subst e1; subst e2
    rw [Addr.add_lit, hc]
    rw [hj] at hy
    injection hy with hy
    rw [hy]) (by omega)
  exact Lib.wpList_append_run w hgd s x 22 22 ho v _ hs hx v' w' hr (hK v' w' q1 q2 q3)

/-- a family of such slices, in different blocks -/
structure Fam (w : World) (S : Nat → Prop) (vs : List Value) (ls : List (List Int)) : Prop where
  len : vs.length = ls.length
  view : ∀ (i : Nat) (v : Value) (l : List Int), vs[i]? = some v → ls[i]? = some l → View w S v l
  ap : ∀ (i j : Nat) (v v' : Value) (b : Nat), vs[i]? = some v → vs[j]? = some v' → i ≠ j → v.ownBlock = some b → v'.ownBlock = some b → False
theorem Fam.nil (w : World) (S : Nat → Prop) : Fam w S [] [] := ⟨rfl, fun i v l h => (by simp at h), fun i j v v' b h => (by simp at h)⟩
theorem Fam.below {w w' : World} {S : Nat → Prop} {vs : List Value} {ls : List (List Int)} (h : Fam w S vs ls) (hb : Below w.heap.size w w') : Fam w' S vs ls :=
  ⟨h.len, fun i v l h1 h2 => (h.view i v l h1 h2).same (fun b hb' => hb.block b ((h.view i v l h1 h2).blk hb').2.1), h.ap⟩
theorem Fam.get {w : World} {S : Nat → Prop} {vs : List Value} {ls : List (List Int)} (h : Fam w S vs ls) {i : Nat} {l : List Int} (hl : ls[i]? = some l) : ∃ v, vs[i]? = some v ∧ View w S v l := by
  have hi : i < vs.length := by rw [h.len]; exact (List.getElem?_eq_some_iff.1 hl).1
  exact ⟨vs[i], List.getElem?_eq_getElem hi, h.view i _ l (List.getElem?_eq_getElem hi) hl⟩
/-- one of them has turned -/
theorem Fam.set {w w' : World} {S : Nat → Prop} {vs : List Value} {ls : List (List Int)} (h : Fam w S vs ls) {i : Nat} {v v' : Value} {l' : List Int} (hv : vs[i]? = some v) (hg : w.grownBy w' v.ownBlock) (hv' : View w' S v' l') (ho : v'.ownBlock = v.ownBlock ∨ v'.ownBlock = some w.heap.size) : Fam w' S (vs.set i v') (ls.set i l') := by
  have hi : i < vs.length := (List.getElem?_eq_some_iff.1 hv).1
  have oth : ∀ (j : Nat) (u : Value), (vs.set i v')[j]? = some u → j ≠ i → vs[j]? = some u := fun j u hu hj => by
    rw [List.getElem?_set_ne (fun e => hj e.symm)] at hu
    exact hu
  have blk : ∀ (j : Nat) (u : Value) (b : Nat), vs[j]? = some u → u.ownBlock = some b → b < w.heap.size := fun j u b hu hb => by
    have hj : j < ls.length := by rw [← h.len]; exact (List.getElem?_eq_some_iff.1 hu).1
    exact ((h.view j u _ hu (List.getElem?_eq_getElem hj)).blk hb).2.1
  have ne : ∀ (j : Nat) (u : Value) (b : Nat), vs[j]? = some u → j ≠ i → u.ownBlock = some b → v'.ownBlock = some b → False := fun j u b hu hj hb hb' => by
    rcases ho with e | e
    · exact h.ap j i u v b hu hv hj hb (e.symm.trans hb')
    · have hlt := blk j u b hu hb
      rw [hb'] at e
      injection e with e
      omega
  refine ⟨by rw [List.length_set, List.length_set, h.len], fun j u m hu hm => ?_, fun j k u u' b hu hu' hjk hb hb' => ?_⟩
  · by_cases hj : j = i
    · subst hj
      rw [List.getElem?_set_self hi] at hu
      rw [List.getElem?_set_self (by rw [← h.len]; exact hi)] at hm
      injection hu with hu
      injection hm with hm
      subst hu; subst hm
      exact hv'
    · have hu' := oth j u hu hj
      rw [List.getElem?_set_ne (fun e => hj e.symm)] at hm
      refine (h.view j u m hu' hm).same (fun b hb => hg.block b (blk j u b hu' hb) (fun e => ?_))
      exact h.ap j i u v b hu' hv hj hb e.symm
  · by_cases hj : j = i
    · subst hj
      rw [List.getElem?_set_self hi] at hu
      injection hu with hu
      subst hu
      exact ne k u' b (oth k u' hu' (fun e => hjk e.symm)) (fun e => hjk e.symm) hb' hb
    · have h1 := oth j u hu hj
      by_cases hk : k = i
      · subst hk
        rw [List.getElem?_set_self hi] at hu'
        injection hu' with hu'
        subst hu'
        exact ne j u b h1 hj hb hb'
      · exact h.ap j k u u' b h1 (oth k u' hu' hk) hjk hb hb'
theorem Fam.wide {w : World} {S S' : Nat → Prop} {vs : List Value} {ls : List (List Int)} (h : Fam w S vs ls) (hk : ∀ b, S b → S' b) : Fam w S' vs ls := ⟨h.len, fun i v l h1 h2 => (h.view i v l h1 h2).wide hk, h.ap⟩
theorem Fam.same {w w' : World} {S : Nat → Prop} {vs : List Value} {ls : List (List Int)} (h : Fam w S vs ls) (hk : ∀ b, S b → (∃ cur, w.heap[b]? = some (.cells cur 3 (0, 0))) → w'.heap[b]? = w.heap[b]?) : Fam w' S vs ls :=
  ⟨h.len, fun i v l h1 h2 => (h.view i v l h1 h2).same (fun b hb' => hk b ((h.view i v l h1 h2).blk hb').1 ((h.view i v l h1 h2).blk hb').2.2), h.ap⟩
end Go.Proofs.Ytfbgbbbfpkpfkaa
