/- Lookups: two lists of lookups one after the other (plain); append of lookups; what Made gives. -/
import Derived.Test.YtfbgbbbfpkpfkaaSb17
namespace Go.Proofs.Ytfbgbbbfpkpfkaa
open Go.RowKit
theorem stepL_lt (x : List Sub) (g : List Int) : ∀ f i, ∀ q ∈ stepL x g f i, q.1 < g.length := by
  intro f
  induction f with
  | zero => intro i q hq; cases hq
  | succ f ih =>
    intro i q hq
    unfold stepL at hq
    split at hq
    · rename_i h
      rcases List.mem_cons.1 hq with rfl | hq
      · exact h
      · exact ih _ q hq
    · cases hq
theorem fold_chain (F : List Int) (m : List (List Sub)) : ∀ (G J : List Int), J.length = G.length → (m.foldl (fun st x => apply1 x st) (G, J.map fun j => F.getD j.toNat 0)) = ((m.foldl (fun st x => apply1 x st) (G, J)).1, (m.foldl (fun st x => apply1 x st) (G, J)).2.map fun j => F.getD j.toNat 0) := by
  induction m with
  | nil => intro G J _; rfl
  | cons x m ih =>
    intro G J hJ
    rw [List.foldl_cons, List.foldl_cons]
    have e : apply1 x (G, J.map fun j => F.getD j.toNat 0) = ((apply1 x (G, J)).1, (apply1 x (G, J)).2.map fun j => F.getD j.toNat 0) := by
      unfold apply1 fstS
      rw [List.map_map]
      refine Prod.ext rfl (List.map_congr_left fun q hq => ?_)
      have hl := stepL_lt x G G.length 0 q hq
      have hj : q.1 < J.length := by rw [hJ]; exact hl
      show (J.map fun j => F.getD j.toNat 0).getD q.1 0 = F.getD (J.getD q.1 0).toNat 0
      rw [List.getD_eq_getElem?_getD, List.getElem?_map, List.getElem?_eq_getElem hj, List.getD_eq_getElem?_getD (l := J), List.getElem?_eq_getElem hj]
      rfl
    rw [e]
    exact ih _ _ (apply1_len x (G, J)).1.symm
theorem fold_in (m : List (List Sub)) (N : Nat) : ∀ st : List Int × List Int, st.1.length = st.2.length → (∀ j ∈ st.2, 0 ≤ j ∧ j < (N : Int)) → ∀ j ∈ (m.foldl (fun st x => apply1 x st) st).2, 0 ≤ j ∧ j < (N : Int) := by
  induction m with
  | nil => intro st _ h; exact h
  | cons x m ih =>
    intro st hl h
    refine ih (apply1 x st) (apply1_len x st).1 (fun j hj => ?_)
    obtain ⟨q, hq, rfl⟩ := List.mem_map.1 hj
    have hlt := stepL_lt x st.1 st.1.length 0 q hq
    have hj2 : q.1 < st.2.length := by omega
    show 0 ≤ st.2.getD q.1 0 ∧ st.2.getD q.1 0 < (N : Int)
    rw [List.getD_eq_getElem?_getD, List.getElem?_eq_getElem hj2]
    exact h _ (List.getElem_mem hj2)
theorem map_iota (F : List Int) : (iota F.length).map (fun j => F.getD j.toNat 0) = F := by
  unfold iota
  rw [List.map_map]
  refine List.ext_getElem (by simp) (fun i h1 h2 => ?_)
  simp [List.getD_eq_getElem?_getD, List.getElem?_eq_getElem h2]
/-- lookups one after the other -/
theorem chain_law (l m : List (List Sub)) (x : List Int) : applyS (l ++ m) x = ((applyS m (applyS l x).1).1, (applyS m (applyS l x).1).2.map fun j => (applyS l x).2.getD j.toNat 0) ∧ ∀ j ∈ (applyS m (applyS l x).1).2, 0 ≤ j ∧ j < ((applyS l x).2.length : Int) := by
  have hlen := (applyS_len l x).1
  obtain ⟨st, hst⟩ : ∃ st, applyS l x = st := ⟨_, rfl⟩
  rw [applyS_app, hst]
  rw [hst] at hlen
  obtain ⟨G, F⟩ := st
  simp only at hlen ⊢
  refine ⟨?_, ?_⟩
  · have := fold_chain F m G (iota F.length) (by rw [iota_len, hlen])
    rw [map_iota] at this
    rw [this]
    unfold applyS
    rw [hlen]
  · unfold applyS
    refine fold_in m F.length (G, iota G.length) (iota_len _).symm (fun j hj => ?_)
    unfold iota at hj
    obtain ⟨i, hi, rfl⟩ := List.mem_map.1 hj
    have := List.mem_range.1 hi
    omega
theorem lks_cells {w : World} {S : Nat → Prop} {b : Nat} : ∀ (l : List (List Sub)) (off : Nat), (∀ i x, l[i]? = some x → ∃ us, Enc.lk.rep w S us x ∧ ∀ j u, us[j]? = some u → w.cell? ⟨b, off + i * 1 + j, none⟩ = some u) → ∃ cs : List Value, Flat Enc.lk w S cs l ∧ ∀ j u, cs[j]? = some u → w.cell? ⟨b, off + j, none⟩ = some u := by
  intro l
  induction l with
  | nil => intro off _; exact ⟨[], rfl, fun j u hj => by simp at hj⟩
  | cons x l ih =>
    intro off h
    obtain ⟨us, hr, hu⟩ := h 0 x rfl
    obtain ⟨cs, hf, hc⟩ := ih (off + 1) (fun i y hy => by
      obtain ⟨us', hr', hu'⟩ := h (i + 1) y (by simpa using hy)
      exact ⟨us', hr', fun j u hj => by have := hu' j u hj; rwa [show off + (i + 1) * 1 + j = off + 1 + i * 1 + j by omega] at this⟩)
    have hul : us.length = 1 := Enc.lk.len hr
    refine ⟨us ++ cs, ⟨us, cs, rfl, hr, hf⟩, fun j u hj => ?_⟩
    cases j with
    | zero =>
      rw [List.getElem?_append_left (by omega)] at hj
      simpa using hu 0 u hj
    | succ j =>
      rw [List.getElem?_append_right (by omega), hul, Nat.add_sub_cancel] at hj
      have := hc j u hj
      rwa [show off + 1 + j = off + (j + 1) by omega] at this
theorem flat_one {w : World} {S : Nat → Prop} : ∀ {l : List (List Sub)} {cs : List Value}, Flat Enc.lk w S cs l → ∀ u ∈ cs, u.oneCell' = true := by
  intro l
  induction l with
  | nil => intro cs h u hu; rw [show cs = [] from h] at hu; cases hu
  | cons x l ih =>
    rintro cs ⟨us, cs', rfl, h1, h2⟩ u hu
    rcases List.mem_append.1 hu with hu | hu
    · exact Enc.lk.one h1 u hu
    · exact ih h2 u hu
theorem wpList_append_lks {w : World} {ops : Array Oper} {rest : List Oper} {o : Oper} {a : Act} {Q : Exit → Act → World → Prop} (hgd : o.guard = none) (s x : Operand)
    (ho : o.op = .call { callee := .builtin .append, args := #[s, x], argTypes := #[24, 24] })
    (base : Nat) (v : Value) (l0 : List (List Sub)) (xs : List Value) (hs : a.eval s = v) (hown : w.ownsRow base 37 1 v l0.length xs) (hfl : Flat Enc.lk w (· < base) xs l0)
    (ad : Option Addr) (n c : Nat) (l : List (List Sub)) (hx : a.eval x = .slice ad n c) (hl : Lst Enc.lk w (· < base) ad n l) (h63 : l0.length + n ≤ 1000) (hbase : base ≤ w.heap.size)
    (h : ∀ v' w' xs', w'.ownsRow base 37 1 v' (l0 ++ l).length xs' → Flat Enc.lk w' (· < base) xs' (l0 ++ l) → Below base w w' → wpList Try.prog ops Q rest (a.put o.dst v') w') : wpList Try.prog ops Q (o :: rest) a w := by
  obtain ⟨i3, hi3, hiz3, his3, hiy3⟩ := info_parts info_lk
  have hlen := hl.1
  have go : ∀ g cs, ad = some g → Flat Enc.lk w (· < base) cs l → (∀ j u, cs[j]? = some u → w.cell? (g.add j) = some u) → wpList Try.prog ops Q (o :: rest) a w := fun g cs hg hf hc => by
    subst hg
    have hcl : cs.length = n := by rw [hf.len, hlen]; exact Nat.mul_one n
    refine wpList_append_own w hgd s x 24 ho base 37 i3 _ 1 24 Try.underlying24 hi3 hiz3 his3 hiy3 rfl (by decide) v l0.length xs hs hown g n c cs hx (by rw [hcl, Nat.mul_one]) hc (flat_one hf) (by unfold maxLen; omega) (by omega) hbase (fun v' w' h1 h2 _ => ?_)
    have hbe : Below base w w' := (Below.refl _ _ : Below base w w).grown h2 hbase (fun k e => (hown.lt k e).1)
    exact h v' w' (xs ++ cs) (by rw [List.length_append, hlen]; exact h1) ((hfl.append hf).same (fun b hb => hbe.block b hb)) hbe
  by_cases h0 : n = 0
  · subst h0
    have hnil : l = [] := List.eq_nil_of_length_eq_zero hlen
    subst hnil
    cases ad with
    | none =>
      refine Lib.wpList_append_run w hgd s x 24 24 ho v _ hs hx v w (run_append_empty base _ _ _ i3 1 c Try.underlying24 hi3 v l0.length xs hown) (h v w xs (by rw [List.append_nil]; exact hown) (by rw [List.append_nil]; exact hfl) (Below.refl _ _))
    | some g => exact go g [] rfl rfl (fun j u hj => by simp at hj)
  · obtain ⟨b, off, rfl, _, hc⟩ := hl.2 (by omega)
    obtain ⟨cs, hf, hcc⟩ := lks_cells l off hc
    exact go _ cs rfl hf (fun j u hj => by rw [Addr.add_lit]; exact hcc j u hj)
theorem flat_lst {w : World} {base : Nat} {v : Value} {l : List (List Sub)} {xs : List Value} (h1 : w.ownsRow base 37 1 v l.length xs) (h2 : Flat Enc.lk w (· < base) xs l) (hb : base ≤ w.heap.size) : ∃ a c, v = .slice a l.length c ∧ Lst Enc.lk w (· < w.heap.size) a l.length l := by
  rcases h1.2 with ⟨rfl, h0⟩ | ⟨g, cap, cur, rfl, hbg, hg, hn, hc, hcs, ht⟩
  · have hl : l = [] := List.eq_nil_of_length_eq_zero h0
    subst hl
    exact ⟨none, 0, rfl, Lst.nil _ _ _ _⟩
  · refine ⟨_, cap, rfl, rfl, fun hpos => ⟨g, 0, rfl, (Array.getElem?_eq_some_iff.1 hg).1, fun i x hx => ?_⟩⟩
    obtain ⟨us, hr, hu⟩ := h2.at_ i x hx
    refine ⟨us, Enc.lk.wide (fun b (hb' : b < base) => by omega) hr, fun j u hj => ?_⟩
    have hcell := h1.cells (g := g) rfl _ u (hu j u hj)
    rw [Addr.add_lit] at hcell
    rw [← hcell, Nat.add_assoc]
theorem goodL_small {l : List (List Sub)} {gm : Int} (h : GoodL l gm) : ∀ x ∈ l, Small x := fun x hx => by
  obtain ⟨h1, h2⟩ := h.2 x hx
  refine ⟨by omega, fun s hs => ?_⟩
  obtain ⟨⟨_, a2, a3, a4⟩, _⟩ := h2 s hs
  omega
theorem goodL_to {l : List (List Sub)} {gm : Int} (hg : gm ≤ 1000) (h : GoodL l gm) : ∀ x ∈ l, ToI x := fun x hx s hs => by
  obtain ⟨_, _, _, _, b1, b2⟩ := (h.2 x hx).2 s hs
  exact ⟨by omega, by omega⟩
end Go.Proofs.Ytfbgbbbfpkpfkaa
