/- Streams: states as they are read; rows of stages that are made. -/
import Derived.Test.YtfbgbbbfpkpfkaaTr8
namespace Go.Proofs.Ytfbgbbbfpkpfkaa
open Go.RowKit
abbrev Enc.stg : Enc Stg := Enc.pair (Enc.list Enc.int) (Enc.list Enc.int)
theorem lst_stg {w : World} {S : Nat → Prop} {a : Option Addr} {len : Nat} {l : List Stg} (h : Lst Enc.stg w S a len l) {k : Nat} (hk : k < len) :
    ∃ b off s a1 n1 c1 a2 n2 c2, a = some ⟨b, off, none⟩ ∧ S b ∧ l[k]? = some s ∧ (n1 ≤ c1 ∧ c1 ≤ maxLen ∧ Lst Enc.int w S a1 n1 s.1) ∧ (n2 ≤ c2 ∧ c2 ≤ maxLen ∧ Lst Enc.int w S a2 n2 s.2) ∧
      w.cell? ⟨b, off + k * 2, none⟩ = some (.slice a1 n1 c1) ∧ w.cell? ⟨b, off + k * 2 + 1, none⟩ = some (.slice a2 n2 c2) := by
  obtain ⟨h1, h2⟩ := h
  obtain ⟨b, off, rfl, hb, hc⟩ := h2 (by omega)
  have hx : l[k]? = some (l[k]'(by omega)) := List.getElem?_eq_getElem _
  obtain ⟨us, ⟨u1, v1, rfl, ⟨a1, n1, c1, rfl, p1⟩, a2, n2, c2, rfl, p2⟩, hu⟩ := hc k _ hx
  exact ⟨b, off, _, a1, n1, c1, a2, n2, c2, rfl, hb, hx, p1, p2, hu 0 _ rfl, hu 1 _ rfl⟩
/-- what is owned is a slice that may be written -/
theorem own_view {w : World} {base n : Nat} {v : Value} {l : List Int} (h : w.ownsRow base 3 1 v n (vints l)) : View w (fun g => base ≤ g) v l := by
  have hn : n = l.length := by have := h.1; rw [vints_len] at this; omega
  subst hn
  rcases h.2 with ⟨rfl, h0⟩ | ⟨g, cap, cur, rfl, hbg, hg, hnc, hcm, hcs, ht⟩
  · have : l = [] := List.eq_nil_of_length_eq_zero h0
    subst this
    exact View.nil _ _
  · refine .inr ⟨g, 0, cap, cur, rfl, hbg, hg, by omega, hnc, hcm, fun j x hx => ?_⟩
    have hv := vints_get hx
    rw [← ht, List.getElem?_take] at hv
    split at hv
    · rw [Nat.zero_add]; simpa using hv
    · cases hv
theorem View.rep {w : World} {S : Nat → Prop} {v : Value} {l : List Int} (h : View w S v l) (hl : AllI l) : (Enc.list Enc.int).rep w (fun b => b < w.heap.size) [v] l := by
  obtain ⟨a, c, rfl, h1, h2, h3⟩ := h.lst hl
  exact ⟨a, l.length, c, rfl, h1, h2, h3⟩
/-- a row of stages reads as a state -/
theorem stages_lst {w : World} {b n : Nat} {S : Nat → Prop} {vs : List Value} {sts : List Stg} (h : w.heap[b]? = some (.cells vs.toArray 33 (0, 0))) (hf : Fam w S vs (flatS sts)) (hn : ∀ s ∈ sts, AllI s.1 ∧ AllI s.2) (hlen : sts.length = n) : Lst Enc.stg w (fun b => b < w.heap.size) (some ⟨b, 0, none⟩) n sts := by
  refine ⟨hlen, fun _ => ⟨b, 0, rfl, (Array.getElem?_eq_some_iff.1 h).1, fun i s hs => ?_⟩⟩
  obtain ⟨hi, he⟩ := List.getElem?_eq_some_iff.1 hs
  have hsp : sts = sts.take i ++ s :: sts.drop (i + 1) := by rw [← he, List.getElem_cons_drop, List.take_append_drop]
  have hil : (sts.take i).length = i := by rw [List.length_take]; omega
  have g1 := flatS_get1 (sts.take i) (sts.drop (i + 1)) s
  have g2 := flatS_get2 (sts.take i) (sts.drop (i + 1)) s
  rw [← hsp, hil] at g1 g2
  obtain ⟨v1, e1, V1⟩ := hf.get g1
  obtain ⟨v2, e2, V2⟩ := hf.get g2
  have hm := hn s (List.mem_of_getElem? hs)
  refine ⟨[v1, v2], ⟨[v1], [v2], rfl, V1.rep hm.1, V2.rep hm.2⟩, fun j u hj => ?_⟩
  have hE : (Enc.stg).n = 2 := rfl
  rw [hE, Nat.zero_add, cell_of_row w b _ _ _ _ h]
  match j, hj with
  | 0, hj => simp at hj; subst hj; simpa using e1
  | 1, hj => simp at hj; subst hj; simpa using e2
theorem View.rep2 {w : World} {S : Nat → Prop} {v : Value} {l : List Int} (h : View w S v l) (hl : AllI l) : (Enc.list Enc.int).rep w (fun b => S b ∧ b < w.heap.size) [v] l := by
  have h' := h
  rcases h with ⟨rfl, rfl⟩ | ⟨g, off, cap, cur, rfl, h1, h2, h3, h4, h5, h6⟩
  · exact ⟨_, _, _, rfl, Nat.le_refl _, Nat.zero_le _, Lst.nil _ _ _ _⟩
  · refine ⟨_, _, _, rfl, h4, h5, rfl, fun hpos => ⟨g, off, rfl, ⟨h1, (Array.getElem?_eq_some_iff.1 h2).1⟩, fun i x hx => ⟨[.int .i64 x], ⟨rfl, hl x (List.mem_of_getElem? hx)⟩, fun j u hj => ?_⟩⟩⟩
    cases j with
    | zero =>
      simp at hj
      subst hj
      have := h'.cell hx
      simpa [Enc.num] using this
    | succ j => simp at hj
theorem stages_lst2 {w : World} {b n B : Nat} {S : Nat → Prop} {vs : List Value} {sts : List Stg} (h : w.heap[b]? = some (.cells vs.toArray 33 (0, 0))) (hf : Fam w S vs (flatS sts)) (hn : ∀ s ∈ sts, AllI s.1 ∧ AllI s.2) (hlen : sts.length = n) (hb : B ≤ b) (hS : ∀ g, S g → B ≤ g) : Lst Enc.stg w (fun b => B ≤ b ∧ b < w.heap.size) (some ⟨b, 0, none⟩) n sts := by
  refine ⟨hlen, fun _ => ⟨b, 0, rfl, ⟨hb, (Array.getElem?_eq_some_iff.1 h).1⟩, fun i s hs => ?_⟩⟩
  obtain ⟨hi, he⟩ := List.getElem?_eq_some_iff.1 hs
  have hsp : sts = sts.take i ++ s :: sts.drop (i + 1) := by rw [← he, List.getElem_cons_drop, List.take_append_drop]
  have hil : (sts.take i).length = i := by rw [List.length_take]; omega
  have g1 := flatS_get1 (sts.take i) (sts.drop (i + 1)) s
  have g2 := flatS_get2 (sts.take i) (sts.drop (i + 1)) s
  rw [← hsp, hil] at g1 g2
  obtain ⟨v1, e1, V1⟩ := hf.get g1
  obtain ⟨v2, e2, V2⟩ := hf.get g2
  have hm := hn s (List.mem_of_getElem? hs)
  refine ⟨[v1, v2], ⟨[v1], [v2], rfl, ((V1.wide hS).rep2 hm.1), ((V2.wide hS).rep2 hm.2)⟩, fun j u hj => ?_⟩
  have hE : (Enc.stg).n = 2 := rfl
  rw [hE, Nat.zero_add, cell_of_row w b _ _ _ _ h]
  match j, hj with
  | 0, hj => simp at hj; subst hj; simpa using e1
  | 1, hj => simp at hj; subst hj; simpa using e2
theorem info_stage : (Try.prog.info? 33).map (fun i => (i.zero, i.size, i.bytes)) = some (some (.agg #[.slice none 0 0, .slice none 0 0]), 2, 48) := by kernel_rfl
/-- the worlds of a region whose operation s turns the world, with what its own and earlier values are -/
structure CB (s : Nat) (bs : List Nat) (P0 : World → Prop) (P1 : (Nat → Value) → World → Prop) (LL : Nat → Bool) (vs : Nat → Value) (w' : World) : Prop where
  un : ∀ j, LL j = false → vs j = undef
  b1 : LL s = true → ∀ j ∈ bs, LL j = true
  pre : LL s = false → P0 w'
  post : LL s = true → P1 vs w'
section
variable {s : Nat} {bs : List Nat} {P0 : World → Prop} {P1 : (Nat → Value) → World → Prop} {LL : Nat → Bool} {vs : Nat → Value} {w w2 : World}
theorem CB.start (s : Nat) (bs : List Nat) (P1 : (Nat → Value) → World → Prop) (h : P0 { w with drawn := w.drawn + 1 }) : CB s bs P0 P1 (fun _ => false) (fun _ => undef) { w with drawn := w.drawn + 1 } :=
  ⟨fun _ _ => rfl, fun e => Bool.noConfusion e, fun _ => h, fun e => Bool.noConfusion e⟩
theorem CB.undo (h : CB s bs P0 P1 LL vs w) (i : Nat) (v : Value) : ∀ j, (LL j || j == i) = false → (if j = i then v else vs j) = undef := fun j hj => by
  rw [Bool.or_eq_false_iff] at hj
  rw [if_neg (by simpa using hj.2)]
  exact h.un j hj.1
theorem CB.keep (h : CB s bs P0 P1 LL vs w) (i : Nat) (v : Value) (hL : LL i = false) (hi : s ≠ i) (hcg : ∀ vs vs', (∀ j, j = s ∨ j ∈ bs → vs j = vs' j) → P1 vs w → P1 vs' w) : CB s bs P0 P1 (fun j => LL j || j == i) (fun j => if j = i then v else vs j) w := by
  have hs : (LL s || s == i) = LL s := by rw [beq_eq_false_iff_ne.2 hi, Bool.or_false]
  refine ⟨h.undo i v, fun e j hj => ?_, fun e => ?_, fun e => ?_⟩
  · rw [hs] at e
    rw [h.b1 e j hj, Bool.true_or]
  · rw [hs] at e
    exact h.pre e
  · rw [hs] at e
    refine hcg vs _ (fun j hj => ?_) (h.post e)
    have hji : j ≠ i := by
      rintro rfl
      rcases hj with rfl | hj
      · exact hi rfl
      · have := h.b1 e j hj; rw [hL] at this; cases this
    rw [if_neg hji]
theorem CB.early (h : CB s bs P0 P1 LL vs w) {j : Nat} (hj : LL j = false) (hm : j ∈ bs) : LL s = false ∧ P0 w := by
  have hs : LL s = false := by
    cases e : LL s with
    | false => rfl
    | true => have := h.b1 e j hm; rw [hj] at this; cases this
  exact ⟨hs, h.pre hs⟩
theorem CB.call (h : CB s bs P0 P1 LL vs w) (i : Nat) (v : Value) (hs : LL s = false) (hne : s ≠ i) (hb : P0 w2) : CB s bs P0 P1 (fun j => LL j || j == i) (fun j => if j = i then v else vs j) w2 := by
  have hs2 : (LL s || s == i) = false := by rw [hs, beq_eq_false_iff_ne.2 hne]; rfl
  exact ⟨h.undo i v, fun e => by (rw [hs2] at e; cases e), fun _ => hb, fun e => by (rw [hs2] at e; cases e)⟩
theorem CB.ran (h : CB s bs P0 P1 LL vs w) {j : Nat} (hj : vs j ≠ undef) : LL j = true := by
  cases e : LL j with
  | true => rfl
  | false => exact absurd (h.un j e) hj
theorem CB.run (h : CB s bs P0 P1 LL vs w) (v : Value) (hv : ∀ j ∈ bs, vs j ≠ undef) (hp : P1 (fun j => if j = s then v else vs j) w2) : CB s bs P0 P1 (fun j => LL j || j == s) (fun j => if j = s then v else vs j) w2 := by
  refine ⟨h.undo s v, fun _ j hj => by rw [h.ran (hv j hj), Bool.true_or], fun e => ?_, fun _ => hp⟩
  simp at e
end
abbrev nilS : Value := .slice none 0 0
theorem made_nils (n : Nat) : madeCells #[nilS, nilS] n = (List.replicate n nilS).toArray := by
  apply Array.toList_inj.1
  apply List.ext_getElem
  · simp [madeCells]
  · intro i h1 h2
    simp only [madeCells, Array.getElem_toList, List.getElem_replicate]
    have : i % 2 = 0 ∨ i % 2 = 1 := by omega
    rcases this with h | h <;> simp [h]
theorem make_stages (n : Nat) (hn : n ≤ 1000000) (w : World) : (Instr.makeSlice 27 (.int .i64 (n : Int)) (.int .i64 (n : Int))).run Try.prog w = .ok (.slice (some ⟨w.heap.size, 0, none⟩) n n) (w.alloc (.cells (List.replicate (n * 2) nilS).toArray 33)) := by
  obtain ⟨i0, hi, hz0, hz1, hz2⟩ := info_parts info_stage
  have := run_make (P := Try.prog) w 27 33 i0 _ Try.underlying27 hi hz0 .i64 .i64 (n : Int) (n : Int) (by omega) (by omega) (by rw [hz2]; omega) (by omega)
  rw [hz1] at this
  rw [← made_nils]
  simp only [Int.toNat_natCast] at this
  exact this
end Go.Proofs.Ytfbgbbbfpkpfkaa
