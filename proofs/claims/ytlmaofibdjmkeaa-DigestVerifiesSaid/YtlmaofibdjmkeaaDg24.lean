/- DigestVerifies: what its walk needs. -/
import Derived.Test.YtlmaofibdjmkeaaDg20
import Derived.Test.YtlmaofibdjmkeaaDg21
import Derived.Test.YtlmaofibdjmkeaaDg17
import Derived.Test.YtlmaofibdjmkeaaDg23
import Derived.Test.YtlmaofibdjmkeaaOpenA
import Derived.Deep.AppendSrc
import Derived.Deep.Upon
import Derived.Lib.AppendZeros
namespace Go.Proofs.Ytlmaofibdjmkeaa
open Go.RowKit
attribute [local go_sem ↓] Go.wp_at_zero Go.wp_at_succ
/-- a slice that reads as a list of strings -/
def Rdl (w : World) (v : Value) : Prop := ∃ (a : Option Addr) (n c : Nat) (l : List ByteArray), v = .slice a n c ∧ n ≤ 100 ∧ Lst Enc.str w (fun b => b < w.heap.size) a n l
theorem Rdl.under {w w' : World} {v : Value} (h : Rdl w v) (hb : Below w.heap.size w w') : Rdl w' v := by
  obtain ⟨a, n, c, l, h1, h2, h3⟩ := h
  exact ⟨a, n, c, l, h1, h2, h3.under hb⟩
/-- a row of lists of strings -/
def Rws (w : World) (v : Value) : Prop := ∃ (b : Nat) (v0 v1 v2 v3 v4 : Value), v = .slice (some ⟨b, 0, none⟩) 5 5 ∧ w.heap[b]? = some (.cells #[v0, v1, v2, v3, v4] 28 (0, 0)) ∧ Rdl w v0 ∧ Rdl w v1 ∧ Rdl w v2 ∧ Rdl w v3 ∧ Rdl w v4
theorem Rws.under {w w' : World} {v : Value} (h : Rws w v) (hb : Below w.heap.size w w') : Rws w' v := by
  obtain ⟨b, v0, v1, v2, v3, v4, h1, h2, h3, h4, h5, h6, h7⟩ := h
  exact ⟨b, v0, v1, v2, v3, v4, h1, (hb.block b (Array.getElem?_eq_some_iff.1 h2).1).trans h2, h3.under hb, h4.under hb, h5.under hb, h6.under hb, h7.under hb⟩
theorem lst_sizes {w : World} {S : Nat → Prop} {a : Option Addr} {n : Nat} {l : List ByteArray} (h : Lst Enc.str w S a n l) : ∀ x ∈ l, x.size ≤ maxLen := by
  intro x hx
  obtain ⟨i, hi, e⟩ := List.getElem_of_mem hx
  obtain ⟨b, off, y, _, _, hy, hyi, _⟩ := lst_str h (k := i) (by have := h.1; omega)
  rw [List.getElem?_eq_getElem hi, e] at hy
  injection hy with hy
  rw [hy]
  exact hyi
/-- a slice that the code may append to -/
def Own4 (base : Nat) (w : World) (v : Value) (xs : List ByteArray) : Prop :=
  ((xs = [] ∧ ∃ b, v = .slice (some ⟨b, 0, none⟩) 0 0) ∨ (∃ va vc, v = .slice va xs.length vc ∧ w.ownsRow base 9 1 v xs.length (xs.map vba))) ∧ ∀ x ∈ xs, x.size ≤ maxLen
theorem Own4.under {base : Nat} {w w' : World} {v : Value} {xs : List ByteArray} (h : Own4 base w v xs) (hb : Below w.heap.size w w') : Own4 base w' v xs := by
  obtain ⟨h1 | ⟨va, vc, h1, h2⟩, h3⟩ := h
  · exact ⟨.inl h1, h3⟩
  · exact ⟨.inr ⟨va, vc, h1, own_below h2 hb⟩, h3⟩
theorem Own4.ne {base : Nat} {w : World} {v : Value} {xs : List ByteArray} (h : Own4 base w v xs) : v ≠ undef := by
  obtain ⟨⟨_, b, rfl⟩ | ⟨va, vc, rfl, _⟩, _⟩ := h
  · exact fun e => by cases e
  · exact fun e => by cases e
theorem Own4.rdl {base : Nat} {w : World} {v : Value} {xs : List ByteArray} (h : Own4 base w v xs) (hn : xs.length ≤ 100) : Rdl w v := by
  obtain ⟨⟨rfl, b, rfl⟩ | ⟨va, vc, h1, h2⟩, h3⟩ := h
  · exact ⟨_, 0, 0, [], rfl, by omega, Lst.nil _ _ _ _⟩
  · obtain ⟨a, c, h4, h5⟩ := lst_own_vba h2 h3
    exact ⟨a, xs.length, c, xs, h4, hn, h5.wide (fun b h => h.1)⟩
theorem app_none {w : World} {v : Value} {xs : List ByteArray} {base : Nat} (hv : Own4 base w v xs) {a : Option Addr} {c : Nat} {l : List ByteArray} (hl : Lst Enc.str w (fun b => b < w.heap.size) a 0 l) (ty : TypeId) :
    (Builtin.append_ #[28, 28] ty #[v, .slice a 0 c]).run Try.prog w = .ok v w := by
  obtain ⟨i1, hi, hz0, hz1, hz2⟩ := info_parts info_str
  obtain ⟨sa, sn, sc, hsv, hle⟩ : ∃ sa sn sc, v = .slice sa sn sc ∧ sn ≤ sc := by
    obtain ⟨⟨_, b, h⟩ | ⟨va, vc, h1, h2⟩, _⟩ := hv
    · exact ⟨_, _, _, h, by omega⟩
    · exact ⟨_, _, _, h1, own_cap h2 h1⟩
  subst hsv
  refine run_append_nothing (P := Try.prog) (ty := ty) w 28 28 9 i1 Try.underlying28 hi sa sn sc hle (.slice a 0 c) ?_
  cases a with
  | none => exact Src.ofNil w Try.underlying28 c
  | some a => exact Src.ofSlice w Try.underlying28 a 0 c [] (by simp) (fun j u hj => by simp at hj) (fun u hu => by cases hu)
theorem app_empty {base : Nat} {w : World} (b : Nat) {a : Option Addr} {n c : Nat} {l : List ByteArray} (hl : Lst Enc.str w (fun b => b < w.heap.size) a n l) (hb : base ≤ w.heap.size) (h2 : n ≤ 100) (ty : TypeId) :
    ∃ v' w', (Builtin.append_ #[28, 28] ty #[.slice (some ⟨b, 0, none⟩) 0 0, .slice a n c]).run Try.prog w = .ok v' w' ∧ Own4 base w' v' l ∧ Below w.heap.size w w' := by
  obtain ⟨i1, hi, hz0, hz1, hz2⟩ := info_parts info_str
  have hll := hl.1
  have hsl := lst_sizes hl
  rcases Nat.eq_zero_or_pos n with h0 | hpos
  · subst h0
    have hle : l = [] := List.eq_nil_of_length_eq_zero hll
    subst hle
    have hv : Own4 base w (.slice (some ⟨b, 0, none⟩) 0 0) [] := ⟨.inl ⟨rfl, b, rfl⟩, hsl⟩
    exact ⟨_, w, app_none hv hl ty, hv, Below.refl _ _⟩
  · obtain ⟨bb, off, rfl, hbb, _⟩ := hl.2 hpos
    have hnews := lst_news hl hpos
    have hlm : (l.map vba).length = n * 1 := by rw [List.length_map, hll, Nat.mul_one]
    obtain ⟨v', w', hr, ho, hg⟩ := run_append_arg_grows (P := Try.prog) w 28 ty 9 i1 (.string ⟨#[]⟩) 1 16 Try.underlying28 hi hz0 hz1 hz2 rfl (by decide) ⟨b, 0, none⟩ 0 0 [] rfl (fun j u hj => by simp at hj) ⟨bb, off, none⟩ n c (l.map vba) hlm hnews (by omega) (by unfold maxLen; omega) (by omega)
    rw [Nat.zero_add, List.nil_append] at ho
    have hbl : Below w.heap.size w w' := Below.grown (Below.refl _ _) hg (Nat.le_refl _) (fun g hg => by cases hg)
    obtain ⟨va, vc, hve⟩ := own_shape ho
    refine ⟨v', w', hr, ⟨.inr ⟨va, vc, ?_, ?_⟩, hsl⟩, hbl⟩
    · rw [hll]
      exact hve
    · rw [hll]
      exact ⟨ho.1, ho.2.imp id (fun ⟨g, cap, cur, h1, h2, h3⟩ => ⟨g, cap, cur, h1, Nat.le_trans hb h2, h3⟩)⟩
theorem app_lst {base : Nat} {w : World} {v : Value} {xs : List ByteArray} (hv : Own4 base w v xs) {a : Option Addr} {n c : Nat} {l : List ByteArray} (hl : Lst Enc.str w (fun b => b < w.heap.size) a n l) (hb : base ≤ w.heap.size) (h1 : xs.length ≤ 100) (h2 : n ≤ 100) (ty : TypeId) :
    ∃ v' w', (Builtin.append_ #[28, 28] ty #[v, .slice a n c]).run Try.prog w = .ok v' w' ∧ Own4 base w' v' (xs ++ l) ∧ Below base w w' := by
  obtain ⟨i1, hi, hz0, hz1, hz2⟩ := info_parts info_str
  have hll := hl.1
  have hsl := lst_sizes hl
  have hall : ∀ x ∈ xs ++ l, x.size ≤ maxLen := fun x hx => by
    rcases List.mem_append.1 hx with h | h
    · exact hv.2 x h
    · exact hsl x h
  rcases Nat.eq_zero_or_pos n with h0 | hpos
  · subst h0
    have hle : l = [] := List.eq_nil_of_length_eq_zero hll
    refine ⟨v, w, app_none hv hl ty, ?_, Below.refl _ _⟩
    rw [hle, List.append_nil]
    exact hv
  · obtain ⟨bb, off, rfl, hbb, _⟩ := hl.2 hpos
    have hnews := lst_news hl hpos
    have hlm : (l.map vba).length = n * 1 := by rw [List.length_map, hll, Nat.mul_one]
    have hone : ∀ u ∈ l.map vba, u.oneCell' = true := fun u hu => by obtain ⟨x, _, rfl⟩ := List.mem_map.1 hu; rfl
    obtain ⟨⟨rfl, b, rfl⟩ | ⟨va, vc, hsv, hown⟩, hsz⟩ := hv
    · obtain ⟨v', w', hr, ho, hbl⟩ := app_empty (base := base) b hl hb h2 ty
      exact ⟨v', w', hr, by rw [List.nil_append]; exact ho, hbl.mono hb⟩
    · obtain ⟨v', w', hr, ho, hg, _⟩ := run_append_own (P := Try.prog) w base 28 ty 9 i1 (.string ⟨#[]⟩) 1 16 Try.underlying28 hi hz0 hz1 hz2 rfl (by decide) v xs.length (xs.map vba) hown ⟨bb, off, none⟩ n c (l.map vba) hlm hnews hone (by unfold maxLen; omega) (by omega) hb
      have hbl : Below base w w' := Below.grown (Below.refl _ _) hg hb (fun g hg => (hown.lt g hg).1)
      obtain ⟨va', vc', hve⟩ := own_shape ho
      refine ⟨v', w', hr, ⟨.inr ⟨va', vc', ?_, ?_⟩, hall⟩, hbl⟩
      · rw [List.length_append, hll]
        exact hve
      · rw [List.length_append, hll, List.map_append]
        exact ho
/-- what holds while the five proofs are laid: the two appends write to a row that the region has made -/
def CV (wo : World) (LL : Nat → Bool) (vs : Nat → Value) (w : World) : Prop :=
  Below wo.heap.size wo w ∧ (∀ j, LL j = false → vs j = undef) ∧ (vs 4 ≠ undef → vs 6 = undef → ∃ xs : List ByteArray, xs.length ≤ 5 ∧ Own4 wo.heap.size w (vs 4) xs) ∧
    (vs 6 ≠ undef → Rdl w (vs 6)) ∧ (vs 15 ≠ undef → Rws w (vs 15)) ∧ (vs 6 = undef → vs 15 = undef)
theorem CV.keep {wo : World} {LL : Nat → Bool} {vs : Nat → Value} {w w2 : World} (h : CV wo LL vs w) (i : Nat) (v : Value) (hi : i ≠ 4 ∧ i ≠ 6 ∧ i ≠ 15) (hb : Below w.heap.size w w2) : CV wo (fun j => LL j || j == i) (fun j => if j = i then v else vs j) w2 := by
  obtain ⟨h1, h2, h3, h4, h5, h6⟩ := h
  have e4 : (if 4 = i then v else vs 4) = vs 4 := if_neg (fun e => hi.1 e.symm)
  have e6 : (if 6 = i then v else vs 6) = vs 6 := if_neg (fun e => hi.2.1 e.symm)
  have e15 : (if 15 = i then v else vs 15) = vs 15 := if_neg (fun e => hi.2.2 e.symm)
  refine ⟨h1.trans (hb.mono h1.size), fun j hj => ?_, ?_, ?_, ?_, ?_⟩
  · simp at hj
    show (if j = i then v else vs j) = undef
    rw [if_neg hj.2]
    exact h2 j hj.1
  · show (if 4 = i then v else vs 4) ≠ undef → (if 6 = i then v else vs 6) = undef → _
    rw [e4, e6]
    intro g1 g2
    obtain ⟨xs, g3, g4⟩ := h3 g1 g2
    exact ⟨xs, g3, by show Own4 _ w2 (if 4 = i then v else vs 4) xs; rw [e4]; exact g4.under hb⟩
  · show (if 6 = i then v else vs 6) ≠ undef → Rdl w2 (if 6 = i then v else vs 6)
    rw [e6]
    exact fun g => (h4 g).under hb
  · show (if 15 = i then v else vs 15) ≠ undef → Rws w2 (if 15 = i then v else vs 15)
    rw [e15]
    exact fun g => (h5 g).under hb
  · show (if 6 = i then v else vs 6) = undef → (if 15 = i then v else vs 15) = undef
    rw [e6, e15]
    exact h6
theorem CV.four {wo : World} {LL : Nat → Bool} {vs : Nat → Value} {w w2 : World} (h : CV wo LL vs w) (v : Value) (xs : List ByteArray) (hx : xs.length ≤ 5) (ho : Own4 wo.heap.size w2 v xs) (hb : Below w.heap.size w w2) : CV wo (fun j => LL j || j == 4) (fun j => if j = 4 then v else vs j) w2 := by
  obtain ⟨h1, h2, h3, h4, h5, h6⟩ := h
  refine ⟨h1.trans (hb.mono h1.size), fun j hj => ?_, fun _ _ => ⟨xs, hx, ho⟩, fun g => (h4 g).under hb, fun g => (h5 g).under hb, h6⟩
  simp at hj
  show (if j = 4 then v else vs j) = undef
  rw [if_neg hj.2]
  exact h2 j hj.1
theorem CV.six {wo : World} {LL : Nat → Bool} {vs : Nat → Value} {w w2 : World} (h : CV wo LL vs w) (hL : LL 6 = false) (v : Value) (hv : v ≠ undef) (ho : Rdl w2 v) (hb : Below wo.heap.size w w2) : CV wo (fun j => LL j || j == 6) (fun j => if j = 6 then v else vs j) w2 := by
  obtain ⟨h1, h2, h3, h4, h5, h6⟩ := h
  have e15 := h6 (h2 6 hL)
  refine ⟨h1.trans hb, fun j hj => ?_, fun _ g => absurd g hv, fun _ => ho, fun g => absurd e15 g, fun _ => e15⟩
  simp at hj
  show (if j = 6 then v else vs j) = undef
  rw [if_neg hj.2]
  exact h2 j hj.1
theorem CV.last {wo : World} {LL : Nat → Bool} {vs : Nat → Value} {w w2 : World} (h : CV wo LL vs w) (h6 : vs 6 ≠ undef) (v : Value) (ho : Rws w2 v) (hb : Below w.heap.size w w2) : CV wo (fun j => LL j || j == 15) (fun j => if j = 15 then v else vs j) w2 := by
  obtain ⟨h1, h2, h3, h4, h5, _⟩ := h
  refine ⟨h1.trans (hb.mono h1.size), fun j hj => ?_, fun g1 g2 => absurd g2 h6, fun g => (h4 g).under hb, fun _ => ho, fun g => absurd g h6⟩
  simp at hj
  show (if j = 15 then v else vs j) = undef
  rw [if_neg hj.2]
  exact h2 j hj.1
theorem proof_open {w : World} {S : Nat → Prop} {cs : Array Value} {y : List ByteArray × Int} (h : (Enc.pair (Enc.list Enc.str) Enc.int).rep w S cs.toList y) :
    ∃ (a : Option Addr) (n c : Nat), n ≤ c ∧ c ≤ maxLen ∧ Lst Enc.str w S a n y.1 ∧ y.2 ≤ 9223372036854775807 ∧ cs = #[.slice a n c, .int .i64 y.2] := by
  obtain ⟨a, b, h1, ⟨sa, sn, sc, h2, h3, h4, h5⟩, h6, h7, h8⟩ := h
  refine ⟨sa, sn, sc, h3, h4, h5, h8, ?_⟩
  apply Array.toList_inj.1
  rw [h1, h2, h6]
  rfl
theorem rprv_cap (a : Option Addr) (len cap : Nat) (L : List ByteArray) (i : Int) (w : World) (hL : Lst Enc.str w (fun b => b < w.heap.size) a len L) (hlen : len ≤ 32) (hxs : ∀ x ∈ L, x.size ≤ 1000000000000) :
    Calls Try.prog 24 #[.slice a len cap, .int .i64 i] w fun e w' => (∃ pa pc, e = .returned (.tuple #[.slice pa (Dg.prv L i).1.length pc, .bool (Dg.prv L i).2]) ∧ Lst Enc.str w' (fun b => b < w'.heap.size) pa (Dg.prv L i).1.length (Dg.prv L i).1 ∧ (Dg.prv L i).1.length ≤ pc) ∧ Below w.heap.size w w' := by
  have hl := hL.1
  by_cases h : 0 ≤ i ∧ i < (L.length : Int)
  · obtain ⟨q, rfl⟩ := Int.eq_ofNat_of_zero_le h.1
    unfold Dg.prv
    rw [if_pos h]
    exact (rprove_cap a len cap L q w hL hlen (by omega) hxs).mono fun _ _ ⟨⟨pa, pc, h1, h2, h3⟩, h4⟩ => ⟨⟨pa, pc, h1, h2.wide (fun b h => h.1), h3⟩, h4⟩
  · unfold Dg.prv
    rw [if_neg h]
    refine (rprove_none a len cap i w (by omega)).mono ?_
    rintro e w' ⟨rfl, hb⟩
    exact ⟨⟨_, _, rfl, Lst.nil _ _ _ _, Nat.zero_le _⟩, hb⟩
theorem top_size (L : List (List UInt8)) : (⟨(Dg.top L).toArray⟩ : ByteArray).size ≤ 8 := by
  rw [ba_size]
  unfold Dg.top
  cases h : (Dg.lev L (Dg.dp L.length))[0]? with
  | none => simp
  | some d => rw [Option.getD_some, Dg.lev_all L _ d (List.mem_of_getElem? h)]; exact Nat.le_refl _
theorem prv_sizes (L : List ByteArray) (hL : L.length ≤ 32) (i : Int) : ∀ x ∈ (Dg.prv L i).1, x.size = 8 := by
  unfold Dg.prv
  split
  · rename_i h
    have hl : (L.map fun s => s.data.toList).length = L.length := List.length_map _
    exact Dg.pf_sizes _ (by omega) _ (by omega) _ (by rw [Dg.lev_at _ (by omega) _ (Nat.le_refl _)]; exact Nat.one_le_two_pow)
  · intro x hx; cases hx
end Go.Proofs.Ytlmaofibdjmkeaa
