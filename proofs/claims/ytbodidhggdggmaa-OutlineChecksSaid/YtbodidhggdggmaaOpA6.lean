/- Arguments that are arrays. -/
import Derived.Test.YtbodidhggdggmaaOpen
namespace Go.Proofs.Ytbodidhggdggmaa
open Go.ChangeShapes Go.WideShapes Go.ChangeAt Go.RowKit Go.Deep
theorem arrSeg_len {α : Type} (cs : List α) (n m i : Nat) (hl : cs.length = n * m) (hi : i < n) : ((cs.drop (i * m)).take m).length = m := by
  have : (i + 1) * m ≤ n * m := Nat.mul_le_mul_right m hi
  rw [List.length_take, List.length_drop, hl]
  rw [Nat.add_mul] at this
  omega
/-- n elements, one behind the other. -/
def Enc.arr {α : Type} (n : Nat) (E : Enc α) : Enc (List α) where
  n := n * E.n
  rep w S cs l := l.length = n ∧ cs.length = n * E.n ∧ ∀ (i : Nat) (x : α), l[i]? = some x → E.rep w S ((cs.drop (i * E.n)).take E.n) x
  len h := h.2.1
  one {w S cs l} h := by
    obtain ⟨h1, h2, h3⟩ := h
    intro u hu
    obtain ⟨j, hj, rfl⟩ := List.getElem_of_mem hu
    have hpos : 0 < E.n := by
      rcases Nat.eq_zero_or_pos E.n with h | h
      · rw [h] at h2; omega
      · exact h
    have hi : j / E.n < n := by rw [Nat.div_lt_iff_lt_mul hpos]; omega
    refine E.one (h3 (j / E.n) _ (List.getElem?_eq_getElem (by omega))) _ ?_
    have hm := Nat.mod_lt j hpos
    have hd := Nat.div_add_mod j E.n
    have hx : ((cs.drop (j / E.n * E.n)).take E.n)[j % E.n]? = some cs[j] := by
      rw [List.getElem?_take_of_lt hm, List.getElem?_drop, List.getElem?_eq_getElem (by rw [Nat.mul_comm, hd]; exact hj)]
      congr 2
      rw [Nat.mul_comm, hd]
    exact List.mem_of_getElem? hx
  same hk h := ⟨h.1, h.2.1, fun i x hx => E.same hk (h.2.2 i x hx)⟩
  wide hk h := ⟨h.1, h.2.1, fun i x hx => E.wide hk (h.2.2 i x hx)⟩
theorem opens_array {P : Program} {t e : TypeId} {n : Nat} {α : Type} {E : Enc α} (hc : P.cellsOf t = n * E.n) (ht : P.underlying t = some (.array n e)) (he : Opens P e E) : Opens P t (Enc.arr n E) where
  n := hc
  rd {H enc w base spare held fuel cs x} h := by
    obtain ⟨xs, m, _, _, hl, hlen, hx⟩ := DataW.trod_array ht h
    obtain ⟨l, hll, hlx⟩ := list_of_lt (n := n) (p := fun i y => E.rep w (fun b => b < w.heap.size) ((cs.drop (i * E.n)).take E.n) y) (fun i hi => by
      have h1 := hx i hi
      rw [he.n, List.getElem?_eq_getElem (by omega)] at h1
      exact he.rd h1)
    exact ⟨l, hll, by omega, hlx⟩
theorem arg_arr {H : Type} {enc : TypeId × Value → H} {P : Program} {w : World} {base b0 : Nat} {spare : Nat → Bool} {held : Bool} {t : TypeId} {v : Value} {d : DataW H} {ps : List MemPlace} {r : Reach} {α : Type} {E : Enc α}
    {n : Nat} {e : TypeId} (ht : P.underlying t = some (.array n e)) (ho : Opens P t E) (hval : Value.okWide P w r b0 t v) (h : DataW.Trod enc P w base spare held t v d ps) :
    ∃ (cs : Array Value) (y : α), v = .agg cs ∧ E.rep w (fun b => b < w.heap.size) cs.toList y := by
  obtain ⟨cs, rfl⟩ := okWide_array ht hval
  obtain ⟨fuel, hf⟩ := h
  obtain ⟨y, hy⟩ := ho.rd hf
  exact ⟨cs, y, rfl, by simpa [Value.cells] using hy⟩
theorem arr2_open {w : World} {S : Nat → Prop} {k : IntKind} {lo hi : Int} {cs : Array Value} {l : List Int} (h : (Enc.arr 2 (Enc.num k lo hi)).rep w S cs.toList l) :
    ∃ a b : Int, lo ≤ a ∧ a ≤ hi ∧ lo ≤ b ∧ b ≤ hi ∧ cs = #[.int k a, .int k b] := by
  obtain ⟨h1, h2, h3⟩ := h
  match l, h1 with
  | [a, b], _ =>
    obtain ⟨e1, l1, l2⟩ := h3 0 a rfl
    obtain ⟨e2, l3, l4⟩ := h3 1 b rfl
    refine ⟨a, b, l1, l2, l3, l4, ?_⟩
    apply Array.toList_inj.1
    have hn : (Enc.num k lo hi).n = 1 := rfl
    rw [hn] at e1 e2 h2
    match hcs : cs.toList, h2 with
    | [u, v], _ =>
      rw [hcs] at e1 e2
      simp at e1 e2
      rw [e1, e2]
end Go.Proofs.Ytbodidhggdggmaa
