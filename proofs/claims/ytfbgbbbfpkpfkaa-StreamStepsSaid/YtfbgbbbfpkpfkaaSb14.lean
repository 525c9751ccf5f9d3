/- Lookups: applied; rows that literals make. -/
import Derived.Test.YtfbgbbbfpkpfkaaSb13
namespace Go.Proofs.Ytfbgbbbfpkpfkaa
open Go.RowKit
theorem lst_flat {α : Type} {E : Enc α} {w : World} {S : Nat → Prop} {b T : Nat} {cs : List Value} {l : List α} (h : w.heap[b]? = some (.cells cs.toArray T (0, 0))) (hf : Flat E w S cs l) (hS : S b) : Lst E w S (some ⟨b, 0, none⟩) l.length l := by
  refine ⟨rfl, fun _ => ⟨b, 0, rfl, hS, fun i x hx => ?_⟩⟩
  obtain ⟨us, hr, hu⟩ := hf.at_ i x hx
  refine ⟨us, hr, fun j u hj => ?_⟩
  rw [cell_of_row _ _ _ _ _ _ h, Nat.zero_add]
  simpa using hu j u hj
theorem i64_lit (l : List Int) (h : (l.all fun x => decide (-1000 ≤ x ∧ x ≤ 1000)) = true) : ∀ x ∈ l, I64 x := fun x hx => by
  have := of_decide_eq_true (List.all_eq_true.1 h x hx)
  exact ⟨by omega, by omega⟩
/-- a list of numbers in a block, as cells -/
theorem rep_ints {w : World} {S : Nat → Prop} {b T n : Nat} {l : List Int} (h : w.heap[b]? = some (.cells (l.map (Value.int .i64)).toArray T (0, 0))) (hn : l.length = n) (hn2 : n ≤ 1000) (hl : ∀ x ∈ l, I64 x) (hS : S b) : (Enc.list Enc.int).rep w S [.slice (some ⟨b, 0, none⟩) n n] l := by
  subst hn
  exact ⟨_, _, _, rfl, Nat.le_refl _, by unfold maxLen; omega, lst_ints h hl hS⟩
theorem rep_nil {w : World} {S : Nat → Prop} : (Enc.list Enc.int).rep w S [.slice none 0 0] [] := ⟨_, _, _, rfl, Nat.le_refl _, Nat.zero_le _, Lst.nil _ _ _ _⟩
theorem rep_sub {w : World} {S : Nat → Prop} {u1 u2 u3 : Value} {s : Sub} (h1 : (Enc.list Enc.int).rep w S [u1] s.1) (h2 : (Enc.list Enc.int).rep w S [u2] s.2.1) (h3 : (Enc.list Enc.int).rep w S [u3] s.2.2.1) (h4 : I64 s.2.2.2) : Enc.sub.rep w S [u1, u2, u3, .int .i64 s.2.2.2] s :=
  ⟨[u1], _, rfl, h1, [u2], _, rfl, h2, [u3], _, rfl, h3, rfl, h4⟩
theorem match_lit {w : World} {xa : Option Addr} {xn xc : Nat} {x : List Sub} {ga : Option Addr} {gn gc : Nat} {g : List Int} {i : Int} (v : Int) (hx : Lst Enc.sub w (· < w.heap.size) xa xn x) (hg : Lst Enc.int w (· < w.heap.size) ga gn g) (hsm : Small x) (hgn : gn ≤ 1000) (hv : matchS x g i = v) :
    Calls Try.prog 55 #[.agg #[.slice xa xn xc], .slice ga gn gc, .int .i64 i] w fun e w' => e = .returned (.int .i64 v) ∧ Below w.heap.size w w' := by
  subst hv
  exact match_any xa xn xc x ga gn gc g i w hx hg hsm (by omega)
theorem Two.lst {w : World} {B : Nat} {v1 v2 : Value} {l1 l2 : List Int} (h : Two w B v1 l1 v2 l2) (h1 : AllI l1) (h2 : AllI l2) : ∃ a1 c1 a2 c2, v1 = .slice a1 l1.length c1 ∧ v2 = .slice a2 l2.length c2 ∧ Lst Enc.int w (· < w.heap.size) a1 l1.length l1 ∧ Lst Enc.int w (· < w.heap.size) a2 l2.length l2 := by
  obtain ⟨a1, c1, e1, _, h1⟩ := own_lst h.r1 h1
  obtain ⟨a2, c2, e2, _, h2⟩ := own_lst h.r2 h2
  exact ⟨a1, c1, a2, c2, e1, e2, h1, h2⟩
end Go.Proofs.Ytfbgbbbfpkpfkaa
