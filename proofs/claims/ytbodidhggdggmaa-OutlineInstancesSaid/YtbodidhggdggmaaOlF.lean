/- The reference's Copy. -/
import Derived.Test.YtbodidhggdggmaaOlD
import Derived.ArgAppend
namespace Go.Proofs.Ytbodidhggdggmaa
open Go.RowKit
theorem pts_news {w : World} {S : Nat → Prop} {b off len : Nat} {x : List Pt} (h : Lst Enc.pt w S (some ⟨b, off, none⟩) len x) : ∀ (j : Nat) (u : Value), (pcells x)[j]? = some u → w.cell? ((⟨b, off, none⟩ : Addr).add j) = some u := by
  intro j u hj
  have hjl := (List.getElem?_eq_some_iff.1 hj).1
  rw [pcells_len] at hjl
  have hx : x[j / 3]? = some (x[j / 3]'(by omega)) := List.getElem?_eq_getElem _
  obtain ⟨hlen, hrest⟩ := h
  obtain ⟨b', off', hbe, _, hc⟩ := hrest (by omega)
  cases hbe
  obtain ⟨us, hr, hu⟩ := hc _ _ hx
  obtain ⟨rfl, _⟩ := pt_inv hr
  have hg := pcells_get x (j / 3) _ (j % 3) hx (Nat.mod_lt _ (by decide))
  rw [show j / 3 * 3 + j % 3 = j by omega, hj] at hg
  have := hu (j % 3) u hg.symm
  have en : Enc.pt.n = 3 := rfl
  rw [en, show off + j / 3 * 3 + j % 3 = off + j by omega] at this
  unfold Addr.add
  by_cases h0 : j = 0
  · subst h0; simpa using this
  · rw [if_neg h0]; simpa using this
end Go.Proofs.Ytbodidhggdggmaa
