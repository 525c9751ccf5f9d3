/- OutlineInstances: rows of deltas, written in place; what both Instances hand back. -/
import Derived.Test.YtbodidhggdggmaaOr1
import Derived.Test.YtbodidhggdggmaaOr2
namespace Go.Proofs.Ytbodidhggdggmaa
open Go.RowKit
theorem flat_set1 {w : World} {S : Nat → Prop} {d : Dl} {s : Value} {t : List Tent} (hs : (Enc.list Enc.tent).rep w S [s] t) : ∀ {L : List Dl} {cs : List Value} {k : Nat}, Flat Enc.dl w S cs L → L[k]? = some d → Flat Enc.dl w S (cs.set (k * 2) s) (L.set k (t, d.2)) := by
  intro L
  induction L with
  | nil => intro cs k _ h; simp at h
  | cons x L ih =>
    rintro cs k ⟨us, cs', rfl, h1, h2⟩ hk
    cases k with
    | zero =>
      simp at hk
      subst hk
      obtain ⟨c, e, rfl, ⟨ta, tn, tc, rfl, _⟩, h4⟩ := h1
      exact ⟨[s] ++ e, cs', rfl, ⟨[s], e, rfl, hs, h4⟩, h2⟩
    | succ k =>
      have hl : us.length = 2 := Enc.dl.len h1
      have e : (us ++ cs').set ((k + 1) * 2) s = us ++ cs'.set (k * 2) s := by
        rw [List.set_append_right _ _ (by omega), hl]
        congr 2
        omega
      rw [e]
      exact ⟨us, _, rfl, h1, ih h2 (by simpa using hk)⟩
theorem lst_news {α : Type} {E : Enc α} {w : World} {S : Nat → Prop} {a : Option Addr} {n : Nat} {l : List α} (h : Lst E w S a n l) : ∃ ys, ys.length = n * E.n ∧ Flat E w S ys l ∧ (0 < n → ∃ g, a = some g ∧ ∀ (j : Nat) (u : Value), ys[j]? = some u → w.cell? (g.add j) = some u) := by
  obtain ⟨h1, h2⟩ := h
  by_cases h0 : n = 0
  · subst h0
    have : l = [] := List.eq_nil_of_length_eq_zero h1
    subst this
    exact ⟨[], by simp, rfl, fun h => by omega⟩
  · obtain ⟨b, off, rfl, _, hc⟩ := h2 (by omega)
    have key : ∀ (l : List α) (off : Nat), (∀ i x, l[i]? = some x → ∃ us, E.rep w S us x ∧ ∀ j u, us[j]? = some u → w.cell? ⟨b, off + i * E.n + j, none⟩ = some u) → ∃ ys, Flat E w S ys l ∧ ∀ (j : Nat) (u : Value), ys[j]? = some u → w.cell? ⟨b, off + j, none⟩ = some u := by
      intro l
      induction l with
      | nil => intro off _; exact ⟨[], rfl, fun j u h => by simp at h⟩
      | cons x l ih =>
        intro off hc
        obtain ⟨us, hr, hu⟩ := hc 0 x rfl
        obtain ⟨ys, hf, hy⟩ := ih (off + E.n) (fun i x hx => by
          obtain ⟨us, hr, hu⟩ := hc (i + 1) x (by simpa using hx)
          refine ⟨us, hr, fun j u hj => ?_⟩
          have := hu j u hj
          rw [Nat.add_mul, Nat.one_mul] at this
          rw [show off + E.n + i * E.n + j = off + (i * E.n + E.n) + j by omega]
          exact this)
        refine ⟨us ++ ys, ⟨us, ys, rfl, hr, hf⟩, fun j u hj => ?_⟩
        have hl := E.len hr
        rcases Nat.lt_or_ge j us.length with h | h
        · rw [List.getElem?_append_left h] at hj
          have := hu j u hj
          rw [Nat.zero_mul, Nat.add_zero] at this
          exact this
        · rw [List.getElem?_append_right h] at hj
          have := hy _ u hj
          rw [show off + E.n + (j - us.length) = off + j by omega] at this
          exact this
    obtain ⟨ys, hf, hy⟩ := key l off hc
    exact ⟨ys, by rw [hf.len, h1], hf, fun _ => ⟨_, rfl, fun j u hj => by rw [Addr.add_lit]; exact hy j u hj⟩⟩
theorem news_under {w w' : World} {n : Nat} {a : Option Addr} {ys : List Value} (h : 0 < n → ∃ g, a = some g ∧ ∀ (j : Nat) (u : Value), ys[j]? = some u → w.cell? (g.add j) = some u) (hb : Below w.heap.size w w') : 0 < n → ∃ g, a = some g ∧ ∀ (j : Nat) (u : Value), ys[j]? = some u → w'.cell? (g.add j) = some u := fun hn => by
  obtain ⟨g, e, hc⟩ := h hn
  exact ⟨g, e, fun j u hj => cell_under (hc j u hj) hb⟩
theorem inst_len (o : Ot) (l : List Dl) (u : List Int) : (instS o l u).1.length ≤ o.length := by
  unfold instS
  split
  · exact Nat.zero_le _
  · split
    · rw [imgO_len]; exact Nat.le_refl _
    · exact Nat.zero_le _
/-- an outline and an error, handed back -/
def IP (w : World) (X : Ot) (N : Nat) (code : Int) (e : Ending) (w' : World) : Prop := ∃ a c, e = .returned (.tuple #[.slice a N c, .int .i64 code]) ∧ Lst Enc.ct w' (· < w'.heap.size) a N X ∧ Below w.heap.size w w'
theorem IP.of {w : World} {r : Ot × Int} {e : Ending} {w' : World} (h : ∃ v, e = .returned (.tuple #[v, .int .i64 r.2]) ∧ OO w' w.heap.size v r.1 ∧ Below w.heap.size w w') : IP w r.1 r.1.length r.2 e w' := by
  obtain ⟨v, rfl, hoo, hb⟩ := h
  obtain ⟨a, c, rfl, _, _, hl⟩ := hoo.lst
  exact ⟨a, c, rfl, hl.wide (fun b hb => hb.2), hb⟩
theorem own_some {w : World} {base n s c : Nat} {T : TypeId} {ad : Option Addr} {xs : List Value} (h : w.ownsRow base T s (.slice ad n c) n xs) (hn : 0 < n) : ∃ g, ad = some ⟨g, 0, none⟩ ∧ base ≤ g ∧ g < w.heap.size := by
  rcases h.2 with ⟨_, h0⟩ | ⟨g, cap, cur, hv, hb, hg, _⟩
  · omega
  · exact ⟨g, (Value.slice.inj hv).1, hb, (Array.getElem?_eq_some_iff.1 hg).1⟩
end Go.Proofs.Ytbodidhggdggmaa
