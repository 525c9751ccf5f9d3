/- append to an own row of numbers: where the new row lies. -/
import Derived.Test.YtfbgbbbfpkpfkaaSb7
namespace Go.Proofs.Ytfbgbbbfpkpfkaa
open Go.RowKit
theorem run_append_own2 {P : Program} (w : World) (base : Nat) (t ty e : TypeId) (i : TypeInfo) (z : Value) (size bytes : Nat) (ht : P.underlying t = some (.slice e)) (hi : P.info? e = some i) (hz : i.zero = some z)
    (hsize : i.size = size) (hby : i.bytes = bytes) (hzs : z.cells.size = size) (hsz : 0 < size)
    (v : Value) (n : Nat) (xs : List Value) (hown : w.ownsRow base e size v n xs)
    (a : Addr) (m c : Nat) (news : List Value) (hl : news.length = m * size) (hnews : ∀ j u, news[j]? = some u → w.cell? (a.add j) = some u) (h1 : ∀ u ∈ news, u.oneCell' = true)
    (h63 : n + m ≤ maxLen) (hbytes : (n + m) * bytes ≤ 140737488355328) (hbase : base ≤ w.heap.size) :
    ∃ v' w', (Builtin.append_ #[t, t] ty #[v, .slice (some a) m c]).run P w = .ok v' w' ∧ w'.ownsRow base e size v' (n + m) (xs ++ news) ∧ w.grownBy w' v.ownBlock ∧ (v'.ownBlock = v.ownBlock ∨ v'.ownBlock = some w.heap.size) := by
  obtain ⟨v', w', hr, q1, q2, q3⟩ := run_append_own (P := P) w base t ty e i z size bytes ht hi hz hsize hby hzs hsz v n xs hown a m c news hl hnews h1 h63 hbytes hbase
  refine ⟨v', w', hr, q1, q2, ?_⟩
  subst hsize
  subst hby
  have hsmall : n + m ≤ 9223372036854775807 := by simp only [maxLen] at h63; omega
  rcases hown.2 with ⟨rfl, rfl⟩ | ⟨g, cap, cur, rfl, hbg, hg, hnc, hcm, hcs, htake⟩
  · by_cases hm : m = 0
    · rw [q3.2 ⟨rfl, hm⟩]
      exact .inl rfl
    · have hr2 := run_append_nil (P := P) w t ty e i z ht hi hz a m c news hl hnews (by omega) (by omega) (by have hb := hbytes; simp only [Nat.zero_add] at hb; omega)
      have he := hr.symm.trans hr2
      injection he with he _
      rw [he]
      exact .inr rfl
  · by_cases hroom : n + m ≤ cap
    · have hfit : n * i.size + news.length ≤ cur.size := by rw [hl, hcs, ← Nat.add_mul]; exact Nat.mul_le_mul_right _ hroom
      have hr2 := run_append_room (P := P) w t ty e i ht hi g n cap cur hg a m c news hl hnews h1 hroom hfit
      have he := hr.symm.trans hr2
      injection he with he _
      rw [he]
      exact .inl rfl
    · have holds : ∀ j u, xs[j]? = some u → w.cell? ((⟨g, 0, none⟩ : Addr).add j) = some u := hown.cells (g := g) rfl
      have hr2 := run_append_grow (P := P) w t ty e i z ht hi hz ⟨g, 0, none⟩ n cap xs hown.1 holds a m c news hl hnews (by omega) (by omega) (growslice_fits (by omega) hbytes)
      have he := hr.symm.trans hr2
      injection he with he _
      rw [he]
      exact .inr rfl
/-- append of one number that has just been made to an own row -/
theorem wpList_append_one {w : World} {ops : Array Oper} {rest : List Oper} {o : Oper} {a : Act} {Q : Exit → Act → World → Prop} (hgd : o.guard = none) (s x : Operand)
    (ho : o.op = .call { callee := .builtin .append, args := #[s, x], argTypes := #[22, 22] })
    (base : Nat) (v : Value) (k : Nat) (l : List Int) (hs : a.eval s = v) (hown : w.ownsRow base 3 1 v k (vints l)) (b : Nat) (y : Int) (hx : a.eval x = .slice (some ⟨b, 0, none⟩) 1 1) (hb : w.heap[b]? = some (.cells #[.int .i64 y] 3 (0, 0)))
    (h63 : k ≤ 1000000000) (hbase : base ≤ w.heap.size)
    (h : ∀ v' w', w'.ownsRow base 3 1 v' (k + 1) (vints (l ++ [y])) → w.grownBy w' v.ownBlock → (v'.ownBlock = v.ownBlock ∨ v'.ownBlock = some w.heap.size) → wpList Try.prog ops Q rest (a.put o.dst v') w') : wpList Try.prog ops Q (o :: rest) a w := by
  obtain ⟨i3, hi3, hiz3, his3, hiy3⟩ := info_parts info_int
  obtain ⟨v', w', hr, q1, q2, q3⟩ := run_append_own2 (P := Try.prog) w base 22 o.type 3 i3 (.int .i64 0) 1 8 Try.underlying22 hi3 hiz3 his3 hiy3 rfl (by decide) v k (vints l) hown ⟨b, 0, none⟩ 1 1 (vints [y]) rfl
    (fun j u hj => by
      have hj0 : j = 0 := by have := (List.getElem?_eq_some_iff.1 hj).1; simp [vints] at this; omega
      subst hj0
      rw [Addr.add_lit, cell_of_row _ _ _ _ _ _ hb]
      simpa [vints] using hj) (vints_one _) (by unfold maxLen; omega) (by omega) hbase
  rw [vints_app] at q1
  exact Lib.wpList_append_run w hgd s x 22 22 ho v _ hs hx v' w' hr (h v' w' q1 q2 q3)
end Go.Proofs.Ytfbgbbbfpkpfkaa
