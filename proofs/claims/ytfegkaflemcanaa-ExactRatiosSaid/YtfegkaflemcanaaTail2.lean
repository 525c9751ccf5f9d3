/- Drawn regions whose allocations come whenever they like, before a forced tail. -/
import Derived.Test.YtfegkaflemcanaaTail
namespace Go.Proofs.Ytfegkaflemcanaa
open Go.RowKit
section
variable {P : Program} {l : List Oper} {Q : Exit → Act → World → Prop}

/-- The lexical walk, with a relation between the worlds before and behind a call. -/
def wpQR (P : Program) (C : World → Prop) (K : Act → Prop) : List Oper → Act → Prop
  | [], a => K a
  | o :: rest, a => ∃ v, (∀ w, C w → Oper.quietUpon P (fun w'' => Below w.heap.size w w'') w v ((execOp a.eval o).run P w)) ∧ wpQR P C K rest (a.put o.dst v)

theorem wpQR_nil {C : World → Prop} {K : Act → Prop} {a : Act} (h : K a) : wpQR P C K [] a := h
theorem wpQR_step {C : World → Prop} {K : Act → Prop} {a : Act} {o : Oper} {rest : List Oper}
    (h : ∀ K' : Act → Prop, (∀ a, wpQR P C K rest a → K' a) → ∃ v, (∀ w, C w → Oper.quietUpon P (fun w'' => Below w.heap.size w w'') w v ((execOp a.eval o).run P w)) ∧ K' (a.put o.dst v)) : wpQR P C K (o :: rest) a :=
  h _ (fun _ h => h)

theorem lexr {m : Nat} {C : World → Prop} {K : Act → Prop} {a : Act} (hB : frontB .any l m = true) (hml : m ≤ l.length) (n : Nat) (hnm : n ≤ m) : ∀ (d k : Nat) (vs : Nat → Value), k + d = n →
    wpQR P C K ((l.take n).drop k) (putSome l (fun j => decide (j < k)) vs a (List.range m)) →
    ∃ vs' : Nat → Value, (∀ j, j < k → vs' j = vs j) ∧ (∀ i, k ≤ i → i < n → ∀ o, l[i]? = some o → ∀ w, C w →
        Oper.quietUpon P (fun w'' => Below w.heap.size w w'') w (vs' i) ((execOp (putSome l (fun j => decide (j < i)) vs' a (List.range m)).eval o).run P w)) ∧
      K (putSome l (fun j => decide (j < n)) vs' a (List.range m)) := by
  intro d
  induction d with
  | zero =>
    intro k vs hk h
    obtain rfl : k = n := by omega
    rw [List.drop_of_length_le (by simp; omega)] at h
    exact ⟨vs, fun _ _ => rfl, fun i h1 h2 => by omega, h⟩
  | succ d ih =>
    intro k vs hk h
    obtain ⟨o, ho, hp, hdl, hd⟩ := front_facts hB k (by omega)
    have hcons : (l.take n).drop k = o :: (l.take n).drop (k + 1) := by
      have hlt : k < (l.take n).length := by simp; omega
      rw [List.drop_eq_getElem_cons hlt]
      congr 1
      rw [List.getElem_take]
      exact Option.some.inj ((List.getElem?_eq_getElem (by omega)).symm.trans ho)
    rw [hcons] at h
    unfold wpQR at h
    obtain ⟨v, hv, hn⟩ := h
    have hmore := putSome_more (front := l) (l := fun j => decide (j < k)) (vs := vs) (i := k) (o := o) (v := v) ho (js := List.range m) List.nodup_range (List.mem_range.2 (by omega)) (by simp)
      (fun j hj o' ho' hne => (hd j (List.mem_range.1 hj) o' ho').1 hne) a
    rw [← hmore] at hn
    have hc : putSome l (fun j => decide (j < k) || j == k) (fun j => if j = k then v else vs j) a (List.range m) = putSome l (fun j => decide (j < k + 1)) (fun j => if j = k then v else vs j) a (List.range m) :=
      putSome_congr (fun i _ => ⟨by rw [Bool.eq_iff_iff]; simp; omega, fun _ => rfl⟩) a
    rw [hc] at hn
    obtain ⟨vs', h1, h2, h3⟩ := ih (k + 1) _ (by omega) hn
    refine ⟨vs', fun j hj => ?_, fun i hki him o' ho' w hw => ?_, h3⟩
    · rw [h1 j (by omega), if_neg (by omega)]
    · by_cases hik : i = k
      · subst hik
        obtain rfl : o = o' := Option.some.inj (ho.symm.trans ho')
        have e1 : vs' i = v := by rw [h1 i (by omega), if_pos rfl]
        have e2 : putSome l (fun j => decide (j < i)) vs' a (List.range m) = putSome l (fun j => decide (j < i)) vs a (List.range m) :=
          putSome_congr (fun j _ => ⟨rfl, fun hj => by
            have hj := of_decide_eq_true hj
            rw [h1 j (by omega), if_neg (by omega)]⟩) a
        rw [e1, e2]
        exact hv w hw
      · exact h2 i (by omega) him o' ho' w hw

theorem putL_congr {vs vs' : Nat → Value} {js : List Nat} (h : ∀ i ∈ js, vs i = vs' i) : ∀ a : Act, putL l vs a js = putL l vs' a js := by
  induction js with
  | nil => intro a; rfl
  | cons j js ih =>
    intro a
    have hj := h j (by simp)
    have ih' := ih (fun i hi => h i (by simp [hi]))
    unfold putL at ih' ⊢
    rw [List.foldl_cons, List.foldl_cons, hj]
    exact ih' _
theorem range_split {n m : Nat} (h : n ≤ m) : List.range m = List.range n ++ List.range' n (m - n) := by
  rw [List.range_eq_range', List.range_eq_range']
  have := List.range'_append_1 (s := 0) (m := n) (n := m - n)
  rw [Nat.zero_add, show n + (m - n) = m by omega] at this
  exact this.symm
theorem filter_split {n m : Nat} (h : n ≤ m) : (List.range m).filter (fun j => decide (j < n)) = List.range n := by
  rw [range_split h, List.filter_append, List.filter_eq_self.2 (fun x hx => by simpa using List.mem_range.1 hx), List.filter_eq_nil_iff.2 (fun x hx => by have := (List.mem_range'_1.1 hx).1; simp; omega), List.append_nil]

/-- quiet operations in front (their callees may make memory), then allocations, all of one object, which may come up at any time; then a forced tail -/
theorem wp_region_allocs {id : Nat} {a : Act} {w : World} (n m : Nat) (ob : Obj) (hnm : n ≤ m)
    (hm : P.follows .mixedOrders = true) (hB : frontB .any l m = true)
    (hal : ∀ i, n ≤ i → i < m → ∀ o, l[i]? = some o → ∀ (b : Act) (w' : World), (execOp b.eval o).run P w' = .ok (.value (.pointer (some ⟨w'.heap.size, 0, none⟩))) (w'.alloc ob))
    (h : wpQR P (fun w' => ∃ x : Ext w, w' = x.get) (fun a' => ∀ (bs : Nat → Nat) w', Below w.heap.size w w' → (∀ i, n ≤ i → i < m → w.heap.size ≤ bs i ∧ w'.heap[bs i]? = some ob) →
      (∀ i j, n ≤ i → i < m → n ≤ j → j < m → bs i = bs j → i = j) → wpList P l.toArray Q (l.drop m) (putL l (fun i => .pointer (some ⟨bs i, 0, none⟩)) a' (List.range' n (m - n))) w') (l.take n) a) :
    (Code.region id l.toArray true).wp P Q a w := by
  have hml : m ≤ l.length := by
    have := hB
    simp only [frontB, Bool.and_eq_true, decide_eq_true_eq] at this
    exact this.1.1.1
  have h0 : putSome l (fun j => decide (j < 0)) (fun _ => undef) a (List.range m) = a := by
    rw [putSome_list, List.filter_eq_nil_iff.2 (by simp)]; rfl
  obtain ⟨vq, _, hq, hK⟩ := lexr (P := P) (a := a) hB hml n hnm n 0 (fun _ => undef) (by omega) (by rw [h0, List.drop_zero]; exact h)
  refine wp_region_front m (fun L vs w' => Below w.heap.size w w' ∧ (∀ i, n ≤ i → i < m → L i = true → ∃ b, vs i = .pointer (some ⟨b, 0, none⟩) ∧ w.heap.size ≤ b ∧ w'.heap[b]? = some ob) ∧
      (∀ i j, n ≤ i → i < m → n ≤ j → j < m → L i = true → L j = true → vs i = vs j → i = j))
    (fun _ _ => True) (fun i v _ => i < n → v = vq i) hm hB ⟨(Below.refl _ _).drew, fun _ _ _ h => (by cases h), fun _ _ _ _ _ _ h => (by cases h)⟩ (fun _ _ _ _ _ h => h) ?_ ?_
  · intro i hi o ho vs' L w1 hLi hC1 hf
    obtain ⟨o', ho', hp, hdl, hd⟩ := front_facts hB i hi
    obtain rfl : o = o' := Option.some.inj (ho.symm.trans ho')
    obtain ⟨hC1, hC2, hC3⟩ := hC1
    by_cases hin : i < n
    · have e1 : putSome l (depsOf .any l i) vs' a (List.range m) = putSome l (depsOf .any l i) vq a (List.range m) :=
        putSome_congr (fun j hj => ⟨rfl, fun hdj => hf j (List.mem_range.1 hj) hdj (by have := hdl j hdj; omega)⟩) a
      rw [e1]
      generalize hb : putSome l (depsOf .any l i) vq a (List.range m) = b
      have hev : execOp b.eval o = execOp (putSome l (fun j => decide (j < i)) vq a (List.range m)).eval o := by
        refine execOp_same hp fun t ht => ?_
        rw [← hb]
        refine putSome_at (fun j hj o'' ho'' hdt => ?_) a a rfl rfl
        have hdep := (hd j (List.mem_range.1 hj) o'' ho'').2 t ht hdt
        rw [hdep]
        have := hdl j hdep
        simp [this]
      unfold wpList
      rw [plain_wanted hp, if_pos rfl]
      refine Or.inl (Oper.wp_of_quiet (C := fun w'' => Below w1.heap.size w1 w'') (K := fun a' => a' = b.put o.dst (vq i)) (Below.refl _ _) ?_ ⟨vq i, fun w2 hw2 => ?_, rfl⟩)
      · rintro a' w2 hw2 rfl
        refine ⟨rfl, vq i, rfl, ⟨hC1.trans (hw2.mono hC1.size), fun j h1 h2 hl => ?_, fun j k h1 h2 h3 h4 hl1 hl2 he => ?_⟩, trivial, fun _ => rfl⟩
        · have hne : j ≠ i := by omega
          simp only [hne, if_false]
          obtain ⟨bb, hb1, hb2, hb3⟩ := hC2 j h1 h2 (by simpa [hne] using hl)
          exact ⟨bb, hb1, hb2, (hw2.block bb (Array.getElem?_eq_some_iff.1 hb3).1).trans hb3⟩
        · have hne : j ≠ i := by omega
          have hne2 : k ≠ i := by omega
          simp only [hne, hne2, if_false] at he
          exact hC3 j k h1 h2 h3 h4 (by simpa [hne] using hl1) (by simpa [hne2] using hl2) he
      · have hx := hq i (by omega) hin o ho w2 ⟨⟨w2, hC1.trans (hw2.mono hC1.size)⟩, rfl⟩
        rw [← hev] at hx
        unfold Oper.quietAt
        generalize (execOp b.eval o).run P w2 = r at hx
        cases r with
        | halt x w' => exact hx
        | ok x w' =>
          cases x with
          | enter f args => exact ⟨hx.1, hx.2.mono fun _ _ ⟨p, q⟩ => ⟨p, hw2.trans (q.mono hw2.size)⟩⟩
          | _ => exact hx
    · unfold wpList
      rw [plain_wanted hp, if_pos rfl]
      left
      unfold Oper.wp
      rw [hal i (by omega) hi o ho]
      refine ⟨rfl, .pointer (some ⟨w1.heap.size, 0, none⟩), rfl, ⟨hC1.alloc hC1.size _, fun j h1 h2 hl => ?_, fun j k h1 h2 h3 h4 hl1 hl2 he => ?_⟩, trivial, fun h => absurd h hin⟩
      · by_cases hji : j = i
        · subst hji
          exact ⟨w1.heap.size, by simp, hC1.size, heap_alloc_new _ _⟩
        · simp only [hji, if_false]
          obtain ⟨bb, hb1, hb2, hb3⟩ := hC2 j h1 h2 (by simpa [hji] using hl)
          refine ⟨bb, hb1, hb2, ?_⟩
          have hlt := (Array.getElem?_eq_some_iff.1 hb3).1
          exact (((Below.refl w1.heap.size w1).alloc (Nat.le_refl _) ob).block bb hlt).trans hb3
      · by_cases hji : j = i
        · by_cases hki : k = i
          · omega
          · subst hji
            simp only [if_true, hki, if_false] at he
            obtain ⟨bb, hb1, hb2, hb3⟩ := hC2 k h3 h4 (by simpa [hki] using hl2)
            rw [hb1] at he
            have hlt := (Array.getElem?_eq_some_iff.1 hb3).1
            injection he with he; injection he with he; injection he with he
            omega
        · by_cases hki : k = i
          · subst hki
            simp only [if_true, hji, if_false] at he
            obtain ⟨bb, hb1, hb2, hb3⟩ := hC2 j h1 h2 (by simpa [hji] using hl1)
            rw [hb1] at he
            have hlt := (Array.getElem?_eq_some_iff.1 hb3).1
            injection he with he; injection he with he; injection he with he
            omega
          · simp only [hji, hki, if_false] at he
            exact hC3 j k h1 h2 h3 h4 (by simpa [hji] using hl1) (by simpa [hki] using hl2) he
  · intro vs L w' hL hC hf
    obtain ⟨hC1, hC2, hC3⟩ := hC
    have hbs : ∀ i, ∃ b : Nat, n ≤ i → i < m → vs i = .pointer (some ⟨b, 0, none⟩) ∧ w.heap.size ≤ b ∧ w'.heap[b]? = some ob := by
      intro i
      by_cases h1 : n ≤ i ∧ i < m
      · obtain ⟨b, hb⟩ := hC2 i h1.1 h1.2 (hL i h1.2)
        exact ⟨b, fun _ _ => hb⟩
      · exact ⟨0, fun h2 h3 => absurd ⟨h2, h3⟩ h1⟩
    obtain ⟨bs, hbs⟩ := Classical.axiomOfChoice hbs
    have hh := hK bs w' hC1 (fun i h1 h2 => (hbs i h1 h2).2) (fun i j h1 h2 h3 h4 he => hC3 i j h1 h2 h3 h4 (hL i h2) (hL j h4) (by rw [(hbs i h1 h2).1, (hbs j h3 h4).1, he]))
    rw [putSome_list, filter_split hnm] at hh
    have e1 : putL l vq a (List.range n) = putL l vs a (List.range n) := putL_congr (fun i hi => (hf i (by have := List.mem_range.1 hi; omega) (List.mem_range.1 hi)).symm) a
    have e2 : ∀ c : Act, putL l (fun i => .pointer (some ⟨bs i, 0, none⟩)) c (List.range' n (m - n)) = putL l vs c (List.range' n (m - n)) := fun c =>
      putL_congr (fun i hi => by
        have := List.mem_range'_1.1 hi
        exact (hbs i this.1 (by omega)).1.symm) c
    rw [e1, e2] at hh
    rw [putSome_all, range_split hnm]
    unfold putL at hh ⊢
    rw [List.foldl_append]
    exact hh
end
end Go.Proofs.Ytfegkaflemcanaa
