/- OutlineStill: the plain law; rows of deltas. -/
import Derived.Test.YtbodidhggdggmaaOq2
import Derived.Test.YtbodidhggdggmaaOlV
namespace Go.Proofs.Ytbodidhggdggmaa
open Go.RowKit
theorem wrap_small {x : Int} (h : -1000000 ≤ x ∧ x ≤ 1000000) : wrap64 x = x := by unfold wrap64; omega
theorem acc_comm (u : List Int) (n : Nat) (s : Int × Int) (d e : Dl) : accStep u n (accStep u n s d) e = accStep u n (accStep u n s e) d := by
  unfold accStep
  simp only [wrap_add_l]
  congr 1
  · congr 1; omega
  · congr 1; omega
theorem acc_rev (l : List Dl) (u : List Int) (n : Nat) : accS l.reverse u n = accS l u n := by
  unfold accS
  exact (List.reverse_perm l).foldl_eq' (fun x _ y _ z => acc_comm u n z x y) (0, 0)
theorem instP_rev (l : List Dl) (u : List Int) : instP l.reverse u = instP l u := by
  funext n p
  unfold instP
  rw [acc_rev]
def quietD (u : List Int) (d : Dl) : Bool := decide ((scalS d.1 u).1 = 0)
def quietS (l : List Dl) (u : List Int) : Bool := l.all (quietD u)
theorem quiet_next {l : List Dl} {k : Nat} {d : Dl} (u : List Int) (h : l[k]? = some d) : quietS (l.take (k + 1)) u = (quietS (l.take k) u && quietD u d) := by
  unfold quietS
  rw [List.take_add_one, h, List.all_append]
  simp
theorem weight_zero {l : List Tent} {u : List Int} (h : allV l = true) (hn : l.length ≤ 4) (h0 : (scalS l u).1 = 0) : weightS l u = 0 := by
  have hd := (scalS_bd u h hn).2.2.1
  unfold weightS
  rw [h0, Int.mul_zero]
  unfold roundI
  rw [Int.zero_emod, Int.zero_ediv, if_neg (by omega)]
theorem acc_zero {l : List Dl} {u : List Int} (h : ∀ d ∈ l, weightS d.1 u = 0) (n : Nat) : accS l u n = (0, 0) := by
  unfold accS
  have key : ∀ (l : List Dl), (∀ d ∈ l, weightS d.1 u = 0) → l.foldl (accStep u n) (0, 0) = (0, 0) := by
    intro l
    induction l with
    | nil => intro _; rfl
    | cons d l ih =>
      intro h
      have e : accStep u n (0, 0) d = (0, 0) := by
        unfold accStep
        rw [h d (by simp), Int.zero_mul, Int.zero_mul, show wrap64 0 = 0 from wrap_small (by omega)]
        show (wrap64 0, wrap64 0) = (0, 0)
        rw [show wrap64 0 = 0 from wrap_small (by omega)]
      rw [List.foldl_cons, e]
      exact ih fun x hx => h x (by simp [hx])
  exact key l h
theorem inst_id {l : List Dl} {u : List Int} (h : ∀ d ∈ l, weightS d.1 u = 0) (n : Nat) {p : Pt} (hx : I64 p.1) (hy : I64 p.2.1) : instP l u n p = p := by
  obtain ⟨x, y, z⟩ := p
  obtain ⟨x1, x2⟩ := hx
  obtain ⟨y1, y2⟩ := hy
  unfold instP
  rw [acc_zero h]
  have e : roundI 0 4096 = 0 := by decide
  simp only at x1 x2 y1 y2 ⊢
  rw [e, Int.add_zero, Int.add_zero]
  have e1 : wrap64 x = x := by unfold wrap64; omega
  have e2 : wrap64 y = y := by unfold wrap64; omega
  rw [e1, e2]
theorem rowN_id {g : Nat → Pt → Pt} (c : List Pt) (n : Nat) (h : ∀ n, ∀ p ∈ c, g n p = p) : rowN g n c = c := by
  refine List.ext_getElem? fun i => ?_
  unfold rowN
  rw [List.getElem?_mapIdx]
  cases e : c[i]? with
  | none => rfl
  | some p => rw [Option.map_some, h _ p (List.mem_of_getElem? e)]
theorem imgO_id {g : Nat → Pt → Pt} (o : Ot) (h : ∀ n, ∀ c ∈ o, ∀ p ∈ c, g n p = p) : ∀ n, imgO g n o = o := by
  induction o with
  | nil => intro n; rfl
  | cons c o ih =>
    intro n
    rw [imgO, rowN_id c n (fun m p hp => h m c (by simp) p hp), ih (fun m d hd => h m d (by simp [hd]))]
theorem good_i64 {o : Ot} (h : GoodO6 o) : ∀ c ∈ o, ∀ p ∈ c, I64 p.1 ∧ I64 p.2.1 := fun c hc p hp => by
  obtain ⟨h1, h2, h3, h4⟩ := (h.2 c hc).2.2.2 p hp
  exact ⟨⟨by omega, by omega⟩, by omega, by omega⟩
theorem inst_quiet {o : Ot} {l : List Dl} {u : List Int} {cnt : Nat} (ho : GoodO6 o) (hu : u.length ≤ 4) (hg : ∀ d ∈ l, GoodD cnt u.length d) (hq : quietS l u = true) : imgO (instP l u) 0 o = o := by
  refine imgO_id o (fun n c hc p hp => ?_) 0
  obtain ⟨hx, hy⟩ := good_i64 ho c hc p hp
  refine inst_id (fun d hd => ?_) n hx hy
  obtain ⟨q1, q2, _⟩ := hg d hd
  refine weight_zero (tentL_valid q2) (by omega) ?_
  exact of_decide_eq_true (List.all_eq_true.1 hq d hd)
def peaks (l : List Tent) : List Int := l.map (·.2.1)
theorem peaks_len (l : List Tent) : (peaks l).length = l.length := List.length_map ..
theorem peaks_next {l : List Tent} {k : Nat} {t : Tent} (h : l[k]? = some t) : peaks (l.take k) ++ [t.2.1] = peaks (l.take (k + 1)) := by
  unfold peaks
  rw [List.take_add_one, h, List.map_append]
  rfl
theorem tentL_lim {t : Tent} (h : t ∈ tentL) : limS t.2.1 = t.2.1 ∧ -64 ≤ t.2.1 ∧ t.2.1 ≤ 64 := by
  simp [tentL] at h
  rcases h with rfl | rfl | rfl | rfl | rfl | rfl <;> exact ⟨rfl, by decide, by decide⟩
theorem tq_one (t : Tent) : tq t t.2.1 = 1 := by
  unfold tq valS
  rw [if_pos (.inr rfl)]
  rfl
theorem scal_peak {l : List Tent} (h : ∀ t ∈ l, t ∈ tentL) : ∀ k, k ≤ l.length → scalP l (peaks l) k = 1 := by
  intro k
  induction k with
  | zero => intro _; rfl
  | succ k ih =>
    intro hk
    have e : l[k]? = some (l[k]'(by omega)) := List.getElem?_eq_getElem _
    obtain ⟨t, ht⟩ : ∃ t, l[k]'(by omega) = t := ⟨_, rfl⟩
    rw [ht] at e
    have hm := h t (List.mem_of_getElem? e)
    have hp : posAt (peaks l) k = t.2.1 := by
      unfold posAt peaks
      rw [List.getElem?_map, e]
      exact (tentL_lim hm).1
    have hs : scalP l (peaks l) (k + 1) = scalP l (peaks l) k * tq t (posAt (peaks l) k) := by
      show (match l[k]? with | some t => scalP l (peaks l) k * tq t (posAt (peaks l) k) | none => scalP l (peaks l) k) = _
      rw [e]
    rw [hs, ih (by omega), hp, tq_one]
    exact Rat.one_mul 1
theorem weight_peak {l : List Tent} (h : ∀ t ∈ l, t ∈ tentL) : weightS l (peaks l) = 4096 := by
  unfold weightS scalS
  rw [if_pos (tentL_valid h), scal_peak h _ (Nat.le_refl _)]
  decide
theorem inst_peak {d : Dl} {u : List Int} (hw : weightS d.1 u = 4096) (n : Nat) (hm : -8 ≤ (mvAt d n).1 ∧ (mvAt d n).1 ≤ 8 ∧ -8 ≤ (mvAt d n).2 ∧ (mvAt d n).2 ≤ 8) (p : Pt) : instP [d] u n p = (wrap64 (p.1 + (mvAt d n).1), wrap64 (p.2.1 + (mvAt d n).2), p.2.2) := by
  obtain ⟨h1, h2, h3, h4⟩ := hm
  have e : accS [d] u n = (4096 * (mvAt d n).1, 4096 * (mvAt d n).2) := by
    show accStep u n (0, 0) d = _
    unfold accStep
    rw [hw, Int.zero_add, Int.zero_add, wrap_small (x := 4096 * (mvAt d n).1) (by omega), wrap_small (x := 4096 * (mvAt d n).2) (by omega), wrap_small (by omega), wrap_small (by omega)]
  have r : ∀ m : Int, roundI (4096 * m) 4096 = m := fun m => by
    unfold roundI
    rw [if_neg (by omega)]
    omega
  unfold instP
  rw [e, r, r]
/-- appending deltas -/
theorem wpList_append_dls {w : World} {ops : Array Oper} {rest : List Oper} {o : Oper} {a : Act} {Q : Exit → Act → World → Prop} (hgd : o.guard = none) (s x : Operand)
    (ho : o.op = .call { callee := .builtin .append, args := #[s, x], argTypes := #[41, 41] })
    (base : Nat) (v : Value) (k : Nat) (xs : List Value) (hs : a.eval s = v) (hown : w.ownsRow base 48 2 v k xs)
    (ad : Option Addr) (n c : Nat) (ys : List Value) (hx : a.eval x = .slice ad n c) (hys : ys.length = n * 2) (hcc : 0 < n → ∃ g, ad = some g ∧ ∀ (j : Nat) (u : Value), ys[j]? = some u → w.cell? (g.add j) = some u) (hone : ∀ u ∈ ys, u.oneCell' = true) (h63 : k + n ≤ 1000000) (hbase : base ≤ w.heap.size)
    (h : ∀ v' w', w'.ownsRow base 48 2 v' (k + n) (xs ++ ys) → w.grownBy w' v.ownBlock → wpList Try.prog ops Q rest (a.put o.dst v') w') : wpList Try.prog ops Q (o :: rest) a w := by
  obtain ⟨i3, hi3, hiz3, his3, hiy3⟩ := info_parts info_delta
  have go : ∀ g, ad = some g → (∀ (j : Nat) (u : Value), ys[j]? = some u → w.cell? (g.add j) = some u) → wpList Try.prog ops Q (o :: rest) a w := fun g hg hc => by
    subst hg
    exact wpList_append_own w hgd s x 41 ho base 48 i3 (.agg #[.slice none 0 0, .slice none 0 0]) 2 48 Try.underlying41 hi3 hiz3 his3 hiy3 rfl (by decide) v k xs hs hown g n c ys hx hys hc hone (by unfold maxLen; omega) (by omega) hbase (fun v' w' h1 h2 _ => h v' w' h1 h2)
  by_cases h0 : n = 0
  · subst h0
    have hnil : ys = [] := List.eq_nil_of_length_eq_zero (by omega)
    subst hnil
    cases ad with
    | none =>
      refine Lib.wpList_append_run w hgd s x 41 41 ho v _ hs hx v w (run_append_empty base _ _ _ i3 2 c Try.underlying41 hi3 v k xs hown) (h v w ?_ (grown_of_below (Below.refl _ _) _))
      simpa using hown
    | some g => exact go g rfl (fun j u hu => by simp at hu)
  · obtain ⟨g, hg, hce⟩ := hcc (by omega)
    exact go g hg hce
theorem own_news {w : World} {base n s : Nat} {T : TypeId} {ad : Option Addr} {c : Nat} {xs : List Value} (h : w.ownsRow base T s (.slice ad n c) n xs) : 0 < n → ∃ g, ad = some g ∧ ∀ (j : Nat) (u : Value), xs[j]? = some u → w.cell? (g.add j) = some u := fun hn => by
  rcases h.2 with ⟨_, h0⟩ | ⟨g, cap, cur, hv, _⟩
  · omega
  · have e := (Value.slice.inj hv).1
    subst e
    exact ⟨_, rfl, fun j u hu => h.cells (by rw [hv]; rfl) j u hu⟩
theorem flat_one {α : Type} {E : Enc α} {w : World} {S : Nat → Prop} {l : List α} : ∀ {cs}, Flat E w S cs l → ∀ u ∈ cs, u.oneCell' = true := by
  induction l with
  | nil => intro cs h; rw [show cs = [] from h]; simp
  | cons x l ih =>
    rintro cs ⟨us, cs', rfl, h1, h2⟩ u hu
    rcases List.mem_append.1 hu with hu | hu
    · exact E.one h1 u hu
    · exact ih h2 u hu
end Go.Proofs.Ytbodidhggdggmaa
