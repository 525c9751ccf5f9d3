/- XFront's law where operations may be guarded. -/
import Derived.Test.YtfbgbbbfpkpfkaaFront
import Derived.OrdersIn
import Derived.OwnWalkIn
import Derived.RangeFuncCalls
namespace Go.Proofs.Ytfbgbbbfpkpfkaa
open Go.RowKit

def plainG (o : Oper) : Bool := match o.op with | .select .. => false | .defer .. => false | _ => true
def frontG (md : Region.Mode) (l : List Oper) (m : Nat) : Bool :=
  decide (m ≤ l.length) &&
  ((List.range m).all fun i => match l[i]? with
    | some o => (o.after.all (fun e => !Region.binds md e || decide (e.on < i))) && plainG o && (List.range m).all (fun j => match l[j]? with
        | some o' => (j == i || o.dst.isNone || o.dst != o'.dst) &&
            (o.looksAt l.toArray).all (fun t => o'.dst != some t || depsOf md l i j)
        | none => true)
    | none => false) &&
  ((List.range (l.length - m)).all fun k => (List.range m).all fun j => (ancOf md l l.length (m + k)).contains j) &&
  ((List.range (l.length - m)).all fun k => Region.ready md l.toArray (firstK (m + k) l.length) == [m + k])
theorem execOp_sameG {o : Oper} {a b : Act} (hp : plainG o = true) (h : ∀ t, .tmp t ∈ o.op.operands → a.tmps[t]? = b.tmps[t]?) : execOp a.eval o = execOp b.eval o := by
  refine execOp_congr o (fun cs d he => by simp [plainG, he] at hp) fun x hx => ?_
  cases x <;> try rfl
  rename_i t
  have := h t hx
  simp [Act.eval, Array.getD_eq_getD_getElem?, this]
theorem looks_op {ops : Array Oper} {o : Oper} {t : Tmp} (h : .tmp t ∈ o.op.operands) : t ∈ o.looksAt ops :=
  List.mem_append_left _ (List.mem_filterMap.2 ⟨.tmp t, by simpa using h, rfl⟩)
theorem wanted_same {ops : Array Oper} {o : Oper} {a b : Act} (h : ∀ t ∈ o.looksAt ops, a.tmps[t]? = b.tmps[t]?) : Region.wanted o (yielded ops a.tmps) = Region.wanted o (yielded ops b.tmps) := by
  unfold Region.wanted
  cases hg : o.guard with
  | none => rfl
  | some gw =>
    obtain ⟨g, want⟩ := gw
    have hy : yielded ops a.tmps g = yielded ops b.tmps g := by
      unfold yielded
      cases ht : (ops[g]?).bind (·.dst) with
      | none => rfl
      | some t =>
        have := h t (by simp [Oper.looksAt, hg, ht])
        simp [this]
    simp only [hy]
section
variable {P : Program} {md : Region.Mode} {l : List Oper} {Q : Exit → Act → World → Prop}
theorem step_frontG {m : Nat} {C : (Nat → Bool) → (Nat → Value) → World → Prop} {R : World → World → Prop} {φ : Nat → Value → World → Prop} {a b : Act} {i : Nat} {o : Oper} {vs : Nat → Value} {L : Nat → Bool} {w : World} {K : Act → World → Prop}
    (ho : l[i]? = some o) (hp : plainG o = true) (hs : FrontStep P md l m C R φ a i) (hL : L i = false) (hC : C L vs w) (hf : ∀ j, j < m → depsOf md l i j = true → φ j (vs j) w)
    (hz : b.tmps.size = a.tmps.size) (hev : ∀ t, t ∈ o.looksAt l.toArray → b.tmps[t]? = (putSome l (depsOf md l i) vs a (List.range m)).tmps[t]?)
    (hK : ∀ v w2, C (fun j => L j || j == i) (fun j => if j = i then v else vs j) w2 → R w w2 → φ i v w2 → K (b.put o.dst v) w2) : if Region.wanted o (yielded l.toArray b.tmps) then o.wp P b w K Q ∨ (o.asks P b w ∧ LetsOut Q) else K (b.put o.dst undef) w := by
  have h := hs o ho vs L w hL hC hf
  generalize hdep : putSome l (depsOf md l i) vs a (List.range m) = dep at *
  have hz' : dep.tmps.size = b.tmps.size := by rw [← hdep, putSome_size, hz]
  unfold wpList at h
  rw [wanted_same hev]
  cases hw : Region.wanted o (yielded l.toArray dep.tmps) with
  | false =>
    simp only [hw, Bool.false_eq_true, if_false] at h ⊢
    simp only [wpList] at h
    obtain ⟨_, v, he, h1, h2, h3⟩ := h
    rw [put_same hz' he]
    exact hK v w h1 h2 h3
  | true =>
  simp only [hw, if_true] at h ⊢
  left
  rcases h with h | ⟨_, _, _, h⟩
  case inr => cases h.1
  unfold Oper.wp at h ⊢
  have h' : o.upon P dep (fun a' w2 => ∃ v, a' = dep.put o.dst v ∧ C (fun j => L j || j == i) (fun j => if j = i then v else vs j) w2 ∧ R w w2 ∧ φ i v w2) (fun e a' w' => e = .normal ∧ ∃ v, a' = dep.put o.dst v ∧ C (fun j => L j || j == i) (fun j => if j = i then v else vs j) w' ∧ R w w' ∧ φ i v w') ((execOp dep.eval o).run P w) := by
    have hm : ∀ a' w', wpList P l.toArray (fun e a' w2 => e = .normal ∧ ∃ v, a' = dep.put o.dst v ∧ C (fun j => L j || j == i) (fun j => if j = i then v else vs j) w2 ∧ R w w2 ∧ φ i v w2) [] a' w' → ∃ v, a' = dep.put o.dst v ∧ C (fun j => L j || j == i) (fun j => if j = i then v else vs j) w' ∧ R w w' ∧ φ i v w' := by
      intro a' w' hh
      exact hh.2
    exact Oper.wp_mono hm h
  have hgv := gives_of_upon (K := fun a' w2 => ∃ v, a' = dep.put o.dst v ∧ C (fun j => L j || j == i) (fun j => if j = i then v else vs j) w2 ∧ R w w2 ∧ φ i v w2) (fun d w' ⟨v, he, _⟩ => by
    have := congrArg Act.defers he
    rw [put_defers, put_defers] at this
    exact absurd (congrArg List.length this) (by simp)) h'
  rw [execOp_sameG hp (fun t ht => hev t (looks_op ht))]
  refine upon_of_gives (gives_mono ?_ hgv)
  rintro v w2 ⟨u, he, h1, h2, h3⟩
  rw [put_same hz' he]
  exact hK u w2 h1 h2 h3


theorem wpAny_frontG {m : Nat} {C : (Nat → Bool) → (Nat → Value) → World → Prop} {R : World → World → Prop} {φ : Nat → Value → World → Prop} {a : Act} (hB : frontG md l m = true)
    (hR : ∀ w w', R w w' → ∀ i v, φ i v w → φ i v w')
    (hstep : ∀ i, i < m → FrontStep P md l m C R φ a i)
    (htail : ∀ vs L w', (∀ i, i < m → L i = true) → C L vs w' → (∀ i, i < m → φ i (vs i) w') → wpList P l.toArray Q (l.drop m) (putSome l (fun _ => true) vs a (List.range m)) w') :
    ∀ (fuel : Nat) (listed : Array Bool) (vs : Nat → Value) (w : World), listed.size = l.length → (∀ j, m ≤ j → listed.getD j false = false) →
      fuel + ((List.range m).countP fun i => listed.getD i false) = l.length →
      Down md l listed → C (fun i => listed.getD i false) vs w → (∀ i, i < m → listed.getD i false = true → φ i (vs i) w) →
      wpAny P md l.toArray Q fuel listed (putSome l (fun i => listed.getD i false) vs a (List.range m)) w := by
  simp only [frontG, Bool.and_eq_true, decide_eq_true_eq] at hB
  obtain ⟨⟨⟨hml, hA⟩, hB⟩, hF⟩ := hB
  -- all of the front is listed
  have full : ∀ (fuel : Nat) (listed : Array Bool) (vs : Nat → Value) (w : World), listed.size = l.length → (∀ j, m ≤ j → listed.getD j false = false) →
      fuel + ((List.range m).countP fun i => listed.getD i false) = l.length → C (fun i => listed.getD i false) vs w → (∀ i, i < m → listed.getD i false = true → φ i (vs i) w) →
      (∀ j, j < m → listed.getD j false = true) →
      wpAny P md l.toArray Q fuel listed (putSome l (fun i => listed.getD i false) vs a (List.range m)) w := by
    intro fuel listed vs w hsz hhi hfu hC hφ hall
    have hc : (List.range m).countP (fun i => listed.getD i false) = m := by
      rw [List.countP_eq_length.2 (fun x hx => hall x (List.mem_range.1 hx)), List.length_range]
    have hl : listed = firstK (m + 0) l.length := by
      apply Array.ext
      · rw [hsz, firstK_size]
      · intro i h1 h2
        have e1 : listed.getD i false = listed[i] := by simp [Array.getD, h1]
        have e2 := firstK_at (k := m + 0) (n := l.length) (i := i) (by omega) false
        have e3 : (firstK (m + 0) l.length).getD i false = (firstK (m + 0) l.length)[i] := by simp only [Array.getD, h2, dif_pos]; rfl
        rw [← e1, ← e3, e2]
        by_cases him : i < m
        · simp [hall i him, him]
        · simp [hhi i (by omega), him]
    have hput : putSome l (fun i => listed.getD i false) vs a (List.range m) = putSome l (fun _ => true) vs a (List.range m) :=
      putSome_congr (fun i hi => ⟨hall i (List.mem_range.1 hi), fun _ => rfl⟩) a
    rw [hput]
    have := wpAny_tail (P := P) (Q := Q) hF fuel 0 (by omega) (putSome l (fun _ => true) vs a (List.range m)) w (htail vs _ w hall hC (fun i hi => hφ i hi (hall i hi)))
    rw [hl]
    exact this
  intro fuel
  induction fuel with
  | zero =>
    intro listed vs w hsz hhi hfu hD hC hφ
    refine full 0 listed vs w hsz hhi hfu hC hφ ?_
    have hle : (List.range m).countP (fun i => listed.getD i false) ≤ m := by
      simpa using List.countP_le_length (p := fun i => listed.getD i false) (l := List.range m)
    have he : (List.range m).countP (fun i => listed.getD i false) = (List.range m).length := by rw [List.length_range]; omega
    intro j hj
    exact List.countP_eq_length.1 he j (List.mem_range.2 hj)
  | succ fuel ih =>
    intro listed vs w hsz hhi hfu hD hC hφ
    by_cases hall : ∀ j, j < m → listed.getD j false = true
    · exact full (fuel + 1) listed vs w hsz hhi hfu hC hφ hall
    -- who is ready is of the front
    have hrdy : ∀ i ∈ Region.ready md l.toArray listed, i < m := by
      intro i hi
      rcases Nat.lt_or_ge i m with h | h
      · exact h
      · exfalso
        obtain ⟨h0, o, ho, hd⟩ := mem_ready.1 hi
        have hil : i < l.length := by
          rcases Nat.lt_or_ge i l.length with h | h
          · exact h
          · simp [h] at ho
        apply hall
        intro j hj
        have := List.all_eq_true.1 (List.all_eq_true.1 hB (i - m) (List.mem_range.2 (by omega))) j (List.mem_range.2 hj)
        rw [show m + (i - m) = i by omega] at this
        exact hD.anc l.length i o (by simpa using ho) hd j (by simpa using this)
    refine ⟨?_, ?_⟩
    · -- the least that is not listed is ready
      intro hn
      exfalso
      have hex : ∃ j, j < m ∧ listed.getD j false = false := by
        apply Classical.byContradiction
        intro hne
        apply hall
        intro j hj
        cases hh : listed.getD j false with
        | true => rfl
        | false => exact absurd ⟨j, hj, hh⟩ hne
      obtain ⟨j, hj, hmin⟩ := least_of hex
      have hjl : j < l.length := by omega
      have hA' := List.all_eq_true.1 hA j (List.mem_range.2 hj.1)
      have ho : l[j]? = some l[j] := by simp [hjl]
      simp only [ho, Bool.and_eq_true] at hA'
      have : j ∈ Region.ready md l.toArray listed := by
        refine mem_ready.2 ⟨?_, l[j], by simp [hjl], ?_⟩
        · have h1 := hj.2
          have : j < listed.size := by omega
          simp only [Array.getD, this, dif_pos] at h1 ⊢
          exact h1
        · intro e he hb
          have := Array.all_eq_true'.1 hA'.1.1 e he
          have hlt : e.on < j := by simpa [hb] using this
          cases hh : listed.getD e.on false with
          | true => rfl
          | false => exact absurd ⟨by omega, hh⟩ (hmin e.on hlt)
      rw [hn] at this
      cases this
    · intro i hi
      have him := hrdy i hi
      obtain ⟨h0, o, ho, hd⟩ := mem_ready.1 hi
      have ho' : l[i]? = some o := by simpa using ho
      have hil : i < l.length := by omega
      have hA' := List.all_eq_true.1 hA i (List.mem_range.2 him)
      simp only [ho', Bool.and_eq_true] at hA'
      obtain ⟨⟨_, hp⟩, hA'⟩ := hA'
      have hl0 : listed.getD i false = false := by
        have : i < listed.size := by omega
        simp only [Array.getD, this, dif_pos] at h0 ⊢
        exact h0
      unfold wpOp
      simp only [ho]
      have hdl : ∀ j, depsOf md l i j = true → listed.getD j false = true := by
        intro j hj
        simp only [depsOf, ho', Array.any_eq_true'] at hj
        obtain ⟨e, he, hj⟩ := hj
        simp only [Bool.and_eq_true, beq_iff_eq] at hj
        rw [← hj.2]
        exact hd e he hj.1
      refine step_frontG (vs := vs) (L := fun j => listed.getD j false) ho' hp (hstep i him) hl0 hC (fun j hj hdj => hφ j hj (hdl j hdj)) (putSome_size a) ?_ ?_
      · intro t ht
        refine putSome_at ?_ a a rfl rfl
        intro j hj oj hoj hdst
        have hA2 := List.all_eq_true.1 hA' j hj
        simp only [hoj, Bool.and_eq_true] at hA2
        have := List.all_eq_true.1 hA2.2 _ ht
        simp only [hdst, bne_self_eq_false, Bool.false_or] at this
        rw [this]
        exact hdl j this
      · intro v w2 hC2 hR2 hφ2
        have hset : ∀ j, (listed.setIfInBounds i true).getD j false = (listed.getD j false || j == i) := by
          intro j
          by_cases hji : j = i
          · subst hji
            have : j < listed.size := by omega
            simp [Array.getD, this]
          · simp [Array.getD_eq_getD_getElem?, Array.getElem?_setIfInBounds_ne (Ne.symm hji), hji]
        have hmore := putSome_more (l := fun j => listed.getD j false) (vs := vs) (v := v) ho' (List.nodup_range (n := m)) (List.mem_range.2 him) hl0 (by
          intro j hj oj hoj hji
          have hA2 := List.all_eq_true.1 hA' j hj
          simp only [hoj, Bool.and_eq_true, Bool.or_eq_true] at hA2
          rcases hA2.1 with (h | h) | h
          · exact absurd (by simpa using h) hji
          · exact .inl (by simpa using h)
          · exact .inr (by simpa using h)) a
        rw [← hmore]
        have := ih (listed.setIfInBounds i true) (fun j => if j = i then v else vs j) w2 (by simpa using hsz) (by
          intro j hj
          rw [hset, hhi j hj]
          simp; omega) (by
          have hcc := countP_more (l := fun j => listed.getD j false) (List.nodup_range (n := m)) (List.mem_range.2 him) hl0
          have he : (fun j => (listed.setIfInBounds i true).getD j false) = (fun j => listed.getD j false || j == i) := funext hset
          rw [he, hcc]
          omega) (by
          intro j oj hj hoj e he hb
          rw [hset] at hj ⊢
          by_cases hji : j = i
          · subst hji
            rw [ho'] at hoj
            cases hoj
            rw [hd e he hb]; rfl
          · have : listed.getD j false = true := by simpa [hji] using hj
            rw [hD j oj this hoj e he hb]; rfl) (by rw [show (fun j => (listed.setIfInBounds i true).getD j false) = (fun j => listed.getD j false || j == i) from funext hset]; exact hC2) (by
          intro j hj hlj
          rw [hset] at hlj
          by_cases hji : j = i
          · subst hji; simpa using hφ2
          · simp only [hji, if_false]
            exact hR w w2 hR2 j _ (hφ j hj (by simpa [hji] using hlj)))
        have e : (fun j => (listed.setIfInBounds i true).getD j false) = (fun j => listed.getD j false || j == i) := funext hset
        rw [e] at this
        exact this

/-- A region that draws the order of its operations, of which those from number m on wait for all the others: one fact for each operation of the front, in whatever order. -/
theorem any_frontG {a : Act} {w : World} (m : Nat) (C : (Nat → Bool) → (Nat → Value) → World → Prop) (R : World → World → Prop) (φ : Nat → Value → World → Prop)
    (hB : frontG .any l m = true) (hC : C (fun _ => false) (fun _ => undef) { w with drawn := w.drawn + 1 })
    (hR : ∀ w w', R w w' → ∀ i v, φ i v w → φ i v w')
    (hstep : ∀ i, i < m → FrontStep P .any l m C R φ a i)
    (htail : ∀ vs L w', (∀ i, i < m → L i = true) → C L vs w' → (∀ i, i < m → φ i (vs i) w') → wpList P l.toArray Q (l.drop m) (putSome l (fun _ => true) vs a (List.range m)) w') :
    wpAny P .any l.toArray Q l.toArray.size (Array.replicate l.toArray.size false) a { w with drawn := w.drawn + 1 } := by
  have hz : ∀ j, (Array.replicate l.toArray.size false).getD j false = false := by
    intro j
    simp [Array.getD]
  have h := wpAny_frontG (Q := Q) hB hR hstep htail l.toArray.size (Array.replicate l.toArray.size false) (fun _ => undef) { w with drawn := w.drawn + 1 } (by simp) (fun j _ => hz j)
    (by
      have : (List.range m).countP (fun i => (Array.replicate l.toArray.size false).getD i false) = 0 := List.countP_eq_zero.2 (fun i _ => by rw [hz]; simp)
      rw [this]; simp)
    (fun i o hi => by rw [hz] at hi; cases hi) (by rw [show (fun i => (Array.replicate l.toArray.size false).getD i false) = (fun _ => false) from funext hz]; exact hC) (fun i _ hi => by rw [hz] at hi; cases hi)
  have e : putSome l (fun i => (Array.replicate l.toArray.size false).getD i false) (fun _ => undef) a (List.range m) = a := by
    have : ∀ (js : List Nat) (b : Act), putSome l (fun i => (Array.replicate l.toArray.size false).getD i false) (fun _ => undef) b js = b := by
      intro js
      induction js with
      | nil => intro b; rfl
      | cons j js ih =>
        intro b
        have hh : (match l[j]? with
          | some o => if (Array.replicate l.toArray.size false).getD j false then b.put o.dst undef else b
          | none => b) = b := by
          rw [hz]
          cases l[j]? <;> rfl
        have hs : ∀ c : Act, c = b → putSome l (fun i => (Array.replicate l.toArray.size false).getD i false) (fun _ => undef) c js = b := by
          intro c hc; rw [hc]; exact ih b
        exact hs _ hh
    exact this _ a
  rw [e] at h
  exact h


theorem wp_region_frontG {id : Nat} {a : Act} {w : World} (m : Nat) (C : (Nat → Bool) → (Nat → Value) → World → Prop) (R : World → World → Prop) (φ : Nat → Value → World → Prop)
    (hm : P.follows .mixedOrders = true) (hB : frontG .any l m = true) (hC : C (fun _ => false) (fun _ => undef) { w with drawn := w.drawn + 1 })
    (hR : ∀ w w', R w w' → ∀ i v, φ i v w → φ i v w')
    (hstep : ∀ i, i < m → FrontStep P .any l m C R φ a i)
    (htail : ∀ vs L w', (∀ i, i < m → L i = true) → C L vs w' → (∀ i, i < m → φ i (vs i) w') → wpList P l.toArray Q (l.drop m) (putSome l (fun _ => true) vs a (List.range m)) w') :
    (Code.region id l.toArray true).wp P Q a w := wp_region_any hm (any_frontG m C R φ hB hC hR hstep htail)

theorem wpIn_of_wp {r n : Nat} {o : Oper} {a : Act} {w : World} {K : Act → World → Prop} (h1 : 1 ≤ n) (hnd : ∀ c, o.op ≠ .defer c) (hQ : ¬ LetsOut Q) (h : o.wp P a w K Q ∨ (o.asks P a w ∧ LetsOut Q)) : o.wpIn (Fence.wide.inRound r) n P a w K Q := by
  rcases h with h | h
  rotate_left
  · exact absurd h.2 hQ
  refine ⟨fun _ _ => trivial, ?_⟩
  rw [Oper.semAt_plain (Fence.wide.inRound r) _ _ hnd]
  unfold Oper.wp at h
  generalize (execOp a.eval o).run P w = x at *
  cases x with
  | ok x w' =>
    cases x <;> simp only [Oper.upon] at h <;> simp only [Oper.uponIn] <;>
      first
        | exact h
        | exact ⟨fun _ => h1, CallsIn.inRound r (callsIn_wide.2 h)⟩
        | exact ⟨fun _ => h1, fun c cs _ => let ⟨v, w', q, s⟩ := h c cs; ⟨v, w', q, stepsIn_wide.2 s⟩⟩
  | halt x w' => cases x <;> simp only [Oper.upon] at h <;> simp only [Oper.uponIn] <;> exact h

theorem wpAnyIn_of_wpAny {r n : Nat} {ops : Array Oper} (hn : 1 ≤ n) (hnd : ∀ (i : Nat) (o : Oper), ops[i]? = some o → ∀ c, o.op ≠ Op.defer c) (hQ : ¬ LetsOut Q) : ∀ (fuel : Nat) (listed : Array Bool) (a : Act) (w : World), wpAny P md ops Q fuel listed a w → wpAnyIn (Fence.wide.inRound r) n P md ops Q fuel listed a w := by
  intro fuel
  induction fuel with
  | zero => intro listed a w h; exact h
  | succ fuel ih =>
    intro listed a w h
    refine ⟨h.1, fun i hi => ?_⟩
    have h1 := h.2 i hi
    unfold wpOp at h1
    unfold wpOpIn
    cases ho : ops[i]? with
    | none => simp only [ho] at h1 ⊢; exact ih _ _ _ h1
    | some o =>
      simp only [ho] at h1 ⊢
      split
      · rename_i hw
        simp only [hw, if_true] at h1
        exact Oper.wpIn_mono (fun a w hh => ih _ a w hh) (wpIn_of_wp hn (hnd i o ho) hQ h1)
      · rename_i hw
        simp only [hw] at h1
        exact ⟨fun _ _ => trivial, ih _ _ _ h1⟩

def noDefer (l : List Oper) : Bool := l.all fun o => match o.op with | .defer .. => false | _ => true

theorem wpAnyIn_mono {F : Fence} {n : Nat} {ops : Array Oper} {Q Q' : Exit → Act → World → Prop} (hQ : ∀ a w, Q .normal a w → Q' .normal a w) (hQp : ∀ e a w, e ≠ .normal → Q e a w → Q' e a w) : ∀ (fuel : Nat) (listed : Array Bool) (a : Act) (w : World), wpAnyIn F n P md ops Q fuel listed a w → wpAnyIn F n P md ops Q' fuel listed a w := by
  intro fuel
  have hall : ∀ e a w, Q e a w → Q' e a w := fun e a w h => by
    by_cases he : e = .normal
    · subst he; exact hQ _ _ h
    · exact hQp e a w he h
  have hlet : LetsOut Q → LetsOut Q' := fun ⟨a, w, h⟩ => ⟨a, w, hall _ _ _ h⟩
  induction fuel with
  | zero => intro listed a w h; exact ⟨h.1, hQ _ _ h.2⟩
  | succ fuel ih =>
    intro listed a w h
    refine ⟨fun hr => hQ _ _ (h.1 hr), fun i hi => ?_⟩
    have h1 := h.2 i hi
    unfold wpOpIn at h1 ⊢
    cases ho : ops[i]? with
    | none => simp only [ho] at h1 ⊢; exact ih _ _ _ h1
    | some o =>
      simp only [ho] at h1 ⊢
      split
      · rename_i hw
        simp only [hw, if_true] at h1
        refine ⟨h1.1, ?_⟩
        have hh := h1.2
        generalize (o.semAt F.round a.eval).run P w = x at *
        cases x with
        | ok x w' =>
          cases x <;> simp only [Oper.uponIn] at hh ⊢ <;>
            first
              | exact ih _ _ _ hh
              | exact ⟨hh.1, CallsIn.mono hh.2 (fun e w'' he => by cases e <;> first | exact ih _ _ _ he | exact hall _ _ _ he | exact hlet he)⟩
              | exact ⟨hh.1, RowsIn.mono hh.2 (fun _ _ he => ih _ _ _ he)⟩
              | exact ⟨hh.1, RoundIn.mono hh.2 (fun e w'' he => by cases e <;> first | exact ih _ _ _ he | exact hall _ _ _ he | exact hlet he)⟩
        | halt x w' => cases x <;> simp only [Oper.uponIn] at hh ⊢ <;> first | exact hall _ _ _ hh | exact hh
      · rename_i hw
        simp only [hw] at h1
        exact ⟨h1.1, ih _ _ _ h1.2⟩

/-- The same in a round of a range over a function. -/
theorem wpIn_region_frontR {r n : Nat} {id : Nat} {a : Act} {w : World} (m : Nat) (C : (Nat → Bool) → (Nat → Value) → World → Prop) (R : World → World → Prop) (φ : Nat → Value → World → Prop)
    (hn : 1 ≤ n) (hm : P.follows .mixedOrders = true) (hB : frontG .any l m = true) (hnd : noDefer l = true) (hC : C (fun _ => false) (fun _ => undef) { w with drawn := w.drawn + 1 })
    (hR : ∀ w w', R w w' → ∀ i v, φ i v w → φ i v w')
    (hstep : ∀ i, i < m → FrontStep P .any l m C R φ a i)
    (htail : ∀ vs L w', (∀ i, i < m → L i = true) → C L vs w' → (∀ i, i < m → φ i (vs i) w') → wpList P l.toArray (fun e a w => e = .normal ∧ Q .normal a w) (l.drop m) (putSome l (fun _ => true) vs a (List.range m)) w') :
    (Code.region id l.toArray true).wpIn (Fence.wide.inRound r) n P Q a w := by
  refine wpIn_region_any hm (wpAnyIn_mono (Q := fun e a w => e = .normal ∧ Q .normal a w) (fun a w h => h.2) (fun e a w he h => absurd h.1 he) _ _ _ _ (wpAnyIn_of_wpAny hn ?_ ?_ _ _ _ _ (any_frontG m C R φ hB hC hR hstep htail)))
  · intro i o ho c hc
    have ho' : l[i]? = some o := by simpa using ho
    have := List.all_eq_true.1 hnd o (List.mem_of_getElem? ho')
    rw [hc] at this
    cases this
  · rintro ⟨a, w, h, _⟩
    cases h
end
end Go.Proofs.Ytfbgbbbfpkpfkaa
