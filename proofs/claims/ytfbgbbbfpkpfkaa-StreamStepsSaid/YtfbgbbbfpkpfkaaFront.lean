/- Regions that draw the order of their operations: one fact for each operation of the front, proved once, in whatever order they run. -/
import Derived.WalkKit
import Derived.Deep.Quiet
namespace Go.Proofs.Ytfbgbbbfpkpfkaa
open Go.RowKit


/-- What an operation gives, apart from the act that it is put into. -/
def gives (P : Program) (X : Value → World → Prop) : Result Next → Prop
  | .ok (.value v) w' => X v w'
  | .ok .skip w' => X undef w'
  | .ok (.enter f args) w' => Calls P f args w' fun e w'' => match e with | .returned v => X v w'' | _ => False
  | .ok (.row r args) w' => Rows P r args w' X
  | _ => False

theorem gives_mono {P : Program} {X Y : Value → World → Prop} (h : ∀ v w, X v w → Y v w) {r : Result Next} (hx : gives P X r) : gives P Y r := by
  cases r with
  | ok n w' =>
    cases n <;> simp only [gives] at hx ⊢ <;>
      first
        | exact h _ _ hx
        | exact Calls.mono hx (fun e w'' he => by cases e <;> first | exact h _ _ he | exact he)
        | exact Rows.mono hx (fun _ _ he => h _ _ he)
  | halt x w' => cases x <;> simp only [gives] at hx

theorem upon_of_gives {P : Program} {o : Oper} {a : Act} {K : Act → World → Prop} {Q : Exit → Act → World → Prop} {r : Result Next}
    (h : gives P (fun v w' => K (a.put o.dst v) w') r) : o.upon P a K Q r := by
  cases r with
  | ok n w' =>
    cases n <;> simp only [gives, Oper.upon] at h ⊢ <;>
      first
        | exact h
        | exact Calls.mono h (fun e w'' he => by cases e <;> first | exact he | exact he.elim)
        | exact h.elim
  | halt x w' => cases x <;> simp only [gives] at h

theorem gives_of_upon {P : Program} {o : Oper} {a : Act} {K : Act → World → Prop} {r : Result Next} (hd : ∀ d w', ¬ K ({ a with defers := d :: a.defers }.put o.dst undef) w')
    (h : o.upon P a K (fun e a' w' => e = .normal ∧ K a' w') r) : gives P (fun v w' => K (a.put o.dst v) w') r := by
  cases r with
  | ok n w' =>
    cases n <;> simp only [gives, Oper.upon] at h ⊢ <;>
      first
        | exact h
        | exact Calls.mono h (fun e w'' he => by cases e <;> first | exact he | (cases he.1) | (have := he; simp [LetsOut] at this))
        | exact (hd _ _ h).elim
  | halt x w' => cases x <;> simp [Oper.upon] at h ⊢
def putSome (front : List Oper) (l : Nat → Bool) (vs : Nat → Value) (a : Act) (js : List Nat) : Act :=
  js.foldl (fun b i => match front[i]? with
    | some o => if l i then b.put o.dst (vs i) else b
    | none => b) a

theorem put_size (a : Act) (d : Option Tmp) (v : Value) : (a.put d v).tmps.size = a.tmps.size := by
  cases d <;> simp [Act.put]

theorem putSome_size {front : List Oper} {l : Nat → Bool} {vs : Nat → Value} {js : List Nat} : ∀ (a : Act), (putSome front l vs a js).tmps.size = a.tmps.size := by
  induction js with
  | nil => intro a; rfl
  | cons i js ih =>
    intro a
    have := ih (match front[i]? with
    | some o => if l i then a.put o.dst (vs i) else a
    | none => a)
    unfold putSome at *
    simp only [List.foldl_cons]
    rw [this]
    split
    · split
      · exact put_size ..
      · rfl
    · rfl

theorem put_at {a a' : Act} {d : Option Tmp} {v : Value} {t : Nat} (hs : a.tmps.size = a'.tmps.size) (h : d ≠ some t → a.tmps[t]? = a'.tmps[t]?) : (a.put d v).tmps[t]? = (a'.put d v).tmps[t]? := by
  cases d with
  | none => exact h (by simp)
  | some d =>
    by_cases he : d = t
    · subst he
      simp [Act.put, Array.getElem?_setIfInBounds, hs]
    · simp only [Act.put, Array.getElem?_setIfInBounds_ne he]
      exact h (by simpa using he)

theorem putSome_at {front : List Oper} {l l' : Nat → Bool} {vs : Nat → Value} {t : Nat} {js : List Nat}
    (h : ∀ i ∈ js, ∀ o, front[i]? = some o → o.dst = some t → l i = l' i) : ∀ (a a' : Act), a.tmps.size = a'.tmps.size → a.tmps[t]? = a'.tmps[t]? →
    (putSome front l vs a js).tmps[t]? = (putSome front l' vs a' js).tmps[t]? := by
  induction js with
  | nil => intro a a' _ h; exact h
  | cons i js ih =>
    intro a a' hs ha
    have h0 := h i (by simp)
    unfold putSome at *
    simp only [List.foldl_cons]
    refine ih (fun j hj => h j (List.mem_cons_of_mem _ hj)) _ _ ?_ ?_
    · cases front[i]? with
      | none => exact hs
      | some o => simp only []; cases l i <;> cases l' i <;> simp [put_size, hs]
    · cases ho : front[i]? with
      | none => exact ha
      | some o =>
        simp only []
        by_cases hd : o.dst = some t
        · rw [h0 o ho hd]
          cases l' i with
          | false => exact ha
          | true => exact put_at hs (fun _ => ha)
        · have hne : ∀ (b : Act), (b.put o.dst (vs i)).tmps[t]? = b.tmps[t]? := by
            intro b
            cases hdd : o.dst with
            | none => rfl
            | some d =>
              have : d ≠ t := fun e => hd (by rw [hdd, e])
              simp [Act.put, Array.getElem?_setIfInBounds_ne this]
          cases l i <;> cases l' i <;> simp [hne, ha]

theorem putSome_congr {front : List Oper} {l l' : Nat → Bool} {vs vs' : Nat → Value} {js : List Nat} (h : ∀ i ∈ js, l i = l' i ∧ (l i = true → vs i = vs' i)) : ∀ (a : Act), putSome front l vs a js = putSome front l' vs' a js := by
  induction js with
  | nil => intro a; rfl
  | cons i js ih =>
    intro a
    have h0 := h i (by simp)
    have ih' := ih (fun j hj => h j (List.mem_cons_of_mem _ hj))
    unfold putSome at *
    simp only [List.foldl_cons]
    rw [ih']
    congr 1
    cases front[i]? with
    | none => rfl
    | some o =>
      simp only [← h0.1]
      cases hl : l i with
      | true => simp [h0.2 hl]
      | false => rfl

theorem putSome_put {front : List Oper} {l : Nat → Bool} {vs : Nat → Value} {d : Option Tmp} {v : Value} {js : List Nat} (h : ∀ i ∈ js, ∀ o, front[i]? = some o → l i = true → d = none ∨ d ≠ o.dst) : ∀ (a : Act), putSome front l vs (a.put d v) js = (putSome front l vs a js).put d v := by
  induction js with
  | nil => intro a; rfl
  | cons i js ih =>
    intro a
    have ih' := ih (fun j hj => h j (List.mem_cons_of_mem _ hj))
    have h0 := h i (by simp)
    unfold putSome at *
    simp only [List.foldl_cons]
    cases ho : front[i]? with
    | none => exact ih' a
    | some o =>
      simp only []
      cases hl : l i with
      | false => exact ih' a
      | true =>
        simp only [if_true]
        rw [← ih']
        congr 1
        rcases h0 o ho hl with rfl | hne
        · rfl
        · cases d with
          | none => rfl
          | some d =>
            cases hd : o.dst with
            | none => rfl
            | some d' =>
              have hdd : d ≠ d' := fun e => hne (by rw [hd, e])
              simp only [Act.put]
              rw [Array.setIfInBounds_comm _ _ hdd]

/-- One more is put. -/
theorem putSome_more {front : List Oper} {l : Nat → Bool} {vs : Nat → Value} {i : Nat} {o : Oper} {v : Value} (ho : front[i]? = some o) {js : List Nat} (hnd : js.Nodup) (hi : i ∈ js) (hl : l i = false)
    (hdst : ∀ j ∈ js, ∀ o', front[j]? = some o' → j ≠ i → o.dst = none ∨ o.dst ≠ o'.dst) : ∀ (a : Act),
    putSome front (fun j => l j || j == i) (fun j => if j = i then v else vs j) a js = (putSome front l vs a js).put o.dst v := by
  induction js with
  | nil => simp at hi
  | cons j js ih =>
    intro a
    have hn := List.nodup_cons.1 hnd
    by_cases hji : j = i
    · subst hji
      have e1 : putSome front (fun k => l k || k == j) (fun k => if k = j then v else vs k) a (j :: js) = putSome front (fun k => l k || k == j) (fun k => if k = j then v else vs k) (a.put o.dst v) js := by
        unfold putSome; simp only [List.foldl_cons, ho, beq_self_eq_true, Bool.or_true, if_true]
      have e2 : putSome front l vs a (j :: js) = putSome front l vs a js := by
        unfold putSome; simp only [List.foldl_cons, ho, hl]; rfl
      rw [e1, e2, ← putSome_put (fun k hk o' ho' _ => hdst k (List.mem_cons_of_mem _ hk) o' ho' (fun e => hn.1 (e ▸ hk)))]
      exact putSome_congr (fun k hk => by
        have : k ≠ j := fun e => hn.1 (e ▸ hk)
        simp [this]) _
    · have hi' : i ∈ js := by simpa [Ne.symm hji] using hi
      have := ih hn.2 hi' (fun k hk => hdst k (List.mem_cons_of_mem _ hk))
      have e1 : ∀ (l' : Nat → Bool) (vs' : Nat → Value), putSome front l' vs' a (j :: js) = putSome front l' vs' (match front[j]? with
        | some o => if l' j then a.put o.dst (vs' j) else a
        | none => a) js := fun _ _ => rfl
      rw [e1, e1]
      simp only [hji, if_false, beq_iff_eq, Bool.or_eq_true, or_false]
      exact this _
def depsOf (md : Region.Mode) (l : List Oper) (i j : Nat) : Bool :=
  match l[i]? with
  | some o => o.after.any (fun e => Region.binds md e && e.on == j)
  | none => false

def ancOf (md : Region.Mode) (l : List Oper) : Nat → Nat → List Nat
  | 0, _ => []
  | fuel + 1, i => match l[i]? with
    | some o => (o.after.toList.filter (fun e => Region.binds md e)).flatMap fun e => e.on :: ancOf md l fuel e.on
    | none => []

def firstK (k n : Nat) : Array Bool := ((List.range n).map fun i => decide (i < k)).toArray

def plainOp (o : Oper) : Bool := o.guard.isNone && match o.op with | .select .. => false | .defer .. => false | _ => true

def frontB (md : Region.Mode) (l : List Oper) (m : Nat) : Bool :=
  decide (m ≤ l.length) &&
  ((List.range m).all fun i => match l[i]? with
    | some o => (o.after.all (fun e => !Region.binds md e || decide (e.on < i))) && plainOp o && (List.range m).all (fun j => match l[j]? with
        | some o' => (j == i || o.dst.isNone || o.dst != o'.dst) &&
            o.op.operands.all (fun x => match x with | .tmp t => o'.dst != some t || depsOf md l i j | _ => true)
        | none => true)
    | none => false) &&
  ((List.range (l.length - m)).all fun k => (List.range m).all fun j => (ancOf md l l.length (m + k)).contains j) &&
  ((List.range (l.length - m)).all fun k => Region.ready md l.toArray (firstK (m + k) l.length) == [m + k])

section
variable {P : Program} {md : Region.Mode} {l : List Oper} {Q : Exit → Act → World → Prop}

theorem firstK_size (k n : Nat) : (firstK k n).size = n := by simp [firstK]
theorem firstK_at {k n i : Nat} (h : i < n) (d : Bool) : (firstK k n).getD i d = decide (i < k) := by
  simp [firstK, Array.getD, h]

theorem ready_full : Region.ready md l.toArray (firstK l.length l.length) = [] := by
  rw [List.eq_nil_iff_forall_not_mem]
  intro j hj
  obtain ⟨h0, o, ho, _⟩ := mem_ready.1 hj
  have hlt : j < l.length := by
    rcases Nat.lt_or_ge j l.length with h | h
    · exact h
    · simp [h] at ho
  rw [firstK_at hlt] at h0
  simp [hlt] at h0

theorem firstK_next {k n : Nat} : (firstK k n).setIfInBounds k true = firstK (k + 1) n := by
  apply Array.ext
  · simp [firstK]
  · intro i h1 h2
    have hi : i < n := by simpa [firstK] using h2
    simp only [firstK, List.getElem_toArray, List.getElem_map, List.getElem_range, List.setIfInBounds_toArray]
    by_cases e : k = i
    · subst e; simp
    · simp [e]; omega

theorem wpAny_tail {m : Nat} (hC : ((List.range (l.length - m)).all fun k => Region.ready md l.toArray (firstK (m + k) l.length) == [m + k]) = true) :
    ∀ (fuel k : Nat), m + k + fuel = l.length → ∀ a w, wpList P l.toArray Q (l.drop (m + k)) a w → wpAny P md l.toArray Q fuel (firstK (m + k) l.length) a w := by
  intro fuel
  induction fuel with
  | zero =>
    intro k hk a w h
    have : m + k = l.length := by omega
    rw [this] at h ⊢
    exact ⟨ready_full, by simpa [wpList] using h⟩
  | succ fuel ih =>
    intro k hk a w h
    have hr : Region.ready md l.toArray (firstK (m + k) l.length) = [m + k] := by
      have := List.all_eq_true.1 hC k (List.mem_range.2 (by omega))
      simpa using this
    refine ⟨fun hn => absurd (hr ▸ hn) (by simp), ?_⟩
    intro i hi
    rw [hr] at hi
    obtain rfl : i = m + k := by simpa using hi
    have hlt : m + k < l.length := by omega
    rw [firstK_next]
    rw [List.drop_eq_getElem_cons hlt] at h
    have ho : l.toArray[m + k]? = some l[m + k] := by simp [hlt]
    unfold wpOp
    simp only [ho]
    unfold wpList at h
    have ih' := ih (k + 1) (by omega)
    split
    · rename_i hw
      simp only [hw, if_true] at h
      exact h.imp (Oper.wp_mono (fun a w hh => ih' a w hh)) id
    · rename_i hw
      simp only [hw] at h
      exact ih' _ _ h

def Down (md : Region.Mode) (l : List Oper) (listed : Array Bool) : Prop :=
  ∀ i o, listed.getD i false = true → l[i]? = some o → ∀ e ∈ o.after, Region.binds md e = true → listed.getD e.on false = true

theorem Down.anc {listed : Array Bool} (h : Down md l listed) : ∀ (fuel i : Nat) (o : Oper), l[i]? = some o → (∀ e ∈ o.after, Region.binds md e = true → listed.getD e.on false = true) →
    ∀ j ∈ ancOf md l fuel i, listed.getD j false = true := by
  intro fuel
  induction fuel with
  | zero => intro i o _ _ j hj; simp [ancOf] at hj
  | succ fuel ih =>
    intro i o ho hd j hj
    simp only [ancOf, ho] at hj
    obtain ⟨e, he, hj⟩ := List.mem_flatMap.1 hj
    obtain ⟨he1, he2⟩ := List.mem_filter.1 he
    have hl := hd e (by simpa using he1) he2
    rcases List.mem_cons.1 hj with rfl | hj
    · exact hl
    · cases ho' : l[e.on]? with
      | none => cases fuel <;> simp [ancOf, ho'] at hj
      | some o' => exact ih e.on o' ho' (h e.on o' hl ho') j hj

theorem execOp_same {o : Oper} {a b : Act} (hp : plainOp o = true) (h : ∀ t, .tmp t ∈ o.op.operands → a.tmps[t]? = b.tmps[t]?) : execOp a.eval o = execOp b.eval o := by
  refine execOp_congr o (fun cs d he => by simp [plainOp, he] at hp) fun x hx => ?_
  cases x <;> try rfl
  rename_i t
  have := h t hx
  simp [Act.eval, Array.getD_eq_getD_getElem?, this]

theorem put_same {a b : Act} {d : Option Tmp} {v u : Value} (hs : a.tmps.size = b.tmps.size) (h : a.put d v = a.put d u) : b.put d v = b.put d u := by
  cases d with
  | none => rfl
  | some d =>
    simp only [Act.put, Act.mk.injEq, and_true] at h ⊢
    by_cases hd : d < a.tmps.size
    · have := congrArg (·[d]?) h
      simp [hd] at this
      rw [this]
    · have hd' : ¬ d < b.tmps.size := hs ▸ hd
      simp [Array.setIfInBounds, hd']

/-- What one operation of the front is to show: with the facts of what it waits for, and with those puts alone. -/
def FrontStep (P : Program) (md : Region.Mode) (l : List Oper) (m : Nat) (C : (Nat → Bool) → (Nat → Value) → World → Prop) (R : World → World → Prop) (φ : Nat → Value → World → Prop) (a : Act) (i : Nat) : Prop :=
  ∀ o, l[i]? = some o → ∀ (vs : Nat → Value) (L : Nat → Bool) w1, L i = false → C L vs w1 → (∀ j, j < m → depsOf md l i j = true → φ j (vs j) w1) →
    wpList P l.toArray (fun e a' w2 => e = .normal ∧ ∃ v, a' = (putSome l (depsOf md l i) vs a (List.range m)).put o.dst v ∧ C (fun j => L j || j == i) (fun j => if j = i then v else vs j) w2 ∧ R w1 w2 ∧ φ i v w2) [o]
      (putSome l (depsOf md l i) vs a (List.range m)) w1

theorem countP_more {l : Nat → Bool} {i : Nat} {js : List Nat} (hnd : js.Nodup) (hi : i ∈ js) (hl : l i = false) : js.countP (fun j => l j || j == i) = js.countP l + 1 := by
  induction js with
  | nil => simp at hi
  | cons j js ih =>
    have hn := List.nodup_cons.1 hnd
    by_cases hji : j = i
    · subst hji
      have : js.countP (fun k => l k || k == j) = js.countP l := List.countP_congr (fun k hk => by
        have : k ≠ j := fun e => hn.1 (e ▸ hk)
        simp [this])
      rw [List.countP_cons, List.countP_cons, this]
      simp [hl]
    · have hi' : i ∈ js := by simpa [Ne.symm hji] using hi
      rw [List.countP_cons, List.countP_cons, ih hn.2 hi']
      have : (j == i) = false := by simpa using hji
      simp only [this, Bool.or_false]
      omega

theorem least_of {p : Nat → Prop} (h : ∃ j, p j) : ∃ j, p j ∧ ∀ k, k < j → ¬ p k := by
  obtain ⟨j, hj⟩ := h
  induction j using Nat.strongRecOn with
  | _ j ih =>
    by_cases hh : ∃ k, k < j ∧ p k
    · obtain ⟨k, hk, hp⟩ := hh
      exact ih k hk hp
    · exact ⟨j, hj, fun k hk hp => hh ⟨k, hk, hp⟩⟩

theorem put_defers (a : Act) (d : Option Tmp) (v : Value) : (a.put d v).defers = a.defers := by cases d <;> rfl

theorem step_front {m : Nat} {C : (Nat → Bool) → (Nat → Value) → World → Prop} {R : World → World → Prop} {φ : Nat → Value → World → Prop} {a b : Act} {i : Nat} {o : Oper} {vs : Nat → Value} {L : Nat → Bool} {w : World} {K : Act → World → Prop}
    (ho : l[i]? = some o) (hp : plainOp o = true) (hs : FrontStep P md l m C R φ a i) (hL : L i = false) (hC : C L vs w) (hf : ∀ j, j < m → depsOf md l i j = true → φ j (vs j) w)
    (hz : b.tmps.size = a.tmps.size) (hev : ∀ t, .tmp t ∈ o.op.operands → b.tmps[t]? = (putSome l (depsOf md l i) vs a (List.range m)).tmps[t]?)
    (hK : ∀ v w2, C (fun j => L j || j == i) (fun j => if j = i then v else vs j) w2 → R w w2 → φ i v w2 → K (b.put o.dst v) w2) : o.wp P b w K Q := by
  have h := hs o ho vs L w hL hC hf
  generalize hdep : putSome l (depsOf md l i) vs a (List.range m) = dep at *
  have hz' : dep.tmps.size = b.tmps.size := by rw [← hdep, putSome_size, hz]
  have hg : o.guard = none := by
    have := hp
    simp only [plainOp, Bool.and_eq_true, Option.isNone_iff_eq_none] at this
    exact this.1
  unfold wpList at h
  simp only [Region.wanted, hg, if_true] at h
  rcases h with h | ⟨_, _, _, h⟩
  case inr => cases h.1
  unfold Oper.wp at h ⊢
  have h' : o.upon P dep (fun a' w2 => ∃ v, a' = dep.put o.dst v ∧ C (fun j => L j || j == i) (fun j => if j = i then v else vs j) w2 ∧ R w w2 ∧ φ i v w2) (fun e a' w' => e = .normal ∧ ∃ v, a' = dep.put o.dst v ∧ C (fun j => L j || j == i) (fun j => if j = i then v else vs j) w' ∧ R w w' ∧ φ i v w') ((execOp dep.eval o).run P w) := by
    have hm : ∀ a' w', wpList P l.toArray (fun e a' w2 => e = .normal ∧ ∃ v, a' = dep.put o.dst v ∧ C (fun j => L j || j == i) (fun j => if j = i then v else vs j) w2 ∧ R w w2 ∧ φ i v w2) [] a' w' → ∃ v, a' = dep.put o.dst v ∧ C (fun j => L j || j == i) (fun j => if j = i then v else vs j) w' ∧ R w w' ∧ φ i v w' := by
      intro a' w' hh
      exact hh.2
    exact Oper.wp_mono hm h
  have hgv := gives_of_upon (K := fun a' w2 => ∃ v, a' = dep.put o.dst v ∧ C (fun j => L j || j == i) (fun j => if j = i then v else vs j) w2 ∧ R w w2 ∧ φ i v w2) (fun d w' ⟨v, he, _⟩ => by
    have := congrArg Act.defers he
    rw [put_defers, put_defers] at this
    exact absurd (congrArg List.length this) (by simp)) h'
  rw [execOp_same hp hev]
  refine upon_of_gives (gives_mono ?_ hgv)
  rintro v w2 ⟨u, he, h1, h2, h3⟩
  rw [put_same hz' he]
  exact hK u w2 h1 h2 h3


theorem wpAny_front {m : Nat} {C : (Nat → Bool) → (Nat → Value) → World → Prop} {R : World → World → Prop} {φ : Nat → Value → World → Prop} {a : Act} (hB : frontB md l m = true)
    (hR : ∀ w w', R w w' → ∀ i v, φ i v w → φ i v w')
    (hstep : ∀ i, i < m → FrontStep P md l m C R φ a i)
    (htail : ∀ vs L w', (∀ i, i < m → L i = true) → C L vs w' → (∀ i, i < m → φ i (vs i) w') → wpList P l.toArray Q (l.drop m) (putSome l (fun _ => true) vs a (List.range m)) w') :
    ∀ (fuel : Nat) (listed : Array Bool) (vs : Nat → Value) (w : World), listed.size = l.length → (∀ j, m ≤ j → listed.getD j false = false) →
      fuel + ((List.range m).countP fun i => listed.getD i false) = l.length →
      Down md l listed → C (fun i => listed.getD i false) vs w → (∀ i, i < m → listed.getD i false = true → φ i (vs i) w) →
      wpAny P md l.toArray Q fuel listed (putSome l (fun i => listed.getD i false) vs a (List.range m)) w := by
  simp only [frontB, Bool.and_eq_true, decide_eq_true_eq] at hB
  obtain ⟨⟨⟨hml, hA⟩, hB⟩, hF⟩ := hB
  -- all of the front is listed
  have full : ∀ (fuel : Nat) (listed : Array Bool) (vs : Nat → Value) (w : World), listed.size = l.length → (∀ j, m ≤ j → listed.getD j false = false) →
      fuel + ((List.range m).countP fun i => listed.getD i false) = l.length → C (fun i => listed.getD i false) vs w → (∀ i, i < m → listed.getD i false = true → φ i (vs i) w) →
      (∀ j, j < m → listed.getD j false = true) →
      wpAny P md l.toArray Q fuel listed (putSome l (fun i => listed.getD i false) vs a (List.range m)) w := by
    intro fuel listed vs w hsz hhi hfu hC hφ hall
    have hc : (List.range m).countP (fun i => listed.getD i false) = m := by
      rw [List.countP_eq_length.2 (fun x hx => hall x (List.mem_range.1 hx)), List.length_range]
    have hl : listed = firstK (m + 0) l.length := by
      apply Array.ext
      · rw [hsz, firstK_size]
      · intro i h1 h2
        have e1 : listed.getD i false = listed[i] := by simp [Array.getD, h1]
        have e2 := firstK_at (k := m + 0) (n := l.length) (i := i) (by omega) false
        have e3 : (firstK (m + 0) l.length).getD i false = (firstK (m + 0) l.length)[i] := by simp only [Array.getD, h2, dif_pos]; rfl
        rw [← e1, ← e3, e2]
        by_cases him : i < m
        · simp [hall i him, him]
        · simp [hhi i (by omega), him]
    have hput : putSome l (fun i => listed.getD i false) vs a (List.range m) = putSome l (fun _ => true) vs a (List.range m) :=
      putSome_congr (fun i hi => ⟨hall i (List.mem_range.1 hi), fun _ => rfl⟩) a
    rw [hput]
    have := wpAny_tail (P := P) (Q := Q) hF fuel 0 (by omega) (putSome l (fun _ => true) vs a (List.range m)) w (htail vs _ w hall hC (fun i hi => hφ i hi (hall i hi)))
    rw [hl]
    exact this
  intro fuel
  induction fuel with
  | zero =>
    intro listed vs w hsz hhi hfu hD hC hφ
    refine full 0 listed vs w hsz hhi hfu hC hφ ?_
    have hle : (List.range m).countP (fun i => listed.getD i false) ≤ m := by
      simpa using List.countP_le_length (p := fun i => listed.getD i false) (l := List.range m)
    have he : (List.range m).countP (fun i => listed.getD i false) = (List.range m).length := by rw [List.length_range]; omega
    intro j hj
    exact List.countP_eq_length.1 he j (List.mem_range.2 hj)
  | succ fuel ih =>
    intro listed vs w hsz hhi hfu hD hC hφ
    by_cases hall : ∀ j, j < m → listed.getD j false = true
    · exact full (fuel + 1) listed vs w hsz hhi hfu hC hφ hall
    -- who is ready is of the front
    have hrdy : ∀ i ∈ Region.ready md l.toArray listed, i < m := by
      intro i hi
      rcases Nat.lt_or_ge i m with h | h
      · exact h
      · exfalso
        obtain ⟨h0, o, ho, hd⟩ := mem_ready.1 hi
        have hil : i < l.length := by
          rcases Nat.lt_or_ge i l.length with h | h
          · exact h
          · simp [h] at ho
        apply hall
        intro j hj
        have := List.all_eq_true.1 (List.all_eq_true.1 hB (i - m) (List.mem_range.2 (by omega))) j (List.mem_range.2 hj)
        rw [show m + (i - m) = i by omega] at this
        exact hD.anc l.length i o (by simpa using ho) hd j (by simpa using this)
    refine ⟨?_, ?_⟩
    · -- the least that is not listed is ready
      intro hn
      exfalso
      have hex : ∃ j, j < m ∧ listed.getD j false = false := by
        apply Classical.byContradiction
        intro hne
        apply hall
        intro j hj
        cases hh : listed.getD j false with
        | true => rfl
        | false => exact absurd ⟨j, hj, hh⟩ hne
      obtain ⟨j, hj, hmin⟩ := least_of hex
      have hjl : j < l.length := by omega
      have hA' := List.all_eq_true.1 hA j (List.mem_range.2 hj.1)
      have ho : l[j]? = some l[j] := by simp [hjl]
      simp only [ho, Bool.and_eq_true] at hA'
      have : j ∈ Region.ready md l.toArray listed := by
        refine mem_ready.2 ⟨?_, l[j], by simp [hjl], ?_⟩
        · have h1 := hj.2
          have : j < listed.size := by omega
          simp only [Array.getD, this, dif_pos] at h1 ⊢
          exact h1
        · intro e he hb
          have := Array.all_eq_true'.1 hA'.1.1 e he
          have hlt : e.on < j := by simpa [hb] using this
          cases hh : listed.getD e.on false with
          | true => rfl
          | false => exact absurd ⟨by omega, hh⟩ (hmin e.on hlt)
      rw [hn] at this
      cases this
    · intro i hi
      have him := hrdy i hi
      obtain ⟨h0, o, ho, hd⟩ := mem_ready.1 hi
      have ho' : l[i]? = some o := by simpa using ho
      have hil : i < l.length := by omega
      have hA' := List.all_eq_true.1 hA i (List.mem_range.2 him)
      simp only [ho', Bool.and_eq_true] at hA'
      obtain ⟨⟨_, hp⟩, hA'⟩ := hA'
      have hl0 : listed.getD i false = false := by
        have : i < listed.size := by omega
        simp only [Array.getD, this, dif_pos] at h0 ⊢
        exact h0
      unfold wpOp
      simp only [ho]
      have hg : o.guard = none := by
        have := hp
        simp only [plainOp, Bool.and_eq_true, Option.isNone_iff_eq_none] at this
        exact this.1
      simp only [Region.wanted, hg, if_true]
      left
      have hdl : ∀ j, depsOf md l i j = true → listed.getD j false = true := by
        intro j hj
        simp only [depsOf, ho', Array.any_eq_true'] at hj
        obtain ⟨e, he, hj⟩ := hj
        simp only [Bool.and_eq_true, beq_iff_eq] at hj
        rw [← hj.2]
        exact hd e he hj.1
      refine step_front (vs := vs) (L := fun j => listed.getD j false) ho' hp (hstep i him) hl0 hC (fun j hj hdj => hφ j hj (hdl j hdj)) (putSome_size a) ?_ ?_
      · intro t ht
        refine putSome_at ?_ a a rfl rfl
        intro j hj oj hoj hdst
        have hA2 := List.all_eq_true.1 hA' j hj
        simp only [hoj, Bool.and_eq_true] at hA2
        have := Array.all_eq_true'.1 hA2.2 _ ht
        simp only [hdst, bne_self_eq_false, Bool.false_or] at this
        rw [this]
        exact hdl j this
      · intro v w2 hC2 hR2 hφ2
        have hset : ∀ j, (listed.setIfInBounds i true).getD j false = (listed.getD j false || j == i) := by
          intro j
          by_cases hji : j = i
          · subst hji
            have : j < listed.size := by omega
            simp [Array.getD, this]
          · simp [Array.getD_eq_getD_getElem?, Array.getElem?_setIfInBounds_ne (Ne.symm hji), hji]
        have hmore := putSome_more (l := fun j => listed.getD j false) (vs := vs) (v := v) ho' (List.nodup_range (n := m)) (List.mem_range.2 him) hl0 (by
          intro j hj oj hoj hji
          have hA2 := List.all_eq_true.1 hA' j hj
          simp only [hoj, Bool.and_eq_true, Bool.or_eq_true] at hA2
          rcases hA2.1 with (h | h) | h
          · exact absurd (by simpa using h) hji
          · exact .inl (by simpa using h)
          · exact .inr (by simpa using h)) a
        rw [← hmore]
        have := ih (listed.setIfInBounds i true) (fun j => if j = i then v else vs j) w2 (by simpa using hsz) (by
          intro j hj
          rw [hset, hhi j hj]
          simp; omega) (by
          have hcc := countP_more (l := fun j => listed.getD j false) (List.nodup_range (n := m)) (List.mem_range.2 him) hl0
          have he : (fun j => (listed.setIfInBounds i true).getD j false) = (fun j => listed.getD j false || j == i) := funext hset
          rw [he, hcc]
          omega) (by
          intro j oj hj hoj e he hb
          rw [hset] at hj ⊢
          by_cases hji : j = i
          · subst hji
            rw [ho'] at hoj
            cases hoj
            rw [hd e he hb]; rfl
          · have : listed.getD j false = true := by simpa [hji] using hj
            rw [hD j oj this hoj e he hb]; rfl) (by rw [show (fun j => (listed.setIfInBounds i true).getD j false) = (fun j => listed.getD j false || j == i) from funext hset]; exact hC2) (by
          intro j hj hlj
          rw [hset] at hlj
          by_cases hji : j = i
          · subst hji; simpa using hφ2
          · simp only [hji, if_false]
            exact hR w w2 hR2 j _ (hφ j hj (by simpa [hji] using hlj)))
        have e : (fun j => (listed.setIfInBounds i true).getD j false) = (fun j => listed.getD j false || j == i) := funext hset
        rw [e] at this
        exact this

/-- A region that draws the order of its operations, of which those from number m on wait for all the others: one fact for each operation of the front, in whatever order. -/
theorem wp_region_front {id : Nat} {a : Act} {w : World} (m : Nat) (C : (Nat → Bool) → (Nat → Value) → World → Prop) (R : World → World → Prop) (φ : Nat → Value → World → Prop)
    (hm : P.follows .mixedOrders = true) (hB : frontB .any l m = true) (hC : C (fun _ => false) (fun _ => undef) { w with drawn := w.drawn + 1 })
    (hR : ∀ w w', R w w' → ∀ i v, φ i v w → φ i v w')
    (hstep : ∀ i, i < m → FrontStep P .any l m C R φ a i)
    (htail : ∀ vs L w', (∀ i, i < m → L i = true) → C L vs w' → (∀ i, i < m → φ i (vs i) w') → wpList P l.toArray Q (l.drop m) (putSome l (fun _ => true) vs a (List.range m)) w') :
    (Code.region id l.toArray true).wp P Q a w := by
  refine wp_region_any hm ?_
  have hz : ∀ j, (Array.replicate l.toArray.size false).getD j false = false := by
    intro j
    simp [Array.getD]
  have h := wpAny_front (Q := Q) hB hR hstep htail l.toArray.size (Array.replicate l.toArray.size false) (fun _ => undef) { w with drawn := w.drawn + 1 } (by simp) (fun j _ => hz j)
    (by
      have : (List.range m).countP (fun i => (Array.replicate l.toArray.size false).getD i false) = 0 := List.countP_eq_zero.2 (fun i _ => by rw [hz]; simp)
      rw [this]; simp)
    (fun i o hi => by rw [hz] at hi; cases hi) (by rw [show (fun i => (Array.replicate l.toArray.size false).getD i false) = (fun _ => false) from funext hz]; exact hC) (fun i _ hi => by rw [hz] at hi; cases hi)
  have e : putSome l (fun i => (Array.replicate l.toArray.size false).getD i false) (fun _ => undef) a (List.range m) = a := by
    have : ∀ (js : List Nat) (b : Act), putSome l (fun i => (Array.replicate l.toArray.size false).getD i false) (fun _ => undef) b js = b := by
      intro js
      induction js with
      | nil => intro b; rfl
      | cons j js ih =>
        intro b
        have hh : (match l[j]? with
          | some o => if (Array.replicate l.toArray.size false).getD j false then b.put o.dst undef else b
          | none => b) = b := by
          rw [hz]
          cases l[j]? <;> rfl
        have hs : ∀ c : Act, c = b → putSome l (fun i => (Array.replicate l.toArray.size false).getD i false) (fun _ => undef) c js = b := by
          intro c hc; rw [hc]; exact ih b
        exact hs _ hh
    exact this _ a
  rw [e] at h
  exact h

/-- The puts of the operations D, in this order. -/
def putL (l : List Oper) (vs : Nat → Value) (a : Act) (D : List Nat) : Act :=
  D.foldl (fun b j => match l[j]? with
    | some o => b.put o.dst (vs j)
    | none => b) a

theorem putSome_list {f : Nat → Bool} {vs : Nat → Value} (js : List Nat) : ∀ (a : Act), putSome l f vs a js = putL l vs a (js.filter f) := by
  induction js with
  | nil => intro a; rfl
  | cons j js ih =>
    intro a
    unfold putSome putL at *
    rw [List.foldl_cons, ih, List.filter_cons]
    cases f j with
    | true => simp only [if_true, List.foldl_cons]
    | false =>
      simp only [Bool.false_eq_true, if_false]
      cases l[j]? <;> rfl

/-- The same, with the operations that are waited for written out. -/
theorem FrontStep.of {m : Nat} {C : (Nat → Bool) → (Nat → Value) → World → Prop} {R : World → World → Prop} {φ : Nat → Value → World → Prop} {a : Act} {i : Nat} (D : List Nat) (o : Oper) (ho : l[i]? = some o)
    (hD : (List.range m).filter (depsOf md l i) = D)
    (h : ∀ (vs : Nat → Value) (L : Nat → Bool) w1, L i = false → C L vs w1 → (∀ j, j ∈ D → φ j (vs j) w1) →
      wpList P l.toArray (fun e a' w2 => e = .normal ∧ ∃ v, a' = (putL l vs a D).put o.dst v ∧ C (fun j => L j || j == i) (fun j => if j = i then v else vs j) w2 ∧ R w1 w2 ∧ φ i v w2) [o] (putL l vs a D) w1) :
    FrontStep P md l m C R φ a i := by
  intro o' ho' vs L w1 hL hC hf
  obtain rfl : o = o' := Option.some.inj (ho.symm.trans ho')
  rw [putSome_list, hD]
  refine h vs L w1 hL hC fun j hj => ?_
  rw [← hD] at hj
  obtain ⟨h1, h2⟩ := List.mem_filter.1 hj
  exact hf j (List.mem_range.1 h1) h2

theorem putSome_all {vs : Nat → Value} (js : List Nat) (a : Act) : putSome l (fun _ => true) vs a js = putL l vs a js := by
  rw [putSome_list, List.filter_eq_self.2 (fun _ _ => rfl)]
end
end Go.Proofs.Ytfbgbbbfpkpfkaa
