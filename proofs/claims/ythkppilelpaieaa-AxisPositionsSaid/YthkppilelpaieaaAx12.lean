/- Tents: Scalar, the program's. -/
import Derived.Test.YthkppilelpaieaaAx11
import Derived.Test.YthkppilelpaieaaEx9
namespace Go.Proofs.Ythkppilelpaieaa
open Go.RowKit
/-- the worlds of a region in which one store may have run; the operations bs run ahead of it -/
structure CS (W : World) (s : Nat) (bs : List Nat) (put : World → World) (LL : Nat → Bool) (vs : Nat → Value) (w' : World) : Prop where
  un : ∀ j, LL j = false → vs j = undef
  st : ∃ wz, Below W.heap.size W wz ∧ w' = if LL s = true then put wz else wz
  b1 : LL s = true → ∀ j ∈ bs, LL j = true
section
variable {W w w2 : World} {s : Nat} {bs : List Nat} {put : World → World} {LL : Nat → Bool} {vs : Nat → Value}
theorem CS.start (W : World) (s : Nat) (bs : List Nat) (put : World → World) : CS W s bs put (fun _ => false) (fun _ => undef) { W with drawn := W.drawn + 1 } :=
  ⟨fun _ _ => rfl, ⟨_, (Below.refl _ _).drew, rfl⟩, fun h => Bool.noConfusion h⟩
theorem CS.undo (h : CS W s bs put LL vs w) (i : Nat) (v : Value) : ∀ j, (LL j || j == i) = false → (if j = i then v else vs j) = undef := fun j hj => by
  rw [Bool.or_eq_false_iff] at hj
  rw [if_neg (by simpa using hj.2)]
  exact h.un j hj.1
theorem CS.keep (h : CS W s bs put LL vs w) (i : Nat) (v : Value) (hi : s ≠ i) : CS W s bs put (fun j => LL j || j == i) (fun j => if j = i then v else vs j) w := by
  have hs : (LL s || s == i) = LL s := by rw [beq_eq_false_iff_ne.2 hi, Bool.or_false]
  refine ⟨h.undo i v, ?_, fun e j hj => ?_⟩
  · rw [hs]
    exact h.st
  · rw [hs] at e
    rw [h.b1 e j hj, Bool.true_or]
theorem CS.calm (h : CS W s bs put LL vs w) (hs : LL s = false) : Below W.heap.size W w := by
  obtain ⟨wz, h1, h2⟩ := h.st
  rw [hs] at h2
  simp only [Bool.false_eq_true, if_false] at h2
  rw [h2]
  exact h1
theorem CS.early (h : CS W s bs put LL vs w) {j : Nat} (hj : LL j = false) (hm : j ∈ bs) : LL s = false ∧ Below W.heap.size W w := by
  have hs : LL s = false := by
    cases e : LL s with
    | false => rfl
    | true => have := h.b1 e j hm; rw [hj] at this; cases this
  exact ⟨hs, h.calm hs⟩
theorem CS.call (h : CS W s bs put LL vs w) (i : Nat) (v : Value) (hi : LL i = false) (hm : i ∈ bs) (hne : s ≠ i) (hb : Below w.heap.size w w2) : CS W s bs put (fun j => LL j || j == i) (fun j => if j = i then v else vs j) w2 := by
  obtain ⟨hs, h1⟩ := h.early hi hm
  have hs2 : (LL s || s == i) = false := by rw [hs, beq_eq_false_iff_ne.2 hne]; rfl
  refine ⟨h.undo i v, ⟨w2, h1.trans (hb.mono h1.size), ?_⟩, fun e => ?_⟩
  · rw [hs2]
    rfl
  · rw [hs2] at e; cases e
theorem CS.ran (h : CS W s bs put LL vs w) {j : Nat} (hj : vs j ≠ undef) : LL j = true := by
  cases e : LL j with
  | true => rfl
  | false => exact absurd (h.un j e) hj
theorem CS.store (h : CS W s bs put LL vs w) (v : Value) (hi : LL s = false) (hv : ∀ j ∈ bs, vs j ≠ undef) : CS W s bs put (fun j => LL j || j == s) (fun j => if j = s then v else vs j) (put w) :=
  ⟨h.undo s v, ⟨w, h.calm hi, by simp⟩, fun _ j hj => by rw [h.ran (hv j hj), Bool.true_or]⟩
theorem CS.fin (h : CS W s bs put LL vs w) (hs : LL s = true) : ∃ wz, Below W.heap.size W wz ∧ w = put wz := by
  obtain ⟨wz, h1, h2⟩ := h.st
  rw [if_pos hs] at h2
  exact ⟨wz, h1, h2⟩
end
def posAt (at_ : List Int) (k : Nat) : Int := match at_[k]? with
  | some y => limS y
  | none => 0
theorem posAt_rng (at_ : List Int) (k : Nat) : -64 ≤ posAt at_ k ∧ posAt at_ k ≤ 64 := by
  unfold posAt
  split
  · exact limS_rng _
  · omega
def tq (t : Tent) (v : Int) : Rat := Ex.rat (valS t.1 t.2.1 t.2.2 v).1 (valS t.1 t.2.1 t.2.2 v).2
def scalP (l : List Tent) (at_ : List Int) : Nat → Rat
  | 0 => 1
  | k + 1 => match l[k]? with
    | some t => scalP l at_ k * tq t (posAt at_ k)
    | none => scalP l at_ k
def scalS (l : List Tent) (at_ : List Int) : Int × Int := if allV l then ((scalP l at_ l.length).num, ((scalP l at_ l.length).den : Int)) else (0, 0)
theorem valid_facts {lo p hi : Int} (h : validS lo p hi = true) : -64 ≤ lo ∧ lo ≤ p ∧ p ≤ hi ∧ hi ≤ 64 ∧ (0 ≤ lo ∨ hi ≤ 0 ∨ p = 0) := of_decide_eq_true h
theorem valS_bd {lo p hi v : Int} (h : validS lo p hi = true) : 0 ≤ (valS lo p hi v).1 ∧ (valS lo p hi v).1 ≤ (valS lo p hi v).2 ∧ 1 ≤ (valS lo p hi v).2 ∧ (valS lo p hi v).2 ≤ 128 := by
  obtain ⟨h1, h2, h3, h4, _⟩ := valid_facts h
  unfold valS
  split
  · decide
  · split
    · decide
    · split <;> simp only <;> omega
theorem tq_bd {t : Tent} {v : Int} (h : validS t.1 t.2.1 t.2.2 = true) : 0 ≤ (tq t v).num ∧ (tq t v).num ≤ ((tq t v).den : Int) ∧ (tq t v).den ≤ 128 := by
  obtain ⟨h1, h2, h3, h4⟩ := valS_bd (v := v) h
  obtain ⟨e1, e2⟩ := Ex.rat_num_den (valS t.1 t.2.1 t.2.2 v).1 (valS t.1 t.2.1 t.2.2 v).2 h3
  unfold tq
  generalize (valS t.1 t.2.1 t.2.2 v).1 = N at *
  generalize (valS t.1 t.2.1 t.2.2 v).2 = D at *
  have hg := Nat.gcd_pos_of_pos_right N.natAbs (show 0 < D.natAbs by omega)
  rw [e1, e2]
  generalize Nat.gcd N.natAbs D.natAbs = G at *
  refine ⟨Int.ediv_nonneg h1 (by omega), ?_, Nat.le_trans (Nat.div_le_self _ _) (by omega)⟩
  rw [Int.natCast_ediv, show ((D.natAbs : Nat) : Int) = D by omega]
  exact Int.ediv_le_ediv (by omega) h2
theorem rmul_bd {a b : Rat} {A B : Nat} (h1 : 0 ≤ a.num) (h2 : a.num ≤ A) (h3 : 0 ≤ b.num) (h4 : b.num ≤ B) (h5 : a.den ≤ A) (h6 : b.den ≤ B) : 0 ≤ (a * b).num ∧ (a * b).num ≤ ((A * B : Nat) : Int) ∧ (a * b).den ≤ A * B := by
  obtain ⟨e1, e2⟩ := Ex.rmul_parts a b
  rw [e1, e2]
  have q1 : ∀ (x : Int) (g : Nat), 0 ≤ x → 0 ≤ x / (g : Int) ∧ x / (g : Int) ≤ x := fun x g hx => ⟨Int.ediv_nonneg hx (by omega), Int.ediv_le_self _ hx⟩
  obtain ⟨n1, n2⟩ := q1 a.num (Nat.gcd a.num.natAbs b.den) h1
  obtain ⟨n3, n4⟩ := q1 b.num (Nat.gcd b.num.natAbs a.den) h3
  refine ⟨Int.mul_nonneg n1 n3, ?_, Nat.mul_le_mul (Nat.le_trans (Nat.div_le_self _ _) h5) (Nat.le_trans (Nat.div_le_self _ _) h6)⟩
  rw [Int.natCast_mul]
  exact Int.le_trans (Int.mul_le_mul_of_nonneg_right (Int.le_trans n2 h2) n3) (Int.mul_le_mul_of_nonneg_left (Int.le_trans n4 h4) (by omega))
theorem scalP_bd {l : List Tent} (at_ : List Int) (h : allV l = true) : ∀ k, k ≤ l.length → 0 ≤ (scalP l at_ k).num ∧ (scalP l at_ k).num ≤ ((128 ^ k : Nat) : Int) ∧ (scalP l at_ k).den ≤ 128 ^ k := by
  intro k
  induction k with
  | zero => intro _; exact ⟨by show (0 : Int) ≤ 1; decide, by show (1 : Int) ≤ 1; decide, Nat.le_refl 1⟩
  | succ k ih =>
    intro hk
    obtain ⟨i1, i2, i3⟩ := ih (by omega)
    have hx : l[k]? = some (l[k]'(by omega)) := List.getElem?_eq_getElem _
    have hv : validS (l[k]'(by omega)).1 (l[k]'(by omega)).2.1 (l[k]'(by omega)).2.2 = true := by
      unfold allV at h
      exact List.all_eq_true.1 h _ (List.getElem_mem _)
    obtain ⟨t1, t2, t3⟩ := tq_bd (v := posAt at_ k) hv
    unfold scalP
    rw [hx]
    rw [Nat.pow_succ]
    exact rmul_bd i1 i2 t1 (by omega) i3 t3
theorem scalP_succ {l : List Tent} {at_ : List Int} {k : Nat} {t : Tent} (h : l[k]? = some t) : scalP l at_ (k + 1) = scalP l at_ k * tq t (posAt at_ k) := by
  rw [scalP, h]
theorem pow_le4 {k : Nat} (h : k ≤ 4) : 128 ^ k ≤ 268435456 := Nat.le_trans (Nat.pow_le_pow_right (by decide) h) (by decide)
theorem rat_self (q : Rat) : Ex.rat q.num q.den = q := by
  unfold Ex.rat
  rw [Int.toNat_natCast]
  exact Rat.mkRat_self q
theorem fit_small {q : Rat} (h1 : 0 ≤ q.num) (h2 : q.num ≤ 268435456) (h3 : q.den ≤ 268435456) : Ex.fitR q = some (q.num, (q.den : Int)) := by
  unfold Ex.fitR
  rw [if_pos ⟨by omega, by omega, by omega⟩]
theorem emul_small (q : Rat) (n d : Int) (w : World) (h1 : 0 ≤ q.num) (h2 : q.num ≤ 268435456) (h3 : q.den ≤ 268435456) (h4 : 0 ≤ n ∧ n ≤ 128) (h5 : 1 ≤ d ∧ d ≤ 128) (h6 : 0 ≤ (q * Ex.rat n d).num) (h7 : (q * Ex.rat n d).num ≤ 268435456) (h8 : (q * Ex.rat n d).den ≤ 268435456) :
    Calls Try.prog 39 #[.agg #[.int .i64 q.num, .int .i64 q.den], .agg #[.int .i64 n, .int .i64 d]] w fun e w' => e = .returned (.tuple #[.agg #[.int .i64 (q * Ex.rat n d).num, .int .i64 (q * Ex.rat n d).den], .bool true]) ∧ Below w.heap.size w w' := by
  have hdp := q.den_pos
  have := emul_ok q.num q.den n d w ⟨by omega, by omega⟩ ⟨by omega, by omega⟩ ⟨by omega, by omega⟩ ⟨by omega, by omega⟩ (by omega) h5.1
  have e : Ex.mulS q.num q.den n d = some ((q * Ex.rat n d).num, ((q * Ex.rat n d).den : Int)) := by
    unfold Ex.mulS
    rw [if_neg (by omega), rat_self, fit_small h6 h7 h8]
  rw [e] at this
  exact this
set_option maxHeartbeats 8000000 in
set_option maxRecDepth 100000 in
theorem scalar_any (a : Option Addr) (n c : Nat) (l : List Tent) (ua : Option Addr) (un uc : Nat) (u : List Int) (w : World) (hl : Lst Enc.tent w (· < w.heap.size) a n l) (hu : Lst Enc.int w (· < w.heap.size) ua un u) (hn : n ≤ 4) (_ : un ≤ 1000000000000) :
    Calls Try.prog 21 #[.slice a n c, .slice ua un uc] w fun e w' => e = .returned (.agg #[.int .i64 (scalS l u).1, .int .i64 (scalS l u).2]) ∧ Below w.heap.size w w' := by
  have hll := hl.1
  have hul := hu.1
  obtain ⟨b4, V, hb4, hV, st⟩ := (St.start w).new (Obj.cells #[.int .i64 0, .int .i64 0] 44)
  have hc := fits_any a n c l (n : Int) V (hl.under st.below) (by omega)
  have hfs : fitsS l (n : Int) = allV l := by unfold fitsS; rw [decide_eq_true (by rw [hll]), Bool.true_and]
  rw [hfs] at hc
  have h4 := st.get 0 rfl
  have hbV := st.below
  have hb4w : w.heap.size ≤ b4 := by omega
  clear st hfs
  replace hl := hide hl; replace hu := hide hu
  cases hv : allV l with
  | false =>
    have hfin : scalS l u = (0, 0) := by unfold scalS; rw [hv]; rfl
    rw [hfin]
    rw [hv] at hc
    replace hc := hide hc; replace hV := hide hV; replace hb4 := hide hb4; replace hbV := hide hbV; replace hv := hide hv; replace hfin := hide hfin; replace hll := hide hll; replace hul := hide hul; replace h4 := hide h4
    clear hl hu
    go_enter Try.func21, Try.ntmps21
    go_wp2_with fail
    rw [unhide hV, unhide hb4]
    refine (unhide hc).mono ?_
    rintro e w1 ⟨rfl, hb⟩
    have hr4 := (hb.block b4 (Array.getElem?_eq_some_iff.1 (unhide h4)).1).trans (unhide h4)
    have hbz := (unhide hbV).trans (hb.mono (unhide hbV).size)
    have f0 : w1.cell? ⟨b4, 0, none⟩ = some (.int .i64 0) := (cell_of_row _ _ 0 _ _ _ hr4).trans rfl
    have f1 : w1.cell? ⟨b4, 1, none⟩ = some (.int .i64 0) := (cell_of_row _ _ 1 _ _ _ hr4).trans rfl
    have g0 : w1.frozen? ⟨b4, 0, none⟩ = false := by simp [World.frozen?, hr4]
    have g1 : w1.frozen? ⟨b4, 1, none⟩ = false := by simp [World.frozen?, hr4]
    have es0 : w1.setCell ⟨b4, 0, none⟩ (.int .i64 0) = w1 := set_same hr4 rfl
    have es1 : w1.setCell ⟨b4, 1, none⟩ (.int .i64 0) = w1 := set_same hr4 rfl
    clear hc hr4 hb hbV
    replace hbz := hide hbz
    go_wp2_with fail
    refine bodyPost_ret (v := .agg #[.int .i64 0, .int .i64 0]) (by simp [results, Try.results21, go_sem, f0, f1]) rfl ⟨rfl, unhide hbz⟩
  | true =>
    have hfin : scalS l u = ((scalP l u n).num, ((scalP l u n).den : Int)) := by unfold scalS; rw [hv, hll]; rfl
    rw [hfin]
    rw [hv] at hc
    replace hc := hide hc; replace hV := hide hV; replace hb4 := hide hb4; replace hbV := hide hbV; replace hv := hide hv; replace hfin := hide hfin; replace hll := hide hll; replace hul := hide hul; replace h4 := hide h4
    go_enter Try.func21, Try.ntmps21
    go_wp2_with fail
    rw [unhide hV, unhide hb4]
    refine (unhide hc).mono ?_
    rintro e w1 ⟨rfl, hb⟩
    obtain ⟨b5, W, hb5, hW, st⟩ := (St.start w1).new (Obj.cells #[.int .i64 1, .int .i64 1] 44)
    have h5 := st.get 0 rfl
    have hb2 := hb.trans (st.below.mono hb.size)
    have h4b := (hb2.block b4 (Array.getElem?_eq_some_iff.1 (unhide h4)).1).trans (unhide h4)
    have hbW := (unhide hbV).trans (hb2.mono (unhide hbV).size)
    have hb45 : b4 < b5 := by have := (Array.getElem?_eq_some_iff.1 (unhide h4)).1; have := hb.size; omega
    clear hc hb hb2 st hbV h4
    replace hb5 := hide hb5; replace hW := hide hW; replace h5 := hide h5; replace h4b := hide h4b; replace hbW := hide hbW
    go_wp2_with fail
    rw [unhide hW, unhide hb5]
    go_loopw [18] (fun v wr => ∃ k : Nat, k ≤ n ∧ v = .int .i64 (k : Int) ∧ wr.heap[b5]? = some (.cells #[.int .i64 (scalP l u k).num, .int .i64 (scalP l u k).den] 44 (0, 0)) ∧ wr.heap[b4]? = some (.cells #[.int .i64 0, .int .i64 0] 44 (0, 0)) ∧ Below w.heap.size w wr) (fun v _ => n - (intOf v).toNat)
    case atStart => exact ⟨0, by omega, rfl, unhide h5, unhide h4b, unhide hbW⟩
    case round =>
      clear h5 h4b hbW
      obtain ⟨k, hk, rfl, h5, h4, hbw⟩ := hrel
      obtain ⟨wo, rfl⟩ : ∃ wo : World, wo = wr := ⟨_, rfl⟩
      have e0 : wo.cell? ⟨b5, 0, none⟩ = some (.int .i64 (scalP l u k).num) := (cell_of_row _ _ 0 _ _ _ h5).trans rfl
      have e1 : wo.cell? ⟨b5, 1, none⟩ = some (.int .i64 (scalP l u k).den) := (cell_of_row _ _ 1 _ _ _ h5).trans rfl
      by_cases hlt : k < n
      · obtain ⟨b1, o1, t, rfl, _, hx, i1, i2, i3, c0, c1, c2⟩ := lst_tent ((unhide hl).below hbw) hlt
        have hsc := scalP_succ (at_ := u) hx
        obtain ⟨m1, m2, m3⟩ := scalP_bd u (unhide hv) k (by have := unhide hll; omega)
        obtain ⟨m4, m5, m6⟩ := scalP_bd u (unhide hv) (k + 1) (by have := unhide hll; omega)
        have p1 := pow_le4 (k := k) (by omega)
        have p2 := pow_le4 (k := k + 1) (by omega)
        have hval : validS t.1 t.2.1 t.2.2 = true := by
          have := unhide hv
          unfold allV at this
          exact List.all_eq_true.1 this t (List.mem_of_getElem? hx)
        obtain ⟨lo, p, hi⟩ := t
        simp only at c0 c1 c2 hval
        obtain ⟨v1, v2, v3, v4, _⟩ := valid_facts hval
        have hpr := posAt_rng u k
        obtain ⟨vv, hvv⟩ : ∃ vv, posAt u k = vv := ⟨_, rfl⟩
        rw [hvv] at hpr hsc
        have hcv := fun w => value_any lo p hi vv w v1 v2 v3 v4 hpr
        have hbd := valS_bd (v := vv) hval
        have htq : tq (lo, p, hi) vv = Ex.rat (valS lo p hi vv).1 (valS lo p hi vv).2 := rfl
        obtain ⟨nn, hnn⟩ : ∃ x, (valS lo p hi vv).1 = x := ⟨_, rfl⟩
        obtain ⟨d, hd⟩ : ∃ x, (valS lo p hi vv).2 = x := ⟨_, rfl⟩
        rw [hnn, hd] at hbd htq
        simp only [hnn, hd] at hcv
        rw [htq] at hsc
        rw [hsc] at m4 m5 m6
        have hcm := fun w => emul_small (scalP l u k) nn d w m1 (by omega) (by omega) ⟨hbd.1, by omega⟩ ⟨hbd.2.2.1, hbd.2.2.2⟩ m4 (by omega) (by omega)
        obtain ⟨N1, hN1⟩ : ∃ x, (scalP l u k).num = x := ⟨_, rfl⟩
        obtain ⟨D1, hD1⟩ : ∃ x, ((scalP l u k).den : Int) = x := ⟨_, rfl⟩
        obtain ⟨N2, hN2'⟩ : ∃ x, (scalP l u k * Ex.rat nn d).num = x := ⟨_, rfl⟩
        obtain ⟨D2, hD2'⟩ : ∃ x, ((scalP l u k * Ex.rat nn d).den : Int) = x := ⟨_, rfl⟩
        have hN2 : (scalP l u (k + 1)).num = N2 := by rw [hsc, hN2']
        have hD2 : ((scalP l u (k + 1)).den : Int) = D2 := by rw [hsc, hD2']
        rw [hN1] at e0 h5
        rw [hD1] at e1 h5
        simp only [hN1, hD1, hN2', hD2'] at hcm
        clear hN1 hD1 hN2' hD2' hsc htq hbd hnn hd m1 m2 m3 m4 m5 m6 p1 p2 v1 v2 v3 v4 hval i1 i2 i3 hpr
        obtain ⟨bx, V2, hbx, hV2, st⟩ := (St.start wo).new (Obj.cells #[.int .i64 lo, .int .i64 p, .int .i64 hi] 52)
        have hbo := st.below
        have d0 := st.cell 0 rfl 0 (v := .int .i64 lo) rfl
        have d1 := st.cell 0 rfl 1 (v := .int .i64 p) rfl
        have d2 := st.cell 0 rfl 2 (v := .int .i64 hi) rfl
        have f0 := cell_under e0 hbo
        have f1 := cell_under e1 hbo
        have h5' := (hbo.block b5 (Array.getElem?_eq_some_iff.1 h5).1).trans h5
        have h4' := (hbo.block b4 (Array.getElem?_eq_some_iff.1 h4).1).trans h4
        have hbw' := hbw.trans (hbo.mono hbw.size)
        have huk := (unhide hu).below hbw
        have t1 : (k : Int) < (n : Int) := by omega
        have t2 : ¬ (n : Int) ≤ (k : Int) := by omega
        clear st hx e0 e1 h5 h4 hbw hbo
        have e0 := f0
        have e1 := f1
        have h5 := hide h5'
        have h4 := hide h4'
        have hbw := hide hbw'
        clear f0 f1 h5' h4' hbw'
        replace hcv := hide hcv; replace hcm := hide hcm; replace hN2 := hide hN2; replace hD2 := hide hD2; replace hbx := hide hbx; replace hV2 := hide hV2
        by_cases hun2 : k < un
        · obtain ⟨b2, o2, y, rfl, _, hy, _, c4⟩ := lst_int huk hun2
          have c4s : ∀ o, (wo.alloc o).cell? ⟨b2, o2 + k, none⟩ = some (.int .i64 y) := fun o => cell_under c4 ((Below.refl _ _).alloc (Nat.le_refl _) o)
          have hlim := limited_any y V2
          have hvy : limS y = vv := by rw [← hvv]; unfold posAt; rw [hy]
          rw [hvy] at hlim
          have t3 : (k : Int) < (un : Int) := by omega
          have t4 : ¬ (un : Int) ≤ (k : Int) := by omega
          clear hy hvy huk
          replace hlim := hide hlim; replace hvv := hide hvv; replace d0 := hide d0; replace d1 := hide d1; replace d2 := hide d2
          go_wp2_with fail
          rw [unhide hV2]
          try rw [unhide hbx]
          refine (unhide hlim).mono ?_
          rintro e wv ⟨rfl, ew⟩
          rw [ew]
          replace d0 := unhide d0; replace d1 := unhide d1; replace d2 := unhide d2
          clear hlim ew c0 c1 c2 c4 c4s
          go_wp2_with fail
          refine wp_region_frontG 9 (fun LL vs w' => CS V2 8 [0, 1, 2, 3, 4, 5, 6] (fun wz => (wz.setCell ⟨b5, 0, none⟩ (.int .i64 N2)).setCell ⟨b5, 1, none⟩ (.int .i64 D2)) LL vs w') (fun _ _ => True)
            (fun ix v w' => match ix with
              | 0 => v = .agg #[.int .i64 N1, .int .i64 D1]
              | 1 => v = .agg #[.int .i64 lo, .int .i64 p, .int .i64 hi]
              | 2 => v = .int .i64 vv
              | 3 => v = .agg #[.int .i64 nn, .int .i64 d]
              | 4 => v = .tuple #[.agg #[.int .i64 N2, .int .i64 D2], .bool true]
              | 5 => v = .tuple #[.agg #[.int .i64 N2, .int .i64 D2], .bool true]
              | 6 => v = .agg #[.int .i64 N2, .int .i64 D2]
              | 7 => v = .bool true
              | 8 => v = .bool true
              | _ => True) (by rfl) (by kernel_rfl) ?_ ?_ ?_ ?_
          · exact CS.start _ _ _ _
          · intro wa wb hRN ix v hv
            match ix, hv with
            | 0, h => exact h
            | 1, h => exact h
            | 2, h => exact h
            | 3, h => exact h
            | 4, h => exact h
            | 5, h => exact h
            | 6, h => exact h
            | 7, h => exact h
            | 8, h => exact h
            | _ + 9, _ => trivial
          · intro ix hix
            obtain rfl | rfl | rfl | rfl | rfl | rfl | rfl | rfl | rfl : ix = 0 ∨ ix = 1 ∨ ix = 2 ∨ ix = 3 ∨ ix = 4 ∨ ix = 5 ∨ ix = 6 ∨ ix = 7 ∨ ix = 8 := by omega
            · refine FrontStep.of [] _ rfl (by kernel_rfl) ?_
              intro vs LL wq hLL hC hf
              simp only [putL, List.foldl_nil]
              have hE := (hC.early (j := 0) hLL (by decide)).2
              have f0 := cell_under e0 hE
              have f1 := cell_under e1 hE
              clear hE
              go_wp2_with fail
              first | exact hC.keep 0 _ (by decide) | exact ⟨hC.keep 0 _ (by decide), trivial⟩ | exact ⟨hC.keep 0 _ (by decide), trivial, by omega⟩
            · refine FrontStep.of [] _ rfl (by kernel_rfl) ?_
              intro vs LL wq hLL hC hf
              simp only [putL, List.foldl_nil]
              have hE := (hC.early (j := 1) hLL (by decide)).2
              have f0 := cell_under d0 hE
              have f1 := cell_under d1 hE
              have f2 := cell_under d2 hE
              clear hE
              go_wp2_with fail
              first | exact hC.keep 1 _ (by decide) | exact ⟨hC.keep 1 _ (by decide), trivial⟩ | exact ⟨hC.keep 1 _ (by decide), trivial, by omega⟩
            · refine FrontStep.of [] _ rfl (by kernel_rfl) ?_
              intro vs LL wq hLL hC hf
              simp only [putL, List.foldl_nil]
              go_wp2_with fail
              first | exact hC.keep 2 _ (by decide) | exact ⟨hC.keep 2 _ (by decide), trivial⟩ | exact ⟨hC.keep 2 _ (by decide), trivial, by omega⟩
            · refine FrontStep.of [1, 2] _ rfl (by kernel_rfl) ?_
              intro vs LL wq hLL hC hf
              simp only [putL, List.foldl_nil, List.foldl_cons, List.getElem?_cons_zero, List.getElem?_cons_succ]
              have y1 : vs 1 = _ := hf 1 (by simp)
              try rw [y1]
              have y2 : vs 2 = _ := hf 2 (by simp)
              try rw [y2]
              have hcq := unhide hcv wq
              replace hcq := hide hcq
              go_wp2_with fail
              refine (unhide hcq).mono ?_
              rintro e wz ⟨rfl, hbz⟩
              clear hcq
              go_wp2_with fail
              first | exact ⟨hC.call 3 _ hLL (by decide) (by decide) hbz, trivial⟩ | exact hC.call 3 _ hLL (by decide) (by decide) hbz
            · refine FrontStep.of [0, 3] _ rfl (by kernel_rfl) ?_
              intro vs LL wq hLL hC hf
              simp only [putL, List.foldl_nil, List.foldl_cons, List.getElem?_cons_zero, List.getElem?_cons_succ]
              have y0 : vs 0 = _ := hf 0 (by simp)
              try rw [y0]
              have y3 : vs 3 = _ := hf 3 (by simp)
              try rw [y3]
              have hcq := unhide hcm wq
              replace hcq := hide hcq
              go_wp2_with fail
              refine (unhide hcq).mono ?_
              rintro e wz ⟨rfl, hbz⟩
              clear hcq
              go_wp2_with fail
              first | exact ⟨hC.call 4 _ hLL (by decide) (by decide) hbz, trivial⟩ | exact hC.call 4 _ hLL (by decide) (by decide) hbz
            · refine FrontStep.of [4] _ rfl (by kernel_rfl) ?_
              intro vs LL wq hLL hC hf
              simp only [putL, List.foldl_nil, List.foldl_cons, List.getElem?_cons_zero, List.getElem?_cons_succ]
              have y4 : vs 4 = _ := hf 4 (by simp)
              try rw [y4]
              go_wp2_with fail
              first | exact hC.keep 5 _ (by decide) | exact ⟨hC.keep 5 _ (by decide), trivial⟩ | exact ⟨hC.keep 5 _ (by decide), trivial, by omega⟩
            · refine FrontStep.of [5] _ rfl (by kernel_rfl) ?_
              intro vs LL wq hLL hC hf
              simp only [putL, List.foldl_nil, List.foldl_cons, List.getElem?_cons_zero, List.getElem?_cons_succ]
              have y5 : vs 5 = _ := hf 5 (by simp)
              try rw [y5]
              go_wp2_with fail
              first | exact hC.keep 6 _ (by decide) | exact ⟨hC.keep 6 _ (by decide), trivial⟩ | exact ⟨hC.keep 6 _ (by decide), trivial, by omega⟩
            · refine FrontStep.of [5] _ rfl (by kernel_rfl) ?_
              intro vs LL wq hLL hC hf
              simp only [putL, List.foldl_nil, List.foldl_cons, List.getElem?_cons_zero, List.getElem?_cons_succ]
              have y5 : vs 5 = _ := hf 5 (by simp)
              try rw [y5]
              go_wp2_with fail
              first | exact hC.keep 7 _ (by decide) | exact ⟨hC.keep 7 _ (by decide), trivial⟩ | exact ⟨hC.keep 7 _ (by decide), trivial, by omega⟩
            · refine FrontStep.of [0, 1, 2, 3, 4, 5, 6] _ rfl (by kernel_rfl) ?_
              intro vs LL wq hLL hC hf
              simp only [putL, List.foldl_nil, List.foldl_cons, List.getElem?_cons_zero, List.getElem?_cons_succ]
              have y0 : vs 0 = _ := hf 0 (by simp)
              try rw [y0]
              have y1 : vs 1 = _ := hf 1 (by simp)
              try rw [y1]
              have y2 : vs 2 = _ := hf 2 (by simp)
              try rw [y2]
              have y3 : vs 3 = _ := hf 3 (by simp)
              try rw [y3]
              have y4 : vs 4 = _ := hf 4 (by simp)
              try rw [y4]
              have y5 : vs 5 = _ := hf 5 (by simp)
              try rw [y5]
              have y6 : vs 6 = _ := hf 6 (by simp)
              try rw [y6]
              have hcalm := hC.calm hLL
              have hr5 := (hcalm.block b5 (Array.getElem?_eq_some_iff.1 (unhide h5)).1).trans (unhide h5)
              have f0 : wq.cell? ⟨b5, 0, none⟩ = some (.int .i64 N1) := (cell_of_row _ _ 0 _ _ _ hr5).trans rfl
              have f1 : wq.cell? ⟨b5, 1, none⟩ = some (.int .i64 D1) := (cell_of_row _ _ 1 _ _ _ hr5).trans rfl
              have g0 : wq.frozen? ⟨b5, 0, none⟩ = false := by simp [World.frozen?, hr5]
              have g1 : wq.frozen? ⟨b5, 1, none⟩ = false := by simp [World.frozen?, hr5]
              have f1' : (wq.setCell ⟨b5, 0, none⟩ (.int .i64 N2)).cell? ⟨b5, 1, none⟩ = some (.int .i64 D1) := (cell_of_row _ _ 1 _ _ _ (heap_set (off := 0) hr5 (.int .i64 N2))).trans rfl
              have g1' : (wq.setCell ⟨b5, 0, none⟩ (.int .i64 N2)).frozen? ⟨b5, 1, none⟩ = false := by simp [World.frozen?, heap_set (off := 0) hr5 (.int .i64 N2)]
              clear hr5 hcalm
              have hnx := hC.store (.bool true) hLL (fun j hj => by simp at hj; rcases hj with rfl | rfl | rfl | rfl | rfl | rfl | rfl <;> first | (rw [y0]; exact fun h => by cases h) | (rw [y1]; exact fun h => by cases h) | (rw [y2]; exact fun h => by cases h) | (rw [y3]; exact fun h => by cases h) | (rw [y4]; exact fun h => by cases h) | (rw [y5]; exact fun h => by cases h) | (rw [y6]; exact fun h => by cases h))
              replace hnx := hide hnx
              clear y0 y1 y2 y3 y4 y5 y6
              go_wp2_with fail
              first | exact ⟨.bool true, unhide hnx⟩ | exact ⟨.bool true, rfl, unhide hnx, trivial, rfl⟩ | exact unhide hnx | exact ⟨.bool true, unhide hnx, trivial⟩
          · intro vs LL wq hLL hC hf
            obtain ⟨wz, hC2, hwq⟩ := hC.fin (hLL 8 (by omega))
            rw [putSome_all]
            simp only [putL, List.range, List.range.loop, List.foldl_nil, List.foldl_cons, List.getElem?_cons_zero, List.getElem?_cons_succ, List.drop_succ_cons, List.drop_zero]
            clear hf hLL hC
            subst hwq
            have hr5 := (hC2.block b5 (Array.getElem?_eq_some_iff.1 (unhide h5)).1).trans (unhide h5)
            have hr4 := (hC2.block b4 (Array.getElem?_eq_some_iff.1 (unhide h4)).1).trans (unhide h4)
            have hbz := (unhide hbw).trans (hC2.mono (unhide hbw).size)
            have s5 := heap_set (off := 1) (heap_set (off := 0) hr5 (.int .i64 N2)) (.int .i64 D2)
            have gs1 := grown_set (w := wz) b5 0 (.int .i64 N2)
            have gs2 := grown_set (w := wz.setCell ⟨b5, 0, none⟩ (.int .i64 N2)) b5 1 (.int .i64 D2)
            have s4 := (gs2.block b4 (Nat.lt_of_lt_of_le (Array.getElem?_eq_some_iff.1 hr4).1 gs1.size) (fun e => by injection e; omega)).trans ((gs1.block b4 (Array.getElem?_eq_some_iff.1 hr4).1 (fun e => by injection e; omega)).trans hr4)
            have hbz2 := hbz.trans ((⟨gs1.os, gs1.tape, gs1.output, gs1.size, fun b hb => gs1.block b (Nat.lt_of_lt_of_le hb hbz.size) (fun e => by injection e; omega)⟩ : Below w.heap.size wz _).trans ⟨gs2.os, gs2.tape, gs2.output, gs2.size, fun b hb => gs2.block b (Nat.lt_of_lt_of_le hb (Nat.le_trans hbz.size gs1.size)) (fun e => by injection e; omega)⟩)
            clear hr5 hr4 hbz gs1 gs2 hC2 h5 h4 hbw hcv hcm e0 e1 d0 d1 d2
            obtain ⟨wq, hwq⟩ : ∃ wq, (wz.setCell ⟨b5, 0, none⟩ (.int .i64 N2)).setCell ⟨b5, 1, none⟩ (.int .i64 D2) = wq := ⟨_, rfl⟩
            rw [hwq] at s5 s4 hbz2 ⊢
            clear hwq
            replace s5 := hide s5; replace s4 := hide s4; replace hbz2 := hide hbz2
            go_simp
            go_wp2_with fail
            go_roundw
            case rel => exact ⟨k + 1, by omega, by go_num, by rw [unhide hN2, unhide hD2]; exact unhide s5, unhide s4, unhide hbz2⟩
            case measure => simp [intOf]; omega
        · have hvz : vv = 0 := by rw [← hvv]; unfold posAt; rw [List.getElem?_eq_none (by have := unhide hul; omega)]
          subst hvz
          have t3 : ¬ (k : Int) < (un : Int) := by omega
          clear huk
          replace hvv := hide hvv; replace d0 := hide d0; replace d1 := hide d1; replace d2 := hide d2
          go_wp2_with fail
          rw [unhide hV2]
          try rw [unhide hbx]
          replace d0 := unhide d0; replace d1 := unhide d1; replace d2 := unhide d2
          clear c0 c1 c2
          refine wp_region_frontG 9 (fun LL vs w' => CS V2 8 [0, 1, 2, 3, 4, 5, 6] (fun wz => (wz.setCell ⟨b5, 0, none⟩ (.int .i64 N2)).setCell ⟨b5, 1, none⟩ (.int .i64 D2)) LL vs w') (fun _ _ => True)
            (fun ix v w' => match ix with
              | 0 => v = .agg #[.int .i64 N1, .int .i64 D1]
              | 1 => v = .agg #[.int .i64 lo, .int .i64 p, .int .i64 hi]
              | 2 => v = .int .i64 0
              | 3 => v = .agg #[.int .i64 nn, .int .i64 d]
              | 4 => v = .tuple #[.agg #[.int .i64 N2, .int .i64 D2], .bool true]
              | 5 => v = .tuple #[.agg #[.int .i64 N2, .int .i64 D2], .bool true]
              | 6 => v = .agg #[.int .i64 N2, .int .i64 D2]
              | 7 => v = .bool true
              | 8 => v = .bool true
              | _ => True) (by rfl) (by kernel_rfl) ?_ ?_ ?_ ?_
          · exact CS.start _ _ _ _
          · intro wa wb hRN ix v hv
            match ix, hv with
            | 0, h => exact h
            | 1, h => exact h
            | 2, h => exact h
            | 3, h => exact h
            | 4, h => exact h
            | 5, h => exact h
            | 6, h => exact h
            | 7, h => exact h
            | 8, h => exact h
            | _ + 9, _ => trivial
          · intro ix hix
            obtain rfl | rfl | rfl | rfl | rfl | rfl | rfl | rfl | rfl : ix = 0 ∨ ix = 1 ∨ ix = 2 ∨ ix = 3 ∨ ix = 4 ∨ ix = 5 ∨ ix = 6 ∨ ix = 7 ∨ ix = 8 := by omega
            · refine FrontStep.of [] _ rfl (by kernel_rfl) ?_
              intro vs LL wq hLL hC hf
              simp only [putL, List.foldl_nil]
              have hE := (hC.early (j := 0) hLL (by decide)).2
              have f0 := cell_under e0 hE
              have f1 := cell_under e1 hE
              clear hE
              go_wp2_with fail
              first | exact hC.keep 0 _ (by decide) | exact ⟨hC.keep 0 _ (by decide), trivial⟩ | exact ⟨hC.keep 0 _ (by decide), trivial, by omega⟩
            · refine FrontStep.of [] _ rfl (by kernel_rfl) ?_
              intro vs LL wq hLL hC hf
              simp only [putL, List.foldl_nil]
              have hE := (hC.early (j := 1) hLL (by decide)).2
              have f0 := cell_under d0 hE
              have f1 := cell_under d1 hE
              have f2 := cell_under d2 hE
              clear hE
              go_wp2_with fail
              first | exact hC.keep 1 _ (by decide) | exact ⟨hC.keep 1 _ (by decide), trivial⟩ | exact ⟨hC.keep 1 _ (by decide), trivial, by omega⟩
            · refine FrontStep.of [] _ rfl (by kernel_rfl) ?_
              intro vs LL wq hLL hC hf
              simp only [putL, List.foldl_nil]
              go_wp2_with fail
              first | exact hC.keep 2 _ (by decide) | exact ⟨hC.keep 2 _ (by decide), trivial⟩ | exact ⟨hC.keep 2 _ (by decide), trivial, by omega⟩
            · refine FrontStep.of [1, 2] _ rfl (by kernel_rfl) ?_
              intro vs LL wq hLL hC hf
              simp only [putL, List.foldl_nil, List.foldl_cons, List.getElem?_cons_zero, List.getElem?_cons_succ]
              have y1 : vs 1 = _ := hf 1 (by simp)
              try rw [y1]
              have y2 : vs 2 = _ := hf 2 (by simp)
              try rw [y2]
              have hcq := unhide hcv wq
              replace hcq := hide hcq
              go_wp2_with fail
              refine (unhide hcq).mono ?_
              rintro e wz ⟨rfl, hbz⟩
              clear hcq
              go_wp2_with fail
              first | exact ⟨hC.call 3 _ hLL (by decide) (by decide) hbz, trivial⟩ | exact hC.call 3 _ hLL (by decide) (by decide) hbz
            · refine FrontStep.of [0, 3] _ rfl (by kernel_rfl) ?_
              intro vs LL wq hLL hC hf
              simp only [putL, List.foldl_nil, List.foldl_cons, List.getElem?_cons_zero, List.getElem?_cons_succ]
              have y0 : vs 0 = _ := hf 0 (by simp)
              try rw [y0]
              have y3 : vs 3 = _ := hf 3 (by simp)
              try rw [y3]
              have hcq := unhide hcm wq
              replace hcq := hide hcq
              go_wp2_with fail
              refine (unhide hcq).mono ?_
              rintro e wz ⟨rfl, hbz⟩
              clear hcq
              go_wp2_with fail
              first | exact ⟨hC.call 4 _ hLL (by decide) (by decide) hbz, trivial⟩ | exact hC.call 4 _ hLL (by decide) (by decide) hbz
            · refine FrontStep.of [4] _ rfl (by kernel_rfl) ?_
              intro vs LL wq hLL hC hf
              simp only [putL, List.foldl_nil, List.foldl_cons, List.getElem?_cons_zero, List.getElem?_cons_succ]
              have y4 : vs 4 = _ := hf 4 (by simp)
              try rw [y4]
              go_wp2_with fail
              first | exact hC.keep 5 _ (by decide) | exact ⟨hC.keep 5 _ (by decide), trivial⟩ | exact ⟨hC.keep 5 _ (by decide), trivial, by omega⟩
            · refine FrontStep.of [5] _ rfl (by kernel_rfl) ?_
              intro vs LL wq hLL hC hf
              simp only [putL, List.foldl_nil, List.foldl_cons, List.getElem?_cons_zero, List.getElem?_cons_succ]
              have y5 : vs 5 = _ := hf 5 (by simp)
              try rw [y5]
              go_wp2_with fail
              first | exact hC.keep 6 _ (by decide) | exact ⟨hC.keep 6 _ (by decide), trivial⟩ | exact ⟨hC.keep 6 _ (by decide), trivial, by omega⟩
            · refine FrontStep.of [5] _ rfl (by kernel_rfl) ?_
              intro vs LL wq hLL hC hf
              simp only [putL, List.foldl_nil, List.foldl_cons, List.getElem?_cons_zero, List.getElem?_cons_succ]
              have y5 : vs 5 = _ := hf 5 (by simp)
              try rw [y5]
              go_wp2_with fail
              first | exact hC.keep 7 _ (by decide) | exact ⟨hC.keep 7 _ (by decide), trivial⟩ | exact ⟨hC.keep 7 _ (by decide), trivial, by omega⟩
            · refine FrontStep.of [0, 1, 2, 3, 4, 5, 6] _ rfl (by kernel_rfl) ?_
              intro vs LL wq hLL hC hf
              simp only [putL, List.foldl_nil, List.foldl_cons, List.getElem?_cons_zero, List.getElem?_cons_succ]
              have y0 : vs 0 = _ := hf 0 (by simp)
              try rw [y0]
              have y1 : vs 1 = _ := hf 1 (by simp)
              try rw [y1]
              have y2 : vs 2 = _ := hf 2 (by simp)
              try rw [y2]
              have y3 : vs 3 = _ := hf 3 (by simp)
              try rw [y3]
              have y4 : vs 4 = _ := hf 4 (by simp)
              try rw [y4]
              have y5 : vs 5 = _ := hf 5 (by simp)
              try rw [y5]
              have y6 : vs 6 = _ := hf 6 (by simp)
              try rw [y6]
              have hcalm := hC.calm hLL
              have hr5 := (hcalm.block b5 (Array.getElem?_eq_some_iff.1 (unhide h5)).1).trans (unhide h5)
              have f0 : wq.cell? ⟨b5, 0, none⟩ = some (.int .i64 N1) := (cell_of_row _ _ 0 _ _ _ hr5).trans rfl
              have f1 : wq.cell? ⟨b5, 1, none⟩ = some (.int .i64 D1) := (cell_of_row _ _ 1 _ _ _ hr5).trans rfl
              have g0 : wq.frozen? ⟨b5, 0, none⟩ = false := by simp [World.frozen?, hr5]
              have g1 : wq.frozen? ⟨b5, 1, none⟩ = false := by simp [World.frozen?, hr5]
              have f1' : (wq.setCell ⟨b5, 0, none⟩ (.int .i64 N2)).cell? ⟨b5, 1, none⟩ = some (.int .i64 D1) := (cell_of_row _ _ 1 _ _ _ (heap_set (off := 0) hr5 (.int .i64 N2))).trans rfl
              have g1' : (wq.setCell ⟨b5, 0, none⟩ (.int .i64 N2)).frozen? ⟨b5, 1, none⟩ = false := by simp [World.frozen?, heap_set (off := 0) hr5 (.int .i64 N2)]
              clear hr5 hcalm
              have hnx := hC.store (.bool true) hLL (fun j hj => by simp at hj; rcases hj with rfl | rfl | rfl | rfl | rfl | rfl | rfl <;> first | (rw [y0]; exact fun h => by cases h) | (rw [y1]; exact fun h => by cases h) | (rw [y2]; exact fun h => by cases h) | (rw [y3]; exact fun h => by cases h) | (rw [y4]; exact fun h => by cases h) | (rw [y5]; exact fun h => by cases h) | (rw [y6]; exact fun h => by cases h))
              replace hnx := hide hnx
              clear y0 y1 y2 y3 y4 y5 y6
              go_wp2_with fail
              first | exact ⟨.bool true, unhide hnx⟩ | exact ⟨.bool true, rfl, unhide hnx, trivial, rfl⟩ | exact unhide hnx | exact ⟨.bool true, unhide hnx, trivial⟩
          · intro vs LL wq hLL hC hf
            obtain ⟨wz, hC2, hwq⟩ := hC.fin (hLL 8 (by omega))
            rw [putSome_all]
            simp only [putL, List.range, List.range.loop, List.foldl_nil, List.foldl_cons, List.getElem?_cons_zero, List.getElem?_cons_succ, List.drop_succ_cons, List.drop_zero]
            clear hf hLL hC
            subst hwq
            have hr5 := (hC2.block b5 (Array.getElem?_eq_some_iff.1 (unhide h5)).1).trans (unhide h5)
            have hr4 := (hC2.block b4 (Array.getElem?_eq_some_iff.1 (unhide h4)).1).trans (unhide h4)
            have hbz := (unhide hbw).trans (hC2.mono (unhide hbw).size)
            have s5 := heap_set (off := 1) (heap_set (off := 0) hr5 (.int .i64 N2)) (.int .i64 D2)
            have gs1 := grown_set (w := wz) b5 0 (.int .i64 N2)
            have gs2 := grown_set (w := wz.setCell ⟨b5, 0, none⟩ (.int .i64 N2)) b5 1 (.int .i64 D2)
            have s4 := (gs2.block b4 (Nat.lt_of_lt_of_le (Array.getElem?_eq_some_iff.1 hr4).1 gs1.size) (fun e => by injection e; omega)).trans ((gs1.block b4 (Array.getElem?_eq_some_iff.1 hr4).1 (fun e => by injection e; omega)).trans hr4)
            have hbz2 := hbz.trans ((⟨gs1.os, gs1.tape, gs1.output, gs1.size, fun b hb => gs1.block b (Nat.lt_of_lt_of_le hb hbz.size) (fun e => by injection e; omega)⟩ : Below w.heap.size wz _).trans ⟨gs2.os, gs2.tape, gs2.output, gs2.size, fun b hb => gs2.block b (Nat.lt_of_lt_of_le hb (Nat.le_trans hbz.size gs1.size)) (fun e => by injection e; omega)⟩)
            clear hr5 hr4 hbz gs1 gs2 hC2 h5 h4 hbw hcv hcm e0 e1 d0 d1 d2
            obtain ⟨wq, hwq⟩ : ∃ wq, (wz.setCell ⟨b5, 0, none⟩ (.int .i64 N2)).setCell ⟨b5, 1, none⟩ (.int .i64 D2) = wq := ⟨_, rfl⟩
            rw [hwq] at s5 s4 hbz2 ⊢
            clear hwq
            replace s5 := hide s5; replace s4 := hide s4; replace hbz2 := hide hbz2
            go_simp
            go_wp2_with fail
            go_roundw
            case rel => exact ⟨k + 1, by omega, by go_num, by rw [unhide hN2, unhide hD2]; exact unhide s5, unhide s4, unhide hbz2⟩
            case measure => simp [intOf]; omega
      · have hke : k = n := by omega
        subst hke
        have g0 : wo.cell? ⟨b4, 0, none⟩ = some (.int .i64 0) := (cell_of_row _ _ 0 _ _ _ h4).trans rfl
        have g1 : wo.cell? ⟨b4, 1, none⟩ = some (.int .i64 0) := (cell_of_row _ _ 1 _ _ _ h4).trans rfl
        obtain ⟨N1, hN1⟩ : ∃ x, (scalP l u k).num = x := ⟨_, rfl⟩
        obtain ⟨D1, hD1⟩ : ∃ x, ((scalP l u k).den : Int) = x := ⟨_, rfl⟩
        rw [hN1] at e0
        rw [hD1] at e1
        have z0 : wo.frozen? ⟨b4, 0, none⟩ = false := by simp [World.frozen?, h4]
        have s1 := heap_set (off := 0) h4 (.int .i64 N1)
        have s2 := heap_set (off := 1) s1 (.int .i64 D1)
        have g1' : (wo.setCell ⟨b4, 0, none⟩ (.int .i64 N1)).cell? ⟨b4, 1, none⟩ = some (.int .i64 0) := (cell_of_row _ _ 1 _ _ _ s1).trans rfl
        have z1' : (wo.setCell ⟨b4, 0, none⟩ (.int .i64 N1)).frozen? ⟨b4, 1, none⟩ = false := by simp [World.frozen?, s1]
        have y0 : ((wo.setCell ⟨b4, 0, none⟩ (.int .i64 N1)).setCell ⟨b4, 1, none⟩ (.int .i64 D1)).cell? ⟨b4, 0, none⟩ = some (.int .i64 N1) := (cell_of_row _ _ 0 _ _ _ s2).trans rfl
        have y1 : ((wo.setCell ⟨b4, 0, none⟩ (.int .i64 N1)).setCell ⟨b4, 1, none⟩ (.int .i64 D1)).cell? ⟨b4, 1, none⟩ = some (.int .i64 D1) := (cell_of_row _ _ 1 _ _ _ s2).trans rfl
        have gs1 := grown_set (w := wo) b4 0 (.int .i64 N1)
        have gs2 := grown_set (w := wo.setCell ⟨b4, 0, none⟩ (.int .i64 N1)) b4 1 (.int .i64 D1)
        have hbz2 := hbw.trans ((⟨gs1.os, gs1.tape, gs1.output, gs1.size, fun b hb => gs1.block b (Nat.lt_of_lt_of_le hb hbw.size) (fun e => by injection e; omega)⟩ : Below w.heap.size wo _).trans ⟨gs2.os, gs2.tape, gs2.output, gs2.size, fun b hb => gs2.block b (Nat.lt_of_lt_of_le hb (Nat.le_trans hbw.size gs1.size)) (fun e => by injection e; omega)⟩)
        clear s1 s2 gs1 gs2 h4 h5 hbw
        replace hbz2 := hide hbz2; replace hN1 := hide hN1; replace hD1 := hide hD1; replace y0 := hide y0; replace y1 := hide y1
        go_wp2_with fail
        replace y0 := unhide y0; replace y1 := unhide y1
        refine bodyPost_ret (v := .agg #[.int .i64 N1, .int .i64 D1]) (by simp [results, Try.results21, go_sem, y0, y1]) rfl ⟨by rw [unhide hN1, unhide hD1], unhide hbz2⟩
end Go.Proofs.Ythkppilelpaieaa
