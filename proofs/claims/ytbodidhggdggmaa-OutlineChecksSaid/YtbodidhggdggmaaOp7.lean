/- The reference's Odd. -/
import Derived.Test.YtbodidhggdggmaaOlY
import Derived.Test.YtbodidhggdggmaaOp1
import Derived.Test.YtbodidhggdggmaaFrontG
namespace Go.Proofs.Ytbodidhggdggmaa
open Go.RowKit
theorem own_take {w : World} {base e s g n m c : Nat} {xs : List Value} (h : w.ownsRow base e s (.slice (some ⟨g, 0, none⟩) n c) n xs) (hm : m ≤ n) : w.ownsRow base e s (.slice (some ⟨g, 0, none⟩) m c) m (xs.take (m * s)) := by
  have hms : m * s ≤ n * s := Nat.mul_le_mul_right s hm
  rcases h.2 with ⟨h', _⟩ | ⟨g', cap, cur, h', hb, hg, hn, hc, hs, ht⟩
  · cases h'
  · obtain ⟨e1, _, e3⟩ := Value.slice.inj h'
    injection e1 with e1
    injection e1 with e1
    subst e1
    subst e3
    refine ⟨by rw [List.length_take, h.1]; omega, .inr ⟨g, c, cur, rfl, hb, hg, by omega, hc, hs, ?_⟩⟩
    rw [← ht, List.take_take, Nat.min_eq_left hms]
theorem pcells_take (c : List Pt) (m : Nat) (hm : m ≤ c.length) : (pcells c).take (m * 3) = pcells (c.take m) := by
  have e : pcells c = pcells (c.take m) ++ pcells (c.drop m) := by rw [← pcells_append, List.take_append_drop]
  rw [e, List.take_append_of_le_length (by rw [pcells_len, List.length_take]; omega)]
  exact List.take_of_length_le (by rw [pcells_len, List.length_take]; omega)
theorem Rw.take {w : World} {base g cap : Nat} {c : List Pt} (h : Rw w base (.slice (some ⟨g, 0, none⟩) c.length cap) c) {m : Nat} (hm : m ≤ c.length) : Rw w base (.slice (some ⟨g, 0, none⟩) m cap) (c.take m) := by
  have h1 := own_take h.1 hm
  rw [pcells_take c m hm] at h1
  exact ⟨by rw [List.length_take, Nat.min_eq_left hm]; exact h1, fun p hp => h.2 p (List.mem_of_mem_take hp)⟩
/-- contour k's slice is replaced: by one in the same block, or in a new one -/
theorem OO.rep {w : World} {base : Nat} {v : Value} {o : Ot} (h : OO w base v o) {k : Nat} {c : List Pt} (hc : o[k]? = some c) :
    ∃ g cap u, v = .slice (some ⟨g, 0, none⟩) o.length cap ∧ base ≤ g ∧ g < w.heap.size ∧ w.cell? ⟨g, k, none⟩ = some u ∧ w.frozen? ⟨g, k, none⟩ = false ∧ Rw w base u c ∧ (u.ownBlock = none ∨ u.ownBlock ≠ some g) ∧
      ∀ w1 u' c', w.grownBy w1 u.ownBlock → Rw w1 base u' c' → (u'.ownBlock = u.ownBlock ∨ ∃ b, u'.ownBlock = some b ∧ w.heap.size ≤ b) → w1.frozen? ⟨g, k, none⟩ = false ∧ w1.cell? ⟨g, k, none⟩ = some u ∧ OO (w1.setCell ⟨g, k, none⟩ u') base v (o.set k c') := by
  obtain ⟨vs, h1, h2, h3, h4⟩ := h
  have hk := (List.getElem?_eq_some_iff.1 hc).1
  rcases h1.2 with ⟨hv, hn⟩ | ⟨g, cap, cur, hv, hb, hg, _⟩
  · omega
  subst hv
  have hu : vs[k]? = some (vs[k]'(by omega)) := List.getElem?_eq_getElem _
  have hr := h3 k c _ hc hu
  have hrc := (h1.cellAt k (by omega)).trans hu
  generalize vs[k]'(by omega) = u at hu hr hrc
  have hap : u.ownBlock = none ∨ u.ownBlock ≠ some g := hr.apart h1
  have hgu : some g ≠ u.ownBlock := fun e => by
    rcases hap with h0 | h0
    · rw [h0] at e; cases e
    · exact h0 e.symm
  refine ⟨g, cap, u, rfl, hb, (Array.getElem?_eq_some_iff.1 hg).1, hrc, h1.frozenAt k, hr, hap, fun w1 u' c' hg1 hu' hob => ?_⟩
  have hw1 : w1.ownsRow base 54 1 (.slice (some ⟨g, 0, none⟩) o.length cap) o.length vs := h1.kept hg1 (.inr (by simpa [Value.ownBlock] using hgu))
  obtain ⟨r1, r2⟩ := hw1.stored k u'
  refine ⟨hw1.frozenAt k, (hw1.cellAt k (by omega)).trans hu, vs.set k u', by rw [List.length_set]; exact r1, by rw [List.length_set, List.length_set]; exact h2, fun m d y hd hy => ?_, fun i j y y' hij hy hy' => ?_⟩
  · rcases getElem?_set_at hd with ⟨rfl, rfl⟩ | ⟨hne, hd⟩
    · rcases getElem?_set_at hy with ⟨_, rfl⟩ | ⟨hne, _⟩
      · exact hu'.grown r2 (hu'.apart hw1)
      · exact absurd rfl hne
    · rcases getElem?_set_at hy with ⟨e, _⟩ | ⟨_, hy⟩
      · exact absurd e hne
      · have hr := (h3 m d y hd hy).grown hg1 (h4 m k y u hne hy hu)
        exact hr.grown r2 (hr.apart hw1)
  · have key : ∀ (y : Value) (m : Nat), m ≠ k → vs[m]? = some y → (y.ownBlock = none ∨ y.ownBlock ≠ u'.ownBlock) ∧ (u'.ownBlock = none ∨ u'.ownBlock ≠ y.ownBlock) := fun y m hm hy => by
      have h44 := h4 m k y u hm hy hu
      have hmo := (List.getElem?_eq_some_iff.1 hy).1
      have hry := h3 m _ y (List.getElem?_eq_getElem (by omega)) hy
      rcases hob with h0 | ⟨b, h0, hlt⟩
      · rw [h0]
        refine ⟨h44, ?_⟩
        rcases h44 with h5 | h5
        · rw [h5]; cases u.ownBlock <;> simp
        · exact .inr h5.symm
      · rw [h0]
        have : y.ownBlock ≠ some b := fun e => by have := (hry.1.lt b e).2; omega
        exact ⟨.inr this, .inr this.symm⟩
    rcases getElem?_set_at hy with ⟨e1, e2⟩ | ⟨n1, ky⟩
    · rcases getElem?_set_at hy' with ⟨f1, f2⟩ | ⟨m1, ky'⟩
      · exact absurd (e1.trans f1.symm) hij
      · rw [e2]; exact (key y' j m1 ky').2
    · rcases getElem?_set_at hy' with ⟨f1, f2⟩ | ⟨m1, ky'⟩
      · rw [f2]; exact (key y i n1 ky).1
      · exact h4 i j y y' hij ky ky'
def OddPost (w : World) (e : Ending) (w' : World) : Prop := ∃ v o, e = .returned v ∧ OO w' w.heap.size v o ∧ Sml o ∧ Below w.heap.size w w'
theorem sml_set {o : Ot} (h : Sml o) (k : Nat) {c : List Pt} (hc : c.length ≤ 1000) : Sml (o.set k c) := ⟨by rw [List.length_set]; exact h.1, fun d hd => by
  rcases List.mem_or_eq_of_mem_set hd with hd | rfl
  · exact h.2 d hd
  · exact hc⟩
def oddL : List Int := [-513, -512, 512, 513]
theorem odd_i64 {r : Nat} {x : Int} (h : oddL[r]? = some x) : I64 x := by
  have := (List.getElem?_eq_some_iff.1 h).1
  simp [oddL] at this
  have hr : r = 0 ∨ r = 1 ∨ r = 2 ∨ r = 3 := by omega
  rcases hr with rfl | rfl | rfl | rfl <;> simp [oddL] at h <;> subst h <;> exact ⟨by decide, by decide⟩
def lenV : Value → Nat
  | .slice _ n _ => n
  | _ => 0
theorem setSame {α : Type} {l : List α} {k : Nat} {x : α} (h : l[k]? = some x) : l.set k x = l := by
  refine List.ext_getElem? fun j => ?_
  by_cases hj : j = k
  · subst hj; rw [List.getElem?_set_self (List.getElem?_eq_some_iff.1 h).1, h]
  · rw [List.getElem?_set_ne (Ne.symm hj)]
/-- region 22: the append may come before two moves -/
def C22 (V : World) (B ob k g2 : Nat) (u : Value) (x3 : List Pt) (L : Nat → Bool) (vs : Nat → Value) (w' : World) : Prop :=
  w'.cell? ⟨ob, k, none⟩ = some u ∧ V.heap.size ≤ w'.heap.size ∧ (L 20 = false → Below V.heap.size V w') ∧ (L 20 = true → Rw w' B (vs 20) x3 ∧ V.grownBy w' (some g2) ∧ ((vs 20).ownBlock = some g2 ∨ ∃ b, (vs 20).ownBlock = some b ∧ V.heap.size ≤ b))
theorem C22.start {V : World} {B ob k g2 : Nat} {u : Value} {x3 : List Pt} (h : V.cell? ⟨ob, k, none⟩ = some u) : C22 V B ob k g2 u x3 (fun _ => false) (fun _ => undef) { V with drawn := V.drawn + 1 } :=
  ⟨h, Nat.le_refl _, fun _ => (Below.refl _ _).drew, fun h => by cases h⟩
theorem C22.keep {V w1 w2 : World} {B ob k g2 : Nat} {u : Value} {x3 : List Pt} {L : Nat → Bool} {vs : Nat → Value} (h : C22 V B ob k g2 u x3 L vs w1) (i : Nat) (v : Value) (hi : i ≠ 20) (hb : Below w1.heap.size w1 w2) : C22 V B ob k g2 u x3 (fun j => L j || j == i) (fun j => if j = i then v else vs j) w2 := by
  obtain ⟨h1, h2, h3, h4⟩ := h
  have e1 : (L 20 || (20 == i)) = L 20 := by
    have : ((20 : Nat) == i) = false := beq_eq_false_iff_ne.2 (fun e => hi e.symm)
    rw [this, Bool.or_false]
  have e2 : (if 20 = i then v else vs 20) = vs 20 := if_neg (fun e => hi e.symm)
  refine ⟨cell_under h1 hb, Nat.le_trans h2 hb.size, fun hL => ?_, fun hL => ?_⟩
  · have hL' : L 20 = false := by rw [← e1]; exact hL
    exact (h3 hL').trans (hb.mono h2)
  · have hL' : L 20 = true := by rw [← e1]; exact hL
    show Rw w2 B (if 20 = i then v else vs 20) x3 ∧ V.grownBy w2 (some g2) ∧ ((if 20 = i then v else vs 20).ownBlock = some g2 ∨ ∃ b, (if 20 = i then v else vs 20).ownBlock = some b ∧ V.heap.size ≤ b)
    rw [e2]
    obtain ⟨q1, q2, q3⟩ := h4 hL'
    exact ⟨q1.below hb, grown_trans q2 (grown_of_below hb _), q3⟩
theorem C22.app {V w1 w2 : World} {B ob k g2 : Nat} {u : Value} {x3 : List Pt} {L : Nat → Bool} {vs : Nat → Value} (h : C22 V B ob k g2 u x3 L vs w1) (hL : L 20 = false) (v : Value) (hne : g2 ≠ ob) (hrw : Rw w2 B v x3) (hg : w1.grownBy w2 (some g2)) (hob : v.ownBlock = some g2 ∨ v.ownBlock = some w1.heap.size) : C22 V B ob k g2 u x3 (fun j => L j || j == 20) (fun j => if j = 20 then v else vs j) w2 := by
  obtain ⟨h1, h2, h3, h4⟩ := h
  refine ⟨hg.cell h1 (fun e => by injection e with e; exact hne e.symm), Nat.le_trans h2 hg.size, fun hL' => ?_, fun _ => ⟨hrw, grown_trans (grown_of_below (h3 hL) _) hg, ?_⟩⟩
  · simp at hL'
  · show v.ownBlock = some g2 ∨ ∃ b, v.ownBlock = some b ∧ V.heap.size ≤ b
    exact hob.imp id (fun e => ⟨_, e, h2⟩)
set_option maxHeartbeats 8000000 in
set_option maxRecDepth 100000 in
theorem odd6_any (a : Option Addr) (n c : Nat) (o : Ot) (q0 q1 q2 : Int) (w : World) (hl : Lst Enc.ct w (· < w.heap.size) a n o) (hg : GoodO6 o) :
    Calls Try.prog 12 #[.slice a n c, .agg #[.int .i64 q0, .int .i64 q1, .int .i64 q2]] w (OddPost w) := by
  have hn : o.length = n := hl.1
  have hn2 : n ≤ 2 := by have := hg.1; omega
  have hso := hide hg.sml.1
  obtain ⟨b3, V1, hb3, hV1, n3, k1, s1⟩ := al1 w (.cells #[.int .i64 q0, .int .i64 q1, .int .i64 q2] 24)
  have hc := rcopy_any a n c o V1 (hl.under k1) hg.sml.1
  clear s1
  replace hl := hide hl; replace hg := hide hg; replace hn := hide hn; replace n3 := hide n3; replace k1 := hide k1; replace hc := hide hc
  go_enter Try.func12, Try.ntmps12
  go_wp2_with fail
  refine (unhide hc).mono ?_
  rintro e w2 ⟨v, rfl, hoo, hb2⟩
  clear hc hV1 hb3
  have hbw := (unhide k1).trans (hb2.mono (unhide k1).size)
  have hwB : w.heap.size ≤ V1.heap.size := (unhide k1).size
  obtain ⟨ao, co, ev, _⟩ := hoo.lst
  rw [unhide hn] at ev
  subst ev
  have n3w := (hb2.block b3 (Array.getElem?_eq_some_iff.1 (unhide n3)).1).trans (unhide n3)
  clear hb2 k1 n3
  by_cases hn0 : n = 0
  · have t0 : ((n : Int) == 0) = true := by subst hn0; rfl
    have hz := hide (hoo.mono hwB)
    clear hoo n3w hn0
    replace hbw := hide hbw
    go_wp2_with fail
    go_ret
    exact ⟨_, _, rfl, unhide hz, unhide hso, unhide hbw⟩
  have t0 : ((n : Int) == 0) = false := by rw [beq_eq_false_iff_ne]; omega
  obtain ⟨k, hk⟩ : ∃ k : Nat, q1 % (n : Int) = (k : Int) := ⟨(q1 % (n : Int)).toNat, by have := Int.emod_nonneg q1 (show (n : Int) ≠ 0 by omega); omega⟩
  have hkn : k < n := by have := Int.emod_lt_of_pos q1 (show (0 : Int) < n by omega); omega
  have hc1 := mod_any q1 (n : Int) w2 (by omega) (by omega)
  rw [hk] at hc1
  obtain ⟨x, hx⟩ : ∃ x, o[k]? = some x := ⟨_, List.getElem?_eq_getElem (by rw [unhide hn]; exact hkn)⟩
  obtain ⟨hx3, hx6, _⟩ := (unhide hg).2 x (List.mem_of_getElem? hx)
  obtain ⟨ob, hob⟩ : ∃ ob, ao = some ⟨ob, 0, none⟩ := by
    obtain ⟨ob, _, _, hv, _⟩ := hoo.ct hx
    exact ⟨ob, (Value.slice.inj hv).1⟩
  subst hob
  obtain ⟨nx, hnx⟩ : ∃ nx, x.length = nx := ⟨_, rfl⟩
  obtain ⟨gk, capk, rc, hck, hgkV⟩ : ∃ gk capk, w2.cell? ⟨ob, k, none⟩ = some (.slice (some ⟨gk, 0, none⟩) nx capk) ∧ nx ≤ capk ∧ V1.heap.size ≤ gk := by
    obtain ⟨ob', _, u, hv, _, _, hcc, _, hrw⟩ := hoo.ct hx
    obtain ⟨e1, _⟩ := Value.slice.inj hv
    injection e1 with e1
    injection e1 with e1
    subst e1
    rcases hrw.form with ⟨_, rfl⟩ | ⟨g, cap, rfl, q1, q2, q3, q4⟩
    · simp at hx3
    · exact ⟨g, cap, by rw [hcc, hnx], by omega, q1⟩
  rw [hnx] at hx3 hx6
  have d0 : w2.cell? ⟨b3, 0, none⟩ = some (.int .i64 q0) := (cell_of_row _ _ 0 _ _ _ n3w).trans rfl
  have d1 : w2.cell? ⟨b3, 1, none⟩ = some (.int .i64 q1) := (cell_of_row _ _ 1 _ _ _ n3w).trans rfl
  have d2 : w2.cell? ⟨b3, 2, none⟩ = some (.int .i64 q2) := (cell_of_row _ _ 2 _ _ _ n3w).trans rfl
  have t1 : ((nx : Int) == 0) = false := by rw [beq_eq_false_iff_ne]; omega
  have t2 : (k : Int) < (n : Int) := by omega
  obtain ⟨i, hi2⟩ : ∃ i : Nat, q2 % (nx : Int) = (i : Int) := ⟨(q2 % (nx : Int)).toNat, by have := Int.emod_nonneg q2 (show (nx : Int) ≠ 0 by omega); omega⟩
  have hin : i < nx := by have := Int.emod_lt_of_pos q2 (show (0 : Int) < nx by omega); omega
  obtain ⟨s, hs6⟩ : ∃ s : Nat, q0 % 6 = (s : Int) := ⟨(q0 % 6).toNat, by have := Int.emod_nonneg q0 (show (6 : Int) ≠ 0 by omega); omega⟩
  have hss : s < 6 := by have := Int.emod_lt_of_pos q0 (show (0 : Int) < 6 by omega); omega
  obtain ⟨r, hr4⟩ : ∃ r : Nat, q2 % 4 = (r : Int) := ⟨(q2 % 4).toNat, by have := Int.emod_nonneg q2 (show (4 : Int) ≠ 0 by omega); omega⟩
  have hr : r < 4 := by have := Int.emod_lt_of_pos q2 (show (0 : Int) < 4 by omega); omega
  have t3 : (i : Int) < (nx : Int) := by omega
  have t5 : (r : Int) < 4 := by omega
  clear hk
  replace hi2 := hide hi2; replace hs6 := hide hs6; replace hr4 := hide hr4; replace hc1 := hide hc1; replace hoo := hide hoo; replace hbw := hide hbw; replace hx := hide hx; replace hnx := hide hnx; replace n3w := hide n3w
  go_wp2_with fail
  refine (unhide hc1).mono ?_
  rintro e wz ⟨rfl, rfl⟩
  obtain ⟨V, rfl⟩ : ∃ V : World, V = wz := ⟨_, rfl⟩
  clear hc1
  go_wp2_with fail
  refine wp_region_frontG 8 (fun _ _ w' => Below V.heap.size V w') (fun wa wb => Below wa.heap.size wa wb)
    (fun ix v w' => match ix with
      | 0 => v = .pointer (some ⟨b3, 2, none⟩)
      | 1 => v = .int .i64 q2
      | 2 => v = .slice (some ⟨ob, 0, none⟩) n co
      | 3 => v = .int .i64 (k : Int)
      | 4 => v = .pointer (some ⟨ob, k, none⟩)
      | 5 => v = .slice (some ⟨gk, 0, none⟩) nx capk
      | 6 => v = .int .i64 (nx : Int)
      | 7 => v = .int .i64 (i : Int)
      | _ => True) (by rfl) (by kernel_rfl) ?_ ?_ ?_ ?_
  · exact (Below.refl _ _).drew
  · intro wa wb hR ix v hv
    match ix, hv with
    | 0, h => exact h
    | 1, h => exact h
    | 2, h => exact h
    | 3, h => exact h
    | 4, h => exact h
    | 5, h => exact h
    | 6, h => exact h
    | 7, h => exact h
    | _ + 8, _ => trivial
  · intro ix hix
    obtain rfl | rfl | rfl | rfl | rfl | rfl | rfl | rfl : ix = 0 ∨ ix = 1 ∨ ix = 2 ∨ ix = 3 ∨ ix = 4 ∨ ix = 5 ∨ ix = 6 ∨ ix = 7 := by omega
    · refine FrontStep.of [] _ rfl (by kernel_rfl) ?_
      intro vs LL wq hLL hC hf
      simp only [putL, List.foldl_nil]
      go_wp2_with fail
      first | exact Below.refl _ _ | exact ⟨Below.refl _ _, by omega⟩
    · refine FrontStep.of [0] _ rfl (by kernel_rfl) ?_
      intro vs LL wq hLL hC hf
      simp only [putL, List.foldl_nil, List.foldl_cons, List.getElem?_cons_zero]
      have e0 : vs 0 = _ := hf 0 (by simp)
      rw [e0]
      have hcq := cell_under d2 hC
      go_wp2_with fail
      first | exact Below.refl _ _ | exact ⟨Below.refl _ _, by omega⟩
    · refine FrontStep.of [] _ rfl (by kernel_rfl) ?_
      intro vs LL wq hLL hC hf
      simp only [putL, List.foldl_nil]
      go_wp2_with fail
      first | exact Below.refl _ _ | exact ⟨Below.refl _ _, by omega⟩
    · refine FrontStep.of [] _ rfl (by kernel_rfl) ?_
      intro vs LL wq hLL hC hf
      simp only [putL, List.foldl_nil]
      go_wp2_with fail
      first | exact Below.refl _ _ | exact ⟨Below.refl _ _, by omega⟩
    · refine FrontStep.of [2, 3] _ rfl (by kernel_rfl) ?_
      intro vs LL wq hLL hC hf
      simp only [putL, List.foldl_nil, List.foldl_cons, List.getElem?_cons_zero, List.getElem?_cons_succ]
      have e2 : vs 2 = _ := hf 2 (by simp)
      rw [e2]
      have e3 : vs 3 = _ := hf 3 (by simp)
      rw [e3]
      go_wp2_with fail
      first | exact Below.refl _ _ | exact ⟨Below.refl _ _, by omega⟩
    · refine FrontStep.of [4] _ rfl (by kernel_rfl) ?_
      intro vs LL wq hLL hC hf
      simp only [putL, List.foldl_nil, List.foldl_cons, List.getElem?_cons_zero, List.getElem?_cons_succ]
      have e4 : vs 4 = _ := hf 4 (by simp)
      rw [e4]
      have hcq := cell_under rc hC
      go_wp2_with fail
      first | exact Below.refl _ _ | exact ⟨Below.refl _ _, by omega⟩
    · refine FrontStep.of [5] _ rfl (by kernel_rfl) ?_
      intro vs LL wq hLL hC hf
      simp only [putL, List.foldl_nil, List.foldl_cons, List.getElem?_cons_zero, List.getElem?_cons_succ]
      have e5 : vs 5 = _ := hf 5 (by simp)
      rw [e5]
      go_wp2_with fail
      first | exact Below.refl _ _ | exact ⟨Below.refl _ _, by omega⟩
    · refine FrontStep.of [1, 6] _ rfl (by kernel_rfl) ?_
      intro vs LL wq hLL hC hf
      simp only [putL, List.foldl_nil, List.foldl_cons, List.getElem?_cons_zero, List.getElem?_cons_succ]
      have e1 : vs 1 = _ := hf 1 (by simp)
      rw [e1]
      have e6 : vs 6 = _ := hf 6 (by simp)
      rw [e6]
      have hcq := mod_any q2 (nx : Int) wq (by omega) (by omega)
      rw [unhide hi2] at hcq
      replace hcq := hide hcq
      go_wp2_with fail
      refine (unhide hcq).mono ?_
      rintro e wz ⟨rfl, ew⟩
      rw [ew]
      clear hcq ew
      go_wp2_with fail
      first | exact ⟨hC, Below.refl _ _⟩ | exact hC | exact Below.refl _ _
  · intro vs LL wq hLL hC hf
    have e7 : vs 7 = _ := hf 7 (by omega)
    rw [putSome_all]
    simp only [putL, List.range, List.range.loop, List.foldl_nil, List.foldl_cons, List.getElem?_cons_zero, List.getElem?_cons_succ, List.drop_succ_cons, List.drop_zero]
    rw [e7]
    clear e7 hf hLL
    have koo := (unhide hoo).below hC
    have kd0 := cell_under d0 hC
    have kd2 := cell_under d2 hC
    have kbw := (unhide hbw).trans (hC.mono (unhide hbw).size)
    have krc := cell_under rc hC
    have kst : Below wq.heap.size wq wq := Below.refl _ _
    clear hoo d0 d1 d2 hbw rc hC
    replace koo := hide koo; replace kbw := hide kbw
    go_simp
    go_wp2_with fail
    obtain ⟨V, rfl⟩ : ∃ V : World, V = wq := ⟨_, rfl⟩
    have hoo := koo; have d0 := kd0; have d2 := kd2; have hbw := kbw; have rc := krc
    clear koo kd0 kd2 kbw krc kst n3w
    have hc6 := mod_any q0 6 V (by omega) (by omega)
    rw [unhide hs6] at hc6
    replace hc6 := hide hc6
    obtain ⟨⟨px, py, pz⟩, hp⟩ : ∃ p, x[i]? = some p := ⟨_, List.getElem?_eq_getElem (by rw [unhide hnx]; exact hin)⟩
    have hpi : I64 px ∧ I64 py := by
      obtain ⟨uv, uc, u2, hv2, _, _, hc2, _, hrw2⟩ := (unhide hoo).ct (unhide hx)
      exact hrw2.2 _ (List.mem_of_getElem? hp)
    replace hp := hide hp
    go_wp2_with fail
    refine (unhide hc6).mono ?_
    rintro e wz ⟨rfl, rfl⟩
    obtain ⟨V, rfl⟩ : ∃ V : World, V = wz := ⟨_, rfl⟩
    clear hc6
    have h6 : s = 0 ∨ s = 1 ∨ s = 2 ∨ s = 3 ∨ s = 4 ∨ s = 5 := by omega
    clear hss hs6
    rcases h6 with rfl | rfl | rfl | rfl | rfl | rfl
    · obtain ⟨⟨ax, ay, az⟩, hp0⟩ : ∃ p, x[0]? = some p := ⟨_, List.getElem?_eq_getElem (by rw [unhide hnx]; omega)⟩
      have hai : I64 ax ∧ I64 ay := by
        obtain ⟨uv, uc, u2, hv2, _, _, hc2, _, hrw2⟩ := (unhide hoo).ct (unhide hx)
        exact hrw2.2 _ (List.mem_of_getElem? hp0)
      obtain ⟨gj, capj, rc', hgkb, hgks, hobs, hgne, _, ⟨r0, r1, r2⟩, ⟨f0, f1, f2⟩, hset, _⟩ := (unhide hoo).ptS (unhide hx) hp0
      rw [unhide hnx, rc] at rc'
      injection rc' with rc'
      have eg := (Value.slice.inj rc').1
      injection eg with eg
      injection eg with eg
      subst eg
      have hst := hset V (Below.refl _ _) 2 (.bool false) (ax, ay, false) (by decide) rfl hai.1 hai.2
      simp only [Nat.zero_mul, Nat.zero_add] at r2 f2 hst
      have hbz := (unhide hbw).setCell (p := ⟨gk, 2, none⟩) (Nat.le_trans hwB hgkV) (.bool false)
      obtain ⟨V9, hV9⟩ : ∃ V9, V.setCell ⟨gk, 2, none⟩ (.bool false) = V9 := ⟨_, rfl⟩
      rw [hV9] at hst hbz
      have t9 : (0 : Int) < (nx : Int) := by omega
      clear hset hbw hoo r0 r1 f0 f1 rc' hp0
      replace hst := hide (hst.mono hwB); replace hbz := hide hbz
      go_wp2_with fail
      go_ret
      exact ⟨_, _, rfl, unhide hst, sml_set (unhide hso) k (by rw [List.length_set, unhide hnx]; omega), unhide hbz⟩
    · obtain ⟨ob', cap', u, hv, _, hobs, hcc, hfz, hrw, _, hrep⟩ := (unhide hoo).rep (unhide hx)
      have e1 := (Value.slice.inj hv).1
      injection e1 with e1
      injection e1 with e1
      subst e1
      have eu : u = .slice (some ⟨gk, 0, none⟩) nx capk := by rw [hcc] at rc; injection rc
      subst eu
      have hrt : Rw V V1.heap.size (.slice (some ⟨gk, 0, none⟩) i capk) (x.take i) := Rw.take (by rw [unhide hnx]; exact hrw) (by rw [unhide hnx]; omega)
      obtain ⟨g1, g2, g3⟩ := hrep V _ _ (grown_of_below (Below.refl _ _) _) hrt (.inl rfl)
      have hbz := (unhide hbw).setCell (p := ⟨ob, k, none⟩) (by show w.heap.size ≤ ob; omega) (.slice (some ⟨gk, 0, none⟩) i capk)
      obtain ⟨V9, hV9⟩ : ∃ V9, V.setCell ⟨ob, k, none⟩ (.slice (some ⟨gk, 0, none⟩) i capk) = V9 := ⟨_, rfl⟩
      rw [hV9] at g3 hbz
      have t9 : (i : Int) ≤ (capk : Int) := by omega
      have t10 : (0 : Int) ≤ (i : Int) := by omega
      clear hbw hoo hv hrw hrep hrt g2
      replace g3 := hide (g3.mono hwB); replace hbz := hide hbz
      go_wp2_with fail
      go_ret
      exact ⟨_, _, rfl, unhide g3, sml_set (unhide hso) k (by rw [List.length_take, unhide hnx]; omega), unhide hbz⟩
    · obtain ⟨vq, hvl⟩ : ∃ y, oddL[r]? = some y := ⟨_, List.getElem?_eq_getElem (show r < oddL.length from hr)⟩
      have hvi := odd_i64 hvl
      have hvq : Hid ((#[Value.int .i64 (-513), .int .i64 (-512), .int .i64 512, .int .i64 513] : Array Value)[r]? = some (.int .i64 vq)) := by
        have : r = 0 ∨ r = 1 ∨ r = 2 ∨ r = 3 := by omega
        rcases this with rfl | rfl | rfl | rfl <;> (simp [oddL] at hvl; subst hvl; rfl)
      obtain ⟨gj, capj, rc', hgkb0, hgks, hobs, hgne, _, ⟨r0, r1, r2⟩, ⟨f0, f1, f2⟩, hset, _⟩ := (unhide hoo).ptS (unhide hx) (unhide hp)
      rw [unhide hnx, rc] at rc'
      injection rc' with rc'
      have eg := (Value.slice.inj rc').1
      injection eg with eg
      injection eg with eg
      subst eg
      have hgkb : w.heap.size ≤ gk := Nat.le_trans hwB hgkV
      have hx1000 : x.length ≤ 1000 := by rw [unhide hnx]; omega
      clear rc' hvl
      replace hset := hide hset
      go_wp2_with fail
      refine wp_region_frontG 13 (fun _ _ w' => Below V.heap.size V w') (fun wa wb => Below wa.heap.size wa wb)
        (fun ix v w' => match ix with
          | 0 => v = .slice (some ⟨ob, 0, none⟩) n co
          | 1 => v = .int .i64 (k : Int)
          | 2 => v = .pointer (some ⟨ob, k, none⟩)
          | 3 => v = .slice (some ⟨gk, 0, none⟩) nx capk
          | 4 => v = .int .i64 (i : Int)
          | 5 => ∃ b, v = .slice (some ⟨b, 0, none⟩) 4 4 ∧ w'.heap[b]? = some (.cells #[.int .i64 (-513), .int .i64 (-512), .int .i64 512, .int .i64 513] 3 (0, 0))
          | 6 => v = .pointer (some ⟨b3, 2, none⟩)
          | 7 => v = .int .i64 q2
          | 8 => v = .int .i64 (r : Int)
          | 9 => ∃ b, v = .pointer (some ⟨b, r, none⟩) ∧ w'.heap[b]? = some (.cells #[.int .i64 (-513), .int .i64 (-512), .int .i64 512, .int .i64 513] 3 (0, 0))
          | 10 => v = .int .i64 vq
          | 11 => v = .pointer (some ⟨gk, i * 3, none⟩)
          | 12 => v = .pointer (some ⟨gk, i * 3, none⟩)
          | _ => True) (by rfl) (by kernel_rfl) ?_ ?_ ?_ ?_
      · exact (Below.refl _ _).drew
      · intro wa wb hR ix v hv
        match ix, hv with
        | 0, h => exact h
        | 1, h => exact h
        | 2, h => exact h
        | 3, h => exact h
        | 4, h => exact h
        | 5, h => obtain ⟨b, h1, h2⟩ := h; exact ⟨b, h1, (hR.block b (Array.getElem?_eq_some_iff.1 h2).1).trans h2⟩
        | 6, h => exact h
        | 7, h => exact h
        | 8, h => exact h
        | 9, h => obtain ⟨b, h1, h2⟩ := h; exact ⟨b, h1, (hR.block b (Array.getElem?_eq_some_iff.1 h2).1).trans h2⟩
        | 10, h => exact h
        | 11, h => exact h
        | 12, h => exact h
        | _ + 13, _ => trivial
      --BEGIN14
      · intro ix hix
        obtain rfl | rfl | rfl | rfl | rfl | rfl | rfl | rfl | rfl | rfl | rfl | rfl | rfl : ix = 0 ∨ ix = 1 ∨ ix = 2 ∨ ix = 3 ∨ ix = 4 ∨ ix = 5 ∨ ix = 6 ∨ ix = 7 ∨ ix = 8 ∨ ix = 9 ∨ ix = 10 ∨ ix = 11 ∨ ix = 12 := by omega
        · refine FrontStep.of [] _ rfl (by kernel_rfl) ?_
          intro vs LL wq hLL hC hf
          simp only [putL, List.foldl_nil]
          go_wp2_with fail
          first | exact Below.refl _ _ | exact ⟨Below.refl _ _, by omega⟩
        · refine FrontStep.of [] _ rfl (by kernel_rfl) ?_
          intro vs LL wq hLL hC hf
          simp only [putL, List.foldl_nil]
          go_wp2_with fail
          first | exact Below.refl _ _ | exact ⟨Below.refl _ _, by omega⟩
        · refine FrontStep.of [0, 1] _ rfl (by kernel_rfl) ?_
          intro vs LL wq hLL hC hf
          simp only [putL, List.foldl_nil, List.foldl_cons, List.getElem?_cons_zero, List.getElem?_cons_succ]
          have e0 : vs 0 = _ := hf 0 (by simp)
          rw [e0]
          have e1 : vs 1 = _ := hf 1 (by simp)
          rw [e1]
          go_wp2_with fail
          first | exact Below.refl _ _ | exact ⟨Below.refl _ _, by omega⟩
        · refine FrontStep.of [2] _ rfl (by kernel_rfl) ?_
          intro vs LL wq hLL hC hf
          simp only [putL, List.foldl_nil, List.foldl_cons, List.getElem?_cons_zero, List.getElem?_cons_succ]
          have e2 : vs 2 = _ := hf 2 (by simp)
          rw [e2]
          have hcq := cell_under rc hC
          go_wp2_with fail
          first | exact Below.refl _ _ | exact ⟨Below.refl _ _, by omega⟩
        · refine FrontStep.of [] _ rfl (by kernel_rfl) ?_
          intro vs LL wq hLL hC hf
          simp only [putL, List.foldl_nil]
          go_wp2_with fail
          first | exact Below.refl _ _ | exact ⟨Below.refl _ _, by omega⟩
        · refine FrontStep.of [] _ rfl (by kernel_rfl) ?_
          intro vs LL wq hLL hC hf
          simp only [putL, List.foldl_nil]
          go_wp2_with fail
          exact ⟨hC.alloc hC.size _, (Below.refl _ _).alloc (Nat.le_refl _) _, (Array.getElem?_eq_some_iff.1 (heap_alloc_new _ _)).2⟩
        · refine FrontStep.of [] _ rfl (by kernel_rfl) ?_
          intro vs LL wq hLL hC hf
          simp only [putL, List.foldl_nil]
          go_wp2_with fail
          first | exact Below.refl _ _ | exact ⟨Below.refl _ _, by omega⟩
        · refine FrontStep.of [6] _ rfl (by kernel_rfl) ?_
          intro vs LL wq hLL hC hf
          simp only [putL, List.foldl_nil, List.foldl_cons, List.getElem?_cons_zero, List.getElem?_cons_succ]
          have e6 : vs 6 = _ := hf 6 (by simp)
          rw [e6]
          have hcq := cell_under d2 hC
          go_wp2_with fail
          first | exact Below.refl _ _ | exact ⟨Below.refl _ _, by omega⟩
        · refine FrontStep.of [7] _ rfl (by kernel_rfl) ?_
          intro vs LL wq hLL hC hf
          simp only [putL, List.foldl_nil, List.foldl_cons, List.getElem?_cons_zero, List.getElem?_cons_succ]
          have e7 : vs 7 = _ := hf 7 (by simp)
          rw [e7]
          have hcq := mod_any q2 4 wq (by omega) (by omega)
          rw [unhide hr4] at hcq
          replace hcq := hide hcq
          go_wp2_with fail
          refine (unhide hcq).mono ?_
          rintro e wz ⟨rfl, ew⟩
          rw [ew]
          clear hcq ew
          go_wp2_with fail
          first | exact ⟨hC, Below.refl _ _⟩ | exact hC | exact Below.refl _ _
        · refine FrontStep.of [5, 8] _ rfl (by kernel_rfl) ?_
          intro vs LL wq hLL hC hf
          simp only [putL, List.foldl_nil, List.foldl_cons, List.getElem?_cons_zero, List.getElem?_cons_succ]
          obtain ⟨ba, e63, ha⟩ := hf 5 (by simp)
          rw [e63]
          have e8 : vs 8 = _ := hf 8 (by simp)
          rw [e8]
          go_wp2_with fail
          first | exact ⟨Below.refl _ _, ba, rfl, ha⟩ | exact ⟨hC, Below.refl _ _, ba, rfl, ha⟩ | exact ha | exact ⟨Below.refl _ _, ha⟩ | exact ⟨Below.refl _ _, ba, ⟨rfl, rfl⟩, ha⟩ | exact Below.refl _ _ | (trace_state; fail)
        · refine FrontStep.of [9] _ rfl (by kernel_rfl) ?_
          intro vs LL wq hLL hC hf
          simp only [putL, List.foldl_nil, List.foldl_cons, List.getElem?_cons_zero, List.getElem?_cons_succ]
          obtain ⟨bb, e67, hbb⟩ := hf 9 (by simp)
          rw [e67]
          have hcq : wq.cell? ⟨bb, r, none⟩ = some (.int .i64 vq) := (cell_of_row _ _ r _ _ _ hbb).trans (unhide hvq)
          go_wp2_with fail
          first | exact Below.refl _ _ | exact ⟨Below.refl _ _, by omega⟩
        · refine FrontStep.of [0, 1, 2, 3, 4, 5, 6, 7, 8, 9, 10] _ rfl (by kernel_rfl) ?_
          intro vs LL wq hLL hC hf
          simp only [putL, List.foldl_nil, List.foldl_cons, List.getElem?_cons_zero, List.getElem?_cons_succ]
          have e0 : vs 0 = _ := hf 0 (by simp)
          rw [e0]
          have e1 : vs 1 = _ := hf 1 (by simp)
          rw [e1]
          have e2 : vs 2 = _ := hf 2 (by simp)
          rw [e2]
          have e3 : vs 3 = _ := hf 3 (by simp)
          rw [e3]
          have e4 : vs 4 = _ := hf 4 (by simp)
          rw [e4]
          obtain ⟨ba, e63, ha⟩ := hf 5 (by simp)
          rw [e63]
          have e6 : vs 6 = _ := hf 6 (by simp)
          rw [e6]
          have e7 : vs 7 = _ := hf 7 (by simp)
          rw [e7]
          have e8 : vs 8 = _ := hf 8 (by simp)
          rw [e8]
          obtain ⟨bb, e67, hbb⟩ := hf 9 (by simp)
          rw [e67]
          have e10 : vs 10 = _ := hf 10 (by simp)
          rw [e10]
          go_wp2_with fail
          first | exact Below.refl _ _ | exact ⟨Below.refl _ _, by omega⟩
        · refine FrontStep.of [0, 1, 2, 3, 4, 5, 6, 7, 8, 9, 10, 11] _ rfl (by kernel_rfl) ?_
          intro vs LL wq hLL hC hf
          simp only [putL, List.foldl_nil, List.foldl_cons, List.getElem?_cons_zero, List.getElem?_cons_succ]
          have e0 : vs 0 = _ := hf 0 (by simp)
          rw [e0]
          have e1 : vs 1 = _ := hf 1 (by simp)
          rw [e1]
          have e2 : vs 2 = _ := hf 2 (by simp)
          rw [e2]
          have e3 : vs 3 = _ := hf 3 (by simp)
          rw [e3]
          have e4 : vs 4 = _ := hf 4 (by simp)
          rw [e4]
          obtain ⟨ba, e63, ha⟩ := hf 5 (by simp)
          rw [e63]
          have e6 : vs 6 = _ := hf 6 (by simp)
          rw [e6]
          have e7 : vs 7 = _ := hf 7 (by simp)
          rw [e7]
          have e8 : vs 8 = _ := hf 8 (by simp)
          rw [e8]
          obtain ⟨bb, e67, hbb⟩ := hf 9 (by simp)
          rw [e67]
          have e10 : vs 10 = _ := hf 10 (by simp)
          rw [e10]
          have e11 : vs 11 = _ := hf 11 (by simp)
          rw [e11]
          go_wp2_with fail
          first | exact Below.refl _ _ | exact ⟨Below.refl _ _, by omega⟩
      --END14
      · intro vs LL wq hLL hC hf
        have e12 : vs 12 = _ := hf 12 (by omega)
        have e10 : vs 10 = _ := hf 10 (by omega)
        rw [putSome_all]
        simp only [putL, List.range, List.range.loop, List.foldl_nil, List.foldl_cons, List.getElem?_cons_zero, List.getElem?_cons_succ, List.drop_succ_cons, List.drop_zero]
        rw [e12, e10]
        clear e12 e10 hf hLL
        have hst := unhide hset wq hC 0 (.int .i64 vq) (vq, py, pz) (by decide) rfl hvi hpi.2
        simp only [Nat.add_zero] at hst
        have kk := cell_under r0 hC
        have ff := frozen_under f0 r0 hC
        have hbz := ((unhide hbw).trans (hC.mono (unhide hbw).size)).setCell (p := ⟨gk, i * 3, none⟩) hgkb (.int .i64 vq)
        obtain ⟨V9, hV9⟩ : ∃ V9, wq.setCell ⟨gk, i * 3, none⟩ (.int .i64 vq) = V9 := ⟨_, rfl⟩
        rw [hV9] at hst hbz
        clear hset hC hbw rc r0 r1 r2 f0 f1 f2 hoo
        replace hst := hide (hst.mono hwB); replace hbz := hide hbz
        go_simp
        go_wp2_with fail
        go_ret
        exact ⟨_, _, rfl, unhide hst, sml_set (unhide hso) k (by rw [List.length_set]; omega), unhide hbz⟩
    · obtain ⟨vq, hvl⟩ : ∃ y, oddL[r]? = some y := ⟨_, List.getElem?_eq_getElem (show r < oddL.length from hr)⟩
      have hvi := odd_i64 hvl
      have hvq : Hid ((#[Value.int .i64 (-513), .int .i64 (-512), .int .i64 512, .int .i64 513] : Array Value)[r]? = some (.int .i64 vq)) := by
        have : r = 0 ∨ r = 1 ∨ r = 2 ∨ r = 3 := by omega
        rcases this with rfl | rfl | rfl | rfl <;> (simp [oddL] at hvl; subst hvl; rfl)
      obtain ⟨gj, capj, rc', hgkb0, hgks, hobs, hgne, _, ⟨r0, r1, r2⟩, ⟨f0, f1, f2⟩, hset, _⟩ := (unhide hoo).ptS (unhide hx) (unhide hp)
      rw [unhide hnx, rc] at rc'
      injection rc' with rc'
      have eg := (Value.slice.inj rc').1
      injection eg with eg
      injection eg with eg
      subst eg
      have hgkb : w.heap.size ≤ gk := Nat.le_trans hwB hgkV
      have hx1000 : x.length ≤ 1000 := by rw [unhide hnx]; omega
      clear rc' hvl
      replace hset := hide hset
      go_wp2_with fail
      refine wp_region_frontG 13 (fun _ _ w' => Below V.heap.size V w') (fun wa wb => Below wa.heap.size wa wb)
        (fun ix v w' => match ix with
          | 0 => v = .slice (some ⟨ob, 0, none⟩) n co
          | 1 => v = .int .i64 (k : Int)
          | 2 => v = .pointer (some ⟨ob, k, none⟩)
          | 3 => v = .slice (some ⟨gk, 0, none⟩) nx capk
          | 4 => v = .int .i64 (i : Int)
          | 5 => ∃ b, v = .slice (some ⟨b, 0, none⟩) 4 4 ∧ w'.heap[b]? = some (.cells #[.int .i64 (-513), .int .i64 (-512), .int .i64 512, .int .i64 513] 3 (0, 0))
          | 6 => v = .pointer (some ⟨b3, 2, none⟩)
          | 7 => v = .int .i64 q2
          | 8 => v = .int .i64 (r : Int)
          | 9 => ∃ b, v = .pointer (some ⟨b, r, none⟩) ∧ w'.heap[b]? = some (.cells #[.int .i64 (-513), .int .i64 (-512), .int .i64 512, .int .i64 513] 3 (0, 0))
          | 10 => v = .int .i64 vq
          | 11 => v = .pointer (some ⟨gk, i * 3, none⟩)
          | 12 => v = .pointer (some ⟨gk, i * 3 + 1, none⟩)
          | _ => True) (by rfl) (by kernel_rfl) ?_ ?_ ?_ ?_
      · exact (Below.refl _ _).drew
      · intro wa wb hR ix v hv
        match ix, hv with
        | 0, h => exact h
        | 1, h => exact h
        | 2, h => exact h
        | 3, h => exact h
        | 4, h => exact h
        | 5, h => obtain ⟨b, h1, h2⟩ := h; exact ⟨b, h1, (hR.block b (Array.getElem?_eq_some_iff.1 h2).1).trans h2⟩
        | 6, h => exact h
        | 7, h => exact h
        | 8, h => exact h
        | 9, h => obtain ⟨b, h1, h2⟩ := h; exact ⟨b, h1, (hR.block b (Array.getElem?_eq_some_iff.1 h2).1).trans h2⟩
        | 10, h => exact h
        | 11, h => exact h
        | 12, h => exact h
        | _ + 13, _ => trivial
      --BEGIN16
      · intro ix hix
        obtain rfl | rfl | rfl | rfl | rfl | rfl | rfl | rfl | rfl | rfl | rfl | rfl | rfl : ix = 0 ∨ ix = 1 ∨ ix = 2 ∨ ix = 3 ∨ ix = 4 ∨ ix = 5 ∨ ix = 6 ∨ ix = 7 ∨ ix = 8 ∨ ix = 9 ∨ ix = 10 ∨ ix = 11 ∨ ix = 12 := by omega
        · refine FrontStep.of [] _ rfl (by kernel_rfl) ?_
          intro vs LL wq hLL hC hf
          simp only [putL, List.foldl_nil]
          go_wp2_with fail
          first | exact Below.refl _ _ | exact ⟨Below.refl _ _, by omega⟩
        · refine FrontStep.of [] _ rfl (by kernel_rfl) ?_
          intro vs LL wq hLL hC hf
          simp only [putL, List.foldl_nil]
          go_wp2_with fail
          first | exact Below.refl _ _ | exact ⟨Below.refl _ _, by omega⟩
        · refine FrontStep.of [0, 1] _ rfl (by kernel_rfl) ?_
          intro vs LL wq hLL hC hf
          simp only [putL, List.foldl_nil, List.foldl_cons, List.getElem?_cons_zero, List.getElem?_cons_succ]
          have e0 : vs 0 = _ := hf 0 (by simp)
          rw [e0]
          have e1 : vs 1 = _ := hf 1 (by simp)
          rw [e1]
          go_wp2_with fail
          first | exact Below.refl _ _ | exact ⟨Below.refl _ _, by omega⟩
        · refine FrontStep.of [2] _ rfl (by kernel_rfl) ?_
          intro vs LL wq hLL hC hf
          simp only [putL, List.foldl_nil, List.foldl_cons, List.getElem?_cons_zero, List.getElem?_cons_succ]
          have e2 : vs 2 = _ := hf 2 (by simp)
          rw [e2]
          have hcq := cell_under rc hC
          go_wp2_with fail
          first | exact Below.refl _ _ | exact ⟨Below.refl _ _, by omega⟩
        · refine FrontStep.of [] _ rfl (by kernel_rfl) ?_
          intro vs LL wq hLL hC hf
          simp only [putL, List.foldl_nil]
          go_wp2_with fail
          first | exact Below.refl _ _ | exact ⟨Below.refl _ _, by omega⟩
        · refine FrontStep.of [] _ rfl (by kernel_rfl) ?_
          intro vs LL wq hLL hC hf
          simp only [putL, List.foldl_nil]
          go_wp2_with fail
          exact ⟨hC.alloc hC.size _, (Below.refl _ _).alloc (Nat.le_refl _) _, (Array.getElem?_eq_some_iff.1 (heap_alloc_new _ _)).2⟩
        · refine FrontStep.of [] _ rfl (by kernel_rfl) ?_
          intro vs LL wq hLL hC hf
          simp only [putL, List.foldl_nil]
          go_wp2_with fail
          first | exact Below.refl _ _ | exact ⟨Below.refl _ _, by omega⟩
        · refine FrontStep.of [6] _ rfl (by kernel_rfl) ?_
          intro vs LL wq hLL hC hf
          simp only [putL, List.foldl_nil, List.foldl_cons, List.getElem?_cons_zero, List.getElem?_cons_succ]
          have e6 : vs 6 = _ := hf 6 (by simp)
          rw [e6]
          have hcq := cell_under d2 hC
          go_wp2_with fail
          first | exact Below.refl _ _ | exact ⟨Below.refl _ _, by omega⟩
        · refine FrontStep.of [7] _ rfl (by kernel_rfl) ?_
          intro vs LL wq hLL hC hf
          simp only [putL, List.foldl_nil, List.foldl_cons, List.getElem?_cons_zero, List.getElem?_cons_succ]
          have e7 : vs 7 = _ := hf 7 (by simp)
          rw [e7]
          have hcq := mod_any q2 4 wq (by omega) (by omega)
          rw [unhide hr4] at hcq
          replace hcq := hide hcq
          go_wp2_with fail
          refine (unhide hcq).mono ?_
          rintro e wz ⟨rfl, ew⟩
          rw [ew]
          clear hcq ew
          go_wp2_with fail
          first | exact ⟨hC, Below.refl _ _⟩ | exact hC | exact Below.refl _ _
        · refine FrontStep.of [5, 8] _ rfl (by kernel_rfl) ?_
          intro vs LL wq hLL hC hf
          simp only [putL, List.foldl_nil, List.foldl_cons, List.getElem?_cons_zero, List.getElem?_cons_succ]
          obtain ⟨ba, e78, ha⟩ := hf 5 (by simp)
          rw [e78]
          have e8 : vs 8 = _ := hf 8 (by simp)
          rw [e8]
          go_wp2_with fail
          first | exact ⟨Below.refl _ _, ba, rfl, ha⟩ | exact ⟨hC, Below.refl _ _, ba, rfl, ha⟩ | exact ha | exact ⟨Below.refl _ _, ha⟩ | exact ⟨Below.refl _ _, ba, ⟨rfl, rfl⟩, ha⟩ | exact Below.refl _ _ | (trace_state; fail)
        · refine FrontStep.of [9] _ rfl (by kernel_rfl) ?_
          intro vs LL wq hLL hC hf
          simp only [putL, List.foldl_nil, List.foldl_cons, List.getElem?_cons_zero, List.getElem?_cons_succ]
          obtain ⟨bb, e82, hbb⟩ := hf 9 (by simp)
          rw [e82]
          have hcq : wq.cell? ⟨bb, r, none⟩ = some (.int .i64 vq) := (cell_of_row _ _ r _ _ _ hbb).trans (unhide hvq)
          go_wp2_with fail
          first | exact Below.refl _ _ | exact ⟨Below.refl _ _, by omega⟩
        · refine FrontStep.of [0, 1, 2, 3, 4, 5, 6, 7, 8, 9, 10] _ rfl (by kernel_rfl) ?_
          intro vs LL wq hLL hC hf
          simp only [putL, List.foldl_nil, List.foldl_cons, List.getElem?_cons_zero, List.getElem?_cons_succ]
          have e0 : vs 0 = _ := hf 0 (by simp)
          rw [e0]
          have e1 : vs 1 = _ := hf 1 (by simp)
          rw [e1]
          have e2 : vs 2 = _ := hf 2 (by simp)
          rw [e2]
          have e3 : vs 3 = _ := hf 3 (by simp)
          rw [e3]
          have e4 : vs 4 = _ := hf 4 (by simp)
          rw [e4]
          obtain ⟨ba, e78, ha⟩ := hf 5 (by simp)
          rw [e78]
          have e6 : vs 6 = _ := hf 6 (by simp)
          rw [e6]
          have e7 : vs 7 = _ := hf 7 (by simp)
          rw [e7]
          have e8 : vs 8 = _ := hf 8 (by simp)
          rw [e8]
          obtain ⟨bb, e82, hbb⟩ := hf 9 (by simp)
          rw [e82]
          have e10 : vs 10 = _ := hf 10 (by simp)
          rw [e10]
          go_wp2_with fail
          first | exact Below.refl _ _ | exact ⟨Below.refl _ _, by omega⟩
        · refine FrontStep.of [0, 1, 2, 3, 4, 5, 6, 7, 8, 9, 10, 11] _ rfl (by kernel_rfl) ?_
          intro vs LL wq hLL hC hf
          simp only [putL, List.foldl_nil, List.foldl_cons, List.getElem?_cons_zero, List.getElem?_cons_succ]
          have e0 : vs 0 = _ := hf 0 (by simp)
          rw [e0]
          have e1 : vs 1 = _ := hf 1 (by simp)
          rw [e1]
          have e2 : vs 2 = _ := hf 2 (by simp)
          rw [e2]
          have e3 : vs 3 = _ := hf 3 (by simp)
          rw [e3]
          have e4 : vs 4 = _ := hf 4 (by simp)
          rw [e4]
          obtain ⟨ba, e78, ha⟩ := hf 5 (by simp)
          rw [e78]
          have e6 : vs 6 = _ := hf 6 (by simp)
          rw [e6]
          have e7 : vs 7 = _ := hf 7 (by simp)
          rw [e7]
          have e8 : vs 8 = _ := hf 8 (by simp)
          rw [e8]
          obtain ⟨bb, e82, hbb⟩ := hf 9 (by simp)
          rw [e82]
          have e10 : vs 10 = _ := hf 10 (by simp)
          rw [e10]
          have e11 : vs 11 = _ := hf 11 (by simp)
          rw [e11]
          go_wp2_with fail
          first | exact Below.refl _ _ | exact ⟨Below.refl _ _, by omega⟩
      --END16
      · intro vs LL wq hLL hC hf
        have e12 : vs 12 = _ := hf 12 (by omega)
        have e10 : vs 10 = _ := hf 10 (by omega)
        rw [putSome_all]
        simp only [putL, List.range, List.range.loop, List.foldl_nil, List.foldl_cons, List.getElem?_cons_zero, List.getElem?_cons_succ, List.drop_succ_cons, List.drop_zero]
        rw [e12, e10]
        clear e12 e10 hf hLL
        have hst := unhide hset wq hC 1 (.int .i64 vq) (px, vq, pz) (by decide) rfl hpi.1 hvi
        skip
        have kk := cell_under r1 hC
        have ff := frozen_under f1 r1 hC
        have hbz := ((unhide hbw).trans (hC.mono (unhide hbw).size)).setCell (p := ⟨gk, i * 3 + 1, none⟩) hgkb (.int .i64 vq)
        obtain ⟨V9, hV9⟩ : ∃ V9, wq.setCell ⟨gk, i * 3 + 1, none⟩ (.int .i64 vq) = V9 := ⟨_, rfl⟩
        rw [hV9] at hst hbz
        clear hset hC hbw rc r0 r1 r2 f0 f1 f2 hoo
        replace hst := hide (hst.mono hwB); replace hbz := hide hbz
        go_simp
        go_wp2_with fail
        go_ret
        exact ⟨_, _, rfl, unhide hst, sml_set (unhide hso) k (by rw [List.length_set]; omega), unhide hbz⟩
    · clear hi2 hr4 t5
      go_wp2_with fail
      go_loopw [5] (fun v5 wr => ∃ (o2 : Ot) (a2 : Option Addr) (n2 c2 : Nat), v5 = .slice a2 n2 c2 ∧ o2.length = n2 ∧ OO wr V1.heap.size (.slice a2 n2 c2) o2 ∧ o2[k]? = some x ∧ Sml o2 ∧ n2 ≤ 13 ∧ Below w.heap.size w wr) (fun v _ => 20 - lenV v)
      case atStart => exact ⟨o, _, n, co, rfl, unhide hn, unhide hoo, unhide hx, unhide hso, by omega, unhide hbw⟩
      case round =>
        clear hoo hbw rc d0 d2
        obtain ⟨o2, a2, n2, c2, rfl, ho2, hoo, hx2, hso2, hn13, hbw⟩ := hrel
        obtain ⟨wo, rfl⟩ : ∃ wo : World, wo = wr := ⟨_, rfl⟩
        have hBo : V1.heap.size ≤ wo.heap.size := by
          obtain ⟨_, _, _, _, q1, q2, _⟩ := hoo.ct hx2
          omega
        by_cases hlt : n2 ≤ 6 + i
        · obtain ⟨ob2, hob2⟩ : ∃ ob2, a2 = some ⟨ob2, 0, none⟩ := by
            obtain ⟨ob2, _, _, hv, _⟩ := hoo.ct hx2
            exact ⟨ob2, (Value.slice.inj hv).1⟩
          subst hob2
          obtain ⟨ax, cx, hcc, hlx⟩ : ∃ ax cx, wo.cell? ⟨ob2, k, none⟩ = some (.slice ax nx cx) ∧ Lst Enc.pt wo (· < wo.heap.size) ax nx x := by
            obtain ⟨ob', _, u, hv, _, _, hcc, _, hrw⟩ := hoo.ct hx2
            have e1 := (Value.slice.inj hv).1
            injection e1 with e1
            injection e1 with e1
            obtain ⟨ax, cx, ev, _, _, hlx⟩ := hrw.lst
            rw [unhide hnx] at ev hlx
            exact ⟨ax, cx, by rw [e1, hcc, ev], hlx.wide (fun b hb => hb.2)⟩
          have hkn2 : k < n2 := by have := (List.getElem?_eq_some_iff.1 hx2).1; omega
          obtain ⟨g, V2, hg, hV2, n1, k2, s2⟩ := al1 wo (.cells #[] 56)
          have hrow0 : V2.ownsRow g 56 3 (.slice (some ⟨g, 0, none⟩) 0 0) 0 [] := ⟨rfl, .inr ⟨g, 0, #[], rfl, Nat.le_refl _, n1, Nat.le_refl _, Nat.zero_le _, rfl, rfl⟩⟩
          have hgs : g ≤ V2.heap.size := by omega
          have hlx1 := hlx.under k2
          have hap := allP_lst hlx
          have hcV := cell_under hcc k2
          have t7 : (n2 : Int) ≤ 6 + (i : Int) := by omega
          have t8 : (k : Int) < (n2 : Int) := by omega
          clear n1 hlx
          replace hrow0 := hide hrow0; replace hlx1 := hide hlx1; replace hoo := hide hoo; replace hbw := hide hbw; replace k2 := hide k2; replace s2 := hide s2; replace hap := hide hap; replace ho2 := hide ho2; replace hx2 := hide hx2; replace hso2 := hide hso2
          go_wp2_with (at_builtin; refine wpList_append_pts rfl _ _ rfl g _ 0 [] rfl (unhide hrow0) _ ax nx cx x rfl (unhide hlx1) (by omega) hgs ?_)
          intro v' w2 hr2 hg2
          have hg2' : V2.grownBy w2 (some g) := hg2
          have hb2 : Below wo.heap.size wo w2 := (unhide k2).grown hg2' (unhide k2).size (fun j hj => by injection hj with hj; omega)
          have hrw : Rw w2 g v' x := ⟨by rw [unhide hnx]; exact hr2, unhide hap⟩
          obtain ⟨av, cv, ev, _⟩ := hrw.lst
          rw [unhide hnx] at ev
          subst ev
          obtain ⟨b2, V3, hb2e, hV3, n3, k3, s3⟩ := al1 w2 (.cells #[.slice av nx cv] 54)
          have hrw3 : Rw V3 wo.heap.size (.slice av nx cv) x := by rw [hg]; exact hrw.below k3
          have hb3 := hb2.trans (k3.mono hb2.size)
          have hlk : o2.length ≤ 1000 := (unhide hso2).1
          have hx6' : x.length ≤ 6 := by rw [unhide hnx]; omega
          clear hr2 hg2 hg2' hb2 hrw k3 s3 hrow0 hlx1 k2 hcV hV2 hcc
          replace n3 := hide n3; replace hrw3 := hide hrw3; replace hb3 := hide hb3; replace hg := hide hg
          go_wp2_with (at_builtin; refine wpList_append_ct rfl _ _ rfl V1.heap.size _ _ o2 x rfl (unhide hoo) (unhide hb3) _ rfl (unhide n3) (unhide hrw3) hBo hlk ?_)
          intro v4 w4 hoo4 hb4
          have hbz := hide (((unhide hbw).trans ((unhide hb3).mono (Nat.le_trans hwB hBo))).trans (hb4.mono hwB))
          obtain ⟨a4, c4, ev, _⟩ := hoo4.lst
          rw [List.length_append, unhide ho2] at ev
          replace ev : v4 = .slice a4 (n2 + 1) c4 := ev
          subst ev
          replace hoo4 := hide hoo4
          clear hoo hb3 n3 hrw3 hb4 hV3 hb2e hbw
          go_wp2_with fail
          go_roundw
          case rel =>
            refine ⟨o2 ++ [x], _, _, _, rfl, by rw [List.length_append, unhide ho2]; rfl, unhide hoo4, ?_, ⟨by rw [List.length_append, unhide ho2]; show n2 + 1 ≤ 1000; omega, fun c hc => ?_⟩, by omega, unhide hbz⟩
            · rw [List.getElem?_append_left (by rw [unhide ho2]; exact hkn2)]; exact unhide hx2
            · rcases List.mem_append.1 hc with hc | hc
              · exact (unhide hso2).2 c hc
              · simp at hc; subst hc; omega
          case measure => simp [lenV]; omega
        · have t7 : ¬ (n2 : Int) ≤ 6 + (i : Int) := by omega
          have hz := hide (hoo.mono hwB)
          clear hoo
          replace hbw := hide hbw; replace hso2 := hide hso2
          go_wp2_with fail
          go_ret
          exact ⟨_, _, rfl, unhide hz, unhide hso2, unhide hbw⟩
    · clear hi2 hr4 t5 hp hpi
      have hrc := hide rc
      clear rc d0 d2
      go_wp2_with fail
      go_loopw [] (fun wr => ∃ x2 : List Pt, OO wr V1.heap.size (.slice (some ⟨ob, 0, none⟩) n co) (o.set k x2) ∧ nx ≤ x2.length ∧ x2.length ≤ 66 ∧ Below w.heap.size w wr) (fun wr => 100 - lenV ((wr.cell? ⟨ob, k, none⟩).getD undef))
      case atStart => exact ⟨x, by rw [setSame (unhide hx)]; exact unhide hoo, by rw [unhide hnx]; exact Nat.le_refl _, by rw [unhide hnx]; omega, unhide hbw⟩
      case round =>
        clear hoo hbw hrc
        obtain ⟨x2, hoo, hx2a, hx2b, hbw⟩ := hrel
        obtain ⟨V, rfl⟩ : ∃ V : World, V = wr := ⟨_, rfl⟩
        obtain ⟨m2, hm2⟩ : ∃ m, x2.length = m := ⟨_, rfl⟩
        rw [hm2] at hx2a hx2b
        have hget : (o.set k x2)[k]? = some x2 := List.getElem?_set_self (by rw [unhide hn]; exact hkn)
        obtain ⟨g2, cap2, hrc2, hrw2, hgob, hBob, hobV, hg2V, hg2B, hfz, hrep⟩ : ∃ g2 cap2, V.cell? ⟨ob, k, none⟩ = some (.slice (some ⟨g2, 0, none⟩) m2 cap2) ∧ Rw V V1.heap.size (.slice (some ⟨g2, 0, none⟩) m2 cap2) x2 ∧ g2 ≠ ob ∧ V1.heap.size ≤ ob ∧ ob < V.heap.size ∧ g2 < V.heap.size ∧ V1.heap.size ≤ g2 ∧ V.frozen? ⟨ob, k, none⟩ = false ∧
            ∀ w1 u' c', V.grownBy w1 (some g2) → Rw w1 V1.heap.size u' c' → (u'.ownBlock = some g2 ∨ ∃ b, u'.ownBlock = some b ∧ V.heap.size ≤ b) → w1.frozen? ⟨ob, k, none⟩ = false ∧ w1.cell? ⟨ob, k, none⟩ = some (.slice (some ⟨g2, 0, none⟩) m2 cap2) ∧ OO (w1.setCell ⟨ob, k, none⟩ u') V1.heap.size (.slice (some ⟨ob, 0, none⟩) n co) ((o.set k x2).set k c') := by
          obtain ⟨ob', cap', u, hv, q1, q2, hcc, hfz, hrw, hap, hrep⟩ := hoo.rep hget
          have e1 := (Value.slice.inj hv).1
          injection e1 with e1
          injection e1 with e1
          subst e1
          rcases hrw.form with ⟨_, rfl⟩ | ⟨g, cap, rfl, q3, q4, _⟩
          · simp at hm2; omega
          · rw [hm2] at hcc hrw hrep
            exact ⟨g, cap, hcc, hrw, fun e => by subst e; simp [Value.ownBlock] at hap, q1, q2, q4, q3, hfz, hrep⟩
        have hBV : V1.heap.size ≤ V.heap.size := by omega
        have hlV : lenV ((V.cell? ⟨ob, k, none⟩).getD undef) = m2 := by rw [hrc2]; rfl
        by_cases hlt : m2 < 60 + i
        · obtain ⟨rr, hrr⟩ : ∃ r : Nat, m2 % 2 = r := ⟨_, rfl⟩
          have htm : Int.tmod (m2 : Int) 2 = (rr : Int) := by rw [Int.tmod_eq_emod_of_nonneg (by omega)]; omega
          obtain ⟨zz, hzz⟩ : ∃ z, ((rr : Int) == 0) = z := ⟨_, rfl⟩
          have happ : ∀ w5 v', w5.ownsRow V1.heap.size 56 3 v' (m2 + 1) (pcells x2 ++ [.int .i64 (m2 : Int), .int .i64 1, .bool zz]) → Rw w5 V1.heap.size v' (x2 ++ [((m2 : Int), 1, zz)]) := fun w5 v' h => by
            refine ⟨by rw [List.length_append, hm2, pcells_append]; exact h, fun p hp => ?_⟩
            rcases List.mem_append.1 hp with hp | hp
            · exact hrw2.2 p hp
            · simp at hp; subst hp; exact ⟨⟨by simp only; omega, by simp only; omega⟩, ⟨by simp only; omega, by simp only; omega⟩⟩
          have t7 : (m2 : Int) < 60 + (i : Int) := by omega
          replace hrw2 := hide hrw2; replace hrep := hide hrep; replace happ := hide happ; replace hbw := hide hbw; replace hoo := hide hoo; replace hm2 := hide hm2; replace hrr := hide hrr; replace hlV := hide hlV; replace hget := hide hget
          go_wp2_with fail
          have hrc3 := hide hrc2
          clear hrc2
          have hrc2 := hrc3
          clear hrc3
          refine wp_region_frontG 21 (fun L vs w' => C22 V V1.heap.size ob k g2 (.slice (some ⟨g2, 0, none⟩) m2 cap2) (x2 ++ [((m2 : Int), 1, zz)]) L vs w') (fun wa wb => wa.grownBy wb (some g2))
            (fun ix v w' => match ix with
              | 0 => v = .slice (some ⟨ob, 0, none⟩) n co
              | 1 => v = .int .i64 (k : Int)
              | 2 => v = .slice (some ⟨ob, 0, none⟩) n co
              | 3 => v = .int .i64 (k : Int)
              | 4 => v = .pointer (some ⟨ob, k, none⟩)
              | 5 => v = .slice (some ⟨g2, 0, none⟩) m2 cap2
              | 6 => v = .slice (some ⟨ob, 0, none⟩) n co
              | 7 => v = .int .i64 (k : Int)
              | 8 => v = .pointer (some ⟨ob, k, none⟩)
              | 9 => v = .slice (some ⟨g2, 0, none⟩) m2 cap2
              | 10 => v = .int .i64 (m2 : Int)
              | 11 => v = .slice (some ⟨ob, 0, none⟩) n co
              | 12 => v = .int .i64 (k : Int)
              | 13 => v = .pointer (some ⟨ob, k, none⟩)
              | 14 => v = .slice (some ⟨g2, 0, none⟩) m2 cap2
              | 15 => v = .int .i64 (m2 : Int)
              | 16 => v = .int .i64 (rr : Int)
              | 17 => v = .bool zz
              | 18 => v = .agg #[.int .i64 (m2 : Int), .int .i64 1, .bool zz]
              | 19 => ∃ b, v = .slice (some ⟨b, 0, none⟩) 1 1 ∧ w'.heap[b]? = some (.cells #[.int .i64 (m2 : Int), .int .i64 1, .bool zz] 56 (0, 0)) ∧ V.heap.size ≤ b
              | 20 => ∃ a c, v = .slice a (m2 + 1) c
              | _ => True) (by rfl) (by kernel_rfl) ?_ ?_ ?_ ?_
          · exact C22.start (unhide hrc2)
          · intro wa wb hR ix v hv
            match ix, hv with
            | 0, h => exact h
            | 1, h => exact h
            | 2, h => exact h
            | 3, h => exact h
            | 4, h => exact h
            | 5, h => exact h
            | 6, h => exact h
            | 7, h => exact h
            | 8, h => exact h
            | 9, h => exact h
            | 10, h => exact h
            | 11, h => exact h
            | 12, h => exact h
            | 13, h => exact h
            | 14, h => exact h
            | 15, h => exact h
            | 16, h => exact h
            | 17, h => exact h
            | 18, h => exact h
            | 19, h => obtain ⟨b, h1, h2, h3⟩ := h; exact ⟨b, h1, (hR.block b (Array.getElem?_eq_some_iff.1 h2).1 (fun e => by injection e; omega)).trans h2, h3⟩
            | 20, h => exact h
            | _ + 21, _ => trivial
          --BEGIN22
          · intro ix hix
            obtain rfl | rfl | rfl | rfl | rfl | rfl | rfl | rfl | rfl | rfl | rfl | rfl | rfl | rfl | rfl | rfl | rfl | rfl | rfl | rfl | rfl : ix = 0 ∨ ix = 1 ∨ ix = 2 ∨ ix = 3 ∨ ix = 4 ∨ ix = 5 ∨ ix = 6 ∨ ix = 7 ∨ ix = 8 ∨ ix = 9 ∨ ix = 10 ∨ ix = 11 ∨ ix = 12 ∨ ix = 13 ∨ ix = 14 ∨ ix = 15 ∨ ix = 16 ∨ ix = 17 ∨ ix = 18 ∨ ix = 19 ∨ ix = 20 := by omega
            · refine FrontStep.of [] _ rfl (by kernel_rfl) ?_
              intro vs LL wq hLL hC hf
              simp only [putL, List.foldl_nil]
              go_wp2_with fail
              first | exact ⟨hC.keep 0 _ (by decide) (Below.refl _ _), grown_of_below (Below.refl _ _) _⟩ | exact ⟨hC.keep 0 _ (by decide) (Below.refl _ _), grown_of_below (Below.refl _ _) _, rfl⟩ | exact ⟨hC.keep 0 _ (by decide) (Below.refl _ _), grown_of_below (Below.refl _ _) _, by omega⟩ | (trace_state; fail)
            · refine FrontStep.of [] _ rfl (by kernel_rfl) ?_
              intro vs LL wq hLL hC hf
              simp only [putL, List.foldl_nil]
              go_wp2_with fail
              first | exact ⟨hC.keep 1 _ (by decide) (Below.refl _ _), grown_of_below (Below.refl _ _) _⟩ | exact ⟨hC.keep 1 _ (by decide) (Below.refl _ _), grown_of_below (Below.refl _ _) _, rfl⟩ | exact ⟨hC.keep 1 _ (by decide) (Below.refl _ _), grown_of_below (Below.refl _ _) _, by omega⟩ | (trace_state; fail)
            · refine FrontStep.of [] _ rfl (by kernel_rfl) ?_
              intro vs LL wq hLL hC hf
              simp only [putL, List.foldl_nil]
              go_wp2_with fail
              first | exact ⟨hC.keep 2 _ (by decide) (Below.refl _ _), grown_of_below (Below.refl _ _) _⟩ | exact ⟨hC.keep 2 _ (by decide) (Below.refl _ _), grown_of_below (Below.refl _ _) _, rfl⟩ | exact ⟨hC.keep 2 _ (by decide) (Below.refl _ _), grown_of_below (Below.refl _ _) _, by omega⟩ | (trace_state; fail)
            · refine FrontStep.of [] _ rfl (by kernel_rfl) ?_
              intro vs LL wq hLL hC hf
              simp only [putL, List.foldl_nil]
              go_wp2_with fail
              first | exact ⟨hC.keep 3 _ (by decide) (Below.refl _ _), grown_of_below (Below.refl _ _) _⟩ | exact ⟨hC.keep 3 _ (by decide) (Below.refl _ _), grown_of_below (Below.refl _ _) _, rfl⟩ | exact ⟨hC.keep 3 _ (by decide) (Below.refl _ _), grown_of_below (Below.refl _ _) _, by omega⟩ | (trace_state; fail)
            · refine FrontStep.of [2, 3] _ rfl (by kernel_rfl) ?_
              intro vs LL wq hLL hC hf
              simp only [putL, List.foldl_nil, List.foldl_cons, List.getElem?_cons_zero, List.getElem?_cons_succ]
              have e2 : vs 2 = _ := hf 2 (by simp)
              rw [e2]
              have e3 : vs 3 = _ := hf 3 (by simp)
              rw [e3]
              go_wp2_with fail
              first | exact ⟨hC.keep 4 _ (by decide) (Below.refl _ _), grown_of_below (Below.refl _ _) _⟩ | exact ⟨hC.keep 4 _ (by decide) (Below.refl _ _), grown_of_below (Below.refl _ _) _, rfl⟩ | exact ⟨hC.keep 4 _ (by decide) (Below.refl _ _), grown_of_below (Below.refl _ _) _, by omega⟩ | (trace_state; fail)
            · refine FrontStep.of [4] _ rfl (by kernel_rfl) ?_
              intro vs LL wq hLL hC hf
              simp only [putL, List.foldl_nil, List.foldl_cons, List.getElem?_cons_zero, List.getElem?_cons_succ]
              have e4 : vs 4 = _ := hf 4 (by simp)
              rw [e4]
              have hcq := hC.1
              go_wp2_with fail
              first | exact ⟨hC.keep 5 _ (by decide) (Below.refl _ _), grown_of_below (Below.refl _ _) _⟩ | exact ⟨hC.keep 5 _ (by decide) (Below.refl _ _), grown_of_below (Below.refl _ _) _, rfl⟩ | exact ⟨hC.keep 5 _ (by decide) (Below.refl _ _), grown_of_below (Below.refl _ _) _, by omega⟩ | (trace_state; fail)
            · refine FrontStep.of [] _ rfl (by kernel_rfl) ?_
              intro vs LL wq hLL hC hf
              simp only [putL, List.foldl_nil]
              go_wp2_with fail
              first | exact ⟨hC.keep 6 _ (by decide) (Below.refl _ _), grown_of_below (Below.refl _ _) _⟩ | exact ⟨hC.keep 6 _ (by decide) (Below.refl _ _), grown_of_below (Below.refl _ _) _, rfl⟩ | exact ⟨hC.keep 6 _ (by decide) (Below.refl _ _), grown_of_below (Below.refl _ _) _, by omega⟩ | (trace_state; fail)
            · refine FrontStep.of [] _ rfl (by kernel_rfl) ?_
              intro vs LL wq hLL hC hf
              simp only [putL, List.foldl_nil]
              go_wp2_with fail
              first | exact ⟨hC.keep 7 _ (by decide) (Below.refl _ _), grown_of_below (Below.refl _ _) _⟩ | exact ⟨hC.keep 7 _ (by decide) (Below.refl _ _), grown_of_below (Below.refl _ _) _, rfl⟩ | exact ⟨hC.keep 7 _ (by decide) (Below.refl _ _), grown_of_below (Below.refl _ _) _, by omega⟩ | (trace_state; fail)
            · refine FrontStep.of [6, 7] _ rfl (by kernel_rfl) ?_
              intro vs LL wq hLL hC hf
              simp only [putL, List.foldl_nil, List.foldl_cons, List.getElem?_cons_zero, List.getElem?_cons_succ]
              have e6 : vs 6 = _ := hf 6 (by simp)
              rw [e6]
              have e7 : vs 7 = _ := hf 7 (by simp)
              rw [e7]
              go_wp2_with fail
              first | exact ⟨hC.keep 8 _ (by decide) (Below.refl _ _), grown_of_below (Below.refl _ _) _⟩ | exact ⟨hC.keep 8 _ (by decide) (Below.refl _ _), grown_of_below (Below.refl _ _) _, rfl⟩ | exact ⟨hC.keep 8 _ (by decide) (Below.refl _ _), grown_of_below (Below.refl _ _) _, by omega⟩ | (trace_state; fail)
            · refine FrontStep.of [8] _ rfl (by kernel_rfl) ?_
              intro vs LL wq hLL hC hf
              simp only [putL, List.foldl_nil, List.foldl_cons, List.getElem?_cons_zero, List.getElem?_cons_succ]
              have e8 : vs 8 = _ := hf 8 (by simp)
              rw [e8]
              have hcq := hC.1
              go_wp2_with fail
              first | exact ⟨hC.keep 9 _ (by decide) (Below.refl _ _), grown_of_below (Below.refl _ _) _⟩ | exact ⟨hC.keep 9 _ (by decide) (Below.refl _ _), grown_of_below (Below.refl _ _) _, rfl⟩ | exact ⟨hC.keep 9 _ (by decide) (Below.refl _ _), grown_of_below (Below.refl _ _) _, by omega⟩ | (trace_state; fail)
            · refine FrontStep.of [9] _ rfl (by kernel_rfl) ?_
              intro vs LL wq hLL hC hf
              simp only [putL, List.foldl_nil, List.foldl_cons, List.getElem?_cons_zero, List.getElem?_cons_succ]
              have e9 : vs 9 = _ := hf 9 (by simp)
              rw [e9]
              go_wp2_with fail
              first | exact ⟨hC.keep 10 _ (by decide) (Below.refl _ _), grown_of_below (Below.refl _ _) _⟩ | exact ⟨hC.keep 10 _ (by decide) (Below.refl _ _), grown_of_below (Below.refl _ _) _, rfl⟩ | exact ⟨hC.keep 10 _ (by decide) (Below.refl _ _), grown_of_below (Below.refl _ _) _, by omega⟩ | (trace_state; fail)
            · refine FrontStep.of [] _ rfl (by kernel_rfl) ?_
              intro vs LL wq hLL hC hf
              simp only [putL, List.foldl_nil]
              go_wp2_with fail
              first | exact ⟨hC.keep 11 _ (by decide) (Below.refl _ _), grown_of_below (Below.refl _ _) _⟩ | exact ⟨hC.keep 11 _ (by decide) (Below.refl _ _), grown_of_below (Below.refl _ _) _, rfl⟩ | exact ⟨hC.keep 11 _ (by decide) (Below.refl _ _), grown_of_below (Below.refl _ _) _, by omega⟩ | (trace_state; fail)
            · refine FrontStep.of [] _ rfl (by kernel_rfl) ?_
              intro vs LL wq hLL hC hf
              simp only [putL, List.foldl_nil]
              go_wp2_with fail
              first | exact ⟨hC.keep 12 _ (by decide) (Below.refl _ _), grown_of_below (Below.refl _ _) _⟩ | exact ⟨hC.keep 12 _ (by decide) (Below.refl _ _), grown_of_below (Below.refl _ _) _, rfl⟩ | exact ⟨hC.keep 12 _ (by decide) (Below.refl _ _), grown_of_below (Below.refl _ _) _, by omega⟩ | (trace_state; fail)
            · refine FrontStep.of [11, 12] _ rfl (by kernel_rfl) ?_
              intro vs LL wq hLL hC hf
              simp only [putL, List.foldl_nil, List.foldl_cons, List.getElem?_cons_zero, List.getElem?_cons_succ]
              have e11 : vs 11 = _ := hf 11 (by simp)
              rw [e11]
              have e12 : vs 12 = _ := hf 12 (by simp)
              rw [e12]
              go_wp2_with fail
              first | exact ⟨hC.keep 13 _ (by decide) (Below.refl _ _), grown_of_below (Below.refl _ _) _⟩ | exact ⟨hC.keep 13 _ (by decide) (Below.refl _ _), grown_of_below (Below.refl _ _) _, rfl⟩ | exact ⟨hC.keep 13 _ (by decide) (Below.refl _ _), grown_of_below (Below.refl _ _) _, by omega⟩ | (trace_state; fail)
            · refine FrontStep.of [13] _ rfl (by kernel_rfl) ?_
              intro vs LL wq hLL hC hf
              simp only [putL, List.foldl_nil, List.foldl_cons, List.getElem?_cons_zero, List.getElem?_cons_succ]
              have e13 : vs 13 = _ := hf 13 (by simp)
              rw [e13]
              have hcq := hC.1
              go_wp2_with fail
              first | exact ⟨hC.keep 14 _ (by decide) (Below.refl _ _), grown_of_below (Below.refl _ _) _⟩ | exact ⟨hC.keep 14 _ (by decide) (Below.refl _ _), grown_of_below (Below.refl _ _) _, rfl⟩ | exact ⟨hC.keep 14 _ (by decide) (Below.refl _ _), grown_of_below (Below.refl _ _) _, by omega⟩ | (trace_state; fail)
            · refine FrontStep.of [14] _ rfl (by kernel_rfl) ?_
              intro vs LL wq hLL hC hf
              simp only [putL, List.foldl_nil, List.foldl_cons, List.getElem?_cons_zero, List.getElem?_cons_succ]
              have e14 : vs 14 = _ := hf 14 (by simp)
              rw [e14]
              go_wp2_with fail
              first | exact ⟨hC.keep 15 _ (by decide) (Below.refl _ _), grown_of_below (Below.refl _ _) _⟩ | exact ⟨hC.keep 15 _ (by decide) (Below.refl _ _), grown_of_below (Below.refl _ _) _, rfl⟩ | exact ⟨hC.keep 15 _ (by decide) (Below.refl _ _), grown_of_below (Below.refl _ _) _, by omega⟩ | (trace_state; fail)
            · refine FrontStep.of [15] _ rfl (by kernel_rfl) ?_
              intro vs LL wq hLL hC hf
              simp only [putL, List.foldl_nil, List.foldl_cons, List.getElem?_cons_zero, List.getElem?_cons_succ]
              have e15 : vs 15 = _ := hf 15 (by simp)
              rw [e15]
              go_wp2_with fail
              first | exact ⟨hC.keep 16 _ (by decide) (Below.refl _ _), grown_of_below (Below.refl _ _) _⟩ | exact ⟨hC.keep 16 _ (by decide) (Below.refl _ _), grown_of_below (Below.refl _ _) _, rfl⟩ | exact ⟨hC.keep 16 _ (by decide) (Below.refl _ _), grown_of_below (Below.refl _ _) _, by omega⟩ | (trace_state; fail)
            · refine FrontStep.of [16] _ rfl (by kernel_rfl) ?_
              intro vs LL wq hLL hC hf
              simp only [putL, List.foldl_nil, List.foldl_cons, List.getElem?_cons_zero, List.getElem?_cons_succ]
              have e16 : vs 16 = _ := hf 16 (by simp)
              rw [e16]
              go_wp2_with fail
              first | exact ⟨hC.keep 17 _ (by decide) (Below.refl _ _), grown_of_below (Below.refl _ _) _⟩ | exact ⟨hC.keep 17 _ (by decide) (Below.refl _ _), grown_of_below (Below.refl _ _) _, rfl⟩ | exact ⟨hC.keep 17 _ (by decide) (Below.refl _ _), grown_of_below (Below.refl _ _) _, by omega⟩ | (trace_state; fail)
            · refine FrontStep.of [10, 17] _ rfl (by kernel_rfl) ?_
              intro vs LL wq hLL hC hf
              simp only [putL, List.foldl_nil, List.foldl_cons, List.getElem?_cons_zero, List.getElem?_cons_succ]
              have e10 : vs 10 = _ := hf 10 (by simp)
              rw [e10]
              have e17 : vs 17 = _ := hf 17 (by simp)
              rw [e17]
              go_wp2_with fail
              first | exact ⟨hC.keep 18 _ (by decide) (Below.refl _ _), grown_of_below (Below.refl _ _) _⟩ | exact ⟨hC.keep 18 _ (by decide) (Below.refl _ _), grown_of_below (Below.refl _ _) _, rfl⟩ | exact ⟨hC.keep 18 _ (by decide) (Below.refl _ _), grown_of_below (Below.refl _ _) _, by omega⟩ | (trace_state; fail)
            · refine FrontStep.of [18] _ rfl (by kernel_rfl) ?_
              intro vs LL wq hLL hC hf
              simp only [putL, List.foldl_nil, List.foldl_cons, List.getElem?_cons_zero, List.getElem?_cons_succ]
              have e18 : vs 18 = _ := hf 18 (by simp)
              rw [e18]
              go_wp2_with fail
              exact ⟨hC.keep 19 _ (by decide) ((Below.refl _ _).alloc (Nat.le_refl _) _), grown_of_below ((Below.refl _ _).alloc (Nat.le_refl _) _) _, (Array.getElem?_eq_some_iff.1 (heap_alloc_new _ _)).2, hC.2.1⟩
            · refine FrontStep.of [5, 19] _ rfl (by kernel_rfl) ?_
              intro vs LL wq hLL hC hf
              simp only [putL, List.foldl_nil, List.foldl_cons, List.getElem?_cons_zero, List.getElem?_cons_succ]
              have e5 : vs 5 = _ := hf 5 (by simp)
              rw [e5]
              obtain ⟨ba, e131, ha, hbV⟩ := hf 19 (by simp)
              rw [e131]
              have hbq := hC.2.2.1 hLL
              have hrq0 := ((unhide hrw2).below hbq).1
              rw [unhide hm2] at hrq0
              have hrq := hide hrq0
              clear hrq0
              have ha' := hide ha
              have hBq : V1.heap.size ≤ wq.heap.size := Nat.le_trans hBV hbq.size
              clear ha
              go_wp2_with (at_builtin; refine wpList_append_el Try.underlying54 info_pt rfl (by decide) (by decide) rfl _ _ rfl V1.heap.size _ m2 (pcells x2) rfl (unhide hrq) _ [.int .i64 (m2 : Int), .int .i64 1, .bool zz] rfl (unhide ha') rfl ?c2 ?c4 hBq ?_)
              case c2 => (intro u hu; simp at hu; rcases hu with rfl | rfl | rfl <;> rfl)
              case c4 => omega
              intro v' w5 hown5 hg5 hob5
              have hrw5 : Rw w5 V1.heap.size v' (x2 ++ [((m2 : Int), 1, zz)]) := (unhide happ) w5 v' hown5
              obtain ⟨av5, cv5, ev5, _⟩ := hrw5.lst
              replace ev5 : v' = .slice av5 (m2 + 1) cv5 := by rw [ev5, List.length_append, unhide hm2]; rfl
              have hkC := hC.app hLL v' hgob hrw5 hg5 hob5
              subst ev5
              clear hrq ha' hown5 hrw5
              replace hkC := hide hkC; replace hg5 := hide hg5
              go_wp2_with fail
              first | exact ⟨unhide hkC, unhide hg5, _, _, rfl⟩ | exact ⟨unhide hkC, unhide hg5⟩ | exact ⟨unhide hkC, unhide hg5, _, _, ⟨rfl, rfl⟩⟩ | (trace_state; fail)
          --END22
          · intro vs LL wq hLL hC hf
            obtain ⟨av5, cv5, e20⟩ := hf 20 (by omega)
            have e0 : vs 0 = _ := hf 0 (by omega)
            have e1 : vs 1 = _ := hf 1 (by omega)
            rw [putSome_all]
            simp only [putL, List.range, List.range.loop, List.foldl_nil, List.foldl_cons, List.getElem?_cons_zero, List.getElem?_cons_succ, List.drop_succ_cons, List.drop_zero]
            obtain ⟨_, hsz, _, hC4⟩ := hC
            obtain ⟨hrw5, hg5, hob5⟩ := hC4 (hLL 20 (by omega))
            rw [e20] at hrw5 hob5
            rw [e0, e1, e20]
            obtain ⟨z1, z2, z3⟩ := unhide hrep wq _ _ hg5 hrw5 hob5
            rw [List.set_set] at z3
            have hbz : Below w.heap.size w (wq.setCell ⟨ob, k, none⟩ (.slice av5 (m2 + 1) cv5)) := (((unhide hbw).grown hg5 (Nat.le_trans hwB hBV) (fun j hj => by injection hj with hj; omega))).setCell (p := ⟨ob, k, none⟩) (by show w.heap.size ≤ ob; omega) _
            obtain ⟨V9, hV9⟩ : ∃ V9, wq.setCell ⟨ob, k, none⟩ (.slice av5 (m2 + 1) cv5) = V9 := ⟨_, rfl⟩
            rw [hV9] at z3 hbz
            have hlz : lenV ((V9.cell? ⟨ob, k, none⟩).getD undef) = m2 + 1 := by
                obtain ⟨g9, c9, u9, hv9, _, _, hc9, _, hrw9⟩ := z3.ct (k := k) (c := x2 ++ [((m2 : Int), 1, zz)]) (List.getElem?_set_self (by rw [unhide hn]; exact hkn))
                have e9 := (Value.slice.inj hv9).1
                injection e9 with e9
                injection e9 with e9
                obtain ⟨a9, d9, ev9, _⟩ := hrw9.lst
                rw [e9, hc9, ev9, List.length_append, unhide hm2]
                rfl
            have hle : nx ≤ (x2 ++ [((m2 : Int), (1 : Int), zz)]).length ∧ (x2 ++ [((m2 : Int), (1 : Int), zz)]).length ≤ 66 := by rw [List.length_append, unhide hm2]; show nx ≤ m2 + 1 ∧ m2 + 1 ≤ 66; omega
            clear e0 e1 e20 hf hLL hC4 hrw5 hg5 hob5 hbw hrep hrw2 hoo hsz
            replace z3 := hide z3; replace hbz := hide hbz; replace hlz := hide hlz; replace hle := hide hle
            go_simp
            go_wp2_with fail
            go_roundw
            case rel => exact ⟨_, unhide z3, (unhide hle).1, (unhide hle).2, unhide hbz⟩
            case measure => rw [unhide hlz, unhide hlV]; omega
        · have t7 : ¬ (m2 : Int) < 60 + (i : Int) := by omega
          have hz := hide (hoo.mono hwB)
          clear hoo hrw2 hrep hlV
          replace hbw := hide hbw; replace hm2 := hide hm2
          go_wp2_with fail
          go_ret
          exact ⟨_, _, rfl, unhide hz, sml_set (unhide hso) k (by rw [unhide hm2]; omega), unhide hbw⟩
end Go.Proofs.Ytbodidhggdggmaa
