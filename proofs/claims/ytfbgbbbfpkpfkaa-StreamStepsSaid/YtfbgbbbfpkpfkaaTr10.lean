/- Streams: copied. -/
import Derived.Test.YtfbgbbbfpkpfkaaTr9
namespace Go.Proofs.Ytfbgbbbfpkpfkaa
open Go.RowKit
def Sep (u v : Value) : Prop := ∀ b, u.ownBlock = some b → v.ownBlock = some b → False
def PSep (w6 : World) (u v : Value) (wz : World) : Prop := Below w6.heap.size w6 wz ∧ Sep u v
theorem set2 {w : World} {b T : Nat} {x y : Value} (h : w.heap[b]? = some (.cells #[x, y] T (0, 0))) (u v : Value) : ((w.setCell ⟨b, 0, none⟩ u).setCell ⟨b, 1, none⟩ v).heap[b]? = some (.cells #[u, v] T (0, 0)) := by
  simp [World.setCell, Array.getElem?_modify, h]
theorem cells2 {w : World} {b T : Nat} {x y : Value} (h : w.heap[b]? = some (.cells #[x, y] T (0, 0))) : w.cell? ⟨b, 0, none⟩ = some x ∧ w.cell? ⟨b, 1, none⟩ = some y ∧ w.frozen? ⟨b, 0, none⟩ = false ∧ w.frozen? ⟨b, 1, none⟩ = false := by
  refine ⟨?_, ?_, ?_, ?_⟩ <;> simp [World.cell?, World.frozen?, h]
theorem Fam.push {w : World} {S : Nat → Prop} {vs : List Value} {ls : List (List Int)} (h : Fam w S vs ls) {u : Value} {l : List Int} (hu : View w S u l) (hs : ∀ (i : Nat) (v : Value), vs[i]? = some v → Sep v u) : Fam w S (vs ++ [u]) (ls ++ [l]) := by
  have hl := h.len
  have last : ∀ (i : Nat) (v : Value), (vs ++ [u])[i]? = some v → ¬ i < vs.length → i = vs.length ∧ v = u := fun i v hv hi => by
    rw [List.getElem?_append_right (by omega)] at hv
    have := (List.getElem?_eq_some_iff.1 hv).1
    simp at this
    have e : i - vs.length = 0 := by omega
    rw [e] at hv
    simp at hv
    exact ⟨by omega, hv.symm⟩
  refine ⟨by simp [hl], fun i v m hv hm => ?_, fun i j v v' b hv hv' hij h1 h2 => ?_⟩
  · by_cases hi : i < vs.length
    · rw [List.getElem?_append_left hi] at hv
      rw [List.getElem?_append_left (by omega)] at hm
      exact h.view i v m hv hm
    · obtain ⟨e1, e2⟩ := last i v hv hi
      subst e2
      rw [e1, hl, List.getElem?_append_right (Nat.le_refl _), Nat.sub_self] at hm
      simp at hm
      subst hm
      exact hu
  · by_cases hi : i < vs.length
    · rw [List.getElem?_append_left hi] at hv
      by_cases hj : j < vs.length
      · rw [List.getElem?_append_left hj] at hv'
        exact h.ap i j v v' b hv hv' hij h1 h2
      · obtain ⟨_, e2⟩ := last j v' hv' hj
        subst e2
        exact hs i v hv b h1 h2
    · obtain ⟨e1, e2⟩ := last i v hv hi
      subst e2
      by_cases hj : j < vs.length
      · rw [List.getElem?_append_left hj] at hv'
        exact hs j v' hv' b h2 h1
      · obtain ⟨e3, _⟩ := last j v' hv' hj
        omega
/-- a row of stages in the making -/
structure CpI (B bs n : Nat) (w W : World) (vs : List Value) (sts : List Stg) : Prop where
  bel : Below B w W
  row : W.heap[bs]? = some (.cells (vs ++ List.replicate ((n - sts.length) * 2) nilS).toArray 33 (0, 0))
  fam : Fam W (fun g => B ≤ g) vs (flatS sts)
  lo : B ≤ bs ∧ B ≤ w.heap.size
section
variable {B bs n : Nat} {w W wq : World} {vs : List Value} {sts : List Stg}
theorem CpI.vlen (h : CpI B bs n w W vs sts) : vs.length = sts.length * 2 := by rw [h.fam.len, flatS_len]
theorem CpI.cells (h : CpI B bs n w W vs sts) (hb : Below W.heap.size W wq) (hk : sts.length < n) : wq.cell? ⟨bs, sts.length * 2, none⟩ = some nilS ∧ wq.cell? ⟨bs, sts.length * 2 + 1, none⟩ = some nilS ∧ wq.frozen? ⟨bs, sts.length * 2, none⟩ = false ∧ wq.frozen? ⟨bs, sts.length * 2 + 1, none⟩ = false := by
  have hr := kept' hb h.row
  have hv := h.vlen
  refine ⟨?_, ?_, by simp [World.frozen?, hr], by simp [World.frozen?, hr]⟩
  · rw [cell_of_row wq bs _ _ _ _ hr]
    simp only [List.getElem?_toArray]
    rw [List.getElem?_append_right (by omega), List.getElem?_replicate, if_pos (by omega)]
  · rw [cell_of_row wq bs _ _ _ _ hr]
    simp only [List.getElem?_toArray]
    rw [List.getElem?_append_right (by omega), List.getElem?_replicate, if_pos (by omega)]
theorem CpI.push (h : CpI B bs n w W vs sts) (hb : Below W.heap.size W wq) {u1 u2 : Value} {s : Stg} (h1 : View wq (fun g => W.heap.size ≤ g) u1 s.1) (h2 : View wq (fun g => W.heap.size ≤ g) u2 s.2) (hs : Sep u1 u2) (hk : sts.length < n) :
    CpI B bs n w ((wq.setCell ⟨bs, sts.length * 2, none⟩ u1).setCell ⟨bs, sts.length * 2 + 1, none⟩ u2) (vs ++ [u1, u2]) (sts ++ [s]) := by
  have hv := h.vlen
  have hr := kept' hb h.row
  obtain ⟨lo1, lo2⟩ := h.lo
  have hsz : B ≤ W.heap.size := Nat.le_trans lo2 h.bel.size
  have oth : ∀ b, b ≠ bs → ((wq.setCell ⟨bs, sts.length * 2, none⟩ u1).setCell ⟨bs, sts.length * 2 + 1, none⟩ u2).heap[b]? = wq.heap[b]? := fun b hb => (Below.heap_setCell _ _ _ _ hb).trans (Below.heap_setCell _ _ _ _ hb)
  have old : ∀ (i : Nat) (v : Value), vs[i]? = some v → ∀ b, v.ownBlock = some b → b < W.heap.size := fun i v hi b hbv => by
    have hi' : i < (flatS sts).length := by rw [← h.fam.len]; exact (List.getElem?_eq_some_iff.1 hi).1
    exact ((h.fam.view i v _ hi (List.getElem?_eq_getElem hi')).blk hbv).2.1
  refine ⟨((h.bel.trans (hb.mono hsz)).setCell (p := ⟨bs, _, none⟩) lo1 _).setCell (p := ⟨bs, _, none⟩) lo1 _, ?_, ?_, lo1, lo2⟩
  · rw [heap_set (heap_set hr u1) u2]
    congr 2
    apply Array.toList_inj.1
    simp only [Array.toList_setIfInBounds, List.length_append, List.length_cons, List.length_nil]
    have e1 : ∀ R : List Value, (vs ++ R).set vs.length u1 = vs ++ R.set 0 u1 := fun R => by rw [List.set_append_right _ _ (Nat.le_refl _), Nat.sub_self]
    have e2 : ∀ R : List Value, (vs ++ R).set (vs.length + 1) u2 = vs ++ R.set 1 u2 := fun R => by rw [List.set_append_right _ _ (Nat.le_succ _), show vs.length.succ - vs.length = 1 by omega]
    rw [← hv, e1, e2, show (n - sts.length) * 2 = (n - (sts.length + (0 + 1))) * 2 + 1 + 1 by omega, List.replicate_succ, List.replicate_succ]
    simp
  · have f1 := ((h.fam.below hb).push (h1.wide (fun b hb' => Nat.le_trans hsz hb')) (fun i v hi b hb1 hb2 => by have := old i v hi b hb1; have := (h1.blk hb2).1; omega)).push (u := u2) (l := s.2) (h2.wide (fun b hb' => Nat.le_trans hsz hb')) (fun i v hi b hb1 hb2 => by
      by_cases hi' : i < vs.length
      · rw [List.getElem?_append_left hi'] at hi
        have := old i v hi b hb1
        have := (h2.blk hb2).1
        omega
      · rw [List.getElem?_append_right (by omega)] at hi
        have hlt := (List.getElem?_eq_some_iff.1 hi).1
        simp at hlt
        rw [show i - vs.length = 0 by omega] at hi
        simp at hi
        subst hi
        exact hs b hb1 hb2)
    rw [List.append_assoc, List.append_assoc] at f1
    rw [flatS_app]
    exact f1.same (fun b _ hc => oth b (fun e => by
      obtain ⟨cur, hc⟩ := hc
      rw [e, hr] at hc
      injection hc with hc
      injection hc with _ ht
      exact absurd ht (by decide)))
end
set_option maxRecDepth 100000 in
set_option maxHeartbeats 4000000 in
theorem copied_any (b0 : Nat) (v0 : Value) (sa : Option Addr) (n sc : Nat) (sts : List Stg) (w : World) (hb : w.heap[b0]? = some (.cells #[v0, .slice sa n sc] 68 (0, 0))) (hl : Lst Enc.stg w (fun b => b < w.heap.size) sa n sts) (hn : n ≤ 1000000) (hbd : ∀ s ∈ sts, s.1.length ≤ 300000 ∧ s.2.length ≤ 300000) :
    Calls Try.prog 53 #[.pointer (some ⟨b0, 0, none⟩)] w fun e w' => ∃ bs vs, e = .returned (.slice (some ⟨bs, 0, none⟩) n n) ∧ w'.heap[bs]? = some (.cells vs.toArray 33 (0, 0)) ∧ w.heap.size ≤ bs ∧ Fam w' (fun g => w.heap.size ≤ g) vs (flatS sts) ∧ Below w.heap.size w w' := by
  have hll := hl.1
  have c0 : w.cell? ⟨b0, 1, none⟩ = some (.slice sa n sc) := by rw [cell_of_row w b0 _ _ _ _ hb]; rfl
  have hmk := make_stages n hn w
  have hst : CpI w.heap.size w.heap.size n w (w.alloc (.cells (List.replicate (n * 2) nilS).toArray 33)) [] [] := ⟨(Below.refl _ _).alloc (Nat.le_refl _) _, by rw [heap_alloc_new]; simp, Fam.nil _ _, Nat.le_refl _, Nat.le_refl _⟩
  have c1 := cell_under c0 ((Below.refl w.heap.size w).alloc (Nat.le_refl _) (.cells (List.replicate (n * 2) nilS).toArray 33))
  obtain ⟨bs, hbs⟩ : ∃ b, w.heap.size = b := ⟨_, rfl⟩
  obtain ⟨w1, hw1⟩ : ∃ W, w.alloc (.cells (List.replicate (n * 2) nilS).toArray 33) = W := ⟨_, rfl⟩
  rw [hw1] at hmk hst c1
  obtain ⟨B, hB⟩ : ∃ B, w.heap.size = B := ⟨_, rfl⟩
  have hst2 : CpI B bs n w w1 [] [] := by rw [← hB, ← hbs]; exact hst
  rw [hbs] at hmk
  clear hst hw1
  replace hst2 := hide hst2; replace hbs := hide hbs; replace hB := hide hB; replace hl := hide hl; replace hll := hide hll; replace hbd := hide hbd
  go_enter Try.func53, Try.ntmps53
  go_wp2_with fail
  clear c0 c1 hmk
  go_loopw [17] (fun v wr => ∃ (k : Nat) (vs : List Value), k ≤ n ∧ v = .int .i64 (k : Int) ∧ CpI B bs n w wr vs (sts.take k)) (fun v _ => n - (intOf v).toNat)
  case atStart => exact ⟨0, [], by omega, rfl, unhide hst2⟩
  case round =>
    obtain ⟨k, vs, hk, rfl, hI⟩ := hrel
    obtain ⟨wo, rfl⟩ : ∃ W : World, W = wr := ⟨_, rfl⟩
    by_cases hlt : k < n
    · have hlo := (unhide hl).below (by rw [unhide hB]; exact hI.bel)
      rw [unhide hB] at hlo
      obtain ⟨gs, os, s, a1, n1, c1, a2, n2, c2, rfl, _, hs, ⟨_, _, p1⟩, ⟨_, _, p2⟩, d1, d2⟩ := lst_stg hlo hlt
      have hbs2 := unhide hbd s (List.mem_of_getElem? hs)
      have q1 := p1.1
      have q2 := p2.1
      have hBW : B ≤ wo.heap.size := Nat.le_trans hI.lo.2 hI.bel.size
      have M1 := hide (p1.wide (S' := fun b => b < wo.heap.size) (fun b hb => Nat.lt_of_lt_of_le hb hBW))
      have M2 := hide (p2.wide (S' := fun b => b < wo.heap.size) (fun b hb => Nat.lt_of_lt_of_le hb hBW))
      have htk : Hid (sts.take k ++ [s] = sts.take (k + 1)) := hide (take_snoc hs)
      have hlen : Hid ((sts.take k).length = k) := hide (by rw [List.length_take]; have := unhide hll; omega)
      have i1 : (0 : Int) ≤ (k : Int) := by omega
      have i2 : (k : Int) < (n : Int) := by omega
      have hn1 : n1 ≤ 1000000 := by omega
      have hn2 : n2 ≤ 1000000 := by omega
      have g1 : (k : Int) < (n : Int) := i2
      clear p1 p2 hlo q1 q2 hs hbs2
      obtain ⟨b5x, W6, hb5, hW6, st⟩ := (St.start wo).new (Obj.cells #[.slice a1 n1 c1, .slice a2 n2 c2] 33)
      have hb6 := hide st.below
      have hr6 := hide (st.get 0 rfl)
      clear st
      replace hb5 := hide hb5; replace hW6 := hide hW6
      go_upto_region 5 with fail
      rw [unhide hW6]
      try rw [unhide hb5]
      clear hb5 hW6 d1 d2
      obtain ⟨b5, rfl⟩ : ∃ b : Nat, b = b5x := ⟨_, rfl⟩
      obtain ⟨w6, rfl⟩ : ∃ W : World, W = W6 := ⟨_, rfl⟩
      obtain ⟨g3, g4, _, _⟩ := cells2 (unhide hr6)
      have L1 := hide ((unhide M1).under (unhide hb6))
      have L2 := hide ((unhide M2).under (unhide hb6))
      clear M1 M2 hr6
      refine wp_region_frontG 9 (fun LL vs w' => CB 7 [4] (fun wz => Below w6.heap.size w6 wz) (fun vs wz => PSep w6 (vs 4) (vs 7) wz) LL vs w') (fun wa wb => Below wa.heap.size wa wb)
        (fun ix v w' => match ix with
          | 0 => v = .slice (some ⟨bs, 0, none⟩) n n
          | 1 => v = .int .i64 (k : Int)
          | 2 => v = .pointer (some ⟨b5, 0, none⟩)
          | 3 => v = .slice a1 n1 c1
          | 4 => View w' (fun g => w6.heap.size ≤ g) v s.1 ∧ v ≠ undef
          | 5 => v = .pointer (some ⟨b5, 1, none⟩)
          | 6 => v = .slice a2 n2 c2
          | 7 => View w' (fun g => w6.heap.size ≤ g) v s.2 ∧ v ≠ undef
          | 8 => ∃ u1 u2, v = .agg #[u1, u2] ∧ View w' (fun g => w6.heap.size ≤ g) u1 s.1 ∧ View w' (fun g => w6.heap.size ≤ g) u2 s.2 ∧ Sep u1 u2
          | _ => True) (by rfl) (by kernel_rfl) ?_ ?_ ?_ ?_
      · exact CB.start 7 [4] _ (Below.refl _ _).drew
      · intro wa wb hR ix v hv
        match ix, hv with
        | 0, h => exact h
        | 1, h => exact h
        | 2, h => exact h
        | 3, h => exact h
        | 4, h => exact ⟨h.1.same (fun b hb => hR.block b (h.1.blk hb).2.1), h.2⟩
        | 5, h => exact h
        | 6, h => exact h
        | 7, h => exact ⟨h.1.same (fun b hb => hR.block b (h.1.blk hb).2.1), h.2⟩
        | 8, h => obtain ⟨u1, u2, h1, h2, h3, h4⟩ := h; exact ⟨u1, u2, h1, h2.same (fun b hb => hR.block b (h2.blk hb).2.1), h3.same (fun b hb => hR.block b (h3.blk hb).2.1), h4⟩
        | _ + 9, _ => trivial
      · intro ix hix
        obtain rfl | rfl | rfl | rfl | rfl | rfl | rfl | rfl | rfl : ix = 0 ∨ ix = 1 ∨ ix = 2 ∨ ix = 3 ∨ ix = 4 ∨ ix = 5 ∨ ix = 6 ∨ ix = 7 ∨ ix = 8 := by omega
        · refine FrontStep.of [] _ rfl (by kernel_rfl) ?_
          intro vs LL wq hLL hC hf
          simp only [putL, List.foldl_nil]
          have hkp := fun v => hC.keep 0 v hLL (by decide) (fun vs vs' e h => by rw [← e 4 (by simp), ← e 7 (by simp)]; exact h)
          replace hkp := hide hkp
          clear hC
          go_wp2_with fail
          first | exact unhide hkp _ | exact ⟨unhide hkp _, Below.refl _ _⟩ | exact ⟨unhide hkp _, Below.refl _ _, by omega⟩ | trace_state
        · refine FrontStep.of [] _ rfl (by kernel_rfl) ?_
          intro vs LL wq hLL hC hf
          simp only [putL, List.foldl_nil]
          have hkp := fun v => hC.keep 1 v hLL (by decide) (fun vs vs' e h => by rw [← e 4 (by simp), ← e 7 (by simp)]; exact h)
          replace hkp := hide hkp
          clear hC
          go_wp2_with fail
          first | exact unhide hkp _ | exact ⟨unhide hkp _, Below.refl _ _⟩ | exact ⟨unhide hkp _, Below.refl _ _, by omega⟩ | trace_state
        · refine FrontStep.of [] _ rfl (by kernel_rfl) ?_
          intro vs LL wq hLL hC hf
          simp only [putL, List.foldl_nil]
          have hkp := fun v => hC.keep 2 v hLL (by decide) (fun vs vs' e h => by rw [← e 4 (by simp), ← e 7 (by simp)]; exact h)
          replace hkp := hide hkp
          clear hC
          go_wp2_with fail
          first | exact unhide hkp _ | exact ⟨unhide hkp _, Below.refl _ _⟩ | exact ⟨unhide hkp _, Below.refl _ _, by omega⟩ | trace_state
        · refine FrontStep.of [2] _ rfl (by kernel_rfl) ?_
          intro vs LL wq hLL hC hf
          simp only [putL, List.foldl_nil, List.foldl_cons, List.getElem?_cons_zero, List.getElem?_cons_succ]
          have y2 : vs 2 = _ := hf 2 (by simp)
          try rw [y2]
          have hB : Below w6.heap.size w6 wq := by cases e : LL 7 with | false => exact hC.pre e | true => exact (hC.post e).1
          have g0 := cell_under g3 hB
          have hkp := fun v => hC.keep 3 v hLL (by decide) (fun vs vs' e h => by rw [← e 4 (by simp), ← e 7 (by simp)]; exact h)
          replace hkp := hide hkp
          clear hC
          go_wp2_with fail
          first | exact unhide hkp _ | exact ⟨unhide hkp _, Below.refl _ _⟩ | exact ⟨unhide hkp _, Below.refl _ _, by omega⟩ | trace_state
        · refine FrontStep.of [3] _ rfl (by kernel_rfl) ?_
          intro vs LL wq hLL hC hf
          simp only [putL, List.foldl_nil, List.foldl_cons, List.getElem?_cons_zero, List.getElem?_cons_succ]
          have y3 : vs 3 = _ := hf 3 (by simp)
          try rw [y3]
          have hs7 := (hC.early hLL (by simp)).1
          have hP := (hC.early hLL (by simp)).2
          have hcl := clone_any a1 n1 c1 s.1 wq ((unhide L1).under hP) (by omega)
          have hnx := fun v (w2 : World) (hb : Below w6.heap.size w6 w2) => hC.call (w2 := w2) 4 v hs7 (by decide) hb
          clear hC hs7
          replace hcl := hide hcl; replace hnx := hide hnx
          replace hP := hide hP
          go_wp2_with fail
          refine (unhide hcl).mono ?_
          rintro e wz ⟨v, rfl, hown, hbz⟩
          have hV := (own_view hown).wide (S' := fun g => w6.heap.size ≤ g) (fun b hb => Nat.le_trans (unhide hP).size hb)
          obtain ⟨sa, sc, hsv⟩ := own_shape hown
          have hvd : v ≠ undef := by rw [hsv]; exact slice_def _ _ _
          have hbb := (unhide hP).trans (hbz.mono (unhide hP).size)
          have hfin := unhide hnx v wz hbb
          clear hcl hnx hown hsv hbb
          replace hfin := hide hfin; replace hbz := hide hbz; replace hV := hide hV; replace hvd := hide hvd
          go_wp2_with fail
          first | exact ⟨unhide hfin, unhide hbz, unhide hV, unhide hvd⟩ | exact ⟨v, rfl, unhide hfin, unhide hbz, unhide hV, unhide hvd⟩ | trace_state
        · refine FrontStep.of [] _ rfl (by kernel_rfl) ?_
          intro vs LL wq hLL hC hf
          simp only [putL, List.foldl_nil]
          have hkp := fun v => hC.keep 5 v hLL (by decide) (fun vs vs' e h => by rw [← e 4 (by simp), ← e 7 (by simp)]; exact h)
          replace hkp := hide hkp
          clear hC
          go_wp2_with fail
          first | exact unhide hkp _ | exact ⟨unhide hkp _, Below.refl _ _⟩ | exact ⟨unhide hkp _, Below.refl _ _, by omega⟩ | trace_state
        · refine FrontStep.of [5] _ rfl (by kernel_rfl) ?_
          intro vs LL wq hLL hC hf
          simp only [putL, List.foldl_nil, List.foldl_cons, List.getElem?_cons_zero, List.getElem?_cons_succ]
          have y5 : vs 5 = _ := hf 5 (by simp)
          try rw [y5]
          have hB : Below w6.heap.size w6 wq := by cases e : LL 7 with | false => exact hC.pre e | true => exact (hC.post e).1
          have g0 := cell_under g4 hB
          have hkp := fun v => hC.keep 6 v hLL (by decide) (fun vs vs' e h => by rw [← e 4 (by simp), ← e 7 (by simp)]; exact h)
          replace hkp := hide hkp
          clear hC
          go_wp2_with fail
          first | exact unhide hkp _ | exact ⟨unhide hkp _, Below.refl _ _⟩ | exact ⟨unhide hkp _, Below.refl _ _, by omega⟩ | trace_state
        · refine FrontStep.of [4, 6] _ rfl (by kernel_rfl) ?_
          intro vs LL wq hLL hC hf
          simp only [putL, List.foldl_nil, List.foldl_cons, List.getElem?_cons_zero, List.getElem?_cons_succ]
          have y4 := hf 4 (by simp)
          have y6 : vs 6 = _ := hf 6 (by simp)
          try rw [y6]
          have hP := hC.pre hLL
          have hu := y4.1
          have hud := y4.2
          have hcl := clone_any a2 n2 c2 s.2 wq ((unhide L2).under hP) (by omega)
          have hnx := fun v (w2 : World) (hb : PSep w6 (vs 4) v w2) => hC.run (w2 := w2) v (fun j hj => by simp at hj; subst hj; exact hud) hb
          clear hC y4 hud
          replace hcl := hide hcl; replace hnx := hide hnx
          replace hu := hide hu
          replace hP := hide hP
          go_wp2_with fail
          refine (unhide hcl).mono ?_
          rintro e wz ⟨v, rfl, hown, hbz⟩
          have hV := (own_view hown).wide (S' := fun g => w6.heap.size ≤ g) (fun b hb => Nat.le_trans (unhide hP).size hb)
          obtain ⟨sa, sc, hsv⟩ := own_shape hown
          have hvd : v ≠ undef := by rw [hsv]; exact slice_def _ _ _
          have hbb := (unhide hP).trans (hbz.mono (unhide hP).size)
          have hfin := unhide hnx v wz ⟨hbb, fun b h1 h2 => by have := ((unhide hu).blk h1).2.1; have := (hown.lt b h2).1; omega⟩
          clear hcl hnx hown hsv hbb
          replace hfin := hide hfin; replace hbz := hide hbz; replace hV := hide hV; replace hvd := hide hvd
          go_wp2_with fail
          first | exact ⟨unhide hfin, unhide hbz, unhide hV, unhide hvd⟩ | exact ⟨v, rfl, unhide hfin, unhide hbz, unhide hV, unhide hvd⟩ | trace_state
        · refine FrontStep.of [4, 7] _ rfl (by kernel_rfl) ?_
          intro vs LL wq hLL hC hf
          simp only [putL, List.foldl_nil, List.foldl_cons, List.getElem?_cons_zero, List.getElem?_cons_succ]
          have y4 := hf 4 (by simp)
          have y7 := hf 7 (by simp)
          have h7 := hC.ran y7.2
          have hsp := (hC.post h7).2
          have hkp := fun v => hC.keep 8 v hLL (by decide) (fun vs vs' e h => by rw [← e 4 (by simp), ← e 7 (by simp)]; exact h)
          have hall : ∃ u1 u2, Value.agg #[vs 4, vs 7] = .agg #[u1, u2] ∧ View wq (fun g => w6.heap.size ≤ g) u1 s.1 ∧ View wq (fun g => w6.heap.size ≤ g) u2 s.2 ∧ Sep u1 u2 := ⟨_, _, rfl, y4.1, y7.1, hsp⟩
          obtain ⟨q4, e4⟩ : ∃ q, vs 4 = q := ⟨_, rfl⟩
          obtain ⟨q7, e7⟩ : ∃ q, vs 7 = q := ⟨_, rfl⟩
          obtain ⟨x4, z4, hx4, _⟩ := y4.1.shape
          obtain ⟨x7, z7, hx7, _⟩ := y7.1.shape
          rw [e4] at hx4
          rw [e7] at hx7
          rw [hx4] at e4
          rw [hx7] at e7
          have W4 := y4.1
          have W7 := y7.1
          rw [e4] at W4 hsp
          rw [e7] at W7 hsp
          rw [e4, e7]
          clear hC h7 y4 y7 hx4 hx7 hall
          replace hkp := hide hkp; replace W4 := hide W4; replace W7 := hide W7; replace hsp := hide hsp
          go_wp2_with fail
          first | exact ⟨unhide hkp _, Below.refl _ _, _, _, ⟨rfl, rfl⟩, unhide W4, unhide W7, unhide hsp⟩ | exact ⟨unhide hkp _, Below.refl _ _, _, _, rfl, unhide W4, unhide W7, unhide hsp⟩ | trace_state
      · intro vs LL wq hLL hC hf
        obtain ⟨u1, u2, e8, U1, U2, hsp⟩ := hf 8 (by omega)
        have e0 : vs 0 = _ := hf 0 (by omega)
        have e1 : vs 1 = _ := hf 1 (by omega)
        have hB := (hC.post (hLL 7 (by omega))).1
        obtain ⟨x4, z4, hx4, _⟩ := U1.shape
        obtain ⟨x7, z7, hx7, _⟩ := U2.shape
        rw [putSome_all]
        simp only [putL, List.range, List.range.loop, List.foldl_nil, List.foldl_cons, List.getElem?_cons_zero, List.getElem?_cons_succ, List.drop_succ_cons, List.drop_zero]
        rw [e0, e1, e8]
        have hpu := hI.push ((unhide hb6).trans (hB.mono (unhide hb6).size)) (U1.wide (fun b hb => Nat.le_trans (unhide hb6).size hb)) (U2.wide (fun b hb => Nat.le_trans (unhide hb6).size hb)) hsp (by rw [unhide hlen]; omega)
        rw [unhide hlen] at hpu
        have hbw := (unhide hb6).trans (hB.mono (unhide hb6).size)
        obtain ⟨r1, r2, r3, r4⟩ := hI.cells hbw (by rw [unhide hlen]; omega)
        rw [unhide hlen] at r1 r2 r3 r4
        have r5 : (wq.setCell ⟨bs, k * 2, none⟩ u1).cell? ⟨bs, k * 2 + 1, none⟩ = some nilS := by rw [World.cell?_setCell_other _ _ _ _ (by intro e; injection e with _ e; omega)]; exact r2
        have r6 : (wq.setCell ⟨bs, k * 2, none⟩ u1).frozen? ⟨bs, k * 2 + 1, none⟩ = false := by rw [World.frozen?_setCell]; exact r4
        rw [hx4] at r5 r6 hpu
        rw [hx7] at hpu
        rw [hx4, hx7]
        obtain ⟨W7, hW7⟩ : ∃ W, (wq.setCell ⟨bs, k * 2, none⟩ (.slice x4 s.1.length z4)).setCell ⟨bs, k * 2 + 1, none⟩ (.slice x7 s.2.length z7) = W := ⟨_, rfl⟩
        rw [hW7] at hpu
        clear hf hLL hC e8 e0 e1 U1 U2 hB hsp hx4 hx7 hbw g3 g4
        replace hW7 := hide hW7; replace hpu := hide hpu
        generalize s.1.length = m1 at *
        generalize s.2.length = m2 at *
        go_simp
        go_wp2_with fail
        rw [unhide hW7]
        clear hW7 r1 r2 r3 r4 r5 r6
        go_roundw
        case rel => exact ⟨k + 1, _, by omega, by go_num, by rw [← unhide htk]; exact unhide hpu⟩
        case measure => simp [intOf]; omega
    · have hfin : sts.take k = sts := List.take_of_length_le (by rw [unhide hll]; omega)
      rw [hfin] at hI
      have hrow := hI.row
      have hl0 : (n - sts.length) * 2 = 0 := by rw [unhide hll]; omega
      rw [hl0, List.replicate_zero, List.append_nil] at hrow
      have hI2 := hide hI
      replace hrow := hide hrow
      clear hI
      go_wp2_with fail
      go_ret
      have hI3 := unhide hI2
      refine ⟨bs, vs, rfl, unhide hrow, ?_, ?_, ?_⟩
      · rw [unhide hB]; exact hI3.lo.1
      · rw [unhide hB]; exact hI3.fam
      · rw [unhide hB]; exact hI3.bel
end Go.Proofs.Ytfbgbbbfpkpfkaa
