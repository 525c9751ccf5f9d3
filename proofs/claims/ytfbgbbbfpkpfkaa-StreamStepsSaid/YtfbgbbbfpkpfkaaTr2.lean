/- Streams: a state in memory. -/
import Derived.Test.YtfbgbbbfpkpfkaaTr1
namespace Go.Proofs.Ytfbgbbbfpkpfkaa
open Go.RowKit
def flatS (sts : List Stg) : List (List Int) := sts.flatMap fun s => [s.1, s.2]
theorem flatS_len (sts : List Stg) : (flatS sts).length = sts.length * 2 := by
  unfold flatS
  induction sts with
  | nil => rfl
  | cons s sts ih => simp only [List.flatMap_cons, List.length_append, List.length_cons, List.length_nil, ih]; omega
theorem flatS_cons (s : Stg) (sts : List Stg) : flatS (s :: sts) = s.1 :: s.2 :: flatS sts := rfl
theorem flatS_app (a b : List Stg) : flatS (a ++ b) = flatS a ++ flatS b := by unfold flatS; simp
theorem flatS_get1 (pre ss : List Stg) (s : Stg) : (flatS (pre ++ s :: ss))[pre.length * 2]? = some s.1 := by
  rw [flatS_app, List.getElem?_append_right (by rw [flatS_len]; omega), flatS_len, Nat.sub_self, flatS_cons]
  rfl
theorem flatS_get2 (pre ss : List Stg) (s : Stg) : (flatS (pre ++ s :: ss))[pre.length * 2 + 1]? = some s.2 := by
  rw [flatS_app, List.getElem?_append_right (by rw [flatS_len]; omega), flatS_len, show pre.length * 2 + 1 - pre.length * 2 = 1 by omega, flatS_cons]
  rfl
theorem flatS_set1 (pre ss : List Stg) (s : Stg) (b : List Int) : flatS (pre ++ (b, s.2) :: ss) = (flatS (pre ++ s :: ss)).set (pre.length * 2) b := by
  rw [flatS_app, flatS_app, List.set_append_right _ _ (by rw [flatS_len]; omega), flatS_len, Nat.sub_self, flatS_cons, flatS_cons]
  rfl
theorem flatS_set2 (pre ss : List Stg) (s : Stg) (b : List Int) : flatS (pre ++ (s.1, b) :: ss) = (flatS (pre ++ s :: ss)).set (pre.length * 2 + 1) b := by
  rw [flatS_app, flatS_app, List.set_append_right _ _ (by rw [flatS_len]; omega), flatS_len, show pre.length * 2 + 1 - pre.length * 2 = 1 by omega, flatS_cons, flatS_cons]
  rfl
theorem flatS_set2' {pre ss : List Stg} {k : Nat} (hk : pre.length = k) {s : Stg} {b : List Int} : flatS (pre ++ (s.1, b) :: ss) = (flatS (pre ++ s :: ss)).set (k * 2 + 1) b := by
  rw [flatS_set2, hk]

/-- What is protected stays. -/
structure Keeps (Q : Nat → Prop) (w w' : World) : Prop where
  os : w'.os = w.os
  tape : w'.tape = w.tape
  output : w'.output = w.output
  size : w.heap.size ≤ w'.heap.size
  block : ∀ b, Q b → w'.heap[b]? = w.heap[b]?
theorem Keeps.refl (Q : Nat → Prop) (w : World) : Keeps Q w w := ⟨rfl, rfl, rfl, Nat.le_refl _, fun _ _ => rfl⟩
theorem Keeps.trans {Q : Nat → Prop} {a b c : World} (h : Keeps Q a b) (k : Keeps Q b c) : Keeps Q a c := ⟨k.os.trans h.os, k.tape.trans h.tape, k.output.trans h.output, Nat.le_trans h.size k.size, fun x hx => (k.block x hx).trans (h.block x hx)⟩
theorem Keeps.of_below {Q : Nat → Prop} {w w' : World} (h : Below w.heap.size w w') (hq : ∀ b, Q b → b < w.heap.size) : Keeps Q w w' := ⟨h.os, h.tape, h.output, h.size, fun b hb => h.block b (hq b hb)⟩
theorem Keeps.sub {Q Q' : Nat → Prop} {w w' : World} (h : Keeps Q w w') (hq : ∀ b, Q' b → Q b) : Keeps Q' w w' := ⟨h.os, h.tape, h.output, h.size, fun b hb => h.block b (hq b hb)⟩
theorem Keeps.below {B : Nat} {w w' : World} (h : Keeps (· < B) w w') : Below B w w' := ⟨h.os, h.tape, h.output, h.size, fun b hb => h.block b hb⟩

/-- A state: the stages' row at bs, the results' box at bo; what is protected (Q) holds none of it. -/
structure FlowI (Q : Nat → Prop) (bs bo : Nat) (w : World) (vs : List Value) (vo : Value) (sts : List Stg) (out : List Int) : Prop where
  row : w.heap[bs]? = some (.cells vs.toArray 33 (0, 0))
  box : w.heap[bo]? = some (.cells #[vo] 22 (0, 0))
  qs : ¬ Q bs
  qo : ¬ Q bo
  lt : ∀ b, Q b → b < w.heap.size
  fam : Fam w (fun g => ¬ Q g) (vo :: vs) (out :: flatS sts)
  num : ∀ s ∈ sts, AllI s.1 ∧ AllI s.2
  numo : AllI out
section
variable {Q : Nat → Prop} {bs bo : Nat} {w w' w1 : World} {vs : List Value} {vo : Value} {sts : List Stg} {out : List Int}
theorem FlowI.under (h : FlowI Q bs bo w vs vo sts out) (hb : Below w.heap.size w w') : FlowI Q bs bo w' vs vo sts out :=
  ⟨(hb.block bs (Array.getElem?_eq_some_iff.1 h.row).1).trans h.row, (hb.block bo (Array.getElem?_eq_some_iff.1 h.box).1).trans h.box, h.qs, h.qo, fun b hq => Nat.lt_of_lt_of_le (h.lt b hq) hb.size, h.fam.below hb, h.num, h.numo⟩
theorem FlowI.keeps (h : FlowI Q bs bo w vs vo sts out) (hb : Below w.heap.size w w') : Keeps Q w w' := Keeps.of_below hb h.lt
theorem FlowI.vlen (h : FlowI Q bs bo w vs vo sts out) : vs.length = sts.length * 2 := by
  have := h.fam.len
  simp only [List.length_cons, flatS_len] at this
  omega
theorem FlowI.new (h : FlowI Q bs bo w vs vo sts out) : ¬ Q w.heap.size := fun hq => Nat.lt_irrefl _ (h.lt _ hq)
theorem FlowI.ne_row (h : FlowI Q bs bo w vs vo sts out) {i : Nat} {v : Value} (hv : (vo :: vs)[i]? = some v) : v.ownBlock ≠ some bs ∧ v.ownBlock ≠ some bo := by
  have hi : i < (out :: flatS sts).length := by rw [← h.fam.len]; exact (List.getElem?_eq_some_iff.1 hv).1
  have hw := h.fam.view i v _ hv (List.getElem?_eq_getElem hi)
  constructor
  · intro e
    obtain ⟨_, _, cur, hc⟩ := hw.blk e
    rw [h.row] at hc
    injection hc with hc
    injection hc with _ ht
    exact absurd ht (by decide)
  · intro e
    obtain ⟨_, _, cur, hc⟩ := hw.blk e
    rw [h.box] at hc
    injection hc with hc
    injection hc with _ ht
    exact absurd ht (by decide)
theorem FlowI.bne (h : FlowI Q bs bo w vs vo sts out) : bs ≠ bo := by
  intro e
  have h1 := h.row
  have h2 := h.box
  rw [e, h2] at h1
  injection h1 with h1
  injection h1 with _ ht
  exact absurd ht (by decide)
/-- one of the stages' slices has turned -/
theorem FlowI.put (h : FlowI Q bs bo w vs vo sts out) {i : Nat} {v v' : Value} {l' : List Int} {sts' : List Stg} (hv : vs[i]? = some v) (hg : w.grownBy w1 v.ownBlock) (hv' : View w1 (fun g => ¬ Q g) v' l') (ho : v'.ownBlock = v.ownBlock ∨ v'.ownBlock = some w.heap.size)
    (hs : flatS sts' = (flatS sts).set i l') (hn : ∀ s ∈ sts', AllI s.1 ∧ AllI s.2) : FlowI Q bs bo (w1.setCell ⟨bs, i, none⟩ v') (vs.set i v') vo sts' out ∧ Keeps Q w (w1.setCell ⟨bs, i, none⟩ v') := by
  have hvi : (vo :: vs)[i + 1]? = some v := by simpa using hv
  obtain ⟨n1, n2⟩ := h.ne_row hvi
  have hrow : w1.heap[bs]? = some (.cells vs.toArray 33 (0, 0)) := (hg.block bs (Array.getElem?_eq_some_iff.1 h.row).1 (fun e => n1 e.symm)).trans h.row
  have hbox : w1.heap[bo]? = some (.cells #[vo] 22 (0, 0)) := (hg.block bo (Array.getElem?_eq_some_iff.1 h.box).1 (fun e => n2 e.symm)).trans h.box
  have hfam := h.fam.set hvi hg hv' ho
  rw [List.set_cons_succ, List.set_cons_succ, ← hs] at hfam
  have hqv : ∀ b, Q b → w1.heap[b]? = w.heap[b]? := fun b hb => hg.block b (h.lt b hb) (fun e => by
    have hi : i + 1 < (out :: flatS sts).length := by rw [← h.fam.len]; exact (List.getElem?_eq_some_iff.1 hvi).1
    exact ((h.fam.view _ v _ hvi (List.getElem?_eq_getElem hi)).blk e.symm).1 hb)
  have hset : ∀ b, b ≠ bs → (w1.setCell ⟨bs, i, none⟩ v').heap[b]? = w1.heap[b]? := fun b hb => Below.heap_setCell _ _ _ _ hb
  have hsz : (w1.setCell ⟨bs, i, none⟩ v').heap.size = w1.heap.size := by simp [World.setCell]
  refine ⟨⟨?_, (hset bo (fun e => h.bne e.symm)).trans hbox, h.qs, h.qo, fun b hb => ?_, hfam.same (fun b _ hc => hset b (fun e => ?_)), hn, h.numo⟩, ⟨hg.os, hg.tape, hg.output, ?_, fun b hb => (hset b (fun e => h.qs (e ▸ hb))).trans (hqv b hb)⟩⟩
  · rw [heap_set hrow v']
    simp
  · rw [hsz]
    exact Nat.lt_of_lt_of_le (h.lt b hb) hg.size
  · obtain ⟨cur, hc⟩ := hc
    rw [e, hrow] at hc
    injection hc with hc
    injection hc with _ ht
    exact absurd ht (by decide)
  · rw [hsz]
    exact hg.size
/-- the results' slice has turned -/
theorem FlowI.pout (h : FlowI Q bs bo w vs vo sts out) {v' : Value} {l' : List Int} (hg : w.grownBy w1 vo.ownBlock) (hv' : View w1 (fun g => ¬ Q g) v' l') (ho : v'.ownBlock = vo.ownBlock ∨ v'.ownBlock = some w.heap.size) (hn : AllI l') :
    FlowI Q bs bo (w1.setCell ⟨bo, 0, none⟩ v') vs v' sts l' ∧ Keeps Q w (w1.setCell ⟨bo, 0, none⟩ v') := by
  have hvi : (vo :: vs)[0]? = some vo := rfl
  obtain ⟨n1, n2⟩ := h.ne_row hvi
  have hrow : w1.heap[bs]? = some (.cells vs.toArray 33 (0, 0)) := (hg.block bs (Array.getElem?_eq_some_iff.1 h.row).1 (fun e => n1 e.symm)).trans h.row
  have hbox : w1.heap[bo]? = some (.cells #[vo] 22 (0, 0)) := (hg.block bo (Array.getElem?_eq_some_iff.1 h.box).1 (fun e => n2 e.symm)).trans h.box
  have hfam := h.fam.set hvi hg hv' ho
  rw [List.set_cons_zero, List.set_cons_zero] at hfam
  have hqv : ∀ b, Q b → w1.heap[b]? = w.heap[b]? := fun b hb => hg.block b (h.lt b hb) (fun e => ((h.fam.view 0 vo out hvi rfl).blk e.symm).1 hb)
  have hset : ∀ b, b ≠ bo → (w1.setCell ⟨bo, 0, none⟩ v').heap[b]? = w1.heap[b]? := fun b hb => Below.heap_setCell _ _ _ _ hb
  have hsz : (w1.setCell ⟨bo, 0, none⟩ v').heap.size = w1.heap.size := by simp [World.setCell]
  refine ⟨⟨(hset bs h.bne).trans hrow, ?_, h.qs, h.qo, fun b hb => ?_, hfam.same (fun b _ hc => hset b (fun e => ?_)), h.num, hn⟩, ⟨hg.os, hg.tape, hg.output, ?_, fun b hb => (hset b (fun e => h.qo (e ▸ hb))).trans (hqv b hb)⟩⟩
  · rw [heap_set hbox v']
    simp
  · rw [hsz]
    exact Nat.lt_of_lt_of_le (h.lt b hb) hg.size
  · obtain ⟨cur, hc⟩ := hc
    rw [e, hbox] at hc
    injection hc with hc
    injection hc with _ ht
    exact absurd ht (by decide)
  · rw [hsz]
    exact hg.size
/-- a stage's slices -/
theorem FlowI.stage {pre ss : List Stg} {s : Stg} (h : FlowI Q bs bo w vs vo (pre ++ s :: ss) out) : ∃ v1 v2, vs[pre.length * 2]? = some v1 ∧ vs[pre.length * 2 + 1]? = some v2 ∧ View w (fun g => ¬ Q g) v1 s.1 ∧ View w (fun g => ¬ Q g) v2 s.2 ∧ AllI s.1 ∧ AllI s.2 ∧
    w.cell? ⟨bs, pre.length * 2, none⟩ = some v1 ∧ w.cell? ⟨bs, pre.length * 2 + 1, none⟩ = some v2 := by
  obtain ⟨v1, h1, h2⟩ := h.fam.get (i := pre.length * 2 + 1) (l := s.1) (by simpa using flatS_get1 pre ss s)
  obtain ⟨v2, h3, h4⟩ := h.fam.get (i := pre.length * 2 + 1 + 1) (l := s.2) (by simpa using flatS_get2 pre ss s)
  have h1' : vs[pre.length * 2]? = some v1 := by simpa using h1
  have h3' : vs[pre.length * 2 + 1]? = some v2 := by simpa using h3
  have hn := h.num s (by simp)
  refine ⟨v1, v2, h1', h3', h2, h4, hn.1, hn.2, ?_, ?_⟩
  · rw [cell_of_row w bs _ _ _ _ h.row]; simpa using h1'
  · rw [cell_of_row w bs _ _ _ _ h.row]; simpa using h3'
theorem FlowI.frozen (h : FlowI Q bs bo w vs vo sts out) (j : Nat) : w.frozen? ⟨bs, j, none⟩ = false := by simp [World.frozen?, h.row]
end
/-- how many glyphs there are -/
def tot (sts : List Stg) (out : List Int) : Nat := (sts.map fun s => s.2.length).sum + out.length
end Go.Proofs.Ytfbgbbbfpkpfkaa
