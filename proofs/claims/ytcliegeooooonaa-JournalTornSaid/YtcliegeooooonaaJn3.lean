/- The journal's reading: the state of its loop. -/
import Derived.Test.YtcliegeooooonaaJn2
namespace Go.Proofs.Ytcliegeooooonaa
open Go.RowKit
def vl (s : List UInt8) : Value := .string ⟨s.toArray⟩
theorem own_same {w w' : World} {base : Nat} {e : TypeId} {s n : Nat} {v : Value} {xs : List Value} (h : w.ownsRow base e s v n xs) (hk : ∀ b, v.ownBlock = some b → w'.heap[b]? = w.heap[b]?) : w'.ownsRow base e s v n xs := by
  obtain ⟨hl, ⟨hv, hx⟩ | ⟨g, cap, cur, hv, hb, hg, hr⟩⟩ := h
  · exact ⟨hl, .inl ⟨hv, hx⟩⟩
  · exact ⟨hl, .inr ⟨g, cap, cur, hv, hb, (hk g (by rw [hv]; rfl)).trans hg, hr⟩⟩
structure JS (V : World) (B R0 b2 b3 bl ball bp : Nat) (all : List UInt8) (L : List (List UInt8)) (n : Nat) (b : List UInt8) (W : World) : Prop where
  bel : Below B V W
  lo : B ≤ b2 ∧ B ≤ b3 ∧ B ≤ bl ∧ B ≤ ball ∧ B ≤ bp
  hi : b2 < R0 ∧ b3 < R0 ∧ bl < R0 ∧ ball < R0 ∧ bp < R0
  hR : R0 ≤ W.heap.size
  ne : bl ≠ ball
  row : ∃ v, W.heap[b2]? = some (.cells #[v] 40 (0, 0)) ∧ W.ownsRow R0 9 1 v L.length (L.map vl)
  len : W.heap[b3]? = some (.cells #[.int .i64 (n : Int)] 3 (0, 0))
  last : BoxS W bl b
  whole : BoxS W ball all
  ptr : BoxP W bp bl
section
variable {V : World} {B R0 b2 b3 bl ball bp : Nat} {all : List UInt8} {L : List (List UInt8)} {n : Nat} {b : List UInt8} {W W' : World}
theorem JS.hB (h : JS V B R0 b2 b3 bl ball bp all L n b W) : B ≤ W.heap.size := Nat.le_trans h.lo.1 (Nat.le_trans (Nat.le_of_lt h.hi.1) h.hR)
theorem JS.call (h : JS V B R0 b2 b3 bl ball bp all L n b W) (hb : Below W.heap.size W W') : JS V B R0 b2 b3 bl ball bp all L n b W' := by
  obtain ⟨v, h1, h2⟩ := h.row
  exact ⟨h.bel.trans (hb.mono h.hB), h.lo, h.hi, Nat.le_trans h.hR hb.size, h.ne, ⟨v, kept' hb h1, own_belowb h2 hb⟩, kept' hb h.len, h.last.call hb, h.whole.call hb, h.ptr.call hb⟩
theorem box_ty {w : World} {b c : Nat} {cs ds : Array Value} {T U : TypeId} (h : w.heap[b]? = some (.cells cs T (0, 0))) (k : w.heap[c]? = some (.cells ds U (0, 0))) (hne : T ≠ U) : b ≠ c := fun e => by
  rw [e, k] at h
  injection h with h
  injection h with _ h
  exact hne h.symm
theorem JS.next (h : JS V B R0 b2 b3 bl ball bp all L n b W) {br : Nat} {r b' : List UInt8} (hr : BoxS W br r) (hlo : B ≤ br) (hbr : br < R0) (hna : br ≠ ball) (ht : Two br bl W W') (hl : BoxS W' bl b') : JS V B R0 b2 b3 bl ball bp all L n b' W' := by
  obtain ⟨v, h1, h2⟩ := h.row
  have k : ∀ x o, W.heap[x]? = some o → x ≠ br → x ≠ bl → W'.heap[x]? = some o := fun x o hx n1 n2 => (ht.block x (Array.getElem?_eq_some_iff.1 hx).1 n1 n2).trans hx
  refine ⟨Two.below h.bel ht h.hB hlo h.lo.2.2.1, h.lo, h.hi, Nat.le_trans h.hR ht.size, h.ne, ⟨v, k _ _ h1 (box_ty h1 hr (by decide)) (box_ty h1 h.last (by decide)), own_same h2 fun x hx => ?_⟩, k _ _ h.len (box_ty h.len hr (by decide)) (box_ty h.len h.last (by decide)), hl, k _ _ h.whole (fun e => hna e.symm) (fun e => h.ne e.symm), k _ _ h.ptr (box_ty h.ptr hr (by decide)) (box_ty h.ptr h.last (by decide))⟩
  have hx2 := h2.lt x hx
  have hh := h.hi.2.2.1
  exact ht.block x hx2.2 (by omega) (by omega)
theorem put_far {l x : Nat} {o o' : Obj} {cs : Array Value} {T : TypeId} {f : Nat × Nat} (hl : W.heap[l]? = some o) (ho : o.isCells = false) (hx : W.heap[x]? = some (.cells cs T f)) : (W.putObj l o').heap[x]? = some (.cells cs T f) := by
  have hne : x ≠ l := fun e => by
    rw [e, hl] at hx
    injection hx with hx
    rw [hx] at ho
    simp [Obj.isCells] at ho
  exact (World.putObj_heap_other hne).trans hx
theorem JS.put (h : JS V B R0 b2 b3 bl ball bp all L n b W) {l : Nat} {o : Obj} (o' : Obj) (hl : W.heap[l]? = some o) (ho : o.isCells = false) (hB : B ≤ l) : JS V B R0 b2 b3 bl ball bp all L n b (W.putObj l o') := by
  obtain ⟨v, h1, h2⟩ := h.row
  refine ⟨⟨h.bel.os, h.bel.tape, h.bel.output, by rw [World.putObj_size]; exact h.bel.size, fun k hk => (World.putObj_heap_other (by omega)).trans (h.bel.block k hk)⟩, h.lo, h.hi, by rw [World.putObj_size]; exact h.hR, h.ne, ⟨v, put_far hl ho h1, ownsRow_putObj h2 _ hl ho⟩, put_far hl ho h.len, put_far hl ho h.last, put_far hl ho h.whole, put_far hl ho h.ptr⟩
theorem grown_far {w w' : World} {b : Nat} {cs : Array Value} {T : TypeId} {row : Option Nat} (hg : w.grownBy w' row) (h : w.heap[b]? = some (.cells cs T (0, 0))) (hne : row ≠ some b) : w'.heap[b]? = some (.cells cs T (0, 0)) :=
  (hg.block b (Array.getElem?_eq_some_iff.1 h).1 (fun e => hne e.symm)).trans h
/-- the loop's body -/
theorem JS.body (h : JS V B R0 b2 b3 bl ball bp all L n b W) {v v' : Value} {s : List UInt8} {n' : Nat} {W2 : World} (hv : W.heap[b2]? = some (.cells #[v] 40 (0, 0))) (hrow : W.ownsRow R0 9 1 v L.length (L.map vl))
    (h2 : W2.ownsRow R0 9 1 v' (L.length + 1) ((L ++ [s]).map vl)) (hg : (W.alloc (Obj.cells #[vl s] 9)).grownBy W2 v.ownBlock) :
    JS V B R0 b2 b3 bl ball bp all (L ++ [s]) n' b ((W2.setCell ⟨b2, 0, none⟩ v').setCell ⟨b3, 0, none⟩ (.int .i64 (n' : Int))) ∧ KeepsOthers W ((W2.setCell ⟨b2, 0, none⟩ v').setCell ⟨b3, 0, none⟩ (.int .i64 (n' : Int))) ∧
    ∀ br r, BoxS W br r → br < R0 → BoxS ((W2.setCell ⟨b2, 0, none⟩ v').setCell ⟨b3, 0, none⟩ (.int .i64 (n' : Int))) br r := by
  have hb1 : Below W.heap.size W (W.alloc (Obj.cells #[vl s] 9)) := (Below.refl _ _).alloc (Nat.le_refl _) _
  have hfar : ∀ x, x < R0 → v.ownBlock ≠ some x := fun x hx e => by have := (hrow.lt x e).1; omega
  have e2 := grown_far hg (kept' hb1 hv) (hfar _ h.hi.1)
  have e3 := grown_far hg (kept' hb1 h.len) (hfar _ h.hi.2.1)
  have el : BoxS W2 bl b := grown_far hg (kept' hb1 h.last) (hfar _ h.hi.2.2.1)
  have ea : BoxS W2 ball all := grown_far hg (kept' hb1 h.whole) (hfar _ h.hi.2.2.2.1)
  have ep : BoxP W2 bp bl := grown_far hg (kept' hb1 h.ptr) (hfar _ h.hi.2.2.2.2)
  have n23 : b2 ≠ b3 := box_ty hv h.len (by decide)
  have hbel : Below B V W2 := Below.grown (h.bel.alloc h.hB _) hg (by simp; have := h.hB; omega) (fun k e => by have := (hrow.lt k e).1; have := h.lo.1; have := h.hi.1; omega)
  have hsz : W.heap.size ≤ W2.heap.size := Nat.le_trans hb1.size hg.size
  have put2 : ∀ x (cs : Array Value) T, W2.heap[x]? = some (.cells cs T (0, 0)) → x ≠ b2 → x ≠ b3 → ((W2.setCell ⟨b2, 0, none⟩ v').setCell ⟨b3, 0, none⟩ (.int .i64 (n' : Int))).heap[x]? = some (.cells cs T (0, 0)) := fun x cs T hx n1 n2 => (Below.heap_setCell _ _ _ _ n2).trans ((Below.heap_setCell _ _ _ _ n1).trans hx)
  refine ⟨⟨(hbel.setCell (p := ⟨b2, 0, none⟩) h.lo.1 _).setCell (p := ⟨b3, 0, none⟩) h.lo.2.1 _, h.lo, h.hi, by simp [World.setCell]; exact Nat.le_trans h.hR hsz, h.ne, ⟨v', (Below.heap_setCell _ _ _ _ n23).trans (heap_set (off := 0) e2 _), own_same (by rw [List.length_append]; exact h2) fun x hx => ?_⟩, heap_set (off := 0) ((Below.heap_setCell _ _ _ _ (fun e => n23 e.symm)).trans e3) _, put2 _ _ _ el (box_ty el e2 (by decide)) (box_ty el e3 (by decide)), put2 _ _ _ ea (box_ty ea e2 (by decide)) (box_ty ea e3 (by decide)), put2 _ _ _ ep (box_ty ep e2 (by decide)) (box_ty ep e3 (by decide))⟩, ?_, ?_⟩
  · have hx2 := (h2.lt x hx).1
    have k1 := h.hi.1
    have k2 := h.hi.2.1
    have n1 : x ≠ b2 := by omega
    have n2 : x ≠ b3 := by omega
    exact (Below.heap_setCell _ _ _ _ n2).trans (Below.heap_setCell _ _ _ _ n1)
  · have hk : KeepsOthers W W2 := (KeepsOthers.alloc W _).trans (KeepsOthers.of_grownBy hg (fun j o ej hj => by
      obtain ⟨hl, ⟨hv0, hx⟩ | ⟨g, cap, cur, hv0, hb, hgc, hr⟩⟩ := hrow
      · rw [hv0] at ej; cases ej
      · rw [hv0] at ej
        injection ej with ej
        subst ej
        have := kept' hb1 hgc
        rw [this] at hj
        injection hj with hj
        rw [← hj]
        rfl))
    exact (hk.trans (KeepsOthers.setCell _ _ _)).trans (KeepsOthers.setCell _ _ _)
  · intro br r hbr hlt
    have eb := grown_far hg (kept' hb1 hbr) (hfar _ hlt)
    exact put2 _ _ _ eb (box_ty eb e2 (by decide)) (box_ty eb e3 (by decide))
end
theorem keeps_two {br bl : Nat} {W W' : World} {r b : List UInt8} (h : Two br bl W W') (hr : BoxS W br r) (hl : BoxS W bl b) : KeepsOthers W W' := by
  refine ⟨h.size, fun k o hk ho => ?_⟩
  have n1 : k ≠ br := fun e => by
    have hr' : W.heap[br]? = some (.cells #[.string ⟨r.toArray⟩] 9 (0, 0)) := hr
    rw [e, hr'] at hk; injection hk with hk; rw [← hk] at ho; simp [Obj.isCells] at ho
  have n2 : k ≠ bl := fun e => by
    have hr' : W.heap[bl]? = some (.cells #[.string ⟨b.toArray⟩] 9 (0, 0)) := hl
    rw [e, hr'] at hk; injection hk with hk; rw [← hk] at ho; simp [Obj.isCells] at ho
  exact (h.block k (Array.getElem?_eq_some_iff.1 hk).1 n1 n2).trans hk
end Go.Proofs.Ytcliegeooooonaa
