/- The made font: a glyph while it is made. -/
import Derived.Test.YtbbbldaccpfooaaMade1
import Derived.Lib.ConvBytes
namespace Go.Proofs.Ytbbbldaccpfooaa
open Go.RowKit
theorem mconv1 (w : World) (b : Nat) (c : Nat) (hc : c < 256) (h : w.heap[b]? = some (.cells #[.int .u8 (c : Int)] 5 (0, 0))) :
    (convert 70 9 (.slice (some ⟨b, 0, none⟩) 1 1)).run Try.prog w = .ok (.string ⟨#[UInt8.ofNat c]⟩) w := by
  refine run_convert_bytes_back (P := Try.prog) w 70 9 5 ⟨b, 0, none⟩ 1 [UInt8.ofNat c] Try.underlying70 Try.underlying5 Try.underlying9 (fun j hj => ?_)
  have hj1 : j < 1 := hj
  obtain rfl : j = 0 := by omega
  rw [Addr.add_lit, Nat.zero_add, cell_of_row _ b 0 _ _ _ h]
  simp
  omega
/-- the glyph's box, its draw -/
structure GK (w wo wr : World) (be bg : Nat) (x : Int) (u2 u3 u4 u5 u6 : Value) : Prop where
  box : ∃ s : ByteArray, wr.heap[bg]? = some (.cells #[.string s, .int .i64 x, u2, u3, u4, u5, u6] 64 (0, 0))
  draw : DrawAt wr be (· < w.heap.size)
  below : Below wo.heap.size wo wr
  o1 : wo.heap.size ≤ be
  o2 : be < bg
  o3 : w.heap.size ≤ wo.heap.size
section
variable {w wo wr w' : World} {be bg : Nat} {x : Int} {u2 u3 u4 u5 u6 : Value}
theorem GK.lt (h : GK w wo wr be bg x u2 u3 u4 u5 u6) : bg < wr.heap.size := by
  obtain ⟨s, hf⟩ := h.box
  exact (Array.getElem?_eq_some_iff.1 hf).1
theorem GK.hS (h : GK w wo wr be bg x u2 u3 u4 u5 u6) : ∀ c, c < w.heap.size → c < wr.heap.size := fun c hc => by
  have := h.o3; have := h.below.size; omega
theorem GK.next (h : GK w wo wr be bg x u2 u3 u4 u5 u6) (hg : wr.grownBy w' (some be)) (hd : DrawAt w' be (· < w.heap.size)) : GK w wo w' be bg x u2 u3 u4 u5 u6 := by
  have h1 := h.o1; have h2 := h.o2; have h3 := h.lt
  obtain ⟨s, hf⟩ := h.box
  exact ⟨⟨s, (hg.block _ h3 (fun e => by injection e; omega)).trans hf⟩, hd, Below.grown h.below hg h.below.size (fun g e => by injection e with e; omega), h1, h2, h.o3⟩
theorem GK.upto (h : GK w wo wr be bg x u2 u3 u4 u5 u6) (hb : Below (bg + 1) wr w') : GK w wo w' be bg x u2 u3 u4 u5 u6 := by
  have h1 := h.o1; have h2 := h.o2; have h3 := h.o3
  obtain ⟨s, hf⟩ := h.box
  exact ⟨⟨s, (hb.block _ (by omega)).trans hf⟩, h.draw.same (hb.block _ (by omega)) (fun c hc => hb.block _ (by omega)), h.below.trans (hb.mono (by omega)), h1, h2, h3⟩
theorem GK.set (h : GK w wo wr be bg x u2 u3 u4 u5 u6) (v : Value) :
    GK w wo (wr.setCell ⟨bg, 2, none⟩ v) be bg x v u3 u4 u5 u6 ∧ GK w wo (wr.setCell ⟨bg, 3, none⟩ v) be bg x u2 v u4 u5 u6 ∧ GK w wo (wr.setCell ⟨bg, 4, none⟩ v) be bg x u2 u3 v u5 u6 ∧
    GK w wo (wr.setCell ⟨bg, 5, none⟩ v) be bg x u2 u3 u4 v u6 ∧ GK w wo (wr.setCell ⟨bg, 6, none⟩ v) be bg x u2 u3 u4 u5 v := by
  have h1 := h.o1; have h2 := h.o2; have h3 := h.o3
  obtain ⟨s, hf⟩ := h.box
  have hoth : ∀ i c, c ≠ bg → (wr.setCell ⟨bg, i, none⟩ v).heap[c]? = wr.heap[c]? := fun i c hc => Below.heap_setCell wr _ _ _ hc
  have go : ∀ i t2 t3 t4 t5 t6, (wr.setCell ⟨bg, i, none⟩ v).heap[bg]? = some (.cells #[.string s, .int .i64 x, t2, t3, t4, t5, t6] 64 (0, 0)) → GK w wo (wr.setCell ⟨bg, i, none⟩ v) be bg x t2 t3 t4 t5 t6 := fun i t2 t3 t4 t5 t6 hc =>
    ⟨⟨s, hc⟩, h.draw.same (hoth i _ (by omega)) (fun c hc => hoth i c (by have := hc; omega)), h.below.setCell (p := ⟨bg, i, none⟩) (by show wo.heap.size ≤ bg; omega) v, h1, h2, h3⟩
  exact ⟨go 2 _ _ _ _ _ (heap_set hf v), go 3 _ _ _ _ _ (heap_set hf v), go 4 _ _ _ _ _ (heap_set hf v), go 5 _ _ _ _ _ (heap_set hf v), go 6 _ _ _ _ _ (heap_set hf v)⟩
theorem GK.cells (h : GK w wo wr be bg x u2 u3 u4 u5 u6) : ∃ s : ByteArray, wr.cell? ⟨bg, 0, none⟩ = some (.string s) ∧ wr.cell? ⟨bg, 1, none⟩ = some (.int .i64 x) ∧ wr.cell? ⟨bg, 2, none⟩ = some u2 ∧ wr.cell? ⟨bg, 3, none⟩ = some u3 ∧ wr.cell? ⟨bg, 4, none⟩ = some u4 ∧ wr.cell? ⟨bg, 5, none⟩ = some u5 ∧ wr.cell? ⟨bg, 6, none⟩ = some u6 ∧ ∀ i, wr.frozen? ⟨bg, i, none⟩ = false := by
  obtain ⟨s, hf⟩ := h.box
  exact ⟨s, (cell_of_row _ bg 0 _ _ _ hf).trans rfl, (cell_of_row _ bg 1 _ _ _ hf).trans rfl, (cell_of_row _ bg 2 _ _ _ hf).trans rfl, (cell_of_row _ bg 3 _ _ _ hf).trans rfl, (cell_of_row _ bg 4 _ _ _ hf).trans rfl, (cell_of_row _ bg 5 _ _ _ hf).trans rfl, (cell_of_row _ bg 6 _ _ _ hf).trans rfl, fun i => by simp [World.frozen?, hf]⟩
theorem GK.alloc (h : GK w wo wr be bg x u2 u3 u4 u5 u6) (o : Obj) : GK w wo (wr.alloc o) be bg x u2 u3 u4 u5 u6 := h.upto ((Below.refl _ _).alloc (by have := h.lt; omega) o)
end
/-- the advances of a row of glyphs -/
def Advs (k : Nat) (xs : List Value) : Prop := ∀ i, i < k → ∃ x : Int, xs[i * 7 + 1]? = some (.int .i64 x) ∧ 16 ≤ x ∧ x ≤ 52
theorem advs_one {s : ByteArray} {u2 u3 u4 u5 u6 : Value} : Advs 1 [.string s, .int .i64 16, u2, u3, u4, u5, u6] := by
  intro i hi
  obtain rfl : i = 0 := by omega
  exact ⟨16, rfl, by omega, by omega⟩
theorem Advs.snoc {k : Nat} {xs : List Value} {x : Int} {s u2 u3 u4 u5 u6 : Value} (h : Advs k xs) (hl : xs.length = k * 7) (h1 : 16 ≤ x) (h2 : x ≤ 52) : Advs (k + 1) (xs ++ [s, .int .i64 x, u2, u3, u4, u5, u6]) := by
  intro i hi
  rcases Nat.lt_or_ge i k with hk | hk
  · obtain ⟨y, hy, h3, h4⟩ := h i hk
    refine ⟨y, ?_, h3, h4⟩
    rw [List.getElem?_append_left (by omega)]
    exact hy
  · obtain rfl : i = k := by omega
    refine ⟨x, ?_, h1, h2⟩
    rw [List.getElem?_append_right (by omega), hl, Nat.add_sub_cancel_left]
    rfl
end Go.Proofs.Ytbbbldaccpfooaa
