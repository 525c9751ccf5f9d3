/- Small functions on fonts and lists. -/
import Derived.Test.YtbbbldaccpfooaaMade4
namespace Go.Proofs.Ytbbbldaccpfooaa
open Go.RowKit
/-- the advance of a glyph -/
def advS (av : List Int) (g : Int) : Int := if g < 0 ∨ (av.length : Int) ≤ g then 0 else av.getD g.toNat 0
theorem radvance_any (S : Nat → Prop) (f : Value) (av : List Int) (ks : List (Int × Int × Int)) (g : Int) (w : World) (hf : FontAt S w f av ks) (hS : ∀ c, S c → c < w.heap.size) (hg : I64 g) :
    Calls Try.prog 23 #[f, .int .i64 g] w fun e w' => e = .returned (.int .i64 (advS av g)) ∧ Below w.heap.size w w' := by
  obtain ⟨s, n, va, vn, vc, b, gc, qa, qn, qc, ta, tn, tc, ka, kc, rfl, hb, hl, hx, _, _, _⟩ := hf
  have hbl := hS b hb
  by_cases h0 : g < 0
  · have he : advS av g = 0 := if_pos (.inl h0)
    rw [he]
    clear hx he
    go_enter Try.func23, Try.ntmps23
    go_wp2_with fail
    go_ret
    exact ⟨rfl, (Below.refl _ _).alloc (Nat.le_refl _) _⟩
  by_cases h1 : (av.length : Int) ≤ g
  · have he : advS av g = 0 := if_pos (.inr h1)
    rw [he]
    clear hx he
    go_enter Try.func23, Try.ntmps23
    go_wp2_with fail
    go_ret
    exact ⟨rfl, (Below.refl _ _).alloc (Nat.le_refl _) _⟩
  · obtain ⟨q, rfl⟩ := Int.eq_ofNat_of_zero_le (by omega : 0 ≤ g)
    have hq : q < av.length := by omega
    have hgq := List.getElem?_eq_getElem hq
    have hc := (hx q _ hgq).1
    have he : advS av (q : Int) = av[q] := by
      unfold advS
      rw [if_neg (by omega), Int.toNat_natCast, List.getD_eq_getElem?_getD, hgq]
      rfl
    rw [he]
    obtain ⟨x, hxx⟩ : ∃ x, av[q] = x := ⟨_, rfl⟩
    rw [hxx] at hc ⊢
    clear hx he hgq hxx
    have hc' : ∀ o, (w.alloc o).cell? ⟨b, q * 7 + 1, none⟩ = some (.int .i64 x) := fun o => (World.cell?_of_block (a := ⟨b, q * 7 + 1, none⟩) (Below.heap_alloc w o b hbl)).trans hc
    go_enter Try.func23, Try.ntmps23
    go_wp2_with fail
    go_ret
    exact ⟨rfl, (Below.refl _ _).alloc (Nat.le_refl _) _⟩
theorem ladvance_any (S : Nat → Prop) (f : Value) (av : List Int) (ks : List (Int × Int × Int)) (g : Int) (w : World) (hf : FontAt S w f av ks) (hS : ∀ c, S c → c < w.heap.size) (hg : I64 g) :
    Calls Try.prog 16 #[f, .int .i64 g] w fun e w' => e = .returned (.int .i64 (advS av g)) ∧ Below w.heap.size w w' := by
  obtain ⟨s, n, va, vn, vc, b, gc, qa, qn, qc, ta, tn, tc, ka, kc, rfl, hb, hl, hx, _, _, _⟩ := hf
  have hbl := hS b hb
  by_cases h0 : g < 0
  · have he : advS av g = 0 := if_pos (.inl h0)
    rw [he]
    clear hx he
    go_enter Try.func16, Try.ntmps16
    go_wp2_with fail
    go_ret
    exact ⟨rfl, (Below.refl _ _).alloc (Nat.le_refl _) _⟩
  by_cases h1 : (av.length : Int) ≤ g
  · have he : advS av g = 0 := if_pos (.inr h1)
    rw [he]
    clear hx he
    go_enter Try.func16, Try.ntmps16
    go_wp2_with fail
    go_ret
    exact ⟨rfl, (Below.refl _ _).alloc (Nat.le_refl _) _⟩
  · obtain ⟨q, rfl⟩ := Int.eq_ofNat_of_zero_le (by omega : 0 ≤ g)
    have hq : q < av.length := by omega
    have hgq := List.getElem?_eq_getElem hq
    have hc := (hx q _ hgq).1
    have he : advS av (q : Int) = av[q] := by
      unfold advS
      rw [if_neg (by omega), Int.toNat_natCast, List.getD_eq_getElem?_getD, hgq]
      rfl
    rw [he]
    obtain ⟨x, hxx⟩ : ∃ x, av[q] = x := ⟨_, rfl⟩
    rw [hxx] at hc ⊢
    clear hx he hgq hxx
    have hc' : ∀ o, (w.alloc o).cell? ⟨b, q * 7 + 1, none⟩ = some (.int .i64 x) := fun o => (World.cell?_of_block (a := ⟨b, q * 7 + 1, none⟩) (Below.heap_alloc w o b hbl)).trans hc
    go_enter Try.func16, Try.ntmps16
    go_wp2_with fail
    go_ret
    exact ⟨rfl, (Below.refl _ _).alloc (Nat.le_refl _) _⟩
theorem at_any (S : Nat → Prop) (a : Option Addr) (n c : Nat) (l : List Int) (k : Nat) (w : World) (hl : Lst Enc.int w S a n l) (_ : n ≤ 1000) (_ : k ≤ 1000) :
    Calls Try.prog 17 #[.slice a n c, .int .i64 (k : Int)] w fun e w' => e = .returned (.int .i64 (l.getD k 0)) ∧ Below w.heap.size w w' := by
  have h1 := hl.1
  by_cases h : k < n
  · obtain ⟨b, off, x, rfl, hb, hx, hxi, hc⟩ := lst_int hl h
    have he : l.getD k 0 = x := by rw [List.getD_eq_getElem?_getD, hx]; rfl
    rw [he]
    clear he hx
    go_enter Try.func17, Try.ntmps17
    go_wp2_with fail
    go_ret
    exact ⟨rfl, Below.refl _ _⟩
  · have he : l.getD k 0 = 0 := by rw [List.getD_eq_getElem?_getD, List.getElem?_eq_none (by omega)]; rfl
    rw [he]
    clear he
    go_enter Try.func17, Try.ntmps17
    go_wp2_with fail
    go_ret
    exact ⟨rfl, Below.refl _ _⟩
end Go.Proofs.Ytbbbldaccpfooaa
