/- digest.length, Of, Chain, Mark. -/
import Derived.Test.YtcliegeooooonaaDg2
namespace Go.Proofs.Ytcliegeooooonaa
open Go.RowKit
attribute [local go_sem ↓] Go.wp_at_zero Go.wp_at_succ

theorem b4_cells (n : Nat) : Dg.b4 n = [UInt8.ofNat (n / 16777216), UInt8.ofNat (n / 65536), UInt8.ofNat (n / 256), UInt8.ofNat n] := rfl
set_option maxRecDepth 100000 in
set_option maxHeartbeats 1000000 in
theorem length_any (s : ByteArray) (w : World) (_ : s.size ≤ 1000000000000) :
    Calls Try.prog 47 #[.string s] w fun e w' => e = .returned (.string ⟨(Dg.b4 s.size).toArray⟩) ∧ Below w.heap.size w w' := by
  have hconv : ∀ v0 v1 v2 v3 : Int, v0 = ((s.size / 16777216 : Nat) : Int) % 256 → v1 = ((s.size / 65536 : Nat) : Int) % 256 → v2 = ((s.size / 256 : Nat) : Int) % 256 → v3 = (s.size : Int) % 256 →
      (convert 51 9 (.slice (some ⟨w.heap.size, 0, none⟩) 4 4)).run Try.prog (w.alloc (Obj.cells #[.int .u8 v0, .int .u8 v1, .int .u8 v2, .int .u8 v3] 5)) = .ok (.string ⟨(Dg.b4 s.size).toArray⟩) (w.alloc (Obj.cells #[.int .u8 v0, .int .u8 v1, .int .u8 v2, .int .u8 v3] 5)) := by
    intro v0 v1 v2 v3 h0 h1 h2 h3
    refine run_convert_bytes_back (P := Try.prog) _ 51 9 5 ⟨w.heap.size, 0, none⟩ 4 (Dg.b4 s.size) Try.underlying51 Try.underlying5 Try.underlying9 (fun j hj => ?_)
    rw [Addr.add_lit, Nat.zero_add, cell_of_row _ w.heap.size j _ _ _ (heap_alloc_new w _)]
    have hj4 : j < 4 := hj
    obtain rfl | rfl | rfl | rfl : j = 0 ∨ j = 1 ∨ j = 2 ∨ j = 3 := by omega
    all_goals
      simp only [b4_cells, List.getElem_cons_zero, List.getElem_cons_succ, UInt8.toNat_ofNat']
      simp
      omega
  go_enter Try.func47, Try.ntmps47
  go_wp2_with fail
  go_ret
  exact ⟨rfl, (Below.refl _ _).alloc (Nat.le_refl _) _⟩
/-- a call of digest.of on a literal row -/
theorem of_lit (l : List ByteArray) (w : World) (hl : ∀ x ∈ l, x.size ≤ maxLen) (hlen : l.length ≤ 1000000) :
    Calls Try.prog 46 #[.slice (some ⟨w.heap.size, 0, none⟩) l.length l.length] (w.alloc (Obj.cells (l.map Value.string).toArray 9)) fun e w' => e = .returned (digV (Dg.dig (allB l))) ∧ Below w.heap.size w w' := by
  have hL := lst_strs (T := 9) (l := l) (S := (· < (w.alloc (Obj.cells (l.map Value.string).toArray 9)).heap.size)) (heap_alloc_new w (Obj.cells (l.map Value.string).toArray 9)) hl (by simp)
  have hb : Below w.heap.size w (w.alloc (Obj.cells (l.map Value.string).toArray 9)) := (Below.refl _ _).alloc (Nat.le_refl _) _
  exact (of_any _ _ _ l _ hL hlen).mono fun e w' ⟨he, h⟩ => ⟨he, hb.trans (h.mono hb.size)⟩
theorem allB_1 (a : ByteArray) : allB [a] = a.data.toList := by simp [allB]
theorem allB_2 (a b : ByteArray) : allB [a, b] = a.data.toList ++ b.data.toList := by simp [allB]
theorem allB_3 (a b c : ByteArray) : allB [a, b, c] = a.data.toList ++ (b.data.toList ++ c.data.toList) := by simp [allB]
theorem allB_4 (a b c d : ByteArray) : allB [a, b, c, d] = a.data.toList ++ (b.data.toList ++ (c.data.toList ++ d.data.toList)) := by simp [allB]
theorem allB_5 (a b c d e : ByteArray) : allB [a, b, c, d, e] = a.data.toList ++ (b.data.toList ++ (c.data.toList ++ (d.data.toList ++ e.data.toList))) := by simp [allB]
/-- the specifications, on bytes -/
def chainS (b s : ByteArray) : List UInt8 := Dg.dig (99 :: (Dg.b4 b.size ++ (b.data.toList ++ s.data.toList)))
def markS (k m : ByteArray) : List UInt8 := Dg.dig (109 :: (Dg.b4 k.size ++ (k.data.toList ++ (m.data.toList ++ k.data.toList))))
theorem dOf_any (s : ByteArray) (w : World) (hs : s.size ≤ maxLen) :
    Calls Try.prog 39 #[.string s] w fun e w' => e = .returned (.string ⟨(Dg.dig s.data.toList).toArray⟩) ∧ Below w.heap.size w w' := by
  have hc := of_lit [s] w (by simpa using hs) (by simp)
  rw [allB_1] at hc
  replace hc := hide hc
  go_enter Try.func39, Try.ntmps39
  go_wp2_with fail
  refine (unhide hc).mono ?_
  rintro e w1 ⟨rfl, hb⟩
  go_wp2_with fail
  refine (text_any _ _ (Dg.dig_len _)).mono ?_
  rintro e w2 ⟨rfl, hb2⟩
  go_wp2_with fail
  go_ret
  exact ⟨rfl, hb.trans (hb2.mono hb.size)⟩
theorem dChain_any (b s : ByteArray) (w : World) (hb0 : b.size ≤ 1000000000000) (hs : s.size ≤ 1000000000000) :
    Calls Try.prog 33 #[.string b, .string s] w fun e w' => e = .returned (.string ⟨(chainS b s).toArray⟩) ∧ Below w.heap.size w w' := by
  have hc := fun w => of_lit [⟨#[99]⟩, ⟨(Dg.b4 b.size).toArray⟩, b, s] w (by intro x hx; simp at hx; rcases hx with rfl | rfl | rfl | rfl <;> first | decide | (rw [ba_size]; exact Nat.le_trans (Nat.le_refl 4) (by decide)) | exact Nat.le_trans hb0 (by decide) | exact Nat.le_trans hs (by decide)) (by simp)
  replace hc := hide hc
  go_enter Try.func33, Try.ntmps33
  go_wp2_with fail
  refine (length_any b _ hb0).mono ?_
  rintro e w1 ⟨rfl, hb1⟩
  go_wp2_with fail
  refine (unhide hc w1).mono ?_
  rintro e w2 ⟨rfl, hb2⟩
  go_wp2_with fail
  refine (text_any _ _ (Dg.dig_len _)).mono ?_
  rintro e w3 ⟨rfl, hb3⟩
  go_wp2_with fail
  go_ret
  have hb4 := hb1.trans (hb2.mono hb1.size)
  exact ⟨ret_str (by rw [allB_4]; rfl), hb4.trans (hb3.mono hb4.size)⟩
theorem markS_len (k m : ByteArray) : (markS k m).length = 8 := rfl
end Go.Proofs.Ytcliegeooooonaa
