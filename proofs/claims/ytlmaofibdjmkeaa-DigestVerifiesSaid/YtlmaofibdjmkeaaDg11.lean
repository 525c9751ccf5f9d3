/- The chapter's examples of digest. -/
import Derived.Test.YtlmaofibdjmkeaaDg10
import Derived.Test.YtlmaofibdjmkeaaDg6
namespace Go.Proofs.Ytlmaofibdjmkeaa
open Go.RowKit
attribute [local go_sem ↓] Go.wp_at_zero Go.wp_at_succ
/-- how many levels lie above the leaves -/
def Dg.dp (n : Nat) : Nat := if n ≤ 1 then 0 else if n ≤ 2 then 1 else if n ≤ 4 then 2 else if n ≤ 8 then 3 else if n ≤ 16 then 4 else 5
def Dg.top (L : List (List UInt8)) : List UInt8 := (Dg.lev L (Dg.dp L.length))[0]?.getD []
def Dg.prf (L : List (List UInt8)) (i : Nat) : List ByteArray := (Dg.pf L i (Dg.dp L.length)).1
theorem dp_fin : ∀ n : Fin 33, ∀ k : Fin 6, Dg.T n.val / 2 ^ k.val = 1 → k.val = Dg.dp n.val := by decide +kernel
theorem Dg.dp_of (L : List (List UInt8)) (hL : L.length ≤ 32) (k : Nat) (h : (Dg.lev L k).length = 1) : k = Dg.dp L.length := by
  have h5 := Dg.k_le L hL k (by omega)
  rw [Dg.lev_len L hL] at h
  exact dp_fin ⟨L.length, by omega⟩ ⟨k, by omega⟩ h
theorem root_any (a : Option Addr) (len cap : Nat) (L : List ByteArray) (w : World) (hL : Lst Enc.str w (fun b => b < w.heap.size) a len L) (hlen : len ≤ 32) :
    Calls Try.prog 21 #[.slice a len cap] w fun e w' => e = .returned (.string ⟨(Dg.top (L.map fun s => s.data.toList)).toArray⟩) ∧ Below w.heap.size w w' := by
  refine (dRoot_any a len cap L w hL hlen).mono ?_
  rintro e w' ⟨⟨k, d, hk, rfl⟩, hb⟩
  have hl : (L.map fun s => s.data.toList).length ≤ 32 := by rw [List.length_map, hL.1]; exact hlen
  have := Dg.dp_of _ hl k (by rw [hk]; rfl)
  refine ⟨?_, hb⟩
  unfold Dg.top
  rw [← this, hk]
  rfl
theorem root_lit (l : List ByteArray) (w : World) (hl : ∀ x ∈ l, x.size ≤ maxLen) (hlen : l.length ≤ 32) :
    Calls Try.prog 21 #[.slice (some ⟨w.heap.size, 0, none⟩) l.length l.length] (w.alloc (Obj.cells (l.map Value.string).toArray 9)) fun e w' => e = .returned (.string ⟨(Dg.top (l.map fun s => s.data.toList)).toArray⟩) ∧ Below w.heap.size w w' := by
  have hL := lst_strs (T := 9) (l := l) (S := (· < (w.alloc (Obj.cells (l.map Value.string).toArray 9)).heap.size)) (heap_alloc_new w (Obj.cells (l.map Value.string).toArray 9)) hl (by simp)
  have hb : Below w.heap.size w (w.alloc (Obj.cells (l.map Value.string).toArray 9)) := (Below.refl _ _).alloc (Nat.le_refl _) _
  exact (root_any _ _ _ l _ hL hlen).mono fun e w' ⟨he, h⟩ => ⟨he, hb.trans (h.mono hb.size)⟩
theorem Dg.pf_sizes (L : List (List UInt8)) (hL : L.length ≤ 32) (i : Nat) (hi : i < L.length) (k : Nat) (h : 1 ≤ (Dg.lev L k).length) : ∀ x ∈ (Dg.pf L i k).1, x.size = 8 := by
  induction k with
  | zero => intro x hx; cases hx
  | succ k ih =>
    have h2 : (Dg.lev L (k + 1)).length = (Dg.lev L k).length / 2 := by rw [Dg.lev, Dg.up_len]
    have hlt := Dg.pf_lt L hL i hi k (by omega)
    have hp := Dg.T_pow L.length k
    rw [← Dg.lev_len L hL k] at hp
    have hm32 : (Dg.lev L k).length ≤ 32 := by rw [Dg.lev_len L hL]; exact Nat.le_trans (Nat.div_le_self _ _) (Dg.T_ge _ hL).2.2
    have hev : (Dg.lev L k).length % 2 = 0 := by omega
    have hx := Dg.xor_lt ⟨(Dg.lev L k).length, by omega⟩ ⟨(Dg.pf L i k).2, by omega⟩ hev hlt
    rw [Dg.pf, if_pos (by omega)]
    intro x hx'
    rcases List.mem_append.1 hx' with h' | h'
    · exact ih (by omega) x h'
    · simp only [List.mem_singleton] at h'
      rw [h', List.getElem?_eq_getElem hx]
      show (Array.size _) = 8
      rw [List.size_toArray]
      exact Dg.lev_all L k _ (List.getElem_mem hx)
/-- Prove, its result opened. -/
theorem prove_any (a : Option Addr) (len cap : Nat) (L : List ByteArray) (i : Nat) (w : World) (hL : Lst Enc.str w (fun b => b < w.heap.size) a len L) (hlen : len ≤ 32) (hi : i < len) :
    Calls Try.prog 23 #[.slice a len cap, .int .i64 (i : Int)] w fun e w' => (∃ pa pc, e = .returned (.tuple #[.slice pa (Dg.prf (L.map fun s => s.data.toList) i).length pc, .bool true]) ∧ Lst Enc.str w' (fun b => b < w'.heap.size ∧ w.heap.size ≤ b) pa (Dg.prf (L.map fun s => s.data.toList) i).length (Dg.prf (L.map fun s => s.data.toList) i)) ∧ Below w.heap.size w w' := by
  refine (dProve_any a len cap L i w hL hlen hi).mono ?_
  rintro e w' ⟨⟨k, v, hk, rfl, hown⟩, hb⟩
  have hln : (L.map fun s => s.data.toList).length = len := by rw [List.length_map, hL.1]
  have hl : (L.map fun s => s.data.toList).length ≤ 32 := by omega
  have hsz := Dg.pf_sizes _ hl i (by omega) k (by omega)
  obtain rfl := Dg.dp_of _ hl k hk
  obtain ⟨pa, pc, rfl, hlst⟩ := lst_own_vba hown (fun x hx => by rw [hsz x hx]; decide)
  exact ⟨⟨pa, pc, rfl, hlst.wide (fun b h => ⟨h.1, by have := h.2; omega⟩)⟩, hb⟩
theorem prove_lit (l : List ByteArray) (i : Nat) (w : World) (hl : ∀ x ∈ l, x.size ≤ maxLen) (hlen : l.length ≤ 32) (hi : i < l.length) :
    Calls Try.prog 23 #[.slice (some ⟨w.heap.size, 0, none⟩) l.length l.length, .int .i64 (i : Int)] (w.alloc (Obj.cells (l.map Value.string).toArray 9)) fun e w' => (∃ pa pc, e = .returned (.tuple #[.slice pa (Dg.prf (l.map fun s => s.data.toList) i).length pc, .bool true]) ∧ Lst Enc.str w' (fun b => b < w'.heap.size ∧ w.heap.size ≤ b) pa (Dg.prf (l.map fun s => s.data.toList) i).length (Dg.prf (l.map fun s => s.data.toList) i)) ∧ Below w.heap.size w w' := by
  have hL := lst_strs (T := 9) (l := l) (S := (· < (w.alloc (Obj.cells (l.map Value.string).toArray 9)).heap.size)) (heap_alloc_new w (Obj.cells (l.map Value.string).toArray 9)) hl (by simp)
  have hb : Below w.heap.size w (w.alloc (Obj.cells (l.map Value.string).toArray 9)) := (Below.refl _ _).alloc (Nat.le_refl _) _
  exact (prove_any _ _ _ l i _ hL hlen hi).mono fun e w' ⟨⟨pa, pc, he, hL⟩, h⟩ => ⟨⟨pa, pc, he, hL.wide (fun b h => ⟨h.1, Nat.le_trans hb.size h.2⟩)⟩, hb.trans (h.mono hb.size)⟩
set_option maxRecDepth 100000 in
set_option maxHeartbeats 4000000 in
theorem dsanity_any (w : World) :
    Calls Try.prog 10 #[] w fun e w' => e = .returned (.bool true) ∧ Below w.heap.size w w' := by
  have c0 := fun w => dOf_any ⟨#[]⟩ w (by decide)
  rw [show Dg.dig (⟨#[]⟩ : ByteArray).data.toList = [0, 0, 0, 41, 0, 0, 0, 43] by kernel_rfl] at c0
  replace c0 := hide c0
  have c1 := fun w => dOf_any ⟨#[0]⟩ w (by decide)
  rw [show Dg.dig (⟨#[0]⟩ : ByteArray).data.toList = [0, 25, 8, 127, 0, 26, 178, 253] by kernel_rfl] at c1
  replace c1 := hide c1
  have c2 := fun w => dChain_any ⟨#[]⟩ ⟨#[]⟩ w (by decide) (by decide)
  rw [show chainS ⟨#[]⟩ ⟨#[]⟩ = [107, 16, 115, 221, 127, 230, 197, 28] by kernel_rfl] at c2
  replace c2 := hide c2
  have c3 := fun w => dOf_any ⟨#[99, 0, 0, 0, 0]⟩ w (by decide)
  rw [show Dg.dig (⟨#[99, 0, 0, 0, 0]⟩ : ByteArray).data.toList = [107, 16, 115, 221, 127, 230, 197, 28] by kernel_rfl] at c3
  replace c3 := hide c3
  have c4 := fun w => dMark_any ⟨#[107]⟩ ⟨#[109]⟩ w (by decide) (by decide)
  rw [show markS ⟨#[107]⟩ ⟨#[109]⟩ = [45, 12, 223, 139, 23, 141, 38, 159] by kernel_rfl] at c4
  replace c4 := hide c4
  have c5 := fun w => dOf_any ⟨#[109, 0, 0, 0, 1, 107, 109, 107]⟩ w (by decide)
  rw [show Dg.dig (⟨#[109, 0, 0, 0, 1, 107, 109, 107]⟩ : ByteArray).data.toList = [45, 12, 223, 139, 23, 141, 38, 159] by kernel_rfl] at c5
  replace c5 := hide c5
  have c6 := fun w => dMark_any ⟨#[107]⟩ ⟨#[109]⟩ w (by decide) (by decide)
  rw [show markS ⟨#[107]⟩ ⟨#[109]⟩ = [45, 12, 223, 139, 23, 141, 38, 159] by kernel_rfl] at c6
  replace c6 := hide c6
  have c7 := fun w => dCheck_any ⟨#[107]⟩ ⟨#[109]⟩ ⟨#[45, 12, 223, 139, 23, 141, 38, 159]⟩ w (by decide) (by decide) (by decide)
  rw [show decide ((⟨#[107]⟩ : ByteArray).size ≠ 0 ∧ (⟨#[45, 12, 223, 139, 23, 141, 38, 159]⟩ : ByteArray).data.toList = markS ⟨#[107]⟩ ⟨#[109]⟩) = true by kernel_rfl] at c7
  replace c7 := hide c7
  have c8 := fun w => dMark_any ⟨#[]⟩ ⟨#[109]⟩ w (by decide) (by decide)
  rw [show markS ⟨#[]⟩ ⟨#[109]⟩ = [90, 61, 217, 152, 91, 96, 31, 119] by kernel_rfl] at c8
  replace c8 := hide c8
  have c9 := fun w => dCheck_any ⟨#[]⟩ ⟨#[109]⟩ ⟨#[90, 61, 217, 152, 91, 96, 31, 119]⟩ w (by decide) (by decide) (by decide)
  rw [show decide ((⟨#[]⟩ : ByteArray).size ≠ 0 ∧ (⟨#[90, 61, 217, 152, 91, 96, 31, 119]⟩ : ByteArray).data.toList = markS ⟨#[]⟩ ⟨#[109]⟩) = false by kernel_rfl] at c9
  replace c9 := hide c9
  have c10 := fun w => dOf_any ⟨#[108, 97]⟩ w (by decide)
  rw [show Dg.dig (⟨#[108, 97]⟩ : ByteArray).data.toList = [73, 15, 245, 242, 20, 45, 238, 143] by kernel_rfl] at c10
  replace c10 := hide c10
  have c11 := fun w => dOf_any ⟨#[108, 98]⟩ w (by decide)
  rw [show Dg.dig (⟨#[108, 98]⟩ : ByteArray).data.toList = [73, 15, 245, 243, 20, 45, 238, 144] by kernel_rfl] at c11
  replace c11 := hide c11
  have c12 := fun w => dOf_any ⟨#[118]⟩ w (by decide)
  rw [show Dg.dig (⟨#[118]⟩ : ByteArray).data.toList = [0, 25, 8, 245, 0, 26, 179, 115] by kernel_rfl] at c12
  replace c12 := hide c12
  have c13 := fun (w : World) => root_any none 0 0 [] w (Lst.nil _ _ _ _) (by omega)
  rw [show Dg.top (([] : List ByteArray).map fun s => s.data.toList) = [0, 25, 8, 245, 0, 26, 179, 115] by kernel_rfl] at c13
  replace c13 := hide c13
  have c14 := fun (w : World) => root_lit [⟨#[97]⟩] w (by intro x hx; simp at hx; subst hx; decide) (by simp)
  rw [show Dg.top (([⟨#[97]⟩] : List ByteArray).map fun s => s.data.toList) = [73, 15, 245, 242, 20, 45, 238, 143] by kernel_rfl] at c14
  replace c14 := hide c14
  have c15 := fun (w : World) => root_lit [⟨#[97]⟩, ⟨#[98]⟩] w (by intro x hx; simp at hx; rcases hx with rfl | rfl <;> decide) (by simp)
  rw [show Dg.top (([⟨#[97]⟩, ⟨#[98]⟩] : List ByteArray).map fun s => s.data.toList) = [22, 183, 178, 128, 125, 120, 123, 83] by kernel_rfl] at c15
  replace c15 := hide c15
  have c16 := fun w => dOf_any ⟨#[110, 73, 15, 245, 242, 20, 45, 238, 143, 73, 15, 245, 243, 20, 45, 238, 144]⟩ w (by decide)
  rw [show Dg.dig (⟨#[110, 73, 15, 245, 242, 20, 45, 238, 143, 73, 15, 245, 243, 20, 45, 238, 144]⟩ : ByteArray).data.toList = [22, 183, 178, 128, 125, 120, 123, 83] by kernel_rfl] at c16
  replace c16 := hide c16
  have c17 := fun (w : World) => prove_lit [⟨#[97]⟩, ⟨#[98]⟩, ⟨#[99]⟩] 2 w (by intro x hx; simp at hx; rcases hx with rfl | rfl | rfl <;> decide) (by simp) (by simp)
  rw [show Dg.prf (([⟨#[97]⟩, ⟨#[98]⟩, ⟨#[99]⟩] : List ByteArray).map fun s => s.data.toList) 2 = [⟨#[0, 25, 8, 245, 0, 26, 179, 115]⟩, ⟨#[22, 183, 178, 128, 125, 120, 123, 83]⟩] by kernel_rfl] at c17
  replace c17 := hide c17
  have c18 := fun (w : World) => dVerify_any ⟨#[73, 15, 245, 242, 20, 45, 238, 143]⟩ ⟨#[97]⟩ 0 none 0 0 [] w (Lst.nil _ _ _ _) (by decide) (by decide) (by omega)
  rw [show verS ⟨#[73, 15, 245, 242, 20, 45, 238, 143]⟩ ⟨#[97]⟩ 0 [] = true by kernel_rfl] at c18
  replace c18 := hide c18
  have c19 := fun (w : World) => dVerify_any ⟨#[73, 15, 245, 242, 20, 45, 238, 143]⟩ ⟨#[97]⟩ 1 none 0 0 [] w (Lst.nil _ _ _ _) (by decide) (by decide) (by omega)
  rw [show verS ⟨#[73, 15, 245, 242, 20, 45, 238, 143]⟩ ⟨#[97]⟩ 1 [] = false by kernel_rfl] at c19
  replace c19 := hide c19
  obtain ⟨W0, hW0⟩ : ∃ W0, w.heap.size = W0 := ⟨_, rfl⟩
  rw [hW0]
  have hle : W0 ≤ w.heap.size := by omega
  clear hW0
  have hb : Below W0 w w := Below.refl _ _
  go_enter Try.func10, Try.ntmps10
  go_wp2_with fail
  refine (unhide c0 _).mono ?_
  rintro e w1 ⟨rfl, h1⟩
  replace hb := hb.trans (h1.mono (Nat.le_trans hle hb.size))
  clear h1 c0
  go_wp2_with fail
  refine (unhide c1 _).mono ?_
  rintro e w2 ⟨rfl, h2⟩
  replace hb := hb.trans (h2.mono (Nat.le_trans hle hb.size))
  clear h2 c1
  go_wp2_with fail
  refine (unhide c2 _).mono ?_
  rintro e w3 ⟨rfl, h3⟩
  replace hb := hb.trans (h3.mono (Nat.le_trans hle hb.size))
  clear h3 c2
  go_wp2_with fail
  refine (unhide c3 _).mono ?_
  rintro e w4 ⟨rfl, h4⟩
  replace hb := hb.trans (h4.mono (Nat.le_trans hle hb.size))
  clear h4 c3
  go_wp2_with fail
  refine (unhide c4 _).mono ?_
  rintro e w5 ⟨rfl, h5⟩
  replace hb := hb.trans (h5.mono (Nat.le_trans hle hb.size))
  clear h5 c4
  go_wp2_with fail
  refine (unhide c5 _).mono ?_
  rintro e w6 ⟨rfl, h6⟩
  replace hb := hb.trans (h6.mono (Nat.le_trans hle hb.size))
  clear h6 c5
  go_wp2_with fail
  refine (unhide c6 _).mono ?_
  rintro e w7 ⟨rfl, h7⟩
  replace hb := hb.trans (h7.mono (Nat.le_trans hle hb.size))
  clear h7 c6
  go_wp2_with fail
  refine (unhide c7 _).mono ?_
  rintro e w8 ⟨rfl, h8⟩
  replace hb := hb.trans (h8.mono (Nat.le_trans hle hb.size))
  clear h8 c7
  go_wp2_with fail
  refine (unhide c8 _).mono ?_
  rintro e w9 ⟨rfl, h9⟩
  replace hb := hb.trans (h9.mono (Nat.le_trans hle hb.size))
  clear h9 c8
  go_wp2_with fail
  refine (unhide c9 _).mono ?_
  rintro e w10 ⟨rfl, h10⟩
  replace hb := hb.trans (h10.mono (Nat.le_trans hle hb.size))
  clear h10 c9
  go_wp2_with fail
  refine (unhide c10 _).mono ?_
  rintro e w11 ⟨rfl, h11⟩
  replace hb := hb.trans (h11.mono (Nat.le_trans hle hb.size))
  clear h11 c10
  go_wp2_with fail
  refine (unhide c11 _).mono ?_
  rintro e w12 ⟨rfl, h12⟩
  replace hb := hb.trans (h12.mono (Nat.le_trans hle hb.size))
  clear h12 c11
  go_wp2_with fail
  refine (unhide c12 _).mono ?_
  rintro e w13 ⟨rfl, h13⟩
  replace hb := hb.trans (h13.mono (Nat.le_trans hle hb.size))
  clear h13 c12
  go_wp2_with fail
  refine (unhide c13 _).mono ?_
  rintro e w14 ⟨rfl, h14⟩
  replace hb := hb.trans (h14.mono (Nat.le_trans hle hb.size))
  clear h14
  go_wp2_with fail
  refine (unhide c14 _).mono ?_
  rintro e w15 ⟨rfl, h15⟩
  replace hb := hb.trans (h15.mono (Nat.le_trans hle hb.size))
  clear h15
  go_wp2_with fail
  refine (unhide c15 _).mono ?_
  rintro e w16 ⟨rfl, h16⟩
  replace hb := hb.trans (h16.mono (Nat.le_trans hle hb.size))
  clear h16
  go_wp2_with fail
  refine (unhide c16 _).mono ?_
  rintro e w17 ⟨rfl, h17⟩
  replace hb := hb.trans (h17.mono (Nat.le_trans hle hb.size))
  clear h17
  go_wp2_with fail
  refine (unhide c17 _).mono ?_
  rintro e w18 ⟨⟨pa, pc, rfl, hp⟩, h18⟩
  replace hb := hb.trans (h18.mono (Nat.le_trans hle hb.size))
  clear h18
  replace hp := hide hp
  go_wp2_with fail
  refine (unhide c16 _).mono ?_
  rintro e w19 ⟨rfl, h19⟩
  have hA := (((unhide hp).wide (S' := fun b => b < w18.heap.size) (fun b h => h.1)).under h19).under ((Below.refl w19.heap.size w19).alloc (Nat.le_refl _) (Obj.cells (([⟨#[0, 25, 8, 245, 0, 26, 179, 115]⟩, ⟨#[22, 183, 178, 128, 125, 120, 123, 83]⟩] : List ByteArray).map Value.string).toArray 9))
  have hB := lst_strs (T := 9) (l := [⟨#[0, 25, 8, 245, 0, 26, 179, 115]⟩, ⟨#[22, 183, 178, 128, 125, 120, 123, 83]⟩]) (S := (· < (w19.alloc (Obj.cells (([⟨#[0, 25, 8, 245, 0, 26, 179, 115]⟩, ⟨#[22, 183, 178, 128, 125, 120, 123, 83]⟩] : List ByteArray).map Value.string).toArray 9)).heap.size)) (heap_alloc_new w19 _) (by intro x hx; simp at hx; rcases hx with rfl | rfl <;> decide) (by simp)
  have c20 := same_any pa 2 pc [⟨#[0, 25, 8, 245, 0, 26, 179, 115]⟩, ⟨#[22, 183, 178, 128, 125, 120, 123, 83]⟩] (some ⟨w19.heap.size, 0, none⟩) 2 2 [⟨#[0, 25, 8, 245, 0, 26, 179, 115]⟩, ⟨#[22, 183, 178, 128, 125, 120, 123, 83]⟩] _ hA hB (by omega) (by omega)
  rw [show decide (([⟨#[0, 25, 8, 245, 0, 26, 179, 115]⟩, ⟨#[22, 183, 178, 128, 125, 120, 123, 83]⟩] : List ByteArray) = [⟨#[0, 25, 8, 245, 0, 26, 179, 115]⟩, ⟨#[22, 183, 178, 128, 125, 120, 123, 83]⟩]) = true from decide_eq_true rfl] at c20
  replace hb := hb.trans (h19.mono (Nat.le_trans hle hb.size))
  have hle19 := Nat.le_trans hle hb.size
  clear h19 hA hB
  replace c20 := hide c20
  go_wp2_with fail
  refine (unhide c20).mono ?_
  rintro e w20 ⟨rfl, m20, hw20⟩
  replace hb : Below W0 w w20 := by rw [hw20]; exact blw_drewN (hb.alloc hle19 _) m20
  clear hw20 c20 hle19
  go_wp2_with fail
  refine (unhide c18 _).mono ?_
  rintro e w21 ⟨rfl, h21⟩
  replace hb := hb.trans (h21.mono (Nat.le_trans hle hb.size))
  clear h21
  go_wp2_with fail
  refine (unhide c19 _).mono ?_
  rintro e w22 ⟨rfl, h22⟩
  replace hb := hb.trans (h22.mono (Nat.le_trans hle hb.size))
  clear h22
  go_wp2_with fail
  go_ret
  exact ⟨rfl, hb⟩
end Go.Proofs.Ytlmaofibdjmkeaa
