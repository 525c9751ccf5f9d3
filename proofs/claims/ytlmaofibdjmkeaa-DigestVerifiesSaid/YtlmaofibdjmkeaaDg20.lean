/- DigestTrees. -/
import Derived.Test.YtlmaofibdjmkeaaDg18
import Derived.Test.YtlmaofibdjmkeaaDg15
namespace Go.Proofs.Ytlmaofibdjmkeaa
open Go.RowKit
attribute [local go_sem ↓] Go.wp_at_zero Go.wp_at_succ
theorem rprove_none (a : Option Addr) (len cap : Nat) (i : Int) (w : World) (hi : i < 0 ∨ (len : Int) ≤ i) :
    Calls Try.prog 24 #[.slice a len cap, .int .i64 i] w fun e w' => e = .returned (.tuple #[.slice none 0 0, .bool false]) ∧ Below w.heap.size w w' := by
  rcases hi with hi | hi
  · go_enter Try.func24, Try.ntmps24
    go_wp2_with fail
    exact bodyPost_ret (results_tmp2 rfl _ _ _) rfl ⟨rfl, Below.refl _ _⟩
  · by_cases h0 : i < 0
    · clear hi
      go_enter Try.func24, Try.ntmps24
      go_wp2_with fail
      exact bodyPost_ret (results_tmp2 rfl _ _ _) rfl ⟨rfl, Below.refl _ _⟩
    · go_enter Try.func24, Try.ntmps24
      go_wp2_with fail
      exact bodyPost_ret (results_tmp2 rfl _ _ _) rfl ⟨rfl, Below.refl _ _⟩
/-- what Prove returns -/
def Dg.prv (L : List ByteArray) (i : Int) : List ByteArray × Bool := if 0 ≤ i ∧ i < (L.length : Int) then (Dg.prf (L.map fun s => s.data.toList) i.toNat, true) else ([], false)
theorem dprv_any (a : Option Addr) (len cap : Nat) (L : List ByteArray) (i : Int) (w : World) (hL : Lst Enc.str w (fun b => b < w.heap.size) a len L) (hlen : len ≤ 32) :
    Calls Try.prog 23 #[.slice a len cap, .int .i64 i] w fun e w' => (∃ pa pc, e = .returned (.tuple #[.slice pa (Dg.prv L i).1.length pc, .bool (Dg.prv L i).2]) ∧ Lst Enc.str w' (fun b => b < w'.heap.size ∧ w.heap.size ≤ b) pa (Dg.prv L i).1.length (Dg.prv L i).1) ∧ Below w.heap.size w w' := by
  have hl := hL.1
  by_cases h : 0 ≤ i ∧ i < (L.length : Int)
  · obtain ⟨q, rfl⟩ := Int.eq_ofNat_of_zero_le h.1
    unfold Dg.prv
    rw [if_pos h]
    exact prove_any a len cap L q w hL hlen (by omega)
  · unfold Dg.prv
    rw [if_neg h]
    refine (dProve_none a len cap i w (by omega)).mono ?_
    rintro e w' ⟨rfl, hb⟩
    exact ⟨⟨_, _, rfl, Lst.nil _ _ _ _⟩, hb⟩
theorem rprv_any (a : Option Addr) (len cap : Nat) (L : List ByteArray) (i : Int) (w : World) (hL : Lst Enc.str w (fun b => b < w.heap.size) a len L) (hlen : len ≤ 32) (hxs : ∀ x ∈ L, x.size ≤ 1000000000000) :
    Calls Try.prog 24 #[.slice a len cap, .int .i64 i] w fun e w' => (∃ pa pc, e = .returned (.tuple #[.slice pa (Dg.prv L i).1.length pc, .bool (Dg.prv L i).2]) ∧ Lst Enc.str w' (fun b => b < w'.heap.size ∧ w.heap.size ≤ b) pa (Dg.prv L i).1.length (Dg.prv L i).1) ∧ Below w.heap.size w w' := by
  have hl := hL.1
  by_cases h : 0 ≤ i ∧ i < (L.length : Int)
  · obtain ⟨q, rfl⟩ := Int.eq_ofNat_of_zero_le h.1
    unfold Dg.prv
    rw [if_pos h]
    exact rprove_any a len cap L q w hL hlen (by omega) hxs
  · unfold Dg.prv
    rw [if_neg h]
    refine (rprove_none a len cap i w (by omega)).mono ?_
    rintro e w' ⟨rfl, hb⟩
    exact ⟨⟨_, _, rfl, Lst.nil _ _ _ _⟩, hb⟩
theorem prf_many (L : List (List UInt8)) (i : Nat) : (Dg.prf L i).length ≤ 5 := Nat.le_trans (Dg.pf_many L i _) (by unfold Dg.dp; (repeat' split) <;> omega)
theorem prv_many (L : List ByteArray) (i : Int) : (Dg.prv L i).1.length ≤ 5 := by
  unfold Dg.prv
  split
  · exact prf_many _ _
  · simp
set_option maxRecDepth 100000 in
set_option maxHeartbeats 4000000 in
theorem digestTrees_any (a : Option Addr) (n c : Nat) (l0 : List ByteArray) (i : Int) (w : World) (hl : Lst Enc.str w (fun b => b < w.heap.size) a n l0) (_ : n ≤ c) (_ : c ≤ maxLen) (_ : -9223372036854775808 ≤ i ∧ i ≤ 9223372036854775807) :
    Calls Try.prog 6 #[.slice a n c, .int .i64 i] w fun e w' => e = .returned (.bool true) ∧ Below w.heap.size w w' := by
  have hsan := fun w => dsanity_any w
  have hls := fun w hl => dlist_any a n c l0 w hl
  replace hsan := hide hsan; replace hls := hide hls; replace hl := hide hl
  go_enter Try.func6, Try.ntmps6
  go_wp2_with fail
  refine (unhide hsan _).mono ?_
  rintro e w1 ⟨rfl, h1⟩
  go_wp2_with fail
  refine (unhide hls _ ((unhide hl).under h1)).mono ?_
  rintro e w2 ⟨⟨pa, pc, rfl, hL0⟩, h2⟩
  have hL := hL0.wide (S' := fun b => b < w2.heap.size) (fun b h => h.1)
  have hB := h1.trans (h2.mono h1.size)
  have hlen : (Dg.cutL l0).length ≤ 20 := by rw [cutL_len]; omega
  have hsz := cutL_sizes l0
  obtain ⟨L, hLe⟩ : ∃ L, Dg.cutL l0 = L := ⟨_, rfl⟩
  obtain ⟨N, hN⟩ : ∃ N, (Dg.cutL l0).length = N := ⟨_, rfl⟩
  rw [hN] at hlen hL ⊢
  rw [hLe] at hL hsz hN
  clear h1 h2 hL0 hls hsan hl hLe
  obtain ⟨y, hy⟩ : ∃ y, bits .and .i64 i 31 = y := ⟨_, rfl⟩
  replace hL := hide hL; replace hsz := hide hsz; replace hN := hide hN
  obtain ⟨wo, hwo⟩ : ∃ wo, wo = w2.alloc (Obj.cells #[.int .i64 i, .int .i64 y, .int .i64 (N : Int), .int .i64 (-1)] 3) := ⟨_, rfl⟩
  obtain ⟨b, hbe⟩ : ∃ b, b = w2.heap.size := ⟨_, rfl⟩
  have hrow : wo.heap[b]? = some (.cells #[.int .i64 i, .int .i64 y, .int .i64 (N : Int), .int .i64 (-1)] 3 (0, 0)) := by rw [hwo, hbe]; exact heap_alloc_new w2 _
  have hbl : b < wo.heap.size := (Array.getElem?_eq_some_iff.1 hrow).1
  have hBo : Below w.heap.size w wo := by rw [hwo]; exact hB.alloc hB.size _
  have hLo : Lst Enc.str wo (fun b => b < wo.heap.size) pa N L := by
    rw [hwo]
    exact (unhide hL).under ((Below.refl _ _).alloc (Nat.le_refl _) _)
  replace hwo := hide hwo; replace hrow := hide hrow; replace hLo := hide hLo; replace hbe := hide hbe
  clear hB
  go_wp2_with fail
  rw [← unhide hwo, ← unhide hbe]
  go_wp2_with fail
  go_loopw [22] (fun v22 wr => ∃ k : Nat, k ≤ 4 ∧ v22 = .int .i64 (k : Int) ∧ Below wo.heap.size wo wr) (fun v _ => (4 - intOf v).toNat)
  case atStart => exact ⟨0, by omega, rfl, Below.refl _ _⟩
  case round =>
    obtain ⟨k, hk, rfl, hb⟩ := hrel
    by_cases hlt : k < 4
    · have hrow9 := (hb.block b hbl).trans (unhide hrow)
      obtain ⟨x, hx⟩ : ∃ x : Int, (#[Value.int .i64 i, .int .i64 y, .int .i64 (N : Int), .int .i64 (-1)])[k]? = some (.int .i64 x) := by
        obtain rfl | rfl | rfl | rfl : k = 0 ∨ k = 1 ∨ k = 2 ∨ k = 3 := by omega
        all_goals exact ⟨_, rfl⟩
      have hcx : wr.cell? ⟨b, k, none⟩ = some (.int .i64 x) := (cell_of_row _ b k _ _ _ hrow9).trans hx
      have t1 : (k : Int) < 4 := by omega
      have hc1 := fun w hL => dprv_any pa N pc L x w hL (by omega)
      have hc2 := fun w hL => rprv_any pa N pc L x w hL (by omega) (fun z hz => by have := unhide hsz z hz; omega)
      have hP5 := prv_many L x
      obtain ⟨P, hP⟩ : ∃ P, (Dg.prv L x).1 = P := ⟨_, rfl⟩
      obtain ⟨B, hBB⟩ : ∃ B, (Dg.prv L x).2 = B := ⟨_, rfl⟩
      simp only [hP, hBB] at hc1 hc2
      rw [hP] at hP5
      obtain ⟨m, hm⟩ : ∃ m, P.length = m := ⟨_, rfl⟩
      simp only [hm] at hc1 hc2
      rw [hm] at hP5
      have hne : (B != B) = false := by cases B <;> rfl
      have hLr := (unhide hLo).under hb
      have hbz := hb.size
      replace hc1 := hide hc1; replace hc2 := hide hc2; replace hx := hide hx; replace hrow9 := hide hrow9; replace hm := hide hm; replace hLr := hide hLr
      clear hP hBB
      go_wp2_with fail
      refine (unhide hc1 _ (unhide hLr)).mono ?_
      rintro e w7 ⟨⟨qa, qc, rfl, hq⟩, h7⟩
      go_wp2_with fail
      refine (unhide hc2 _ ((unhide hLr).under h7)).mono ?_
      rintro e w8 ⟨⟨ra, rc, rfl, hr⟩, h8⟩
      have hb8 := (hb.trans (h7.mono hbz)).trans (h8.mono (hb.trans (h7.mono hbz)).size)
      have hq8 := ((hq.wide (S' := fun b => b < w7.heap.size) (fun b h => h.1)).under h8)
      have hr8 := hr.wide (S' := fun b => b < w8.heap.size) (fun b h => h.1)
      have hsm := same_any qa m qc P ra m rc P w8 hq8 hr8 (by omega) (by omega)
      rw [show decide (P = P) = true from decide_eq_true rfl] at hsm
      replace hsm := hide hsm
      clear h7 h8 hq hr hq8 hr8
      go_wp2_with fail
      refine (unhide hsm).mono ?_
      rintro e w9 ⟨rfl, j, rfl⟩
      have hb9 := blw_drewN hb8 j
      go_wp2_with fail
      go_roundw
      case rel => exact ⟨k + 1, by omega, by go_num, hb9⟩
      case measure => simp [intOf]; omega
    · obtain rfl : k = 4 := by omega
      have hLr := (unhide hLo).under hb
      have hc1 := fun w hL => root_any pa N pc L w hL (by omega)
      have hc2 := fun w hL => rroot_any pa N pc L w hL (by omega) (fun z hz => by have := unhide hsz z hz; omega)
      have hbz := hb.size
      replace hc1 := hide hc1; replace hc2 := hide hc2; replace hLr := hide hLr
      go_wp2_with fail
      refine (unhide hc1 _ (unhide hLr)).mono ?_
      rintro e w7 ⟨rfl, h7⟩
      go_wp2_with fail
      refine (unhide hc2 _ ((unhide hLr).under h7)).mono ?_
      rintro e w8 ⟨rfl, h8⟩
      have hb8 := (hb.trans (h7.mono hbz)).trans (h8.mono (hb.trans (h7.mono hbz)).size)
      have hbF := hBo.trans (hb8.mono hBo.size)
      go_wp2_with fail
      go_ret
      exact ⟨rfl, hbF⟩
end Go.Proofs.Ytlmaofibdjmkeaa
