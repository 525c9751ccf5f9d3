/- The reference of digest. -/
import Derived.Test.YtcliegeooooonaaDg3
import Derived.Test.YtcliegeooooonaaFrontG
namespace Go.Proofs.Ytcliegeooooonaa
open Go.RowKit
attribute [local go_sem ↓] Go.wp_at_zero Go.wp_at_succ
set_option maxRecDepth 100000 in
set_option maxHeartbeats 1000000 in
theorem rbytes4_any (n : Nat) (w : World) (_ : n ≤ 1000000000000) :
    Calls Try.prog 30 #[.int .i64 (n : Int)] w fun e w' => e = .returned (.string ⟨(Dg.b4 n).toArray⟩) ∧ Below w.heap.size w w' := by
  have hconv : ∀ v0 v1 v2 v3 : Int, v0 = ((n / 16777216 : Nat) : Int) % 256 → v1 = ((n / 65536 : Nat) : Int) % 256 → v2 = ((n / 256 : Nat) : Int) % 256 → v3 = (n : Int) % 256 →
      (convert 51 9 (.slice (some ⟨w.heap.size, 0, none⟩) 4 4)).run Try.prog (w.alloc (Obj.cells #[.int .u8 v0, .int .u8 v1, .int .u8 v2, .int .u8 v3] 5)) = .ok (.string ⟨(Dg.b4 n).toArray⟩) (w.alloc (Obj.cells #[.int .u8 v0, .int .u8 v1, .int .u8 v2, .int .u8 v3] 5)) := by
    intro v0 v1 v2 v3 h0 h1 h2 h3
    refine run_convert_bytes_back (P := Try.prog) _ 51 9 5 ⟨w.heap.size, 0, none⟩ 4 (Dg.b4 n) Try.underlying51 Try.underlying5 Try.underlying9 (fun j hj => ?_)
    rw [Addr.add_lit, Nat.zero_add, cell_of_row _ w.heap.size j _ _ _ (heap_alloc_new w _)]
    have hj4 : j < 4 := hj
    obtain rfl | rfl | rfl | rfl : j = 0 ∨ j = 1 ∨ j = 2 ∨ j = 3 := by omega
    all_goals
      simp only [b4_cells, List.getElem_cons_zero, List.getElem_cons_succ, UInt8.toNat_ofNat']
      simp
      omega
  go_enter Try.func30, Try.ntmps30
  go_wp2_with fail
  go_ret
  exact ⟨rfl, (Below.refl _ _).alloc (Nat.le_refl _) _⟩
theorem rstepX (X c : Nat) (hX : X < 2147483563) (hc : c < 256) : (wrap64 (wrap64 (40014 * (X : Int) + wrap64 (c : Int)) + 1)).tmod 2147483563 = (40014 * (X : Int) + (c : Int) + 1) % 2147483563 := by
  have e1 : wrap64 (c : Int) = c := by unfold wrap64; omega
  have e2 : wrap64 (40014 * (X : Int) + (c : Int)) = 40014 * (X : Int) + (c : Int) := by unfold wrap64; omega
  have e3 : wrap64 (40014 * (X : Int) + (c : Int) + 1) = 40014 * (X : Int) + (c : Int) + 1 := by unfold wrap64; omega
  rw [e1, e2, e3, Int.tmod_eq_emod_of_nonneg (by omega)]
theorem rstepY (X c : Nat) (hX : X < 2147483399) (hc : c < 256) : (wrap64 (wrap64 (40692 * (X : Int) + wrap64 (c : Int)) + 1)).tmod 2147483399 = (40692 * (X : Int) + (c : Int) + 1) % 2147483399 := by
  have e1 : wrap64 (c : Int) = c := by unfold wrap64; omega
  have e2 : wrap64 (40692 * (X : Int) + (c : Int)) = 40692 * (X : Int) + (c : Int) := by unfold wrap64; omega
  have e3 : wrap64 (40692 * (X : Int) + (c : Int) + 1) = 40692 * (X : Int) + (c : Int) + 1 := by unfold wrap64; omega
  rw [e1, e2, e3, Int.tmod_eq_emod_of_nonneg (by omega)]
set_option maxRecDepth 100000 in
set_option maxHeartbeats 1000000 in
theorem rOf_any (s : ByteArray) (w : World) (hs : s.size ≤ maxLen) :
    Calls Try.prog 24 #[.string s] w fun e w' => e = .returned (.string ⟨(Dg.dig s.data.toList).toArray⟩) ∧ Below w.heap.size w w' := by
  go_enter Try.func24, Try.ntmps24
  go_wp2_with fail
  obtain ⟨S, hS⟩ : ∃ S, s.data.toList = S := ⟨_, rfl⟩
  have hSl : S.length = s.size := by rw [← hS]; exact data_len s
  unfold maxLen at hs
  replace hS := hide hS; replace hSl := hide hSl
  go_loop [3, 4, 5] (fun v3 v4 v5 => ∃ j : Nat, j ≤ s.size ∧ v5 = .int .i64 (j : Int) ∧ v3 = .int .i64 (Dg.runX (S.take j) : Int) ∧ v4 = .int .i64 (Dg.runY (S.take j) : Int)) (fun _ _ v => (s.size - (intOf v).toNat))
  case atStart => exact ⟨0, by omega, rfl, by simp [Dg.runX], by simp [Dg.runY]⟩
  case round =>
    obtain ⟨j, hj, rfl, rfl, rfl⟩ := hrel
    by_cases hjl : j < s.size
    · have hjS : j < S.length := by rw [unhide hSl]; exact hjl
      have hX := Dg.runX_lt (S.take j)
      have hY := Dg.runY_lt (S.take j)
      have hcx := stepX_cast (Dg.runX (S.take j)) S[j]
      have hcy := stepY_cast (Dg.runY (S.take j)) S[j]
      rw [← Dg.runX_snoc, ← List.take_succ_eq_append_getElem hjS] at hcx
      rw [← Dg.runY_snoc, ← List.take_succ_eq_append_getElem hjS] at hcy
      obtain ⟨X, hXX⟩ : ∃ X, Dg.runX (S.take j) = X := ⟨_, rfl⟩
      obtain ⟨Y, hYY⟩ : ∃ Y, Dg.runY (S.take j) = Y := ⟨_, rfl⟩
      rw [hXX] at hcx hX ⊢
      rw [hYY] at hcy hY ⊢
      replace hXX := hide hXX; replace hYY := hide hYY; replace hcx := hide hcx; replace hcy := hide hcy
      go_wp2_with fail
      have hbj : s[j] = S[j] := by
        obtain rfl := unhide hS
        rfl
      have hc := S[j].toNat_lt
      go_round
      case rel => exact ⟨j + 1, by omega, by go_num, by rw [hbj, rstepX X _ hX hc, unhide hcx], by rw [hbj, rstepY Y _ hY hc, unhide hcy]⟩
      case measure => simp [intOf]; omega
    · obtain rfl : j = s.size := by omega
      have hX := Dg.runX_lt (S.take s.size)
      have hY := Dg.runY_lt (S.take s.size)
      have hb1 := fun w => rbytes4_any (Dg.runX (S.take s.size)) w (by omega)
      have hb2 := fun w => rbytes4_any (Dg.runY (S.take s.size)) w (by omega)
      replace hb1 := hide hb1; replace hb2 := hide hb2
      go_wp2_with fail
      refine (unhide hb1 _).mono ?_
      rintro e w1 ⟨rfl, h1⟩
      go_wp2_with fail
      refine (unhide hb2 _).mono ?_
      rintro e w2 ⟨rfl, h2⟩
      go_wp2_with fail
      go_ret
      refine ⟨?_, h1.trans (h2.mono h1.size)⟩
      rw [List.take_of_length_le (by rw [unhide hSl]; exact Nat.le_refl _), ← unhide hS]
      exact congrArg (fun x => Ending.returned (Value.string x)) (ba_app _ _)
set_option maxHeartbeats 1000000 in
theorem rChain_any (b s : ByteArray) (w : World) (hb : b.size ≤ 1000000000000) (hs : s.size ≤ 1000000000000) :
    Calls Try.prog 26 #[.string b, .string s] w fun e w' => e = .returned (.string ⟨(chainS b s).toArray⟩) ∧ Below w.heap.size w w' := by
  have hT : ∀ T : ByteArray, T.data.toList = 99 :: (Dg.b4 b.size ++ (b.data.toList ++ s.data.toList)) → ∀ w, Calls Try.prog 24 #[.string T] w fun e w' => e = .returned (.string ⟨(chainS b s).toArray⟩) ∧ Below w.heap.size w w' := fun T hT w => by
    have := rOf_any T w (by rw [← data_len, hT]; simp [Dg.b4, maxLen]; omega)
    rw [hT] at this
    exact this
  have hb4 := fun w => rbytes4_any b.size w hb
  have hq : (⟨(Dg.b4 b.size).toArray⟩ : ByteArray).size = 4 := rfl
  replace hT := hide hT; replace hb4 := hide hb4
  go_enter Try.func26, Try.ntmps26
  go_wp2_with fail
  refine (unhide hb4 _).mono ?_
  rintro e w1 ⟨rfl, h1⟩
  go_wp2_with fail
  refine (unhide hT _ ?hd _).mono ?_
  case hd => simp
  rintro e w2 ⟨rfl, h2⟩
  go_wp2_with fail
  go_ret
  exact ⟨rfl, h1.trans (h2.mono h1.size)⟩
end Go.Proofs.Ytcliegeooooonaa
