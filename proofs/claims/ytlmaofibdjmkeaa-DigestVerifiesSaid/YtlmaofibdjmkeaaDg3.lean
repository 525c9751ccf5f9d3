/- digest.length, Of, Chain, Mark. -/
import Derived.Test.YtlmaofibdjmkeaaDg2
namespace Go.Proofs.Ytlmaofibdjmkeaa
open Go.RowKit
attribute [local go_sem ↓] Go.wp_at_zero Go.wp_at_succ

theorem b4_cells (n : Nat) : Dg.b4 n = [UInt8.ofNat (n / 16777216), UInt8.ofNat (n / 65536), UInt8.ofNat (n / 256), UInt8.ofNat n] := rfl
set_option maxRecDepth 100000 in
set_option maxHeartbeats 1000000 in
theorem length_any (s : ByteArray) (w : World) (_ : s.size ≤ 1000000000000) :
    Calls Try.prog 34 #[.string s] w fun e w' => e = .returned (.string ⟨(Dg.b4 s.size).toArray⟩) ∧ Below w.heap.size w w' := by
  have hconv : ∀ v0 v1 v2 v3 : Int, v0 = ((s.size / 16777216 : Nat) : Int) % 256 → v1 = ((s.size / 65536 : Nat) : Int) % 256 → v2 = ((s.size / 256 : Nat) : Int) % 256 → v3 = (s.size : Int) % 256 →
      (convert 32 9 (.slice (some ⟨w.heap.size, 0, none⟩) 4 4)).run Try.prog (w.alloc (Obj.cells #[.int .u8 v0, .int .u8 v1, .int .u8 v2, .int .u8 v3] 5)) = .ok (.string ⟨(Dg.b4 s.size).toArray⟩) (w.alloc (Obj.cells #[.int .u8 v0, .int .u8 v1, .int .u8 v2, .int .u8 v3] 5)) := by
    intro v0 v1 v2 v3 h0 h1 h2 h3
    refine run_convert_bytes_back (P := Try.prog) _ 32 9 5 ⟨w.heap.size, 0, none⟩ 4 (Dg.b4 s.size) Try.underlying32 Try.underlying5 Try.underlying9 (fun j hj => ?_)
    rw [Addr.add_lit, Nat.zero_add, cell_of_row _ w.heap.size j _ _ _ (heap_alloc_new w _)]
    have hj4 : j < 4 := hj
    obtain rfl | rfl | rfl | rfl : j = 0 ∨ j = 1 ∨ j = 2 ∨ j = 3 := by omega
    all_goals
      simp only [b4_cells, List.getElem_cons_zero, List.getElem_cons_succ, UInt8.toNat_ofNat']
      simp
      omega
  go_enter Try.func34, Try.ntmps34
  go_wp2_with fail
  go_ret
  exact ⟨rfl, (Below.refl _ _).alloc (Nat.le_refl _) _⟩
/-- a call of digest.of on a literal row -/
theorem of_lit (l : List ByteArray) (w : World) (hl : ∀ x ∈ l, x.size ≤ maxLen) (hlen : l.length ≤ 1000000) :
    Calls Try.prog 31 #[.slice (some ⟨w.heap.size, 0, none⟩) l.length l.length] (w.alloc (Obj.cells (l.map Value.string).toArray 9)) fun e w' => e = .returned (digV (Dg.dig (allB l))) ∧ Below w.heap.size w w' := by
  have hL := lst_strs (T := 9) (l := l) (S := (· < (w.alloc (Obj.cells (l.map Value.string).toArray 9)).heap.size)) (heap_alloc_new w (Obj.cells (l.map Value.string).toArray 9)) hl (by simp)
  have hb : Below w.heap.size w (w.alloc (Obj.cells (l.map Value.string).toArray 9)) := (Below.refl _ _).alloc (Nat.le_refl _) _
  exact (of_any _ _ _ l _ hL hlen).mono fun e w' ⟨he, h⟩ => ⟨he, hb.trans (h.mono hb.size)⟩
theorem allB_1 (a : ByteArray) : allB [a] = a.data.toList := by simp [allB]
theorem allB_2 (a b : ByteArray) : allB [a, b] = a.data.toList ++ b.data.toList := by simp [allB]
theorem allB_3 (a b c : ByteArray) : allB [a, b, c] = a.data.toList ++ (b.data.toList ++ c.data.toList) := by simp [allB]
theorem allB_4 (a b c d : ByteArray) : allB [a, b, c, d] = a.data.toList ++ (b.data.toList ++ (c.data.toList ++ d.data.toList)) := by simp [allB]
theorem allB_5 (a b c d e : ByteArray) : allB [a, b, c, d, e] = a.data.toList ++ (b.data.toList ++ (c.data.toList ++ (d.data.toList ++ e.data.toList))) := by simp [allB]
/-- the specifications, on bytes -/
def chainS (b s : ByteArray) : List UInt8 := Dg.dig (99 :: (Dg.b4 b.size ++ (b.data.toList ++ s.data.toList)))
def markS (k m : ByteArray) : List UInt8 := Dg.dig (109 :: (Dg.b4 k.size ++ (k.data.toList ++ (m.data.toList ++ k.data.toList))))
theorem dOf_any (s : ByteArray) (w : World) (hs : s.size ≤ maxLen) :
    Calls Try.prog 12 #[.string s] w fun e w' => e = .returned (.string ⟨(Dg.dig s.data.toList).toArray⟩) ∧ Below w.heap.size w w' := by
  have hc := of_lit [s] w (by simpa using hs) (by simp)
  rw [allB_1] at hc
  replace hc := hide hc
  go_enter Try.func12, Try.ntmps12
  go_wp2_with fail
  refine (unhide hc).mono ?_
  rintro e w1 ⟨rfl, hb⟩
  go_wp2_with fail
  refine (text_any _ _ (Dg.dig_len _)).mono ?_
  rintro e w2 ⟨rfl, hb2⟩
  go_wp2_with fail
  go_ret
  exact ⟨rfl, hb.trans (hb2.mono hb.size)⟩
theorem dChain_any (b s : ByteArray) (w : World) (hb0 : b.size ≤ 1000000000000) (hs : s.size ≤ 1000000000000) :
    Calls Try.prog 14 #[.string b, .string s] w fun e w' => e = .returned (.string ⟨(chainS b s).toArray⟩) ∧ Below w.heap.size w w' := by
  have hc := fun w => of_lit [⟨#[99]⟩, ⟨(Dg.b4 b.size).toArray⟩, b, s] w (by intro x hx; simp at hx; rcases hx with rfl | rfl | rfl | rfl <;> first | decide | (rw [ba_size]; exact Nat.le_trans (Nat.le_refl 4) (by decide)) | exact Nat.le_trans hb0 (by decide) | exact Nat.le_trans hs (by decide)) (by simp)
  replace hc := hide hc
  go_enter Try.func14, Try.ntmps14
  go_wp2_with fail
  refine (length_any b _ hb0).mono ?_
  rintro e w1 ⟨rfl, hb1⟩
  go_wp2_with fail
  refine (unhide hc w1).mono ?_
  rintro e w2 ⟨rfl, hb2⟩
  go_wp2_with fail
  refine (text_any _ _ (Dg.dig_len _)).mono ?_
  rintro e w3 ⟨rfl, hb3⟩
  go_wp2_with fail
  go_ret
  have hb4 := hb1.trans (hb2.mono hb1.size)
  exact ⟨ret_str (by rw [allB_4]; rfl), hb4.trans (hb3.mono hb4.size)⟩
set_option maxHeartbeats 1000000 in
theorem marked_any (k m : ByteArray) (w : World) (hk : k.size ≤ 1000000000000) (hm : m.size ≤ 1000000000000) :
    Calls Try.prog 35 #[.string k, .string m] w fun e w' => e = .returned (digV (markS k m)) ∧ Below w.heap.size w w' := by
  have hc := fun w => of_lit [⟨#[109]⟩, ⟨(Dg.b4 k.size).toArray⟩, k, m, k] w (by intro x hx; simp at hx; rcases hx with rfl | rfl | rfl | rfl | rfl <;> first | decide | (rw [ba_size]; exact Nat.le_trans (Nat.le_refl 4) (by decide)) | exact Nat.le_trans hk (by decide) | exact Nat.le_trans hm (by decide)) (by simp)
  replace hc := hide hc
  obtain ⟨x1, w0, e1, e3, st⟩ := St.new1 w zeros8
  replace e1 := hide e1; replace e3 := hide e3
  go_enter Try.func35, Try.ntmps35
  go_wp2_with fail
  rw [unhide e3, unhide e1]
  refine (length_any k _ hk).mono ?_
  rintro e w1 ⟨rfl, hb1⟩
  replace st := st.call hb1
  go_wp2_with fail
  refine (unhide hc w1).mono ?_
  rintro e w2 ⟨rfl, hb2⟩
  replace st := st.call hb2
  rw [allB_5]
  obtain ⟨D, hD⟩ : ∃ D, markS k m = D := ⟨_, rfl⟩
  have hD2 : Dg.dig ((⟨#[109]⟩ : ByteArray).data.toList ++ ((⟨(Dg.b4 k.size).toArray⟩ : ByteArray).data.toList ++ (k.data.toList ++ (m.data.toList ++ k.data.toList)))) = D := hD
  rw [hD2]
  replace hD := hide hD
  clear hD2 hc hb1 hb2
  have hx1 : w.heap.size ≤ x1 := st.lo _ (List.mem_of_getElem? (i := 0) rfl)
  have hbw := st.below
  have hzh := hide (st.get 0 rfl)
  obtain ⟨⟨c0, c1, c2, c3, c4, c5, c6, c7⟩, f0, f1, f2, f3, f4, f5, f6, f7⟩ := row8 (st.get 0 rfl)
  go_wp2_with fail
  obtain ⟨⟨r0, r1, r2, r3, r4, r5, r6, r7⟩, _⟩ := row8 (eight_sets (.int .u8 (D[0]?.getD 0).toNat) (.int .u8 (D[1]?.getD 0).toNat) (.int .u8 (D[2]?.getD 0).toNat) (.int .u8 (D[3]?.getD 0).toNat) (.int .u8 (D[4]?.getD 0).toNat) (.int .u8 (D[5]?.getD 0).toNat) (.int .u8 (D[6]?.getD 0).toNat) (.int .u8 (D[7]?.getD 0).toNat) (unhide hzh))
  exact bodyPost_ret (v := digV D) (by simp [results, Try.results35, go_sem, r0, r1, r2, r3, r4, r5, r6, r7]) rfl ⟨by rw [unhide hD], ((((((((hbw.setCell (p := ⟨x1, 0, none⟩) hx1 _).setCell (p := ⟨x1, 1, none⟩) hx1 _).setCell (p := ⟨x1, 2, none⟩) hx1 _).setCell (p := ⟨x1, 3, none⟩) hx1 _).setCell (p := ⟨x1, 4, none⟩) hx1 _).setCell (p := ⟨x1, 5, none⟩) hx1 _).setCell (p := ⟨x1, 6, none⟩) hx1 _).setCell (p := ⟨x1, 7, none⟩) hx1 _)⟩
theorem markS_len (k m : ByteArray) : (markS k m).length = 8 := rfl
theorem dMark_any (k m : ByteArray) (w : World) (hk : k.size ≤ 1000000000000) (hm : m.size ≤ 1000000000000) :
    Calls Try.prog 20 #[.string k, .string m] w fun e w' => e = .returned (.string ⟨(markS k m).toArray⟩) ∧ Below w.heap.size w w' := by
  go_enter Try.func20, Try.ntmps20
  go_wp2_with fail
  refine (marked_any k m _ hk hm).mono ?_
  rintro e w1 ⟨rfl, hb1⟩
  go_wp2_with fail
  refine (text_any _ _ (markS_len _ _)).mono ?_
  rintro e w2 ⟨rfl, hb2⟩
  go_wp2_with fail
  go_ret
  exact ⟨rfl, hb1.trans (hb2.mono hb1.size)⟩
end Go.Proofs.Ytlmaofibdjmkeaa
