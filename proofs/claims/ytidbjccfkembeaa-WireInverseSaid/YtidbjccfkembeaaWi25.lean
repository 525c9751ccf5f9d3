/- The law WireInverse. -/
import Derived.Test.YtidbjccfkembeaaWi24
namespace Go.Proofs.Ytidbjccfkembeaa
open Go.RowKit
attribute [local go_sem ↓] Go.wp_at_zero Go.wp_at_succ

abbrev ValT : Type := Int × Int × ByteArray × List Int × List ByteArray
abbrev encV : Enc ValT := Enc.pair (Enc.num .u8 0 255) (Enc.pair Enc.int (Enc.pair Enc.str (Enc.pair (Enc.list Enc.int) (Enc.list Enc.str))))
def serY (y : ValT) : List UInt8 := serV y.1 y.2.1 y.2.2.1 y.2.2.2.1 y.2.2.2.2
theorem serY_len (y : ValT) : (serY y).length ≤ 100000000 := (serV_len _ _ _ _ _).2
theorem flatY_len (l : List ValT) (h : l.length ≤ 8) : (l.flatMap serY).length ≤ 800000000 := by
  have key : ∀ l : List ValT, (l.flatMap serY).length ≤ 100000000 * l.length := by
    intro l
    induction l with
    | nil => simp
    | cons x l ih =>
      have := serY_len x
      simp only [List.flatMap_cons, List.length_append, List.length_cons]
      omega
  have := key l
  omega
theorem lst_val {w : World} {a : Option Addr} {len : Nat} {l : List ValT} (h : Lst encV w (fun b => b < w.heap.size) a len l) {k : Nat} (hk : k < len) :
    ∃ b off y a1 n1 c1 a2 n2 c2, a = some ⟨b, off, none⟩ ∧ l[k]? = some y ∧ Val w #[.int .u8 y.1, .int .i64 y.2.1, .string y.2.2.1, .slice a1 n1 c1, .slice a2 n2 c2] y.1 y.2.1 y.2.2.1 y.2.2.2.1 y.2.2.2.2 ∧
      w.cell? ⟨b, off + k * 5, none⟩ = some (.int .u8 y.1) ∧ w.cell? ⟨b, off + k * 5 + 1, none⟩ = some (.int .i64 y.2.1) ∧ w.cell? ⟨b, off + k * 5 + 2, none⟩ = some (.string y.2.2.1) ∧
      w.cell? ⟨b, off + k * 5 + 3, none⟩ = some (.slice a1 n1 c1) ∧ w.cell? ⟨b, off + k * 5 + 4, none⟩ = some (.slice a2 n2 c2) := by
  obtain ⟨h1, h2⟩ := h
  obtain ⟨b, off, rfl, hb, hc⟩ := h2 (by omega)
  have hx : l[k]? = some (l[k]'(by omega)) := List.getElem?_eq_getElem (by omega)
  obtain ⟨us, hrep, hu⟩ := hc k _ hx
  have hv := val_of (cs := us.toArray) (y := l[k]'(by omega)) (by simpa using hrep)
  have hv' := hv
  obtain ⟨hk1, hn, hs, a1, n1, c1, a2, n2, c2, e, q1, q2, q3, q4, l1, l2⟩ := hv'
  have e2 : us = [.int .u8 (l[k]'(by omega)).1, .int .i64 (l[k]'(by omega)).2.1, .string (l[k]'(by omega)).2.2.1, .slice a1 n1 c1, .slice a2 n2 c2] := by simpa using e
  rw [e] at hv
  rw [e2] at hu
  exact ⟨b, off, _, a1, n1, c1, a2, n2, c2, rfl, hx, hv, hu 0 _ rfl, hu 1 _ rfl, hu 2 _ rfl, hu 3 _ rfl, hu 4 _ rfl⟩
set_option maxRecDepth 100000 in
set_option maxHeartbeats 4000000 in
theorem inverse_any (a : Option Addr) (n1 c1 : Nat) (l : List ValT) (w : World) (l1 : Lst encV w (fun b => b < w.heap.size) a n1 l) (q1 : n1 ≤ c1) (q2 : c1 ≤ maxLen) :
    Calls Try.prog 5 #[.slice a n1 c1] w fun e w' => e = .returned (.bool true) ∧ Below w.heap.size w w' := by
  unfold maxLen at q2
  obtain ⟨m, hm⟩ : ∃ m : Nat, min (n1 : Int) 8 = (m : Int) := ⟨min n1 8, by omega⟩
  have hm0 : m ≤ n1 := by omega
  have hm8 : m ≤ 8 := by omega
  have hm1 : (m : Int) ≤ (n1 : Int) := by omega
  have hm2 : (m : Int) ≤ (c1 : Int) := by omega
  have k1 := l1.take (k := m) hm0
  obtain ⟨L, hL⟩ : ∃ L, l.take m = L := ⟨_, rfl⟩
  rw [hL] at k1
  have hLl : L.length = m := k1.1
  have hF := flatY_len L (by omega)
  clear l1 hL
  replace k1 := hide k1
  replace hLl := hide hLl
  go_enter Try.func5, Try.ntmps5
  go_wp2_with fail
  refine (wsanity_any _).mono ?_
  rintro e wa ⟨rfl, hba⟩
  go_wp2_with fail
  go_loopw [4, 18] (fun v4 v18 wr => ∃ k : Nat, k ≤ m ∧ v18 = .int .i64 (k : Int) ∧ v4 = .string ⟨((L.take k).flatMap serY).toArray⟩ ∧ Below w.heap.size w wr) (fun _ v _ => (m - intOf v).toNat)
  case atStart => exact ⟨0, by omega, rfl, rfl, hba⟩
  case round =>
    obtain ⟨k, hk, rfl, rfl, hb⟩ := hrel
    clear hba
    by_cases hlt : k < m
    · obtain ⟨bb, off, y, a1, n2, c2, a3, n3, c3, rfl, hx, hv, d0, d1, d2, d3, d4⟩ := lst_val ((unhide k1).under hb) hlt
      have hcat := flat_step serY L k y hx
      have hmono := flat_le serY L (k + 1)
      rw [hcat, List.length_append] at hmono
      have ha : ∀ w, (Op.stringOp .add ⟨((L.take k).flatMap serY).toArray⟩ ⟨(serV y.1 y.2.1 y.2.2.1 y.2.2.2.1 y.2.2.2.2).toArray⟩).run Try.prog w = .ok (.string ⟨((L.take (k + 1)).flatMap serY).toArray⟩) w := fun w => by
        have := add_lists ((L.take k).flatMap serY) (serY y) (by omega) w
        rw [← hcat] at this
        exact this
      have hkk := hv.hk
      clear hcat
      replace hx := hide hx
      replace hmono := hide hmono
      replace hkk := hide hkk
      replace hv := hide hv
      go_wp2_with fail
      refine (bytes_any _ y.1 y.2.1 y.2.2.1 y.2.2.2.1 y.2.2.2.2 y.1 _ ((unhide hv).below ((Below.refl _ _).alloc (Nat.le_refl _) _)) (unhide hkk)).mono ?_
      rintro e w3 ⟨rfl, hb3⟩
      have hb1 := hb.alloc hb.size (Obj.cells #[.int .u8 y.1, .int .i64 y.2.1, .string y.2.2.1, .slice a1 n2 c2, .slice a3 n3 c3] 45)
      replace hb1 := hb1.trans (hb3.mono hb1.size)
      clear hb3 hb d0 d1 d2 d3 d4 hv hkk
      go_wp2_with fail
      go_roundw
      case rel => exact ⟨k + 1, by omega, by go_num, rfl, hb1⟩
      case measure => simp [intOf]; omega
    · obtain rfl : k = m := by omega
      rw [show L.take k = L from List.take_of_length_le (by have := unhide hLl; omega)]
      obtain ⟨F, hFe⟩ : ∃ F, L.flatMap serY = F := ⟨_, rfl⟩
      rw [hFe] at hF ⊢
      have sX := ba_size F
      replace hFe := hide hFe
      go_wp2_with fail
      refine (rnew_any _ _).mono ?_
      rintro e w1 ⟨rfl, hw1⟩
      have hr1 : Rd w1 wr.heap.size (some F) := by rw [hw1]; exact rnew_rd _ wr
      have hbs : w.heap.size ≤ wr.heap.size := hb.size
      replace hb : Below w.heap.size w w1 := by rw [hw1]; exact hb.alloc hb.size _
      obtain ⟨b, hbe⟩ : ∃ b, wr.heap.size = b := ⟨_, rfl⟩
      rw [hbe] at hr1 hbs ⊢
      clear hw1 hbe
      go_wp2_with fail
      refine (rleft_any b _ _ hr1).mono ?_
      rintro e w' ⟨rfl, rfl⟩
      simp only [Option.getD_some]
      go_wp2_with fail
      obtain ⟨wo, rfl⟩ : ∃ wo : World, wo = wr := ⟨_, rfl⟩
      go_loopw [42] (fun v wr => ∃ j : Nat, j ≤ k ∧ v = .int .i64 (j : Int) ∧ Rd wr b (some ((L.drop j).flatMap serY)) ∧ Below w.heap.size w wr) (fun v _ => (k - intOf v).toNat)
      case atStart => exact ⟨0, by omega, rfl, by rw [List.drop_zero, unhide hFe]; exact hr1, hb⟩
      case round =>
        obtain ⟨j, hj, rfl, hr2, hb2⟩ := hrel
        clear hr1 hb
        by_cases hlt2 : j < k
        · obtain ⟨bb, off, y, a1, n2, c2, a3, n3, c3, rfl, hx, hv, d0, d1, d2, d3, d4⟩ := lst_val (unhide k1) hlt2
          replace d0 := cell_under d0 hb2; replace d1 := cell_under d1 hb2; replace d2 := cell_under d2 hb2; replace d3 := cell_under d3 hb2; replace d4 := cell_under d4 hb2
          have hdrop : L.drop j = y :: L.drop (j + 1) := by
            obtain ⟨h1, h2⟩ := List.getElem?_eq_some_iff.1 hx
            rw [← h2]
            exact List.drop_eq_getElem_cons h1
          have hX : (L.drop j).flatMap serY = serV y.1 y.2.1 y.2.2.1 y.2.2.2.1 y.2.2.2.2 ++ (L.drop (j + 1)).flatMap serY := by rw [hdrop, List.flatMap_cons]; rfl
          have hXl : ((L.drop j).flatMap serY).length ≤ 1000000000000 := by
            have := flatY_len (L.drop j) (by rw [List.length_drop]; have := unhide hLl; omega)
            omega
          have hkk := hv.hk
          have hb3 := hb2.alloc hb2.size (Obj.cells #[.int .u8 y.1, .int .i64 y.2.1, .string y.2.2.1, .slice a1 n2 c2, .slice a3 n3 c3] 45)
          have hr3 : Rd (wr.alloc (Obj.cells #[.int .u8 y.1, .int .i64 y.2.1, .string y.2.2.1, .slice a1 n2 c2, .slice a3 n3 c3] 45)) b (some ((L.drop j).flatMap serY)) := rd_below hr2 ((Below.refl _ _).alloc (Nat.le_refl _) _) (Array.getElem?_eq_some_iff.1 hr2).1
          replace hX := hide hX
          replace hb3 := hide hb3
          replace hr3 := hide hr3
          replace hkk := hide hkk
          replace hv := hide hv
          clear hx hdrop
          go_wp2_with fail
          refine (read_any _ y.1 y.2.1 y.2.2.1 y.2.2.2.1 y.2.2.2.2 y.1 b _ _ w _ (unhide hv) (unhide hb3) hbs (unhide hkk) (unhide hr3) (unhide hX) hXl).mono ?_
          rintro e w4 ⟨rfl, hr4, hg4⟩
          have hb4 := (unhide hb3).grown hg4 (unhide hb3).size (fun k hk => by cases hk; exact hbs)
          clear hg4 hb3 hr3 hb2 hr2 d0 d1 d2 d3 d4 hX hXl hkk hv
          go_wp2_with fail
          refine (rbad_any b _ _ hr4).mono ?_
          rintro e w5 ⟨rfl, rfl⟩
          simp only [Option.isNone_some]
          go_wp2_with fail
          go_roundw
          case rel =>
            exact ⟨j + 1, by omega, by go_num, hr4, hb4⟩
          case measure => simp [intOf]; omega
        · rw [show L.drop j = [] from List.drop_eq_nil_of_le (by have := unhide hLl; omega)] at hr2
          go_wp2_with fail
          refine (rleft_any b _ _ hr2).mono ?_
          rintro e w' ⟨rfl, rfl⟩
          simp only [Option.getD_some, List.flatMap_nil, List.length_nil]
          go_wp2_with fail
          go_ret
          exact ⟨rfl, hb2⟩
end Go.Proofs.Ytidbjccfkembeaa
