/- The law WireWrites. -/
import Derived.Test.YtidbjccfkembeaaWi20
namespace Go.Proofs.Ytidbjccfkembeaa
open Go.RowKit
attribute [local go_sem ↓] Go.wp_at_zero Go.wp_at_succ

theorem take40 {α : Type} {l : List α} {len : Nat} (h : l.length = len) : l.take (min (len : Int) 40).toNat = l.take 40 := by
  have e : (min (len : Int) 40).toNat = min 40 l.length := by omega
  rw [e]
  exact (List.take_eq_take_min ..).symm
set_option maxRecDepth 100000 in
set_option maxHeartbeats 4000000 in
theorem writes_any (a : Option Addr) (n1 c1 : Nat) (l : List Int) (a2 : Option Addr) (n2 c2 : Nat) (t : List ByteArray) (w : World) (l1 : Lst Enc.int w (fun b => b < w.heap.size) a n1 l) (q1 : n1 ≤ c1) (q2 : c1 ≤ maxLen) (l2 : Lst Enc.str w (fun b => b < w.heap.size) a2 n2 t) (q3 : n2 ≤ c2) (q4 : c2 ≤ maxLen) :
    Calls Try.prog 3 #[.slice a n1 c1, .slice a2 n2 c2] w fun e w' => e = .returned (.bool true) ∧ Below w.heap.size w w' := by
  unfold maxLen at q2 q4
  obtain ⟨m, hm⟩ : ∃ m : Nat, min (n1 : Int) 40 = (m : Int) := ⟨min n1 40, by omega⟩
  have hm0 : m ≤ n1 := by omega
  have hm40 : m ≤ 40 := by omega
  have hm1 : (m : Int) ≤ (n1 : Int) := by omega
  have hm2 : (m : Int) ≤ (c1 : Int) := by omega
  have k1 := l1.take (k := m) hm0
  obtain ⟨l', hl'⟩ : ∃ l', l.take m = l' := ⟨_, rfl⟩
  rw [hl'] at k1
  clear l1 hl'
  obtain ⟨t', ht'⟩ : ∃ t', cutL t = t' := ⟨_, rfl⟩
  have tz : ∀ x ∈ t', x.size ≤ 100 := by rw [← ht']; exact cutL_size t
  have tl : t'.length ≤ 20 := by rw [← ht']; exact cutL_len t
  replace k1 := hide k1
  replace l2 := hide l2
  replace ht' := hide ht'
  replace tz := hide tz
  go_enter Try.func3, Try.ntmps3
  go_wp2_with fail
  refine (wsanity_any _).mono ?_
  rintro e wa ⟨rfl, hba⟩
  go_wp2_with fail
  go_region_held3 (fun _ => True) (trivial) ((go_at_call 11; (with_reducible refine (cut_lst a2 n2 c2 t _ ((unhide l2).under hba).drew (by unfold maxLen; omega)).mono ?_); rintro e wb ⟨a3, c3, rfl, l3, hbb⟩))
  all_goals
    rw [unhide ht'] at l3 ⊢
    have hb : Below w.heap.size w wb := hba.drew.trans (hbb.mono hba.size)
    have k1' : Hid (Lst Enc.int wb (fun b => b < wb.heap.size) a m l') := hide (((unhide k1).under hba).drew.under hbb)
    clear hba hbb l2 k1
    go_wp2_with fail
    go_loopw [20] (fun v wr => ∃ k : Nat, k ≤ m ∧ v = .int .i64 (k : Int) ∧ Below w.heap.size w wr ∧ Below wb.heap.size wb wr) (fun v _ => (m - intOf v).toNat)
    case atStart => exact ⟨0, by omega, rfl, hb, Below.refl _ _⟩
    case round =>
      obtain ⟨k, hk, rfl, hb1, hbb1⟩ := hrel
      by_cases hlt : k < m
      · obtain ⟨bb, off, x, rfl, hbb2, hx, hxi, hc⟩ := lst_int ((unhide k1').under hbb1) hlt
        clear hx hb
        go_wp2_with fail
        refine (wint_any _ _ hxi).mono ?_
        rintro e w3 ⟨rfl, hb3⟩
        replace hb1 := hb1.trans (hb3.mono hb1.size)
        replace hbb1 := hbb1.trans (hb3.mono hbb1.size)
        clear hb3 hc
        go_wp2_with fail
        refine (rint_any _ _ hxi).mono ?_
        rintro e w4 ⟨rfl, hb4⟩
        replace hb1 := hb1.trans (hb4.mono hb1.size)
        replace hbb1 := hbb1.trans (hb4.mono hbb1.size)
        clear hb4
        go_wp2_with fail
        go_roundw
        case rel => exact ⟨k + 1, by omega, by go_num, hb1, hbb1⟩
        case measure => simp [intOf]; omega
      · clear hb
        go_wp2_with fail
        have l3' := l3.under hbb1
        have k3 := hide ((unhide k1').under hbb1)
        replace l3' := hide l3'
        clear l3 k1' hbb1 hlt hk
        obtain ⟨wo, rfl⟩ : ∃ wo : World, wo = wr := ⟨_, rfl⟩
        go_loopw [32] (fun v wr => ∃ k : Nat, k ≤ t'.length ∧ v = .int .i64 (k : Int) ∧ Below w.heap.size w wr ∧ Below wo.heap.size wo wr) (fun v _ => (t'.length - intOf v).toNat)
        case atStart => exact ⟨0, by omega, rfl, hb1, Below.refl _ _⟩
        case round =>
          obtain ⟨j, hj, rfl, hb2, hbb2⟩ := hrel
          by_cases hlt : j < t'.length
          · obtain ⟨bb, off, x, rfl, hbb3, hx, hxi, hc⟩ := lst_str ((unhide l3').under hbb2) hlt
            have hxs := unhide tz x (List.mem_of_getElem? hx)
            clear hx hb1 hxi
            go_wp2_with fail
            refine (wtextb_any _ _ (by omega)).mono ?_
            rintro e w3 ⟨rfl, hb3⟩
            replace hb2 := hb2.trans (hb3.mono hb2.size)
            replace hbb2 := hbb2.trans (hb3.mono hbb2.size)
            clear hb3 hc
            go_wp2_with fail
            refine (rtextb_any _ _ (by omega)).mono ?_
            rintro e w4 ⟨rfl, hb4⟩
            replace hb2 := hb2.trans (hb4.mono hb2.size)
            replace hbb2 := hbb2.trans (hb4.mono hbb2.size)
            clear hb4
            go_wp2_with fail
            go_roundw
            case rel => exact ⟨j + 1, by omega, by go_num, hb2, hbb2⟩
            case measure => simp [intOf]; omega
          · clear hb1
            have tz' : ∀ x ∈ t', x.size ≤ 1000000 := fun x hx => Nat.le_trans (unhide tz x hx) (by omega)
            replace tz' := hide tz'
            go_wp2_with fail
            refine (wints_any _ _ _ _ _ ((unhide k3).under hbb2) (by omega)).mono ?_
            rintro e w5 ⟨rfl, hb5⟩
            replace hb2 := hb2.trans (hb5.mono hb2.size)
            replace hbb2 := hbb2.trans (hb5.mono hbb2.size)
            clear hb5
            go_wp2_with fail
            refine (rints_any _ _ _ _ _ ((unhide k3).under hbb2) (by omega)).mono ?_
            rintro e w6 ⟨rfl, hb6⟩
            replace hb2 := hb2.trans (hb6.mono hb2.size)
            replace hbb2 := hbb2.trans (hb6.mono hbb2.size)
            clear hb6
            go_wp2_with fail
            refine (wtexts_any _ _ _ _ _ ((unhide l3').under hbb2) (by omega) (unhide tz')).mono ?_
            rintro e w7 ⟨rfl, hb7⟩
            replace hb2 := hb2.trans (hb7.mono hb2.size)
            replace hbb2 := hbb2.trans (hb7.mono hbb2.size)
            clear hb7
            go_wp2_with fail
            refine (rtexts_any _ _ _ _ _ ((unhide l3').under hbb2) (by omega) (unhide tz')).mono ?_
            rintro e w8 ⟨rfl, hb8⟩
            replace hb2 := hb2.trans (hb8.mono hb2.size)
            clear hb8
            go_wp2_with fail
            go_ret
            exact ⟨by first | rfl | simp, hb2⟩
end Go.Proofs.Ytidbjccfkembeaa
