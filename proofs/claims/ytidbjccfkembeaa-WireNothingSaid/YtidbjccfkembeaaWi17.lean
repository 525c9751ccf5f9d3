/- The law WireNothing. -/
import Derived.Test.YtidbjccfkembeaaWi13
import Derived.Test.YtidbjccfkembeaaWi16
namespace Go.Proofs.Ytidbjccfkembeaa
open Go.RowKit

theorem lst_u8 {w : World} {S : Nat → Prop} {a : Option Addr} {len : Nat} {l : List Int} (h : Lst (Enc.num .u8 0 255) w S a len l) {k : Nat} (hk : k < len) :
    ∃ b off x, a = some ⟨b, off, none⟩ ∧ S b ∧ (0 ≤ x ∧ x ≤ 255) ∧ w.cell? ⟨b, off + k, none⟩ = some (.int .u8 x) := by
  obtain ⟨h1, h2⟩ := h
  obtain ⟨b, off, rfl, hb, hc⟩ := h2 (by omega)
  have hx : l[k]? = some (l[k]'(by omega)) := List.getElem?_eq_getElem (by omega)
  obtain ⟨us, ⟨rfl, hlo, hhi⟩, hu⟩ := hc k _ hx
  exact ⟨b, off, _, rfl, hb, ⟨hlo, hhi⟩, by have := hu 0 _ rfl; simpa [Enc.num] using this⟩
theorem dcd_zero (k : Int) (st : Option (List UInt8)) (hk : 0 ≤ k ∧ k ≤ 3) (h : st = some [] ∨ st = none) : dcd k st = (true, none) := by
  obtain rfl | rfl | rfl | rfl : k = 0 ∨ k = 1 ∨ k = 2 ∨ k = 3 := by omega
  all_goals (rcases h with rfl | rfl <;> rfl)
set_option maxHeartbeats 1000000 in
theorem nothing_any (a : Option Addr) (len cap : Nat) (l : List Int) (w : World) (hl : Lst (Enc.num .u8 0 255) w (fun b => b < w.heap.size) a len l) (_h1 : len ≤ cap) (_h2 : cap ≤ maxLen) :
    Calls Try.prog 9 #[.slice a len cap] w fun e w' => e = .returned (.bool true) ∧ Below w.heap.size w w' := by
  replace hl := hide hl
  go_enter Try.func9, Try.ntmps9
  go_wp2_with fail
  refine (wsanity_any _).mono ?_
  rintro e w1 ⟨rfl, hb1⟩
  go_wp2_with fail
  refine (rbad_nil _).mono ?_
  rintro e w2 ⟨rfl, rfl⟩
  go_wp2_with fail
  refine (rleft_nil _).mono ?_
  rintro e w2 ⟨rfl, rfl⟩
  go_wp2_with fail
  obtain ⟨b, hbq⟩ : ∃ b, w1.heap.size = b := ⟨_, rfl⟩
  obtain ⟨w2, hw2⟩ : ∃ w2, w1.alloc (Obj.cells #[Value.string { data := #[] }, Value.bool false] 56) = w2 := ⟨_, rfl⟩
  have hr2 : Rd w2 b (some []) := by rw [← hw2, ← hbq]; exact rnew_rd [] w1
  have hb2 : Below w.heap.size w w2 := by rw [← hw2]; exact hb1.alloc hb1.size _
  have hlb : w.heap.size ≤ b := by rw [← hbq]; exact hb1.size
  rw [hbq, hw2]
  clear hw2 hbq hb1
  refine (rbad_any b (some []) _ hr2).mono ?_
  rintro e w3 ⟨rfl, rfl⟩
  go_wp2_with fail
  refine (rleft_any b (some []) _ hr2).mono ?_
  rintro e w3 ⟨rfl, rfl⟩
  simp only [Option.getD_some, List.length_nil, Int.natCast_zero]
  go_wp2_with fail
  go_loopw [6] (fun v wr => ∃ j : Int, 0 ≤ j ∧ j ≤ 6 ∧ v = .int .i64 j ∧ (∃ st, (st = some [] ∨ st = none) ∧ Rd wr b st) ∧ Below w.heap.size w wr) (fun v _ => (6 - intOf v).toNat)
  case atStart => exact ⟨0, by omega, by omega, rfl, ⟨_, Or.inl rfl, hr2⟩, hb2⟩
  case round =>
    obtain ⟨j, hj0, hj6, rfl, ⟨st, hst, hr⟩, hb⟩ := hrel
    clear hb2 hr2
    obtain ⟨k, rfl⟩ : ∃ k : Nat, j = (k : Int) := ⟨j.toNat, by omega⟩
    by_cases hlt : k < len
    · by_cases hlt6 : k < 6
      · obtain ⟨bb, off, x, rfl, hbb, hx, hc⟩ := lst_u8 ((unhide hl).below hb) hlt
        go_wp2_with fail
        obtain ⟨y, hy⟩ : ∃ y : Int, x % 4 = y := ⟨_, rfl⟩
        have hyb : 0 ≤ y ∧ y ≤ 3 := by omega
        rw [hy]
        refine (decodes_nil y _ hyb).mono ?_
        rintro e w3 ⟨rfl, rfl⟩
        go_wp2_with fail
        rw [hy]
        refine (decodes_any y b st _ hyb hr (by rcases hst with rfl | rfl <;> simp)).mono ?_
        rw [dcd_zero y st hyb hst]
        rintro e w4 ⟨rfl, hr4, hg4⟩
        have hr4' : Rd w4 b none := hr4
        have hb4 := hb.grown hg4 hb.size (fun k hk => by cases hk; exact hlb)
        clear hr hr4 hg4 hb hst
        go_wp2_with fail
        refine (rbad_nil _).mono ?_
        rintro e w5 ⟨rfl, rfl⟩
        go_wp2_with fail
        refine (rbad_any b none _ hr4').mono ?_
        rintro e w5 ⟨rfl, rfl⟩
        go_wp2_with fail
        go_roundw
        case rel => exact ⟨((k + 1 : Nat) : Int), by omega, by omega, by go_num, ⟨none, Or.inr rfl, hr4'⟩, hb4⟩
        case measure => simp [intOf]; omega
      · have t1 : decide ((k : Int) < 6) = false := by simp; omega
        go_wp2_with fail
        go_ret
        exact ⟨rfl, hb⟩
    · have t1 : decide ((k : Int) < (len : Int)) = false := by simp; omega
      go_wp2_with fail
      go_ret
      exact ⟨rfl, hb⟩
end Go.Proofs.Ytidbjccfkembeaa
