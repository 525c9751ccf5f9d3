/- Axes: the reference's tag; a side's closures; whether a tag stands twice. -/
import Derived.Test.YthkppilelpaieaaAx4
import Derived.Test.YthkppilelpaieaaSt
namespace Go.Proofs.Ythkppilelpaieaa
open Go.RowKit
theorem lowB_at {s : ByteArray} {k : Nat} (h : k < s.size) : lowB s k = decide (97 ≤ (s[k]'h).toNat ∧ (s[k]'h).toNat ≤ 122) := by unfold lowB; rw [get_at h]
set_option maxHeartbeats 1000000 in
theorem rtag_any (s : ByteArray) (w : World) (hs : s.size ≤ 9223372036854775807) : Calls Try.prog 30 #[.string s] w fun e w' => e = .returned (.bool (tagS s)) ∧ w' = w := by
  go_enter Try.func30, Try.ntmps30
  go_wp2_with fail
  go_loopw [3] (fun v wr => ∃ k : Nat, k ≤ s.size ∧ v = .int .i64 (k : Int) ∧ (∀ j, j < k → lowB s j = true) ∧ wr = w) (fun v _ => (s.size - intOf v).toNat)
  case atStart => exact ⟨0, by omega, rfl, fun j hj => by omega, rfl⟩
  case round =>
    obtain ⟨k, hk, rfl, hlow, rfl⟩ := hrel
    by_cases hlt : k < s.size
    · have hb := lowB_at hlt
      by_cases h1 : 97 ≤ (s[k]'hlt).toNat
      · have t1 : ¬ ((s[k]'hlt).toNat : Int) < 97 := by omega
        have d1 : decide (((s[k]'hlt).toNat : Int) < 97) = false := decide_eq_false t1
        by_cases h2 : (s[k]'hlt).toNat ≤ 122
        · have t2 : ¬ 122 < ((s[k]'hlt).toNat : Int) := by omega
          rw [decide_eq_true ⟨h1, h2⟩] at hb
          have hlow2 : ∀ j, j < k + 1 → lowB s j = true := fun j hj => by
            by_cases h : j < k
            · exact hlow j h
            · obtain rfl : j = k := by omega
              exact hb
          clear hlow hb
          replace hlow2 := hide hlow2
          go_wp2_with fail
          go_roundw
          case rel => exact ⟨k + 1, by omega, by go_num, unhide hlow2, trivial⟩
          case measure => simp [intOf]; omega
        · have t2 : 122 < ((s[k]'hlt).toNat : Int) := by omega
          rw [decide_eq_false (fun h => h2 h.2)] at hb
          have hfin : tagS s = false := by unfold tagS; rw [low_bad hlt hb, Bool.and_false]
          clear hlow hb
          replace hfin := hide hfin
          go_wp2_with fail
          go_ret
          exact ⟨ret_bool (unhide hfin).symm, rfl⟩
      · have t1 : ((s[k]'hlt).toNat : Int) < 97 := by omega
        rw [decide_eq_false (fun h => h1 h.1)] at hb
        have hfin : tagS s = false := by unfold tagS; rw [low_bad hlt hb, Bool.and_false]
        clear hlow hb
        replace hfin := hide hfin
        go_wp2_with fail
        go_ret
        exact ⟨ret_bool (unhide hfin).symm, rfl⟩
    · have hall := low_all (fun j hj => hlow j (by omega))
      clear hlow
      by_cases h1 : 1 ≤ s.size
      · have t1 : (1 : Int) ≤ (s.size : Int) := by omega
        by_cases h2 : s.size ≤ 4
        · have t2 : (s.size : Int) ≤ 4 := by omega
          have hfin : tagS s = true := by unfold tagS; rw [hall, decide_eq_true ⟨h1, h2⟩]; rfl
          replace hfin := hide hfin; replace hall := hide hall
          go_wp2_with fail
          go_ret
          exact ⟨ret_bool (unhide hfin).symm, rfl⟩
        · have t2 : ¬ (s.size : Int) ≤ 4 := by omega
          have hfin : tagS s = false := by unfold tagS; rw [decide_eq_false (fun h => h2 h.2)]; rfl
          replace hfin := hide hfin; replace hall := hide hall
          go_wp2_with fail
          go_ret
          exact ⟨ret_bool (unhide hfin).symm, rfl⟩
      · have t1 : ¬ (1 : Int) ≤ (s.size : Int) := by omega
        have hfin : tagS s = false := by unfold tagS; rw [decide_eq_false (fun h => h1 h.1)]; rfl
        replace hfin := hide hfin; replace hall := hide hall
        go_wp2_with fail
        go_ret
        exact ⟨ret_bool (unhide hfin).symm, rfl⟩
theorem roundI_near {a b : Int} (hb : 1 ≤ b) (M : Int) (h : -M ≤ a ∧ a ≤ M) : -M ≤ roundI a b ∧ roundI a b ≤ M + 1 := by
  have h1 := Int.mul_ediv_add_emod a b
  have h2 := Int.emod_nonneg a (b := b) (by omega)
  have h3 := Int.emod_lt_of_pos a (b := b) (by omega)
  have hl : -M ≤ a / b := by
    rw [Int.le_ediv_iff_mul_le (by omega)]
    have h5 : (M + a) * 1 ≤ (M + a) * b := Int.mul_le_mul_of_nonneg_left hb (by omega)
    by_cases hM : 0 ≤ M
    · have h4 : M * 1 ≤ M * b := Int.mul_le_mul_of_nonneg_left hb hM
      rw [Int.neg_mul]
      omega
    · omega
  have hu : a / b ≤ M := by
    refine Int.le_of_lt_add_one (Int.ediv_lt_of_lt_mul (by omega) ?_)
    by_cases hM : 0 ≤ M
    · have h4 : (M + 1) * 1 ≤ (M + 1) * b := Int.mul_le_mul_of_nonneg_left hb (by omega)
      omega
    · omega
  unfold roundI
  split <;> omega
theorem side_any (sg len to_ : Int) (w : World) : Calls Try.prog 24 #[.int .i64 sg, .int .i64 len, .int .i64 to_] w fun e w' => ∃ b1 b2 b3, e = .returned (.func (.func 44) #[] #[.pointer (some ⟨b3, 0, none⟩), .pointer (some ⟨b2, 0, none⟩), .pointer (some ⟨b1, 0, none⟩)]) ∧
      w'.cell? ⟨b1, 0, none⟩ = some (.int .i64 sg) ∧ w'.cell? ⟨b2, 0, none⟩ = some (.int .i64 len) ∧ w'.cell? ⟨b3, 0, none⟩ = some (.int .i64 to_) ∧ Below w.heap.size w w' := by
  have hmf : ∀ (fn : Fn) (first cap : Array Value) (w : World), (Instr.makeFunc fn first cap).run Try.prog w = .ok (.func fn first cap) w := fun _ _ _ _ => rfl
  obtain ⟨x1, x2, x3, v, e1, e2, e3, ev, st⟩ := St.new3 w (Obj.cells #[.int .i64 sg] 3) (Obj.cells #[.int .i64 len] 3) (Obj.cells #[.int .i64 to_] 3)
  have c1 := st.cell 2 rfl 0 rfl
  have c2 := st.cell 1 rfl 0 rfl
  have c3 := st.cell 0 rfl 0 rfl
  have hb := st.below
  replace e1 := hide e1; replace e2 := hide e2; replace e3 := hide e3; replace ev := hide ev; replace c1 := hide c1; replace c2 := hide c2; replace c3 := hide c3; replace hb := hide hb
  clear st
  go_enter Try.func24, Try.ntmps24
  go_wp2_with fail
  go_ret
  rw [unhide ev]
  refine ⟨x1, x2, x3, ?_, unhide c1, unhide c2, unhide c3, unhide hb⟩
  rw [← unhide e1, ← unhide e2, ← unhide e3]
  rfl
theorem sidec_any (d to_ len sg : Int) (b1 b2 b3 : Nat) (w : World) (c1 : w.cell? ⟨b1, 0, none⟩ = some (.int .i64 sg)) (c2 : w.cell? ⟨b2, 0, none⟩ = some (.int .i64 len)) (c3 : w.cell? ⟨b3, 0, none⟩ = some (.int .i64 to_))
    (hl : 1 ≤ len ∧ len ≤ 1000000) (hd : -1000000000 ≤ to_ * d ∧ to_ * d ≤ 1000000000) (hs : sg = 1 ∨ sg = -1) :
    Calls Try.prog 44 #[.int .i64 d, .pointer (some ⟨b3, 0, none⟩), .pointer (some ⟨b2, 0, none⟩), .pointer (some ⟨b1, 0, none⟩)] w fun e w' => e = .returned (.int .i64 (sg * roundI (to_ * d) len)) ∧ w' = w := by
  have hc := eround_pos (to_ * d) len w ⟨by omega, by omega⟩ hl.1 (by omega)
  have hr := roundI_near (a := to_ * d) hl.1 1000000000 hd
  obtain ⟨q, hq⟩ : ∃ q, roundI (to_ * d) len = q := ⟨_, rfl⟩
  rw [hq] at hc hr ⊢
  clear hq
  obtain ⟨m, hm⟩ : ∃ m, to_ * d = m := ⟨_, rfl⟩
  have t1 : IntKind.i64.wrap (to_ * d) = m := by rw [hm]; exact IntWalk.i64_in _ (by omega)
  rw [hm] at hc
  have hm2 : to_ * d = m := hm
  have t2 : IntKind.i64.wrap (sg * q) = sg * q := by
    rcases hs with rfl | rfl
    · rw [Int.one_mul]; exact IntWalk.i64_in _ (by omega)
    · exact IntWalk.i64_in _ (by omega)
  have t3 : wrap64 (to_ * d) = m := by rw [hm]; exact IntWalk.wrap64_in _ (by omega)
  clear hr hd
  replace hc := hide hc; replace hm := hide hm; replace hm2 := hide hm2; replace hl := hide hl
  go_enter Try.func44, Try.ntmps44
  go_wp2_with fail
  refine (unhide hc).mono ?_
  rintro e w1 ⟨rfl, ew⟩
  subst ew
  clear hc
  go_wp2_with fail
  go_ret
  exact ⟨rfl, rfl⟩
end Go.Proofs.Ythkppilelpaieaa
