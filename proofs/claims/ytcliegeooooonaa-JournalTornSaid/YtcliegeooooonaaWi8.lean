/- The readers of wire: Bad, fail, Left, Int, size, Text. -/
import Derived.Test.YtcliegeooooonaaWi6
import Derived.WalkMore
import Derived.ScopeJumps
namespace Go.Proofs.Ytcliegeooooonaa
open Go.RowKit

/-- the reader in block b -/
def Rd (w : World) (b : Nat) (st : Option (List UInt8)) : Prop := w.heap[b]? = some (.cells #[.string ⟨(st.getD []).toArray⟩, .bool st.isNone] 83 (0, 0))
theorem Rd.cells {w : World} {b : Nat} {st : Option (List UInt8)} (h : Rd w b st) : w.cell? ⟨b, 0, none⟩ = some (.string ⟨(st.getD []).toArray⟩) ∧ w.cell? ⟨b, 1, none⟩ = some (.bool st.isNone) ∧ w.frozen? ⟨b, 0, none⟩ = false ∧ w.frozen? ⟨b, 1, none⟩ = false := by
  unfold Rd at h
  refine ⟨?_, ?_, ?_, ?_⟩ <;> simp [World.cell?, World.frozen?, h]
theorem rbad_any (b : Nat) (st : Option (List UInt8)) (w : World) (h : Rd w b st) :
    Calls Try.prog 45 #[.pointer (some ⟨b, 0, none⟩)] w fun e w' => e = .returned (.bool st.isNone) ∧ w' = w := by
  obtain ⟨c0, c1, f0, f1⟩ := h.cells
  go_enter Try.func45, Try.ntmps45
  go_wp2_with fail
  go_ret
  exact ⟨rfl, rfl⟩
theorem rfail_any (b : Nat) (st : Option (List UInt8)) (w : World) (h : Rd w b st) :
    Calls Try.prog 59 #[.pointer (some ⟨b, 0, none⟩)] w fun e w' => e = .returned (.tuple #[]) ∧ Rd w' b none ∧ w.grownBy w' (some b) := by
  obtain ⟨c0, c1, f0, f1⟩ := h.cells
  have hfin : Rd ((w.setCell ⟨b, 1, none⟩ (.bool true)).setCell ⟨b, 0, none⟩ (.string ⟨#[]⟩)) b none := by
    unfold Rd at h ⊢
    simp [World.setCell, Array.getElem?_modify, h]
  replace hfin := hide hfin
  go_enter Try.func59, Try.ntmps59
  go_wp2_with fail
  go_end0
  exact ⟨rfl, unhide hfin, grown_trans (grown_set _ _ _) (grown_set _ _ _)⟩
set_option maxRecDepth 100000 in
set_option maxHeartbeats 1000000 in
theorem rint2_any (b : Nat) (st : Option (List UInt8)) (w : World) (h : Rd w b st) (hst : (st.getD []).length ≤ 1000000000000) :
    Calls Try.prog 58 #[.pointer (some ⟨b, 0, none⟩)] w fun e w' => e = .returned (.int .i64 (Wi.rInt st).1) ∧ Rd w' b (Wi.rInt st).2 ∧ w.grownBy w' (some b) := by
  obtain ⟨c0, c1, f0, f1⟩ := h.cells
  cases st with
  | none =>
    have hfin1 : Hid ((Wi.rInt none).1 = 0) := rfl
    have hfin2 : Hid ((Wi.rInt none).2 = none) := rfl
    go_enter Try.func58, Try.ntmps58
    go_wp2_with fail
    refine wp_scope_jumps 0 (fun a w' => ∃ v1 v2 v3 v4 v5 v6 v7 v8 v9 v10 v11 v12 v13 v14 v15 v16 v17 v18 v19 v20 v21 v22 v23 v24 v25 v26 v27 v28 : Value, a = ⟨#[.pointer (some ⟨b, 0, none⟩), v1, v2, v3, v4, v5, v6, v7, v8, v9, v10, v11, v12, v13, v14, v15, v16, v17, v18, v19, v20, v21, v22, v23, v24, v25, v26, v27, v28], []⟩ ∧ w' = w) (fun _ _ => 0) rfl ?_ ?_
    · go_wp2_with fail
      refine (rbad_any b none _ h).mono ?_
      rintro e w1 ⟨rfl, rfl⟩
      go_wp2_with fail
      go_step3
      exact ⟨rfl, _, _, _, _, _, _, _, _, _, _, _, _, _, _, _, _, _, _, _, _, _, _, _, _, _, _, _, _, rfl, rfl⟩
    · intro a1 w1 hJ
      obtain ⟨v1, v2, v3, v4, v5, v6, v7, v8, v9, v10, v11, v12, v13, v14, v15, v16, v17, v18, v19, v20, v21, v22, v23, v24, v25, v26, v27, v28, rfl, rfl⟩ := hJ
      go_wp2_with fail
      refine (rfail_any b _ _ h).mono ?_
      rintro e w2 ⟨rfl, hr2, hg2⟩
      go_wp2_with fail
      ((try simp only [Exit.jump]); go_ret)
      exact ⟨by rw [hfin1.out]; rfl, by rw [hfin2.out]; exact hr2, hg2⟩
  | some s =>
    simp only [Option.getD_some] at hst c0
    have hd := dec_any ⟨s.toArray⟩ w (by rw [ba_size]; exact hst)
    simp only [] at hd
    cases hdec : Wi.dec s with
    | none =>
      have hfin1 : Hid ((Wi.rInt (some s)).1 = 0) := by show (Wi.rInt (some s)).1 = 0; rw [Wi.rInt_bad hdec]
      have hfin2 : Hid ((Wi.rInt (some s)).2 = none) := by show (Wi.rInt (some s)).2 = none; rw [Wi.rInt_bad hdec]
      have e1 : Wi.decN s = 0 := by unfold Wi.decN; rw [hdec]; rfl
      have e2 : Wi.decU s = 0 := by unfold Wi.decU; rw [hdec]; rfl
      rw [e1, e2] at hd
      clear e1 e2 hdec
      replace hd := hide hd
      go_enter Try.func58, Try.ntmps58
      go_wp2_with fail
      refine wp_scope_jumps 0 (fun a w' => ∃ v1 v2 v3 v4 v5 v6 v7 v8 v9 v10 v11 v12 v13 v14 v15 v16 v17 v18 v19 v20 v21 v22 v23 v24 v25 v26 v27 v28 : Value, a = ⟨#[.pointer (some ⟨b, 0, none⟩), v1, v2, v3, v4, v5, v6, v7, v8, v9, v10, v11, v12, v13, v14, v15, v16, v17, v18, v19, v20, v21, v22, v23, v24, v25, v26, v27, v28], []⟩ ∧ w' = w) (fun _ _ => 0) rfl ?_ ?_
      · go_wp2_with fail
        refine (rbad_any b (some s) _ h).mono ?_
        rintro e w1 ⟨rfl, rfl⟩
        go_wp2_with fail
        refine (unhide hd).mono ?_
        rintro e w1 ⟨rfl, rfl⟩
        go_wp2_with fail
        go_step3
        exact ⟨rfl, _, _, _, _, _, _, _, _, _, _, _, _, _, _, _, _, _, _, _, _, _, _, _, _, _, _, _, _, rfl, rfl⟩
      · intro a1 w1 hJ
        obtain ⟨v1, v2, v3, v4, v5, v6, v7, v8, v9, v10, v11, v12, v13, v14, v15, v16, v17, v18, v19, v20, v21, v22, v23, v24, v25, v26, v27, v28, rfl, rfl⟩ := hJ
        go_wp2_with fail
        refine (rfail_any b _ _ h).mono ?_
        rintro e w2 ⟨rfl, hr2, hg2⟩
        go_wp2_with fail
        ((try simp only [Exit.jump]); go_ret)
        exact ⟨by rw [hfin1.out]; rfl, by rw [hfin2.out]; exact hr2, hg2⟩
    | some p =>
      obtain ⟨m, u⟩ := p
      obtain ⟨hu1, hu2⟩ := Wi.dec_used hdec
      have hfin1 : Hid ((Wi.rInt (some s)).1 = m) := by show (Wi.rInt (some s)).1 = m; rw [Wi.rInt_good hdec]
      have hfin2 : Hid ((Wi.rInt (some s)).2 = some (s.drop u)) := by show (Wi.rInt (some s)).2 = some (s.drop u); rw [Wi.rInt_good hdec]
      have e1 : Wi.decN s = m := by unfold Wi.decN; rw [hdec]; rfl
      have e2 : Wi.decU s = u := by unfold Wi.decU; rw [hdec]; rfl
      rw [e1, e2] at hd
      clear e1 e2 hdec
      replace hd := hide hd
      have hsz := ba_size s
      have hdrop := ba_drop s u
      have t1 : ((u : Int) == 0) = false := by simp; omega
      have hr : Rd (w.setCell ⟨b, 0, none⟩ (.string ⟨(s.drop u).toArray⟩)) b (some (s.drop u)) := by
        unfold Rd at h ⊢
        simp [World.setCell, Array.getElem?_modify, h]
      replace hr := hide hr
      go_enter Try.func58, Try.ntmps58
      go_wp2_with fail
      refine wp_scope_jumps 0 (fun _ _ => False) (fun _ _ => 0) rfl ?_ ?_
      · go_wp2_with fail
        refine (rbad_any b (some s) _ h).mono ?_
        rintro e w1 ⟨rfl, rfl⟩
        go_wp2_with fail
        refine (unhide hd).mono ?_
        rintro e w1 ⟨rfl, rfl⟩
        go_wp2_with fail
        ((try simp only [Exit.jump]); go_ret)
        exact ⟨by rw [hfin1.out]; rfl, by rw [hfin2.out]; exact unhide hr, grown_set _ _ _⟩
      · intro _ _ hJ
        exact hJ.elim
end Go.Proofs.Ytcliegeooooonaa
