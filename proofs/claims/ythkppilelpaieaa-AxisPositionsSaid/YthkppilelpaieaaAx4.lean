/- Tags; the two closures of a side of an axis. -/
import Derived.Test.YthkppilelpaieaaAx3
import Derived.Lib.OthersKept
import Derived.Lib.TrimU
import Derived.Deep.LoopGhost
namespace Go.Proofs.Ythkppilelpaieaa
open Go.RowKit
theorem decode_low {s : ByteArray} {pos : Nat} (h : pos < s.size) (hb : (s[pos]'h).toNat < 128) : Utf8.decode s pos = ((s[pos]'h).toNat, 1) := decode_ascii s pos h hb
theorem decode_high {s : ByteArray} {pos : Nat} (h : pos < s.size) (hb : ¬ (s[pos]'h).toNat < 128) : 128 ≤ (Utf8.decode s pos).1 := by
  have hg : s.get! (pos + 0) = s[pos]'h := by
    rw [Nat.add_zero]
    simp [ByteArray.get!, getElem!_pos, h]
    rfl
  unfold Utf8.decode
  simp only [hg]
  have := UInt8.toNat_lt (s[pos]'h)
  have hre : Utf8.runeError = 65533 := rfl
  rw [if_neg hb]
  repeat' split
  all_goals (try simp only [ge_iff_le, Bool.and_eq_true, decide_eq_true_eq] at *; omega)
/-- a letter of a tag -/
def lowB (s : ByteArray) (k : Nat) : Bool := decide (97 ≤ (s.get! k).toNat ∧ (s.get! k).toNat ≤ 122)
def lowAll (s : ByteArray) : Bool := (List.range s.size).all (lowB s)
def tagS (s : ByteArray) : Bool := decide (1 ≤ s.size ∧ s.size ≤ 4) && lowAll s
theorem get_at {s : ByteArray} {k : Nat} (h : k < s.size) : s.get! k = s[k]'h := by
  simp [ByteArray.get!, getElem!_pos, h]
  rfl
theorem low_bad {s : ByteArray} {k : Nat} (h : k < s.size) (hb : lowB s k = false) : lowAll s = false := by
  unfold lowAll
  rw [List.all_eq_false]
  exact ⟨k, List.mem_range.2 h, by rw [hb]; decide⟩
theorem low_all {s : ByteArray} (h : ∀ k, k < s.size → lowB s k = true) : lowAll s = true := by
  unfold lowAll
  rw [List.all_eq_true]
  exact fun k hk => h k (List.mem_range.1 hk)
set_option maxHeartbeats 2000000 in
set_option maxRecDepth 100000 in
theorem indexR_any (s : ByteArray) (w : World) :
    Calls Try.prog 68 #[.string s, .func (.func 47) #[] #[], .bool true] w fun e w' => (∃ v : Int, e = .returned (.int .i64 v) ∧ decide (0 ≤ v) = !lowAll s) ∧ Below w.heap.size w w' := by
  go_enter Try.func68, Try.ntmps68
  go_wp2
  go_loopg [] s.size (fun gf wx => ∃ pos : Nat, wx.heap[w.heap.size]? = some (.stringIter s pos) ∧ Below w.heap.size w wx ∧ (∀ k, k < pos → k < s.size → lowB s k = true) ∧ s.size ≤ pos + gf)
  case atStart => exact ⟨0, World.iter_heap w s 0, (Below.refl _ w).alloc (Nat.le_refl _) _, fun k hk => by omega, by omega⟩
  case round =>
    obtain ⟨pos, hit, hbw, hlow, hfu⟩ := hrel
    by_cases hps : pos < s.size
    · obtain ⟨g', rfl⟩ : ∃ g', gk = g' + 1 := ⟨gk - 1, by omega⟩
      have hnx : ∀ ty, (Instr.next (.pointer (some ⟨w.heap.size, 0, none⟩)) true ty).run Try.prog wr = _ := fun ty => Lib.run_next_any_at wr w.heap.size s pos ty hit hps
      have hwd := Lib.width_pos s pos
      obtain ⟨R, hR⟩ : ∃ R, (Utf8.decode s pos).1 = R := ⟨_, rfl⟩
      obtain ⟨K, hK⟩ : ∃ K, (Utf8.decode s pos).2 = K := ⟨_, rfl⟩
      have hcase : (lowB s pos = true ∧ K = 1 ∧ 97 ≤ R ∧ R ≤ 122) ∨ (lowB s pos = false ∧ ¬ (97 ≤ R ∧ R ≤ 122)) := by
        by_cases hb : (s[pos]'hps).toNat < 128
        · have hd := decode_low hps hb
          rw [hd] at hR hK
          simp only at hR hK
          unfold lowB
          rw [get_at hps, hR]
          by_cases hr : 97 ≤ R ∧ R ≤ 122
          · exact .inl ⟨decide_eq_true hr, hK.symm, hr.1, hr.2⟩
          · exact .inr ⟨decide_eq_false hr, hr⟩
        · have hd := decode_high hps hb
          rw [hR] at hd
          refine .inr ⟨?_, by omega⟩
          unfold lowB
          rw [get_at hps]
          exact decide_eq_false (by omega)
      rw [hR, hK] at hnx
      rw [hK] at hwd
      have hit2 := Lib.iterAt_heap wr w.heap.size s pos (pos + K) hit
      have hbw2 := Lib.below_iterAt hbw (k := w.heap.size) (Nat.le_refl _) s (pos + K)
      obtain ⟨W, hWd⟩ : ∃ W, wr.iterAt w.heap.size s (pos + K) = W := ⟨_, rfl⟩
      rw [hWd] at hnx hit2 hbw2
      have cS := tagc_any R W
      rcases hcase with ⟨hl, rfl, h1, h2⟩ | ⟨hl, h1⟩
      · rw [decide_eq_true ⟨h1, h2⟩] at cS
        have hlow2 : ∀ k, k < pos + 1 → k < s.size → lowB s k = true := fun k hk hs => by
          by_cases h : k < pos
          · exact hlow k h hs
          · obtain rfl : k = pos := by omega
            exact hl
        clear hlow hl hit hbw
        replace hlow2 := hide hlow2; replace cS := hide cS; replace hit2 := hide hit2; replace hbw2 := hide hbw2
        go_wp2_with fail
        refine (unhide cS).mono ?_
        rintro e W' ⟨rfl, ew⟩
        subst ew
        clear cS
        go_wp2_with fail
        go_roundg g'
        case measure => omega
        case rel => exact ⟨pos + 1, unhide hit2, unhide hbw2, unhide hlow2, by omega⟩
      · rw [decide_eq_false h1] at cS
        have hfin := low_bad hps hl
        clear hlow hl hit hbw
        replace hfin := hide hfin; replace cS := hide cS; replace hit2 := hide hit2; replace hbw2 := hide hbw2
        go_wp2_with fail
        refine (unhide cS).mono ?_
        rintro e W' ⟨rfl, ew⟩
        subst ew
        clear cS
        go_wp2_with fail
        go_ret
        exact ⟨⟨_, rfl, by rw [unhide hfin]; simp⟩, unhide hbw2⟩
    · have hnx : ∀ ty, (Instr.next (.pointer (some ⟨w.heap.size, 0, none⟩)) true ty).run Try.prog wr = _ := fun ty => Lib.run_next_end_at wr w.heap.size s pos ty hit hps
      have hfin := low_all (fun k hk => hlow k (by omega) hk)
      clear hlow
      replace hfin := hide hfin
      go_wp2
      go_ret
      exact ⟨⟨_, rfl, by rw [unhide hfin]; decide⟩, hbw⟩
theorem indexF_any (s : ByteArray) (w : World) :
    Calls Try.prog 62 #[.string s, .func (.func 47) #[] #[]] w fun e w' => (∃ v : Int, e = .returned (.int .i64 v) ∧ decide (0 ≤ v) = !lowAll s) ∧ Below w.heap.size w w' := by
  have hc := indexR_any s w
  replace hc := hide hc
  go_enter Try.func62, Try.ntmps62
  go_wp2_with fail
  refine (unhide hc).mono ?_
  rintro e w1 ⟨⟨v, rfl, hv⟩, hb⟩
  clear hc
  replace hv := hide hv
  go_wp2_with fail
  go_ret
  exact ⟨⟨_, rfl, unhide hv⟩, hb⟩
theorem containsR_any (s : ByteArray) (w : World) :
    Calls Try.prog 46 #[.string s, .func (.func 47) #[] #[]] w fun e w' => e = .returned (.bool (!lowAll s)) ∧ Below w.heap.size w w' := by
  have hc := indexF_any s w
  obtain ⟨q, hq⟩ : ∃ q, (!lowAll s) = q := ⟨_, rfl⟩
  rw [hq] at hc ⊢
  clear hq
  replace hc := hide hc
  go_enter Try.func46, Try.ntmps46
  go_wp2_with fail
  refine (unhide hc).mono ?_
  rintro e w1 ⟨⟨v, rfl, hv⟩, hb⟩
  clear hc
  replace hv := hide hv
  go_wp2_with fail
  go_ret
  exact ⟨ret_bool (unhide hv), hb⟩
theorem tag_any (s : ByteArray) (w : World) : Calls Try.prog 27 #[.string s] w fun e w' => e = .returned (.bool (tagS s)) ∧ Below w.heap.size w w' := by
  have hc := containsR_any s w
  by_cases h1 : 1 ≤ s.size
  · have t1 : (1 : Int) ≤ (s.size : Int) := by omega
    by_cases h2 : s.size ≤ 4
    · have t2 : (s.size : Int) ≤ 4 := by omega
      have ht : tagS s = lowAll s := by unfold tagS; rw [decide_eq_true ⟨h1, h2⟩, Bool.true_and]
      rw [ht]
      obtain ⟨q, hq⟩ : ∃ q, lowAll s = q := ⟨_, rfl⟩
      rw [hq] at hc ⊢
      clear hq ht
      replace hc := hide hc
      cases q
      · go_enter Try.func27, Try.ntmps27
        go_wp2_with fail
        refine (unhide hc).mono ?_
        rintro e w1 ⟨rfl, hb⟩
        clear hc
        go_wp2_with fail
        go_ret
        exact ⟨rfl, hb⟩
      · go_enter Try.func27, Try.ntmps27
        go_wp2_with fail
        refine (unhide hc).mono ?_
        rintro e w1 ⟨rfl, hb⟩
        clear hc
        go_wp2_with fail
        go_ret
        exact ⟨rfl, hb⟩
    · have t2 : ¬ (s.size : Int) ≤ 4 := by omega
      have ht : tagS s = false := by unfold tagS; rw [decide_eq_false (fun h => h2 h.2), Bool.false_and]
      rw [ht]
      clear ht hc
      go_enter Try.func27, Try.ntmps27
      go_wp2_with fail
      go_ret
      exact ⟨rfl, Below.refl _ _⟩
  · have t1 : ¬ (1 : Int) ≤ (s.size : Int) := by omega
    have ht : tagS s = false := by unfold tagS; rw [decide_eq_false (fun h => h1 h.1), Bool.false_and]
    rw [ht]
    clear ht hc
    go_enter Try.func27, Try.ntmps27
    go_wp2_with fail
    go_ret
    exact ⟨rfl, Below.refl _ _⟩
end Go.Proofs.Ythkppilelpaieaa
