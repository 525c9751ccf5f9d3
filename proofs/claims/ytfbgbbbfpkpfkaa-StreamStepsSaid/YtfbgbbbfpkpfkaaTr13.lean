/- Streams: Start, cut, fed. -/
import Derived.Test.YtfbgbbbfpkpfkaaTr12
namespace Go.Proofs.Ytfbgbbbfpkpfkaa
open Go.RowKit
theorem fam_nils (w : World) (S : Nat → Prop) (n : Nat) : Fam w S (List.replicate (n * 2) nilS) (flatS (List.replicate n ([], []))) := by
  have hf : ∀ n : Nat, flatS (List.replicate n ([], [])) = List.replicate (n * 2) [] := by
    intro n
    induction n with
    | zero => rfl
    | succ n ih => rw [List.replicate_succ, flatS_cons, ih, show (n + 1) * 2 = n * 2 + 1 + 1 by omega, List.replicate_succ, List.replicate_succ]
  rw [hf]
  refine ⟨by simp, fun i v l h1 h2 => ?_, fun i j v v' b h1 h2 _ e1 _ => ?_⟩
  · rw [List.getElem?_replicate] at h1 h2
    split at h1
    · rename_i hi
      rw [if_pos hi] at h2
      injection h1 with h1
      injection h2 with h2
      subst h1; subst h2
      exact View.nil _ _
    · cases h1
  · rw [List.getElem?_replicate] at h1
    split at h1
    · injection h1 with h1
      subst h1
      cases e1
    · cases h1
theorem nums_nil (n : Nat) : ∀ s ∈ List.replicate n (([], []) : Stg), AllI s.1 ∧ AllI s.2 := by
  intro s hs
  rw [List.mem_replicate] at hs
  obtain ⟨_, rfl⟩ := hs
  constructor
  · intro y hy
    simp at hy
  · intro y hy
    simp at hy
set_option maxHeartbeats 1000000 in
theorem start_any (la : Option Addr) (ln lc : Nat) (w : World) (hn : ln ≤ 1000000) :
    Calls Try.prog 19 #[.slice la ln lc] w fun e w' => ∃ a, e = .returned (.agg #[.slice a ln ln]) ∧ Lst Enc.stg w' (fun b => w.heap.size ≤ b ∧ b < w'.heap.size) a ln (List.replicate ln ([], [])) ∧ Below w.heap.size w w' := by
  obtain ⟨b2x, V2, hb2, hV2, st⟩ := (St.start w).new (Obj.cells #[nilS] 29)
  have hz := st.below
  have k2 := st.get 0 rfl
  have hmk := make_stages ln hn V2
  have hbb := (Below.refl V2.heap.size V2).alloc (Nat.le_refl _) (.cells (List.replicate (ln * 2) nilS).toArray 33)
  have hrow := heap_alloc_new V2 (.cells (List.replicate (ln * 2) nilS).toArray 33)
  have k23 := kept' hbb k2
  have hz3 := hz.trans (hbb.mono hz.size)
  obtain ⟨b3, hb3⟩ : ∃ b, V2.heap.size = b := ⟨_, rfl⟩
  obtain ⟨V3, hV3⟩ : ∃ W, V2.alloc (.cells (List.replicate (ln * 2) nilS).toArray 33) = W := ⟨_, rfl⟩
  rw [hV3] at hmk hrow k23 hz3
  rw [hb3] at hmk hrow
  have hge3 : w.heap.size ≤ b3 := by have := hz.size; omega
  have hge2 : w.heap.size ≤ b2x := by omega
  obtain ⟨z0, z1⟩ : V3.cell? ⟨b2x, 0, none⟩ = some nilS ∧ V3.frozen? ⟨b2x, 0, none⟩ = false := ⟨blk_cell k23, by simp [World.frozen?, k23]⟩
  have r2 := blk_cell (heap_set (off := 0) k23 (.slice (some ⟨b3, 0, none⟩) ln ln))
  have hz4 := hz3.setCell (p := ⟨b2x, 0, none⟩) hge2 (.slice (some ⟨b3, 0, none⟩) ln ln)
  have hne : b3 ≠ b2x := fun e => by rw [e, k23] at hrow; injection hrow with hrow; injection hrow with _ h; exact absurd h (by decide)
  have hrow4 : (V3.setCell ⟨b2x, 0, none⟩ (.slice (some ⟨b3, 0, none⟩) ln ln)).heap[b3]? = _ := (Below.heap_setCell _ _ _ _ hne).trans hrow
  have hL := stages_lst2 (n := ln) (B := w.heap.size) (S := fun g => w.heap.size ≤ g) hrow4 (fam_nils _ _ ln) (nums_nil ln) (by simp) hge3 (fun g h => h)
  obtain ⟨V4, hV4⟩ : ∃ W, V3.setCell ⟨b2x, 0, none⟩ (.slice (some ⟨b3, 0, none⟩) ln ln) = W := ⟨_, rfl⟩
  rw [hV4] at r2 hz4 hL
  clear st k2 hz hbb hrow k23 hz3 hne hrow4 hV3
  replace hb2 := hide hb2; replace hV2 := hide hV2; replace hb3 := hide hb3; replace hV4 := hide hV4; replace hL := hide hL; replace hz4 := hide hz4
  go_enter Try.func19, Try.ntmps19
  go_upto_region 1 with fail
  rw [unhide hV2, unhide hb2]
  go_wp2_with fail
  rw [unhide hV4]
  refine bodyPost_ret (v := .agg #[.slice (some ⟨b3, 0, none⟩) ln ln]) (by simp [results, Try.results19, go_sem, r2]) rfl ?_
  exact ⟨_, rfl, unhide hL, unhide hz4⟩

def cutS (l : List Int) : List Int := (l.take 20).map fun x => x % 12
theorem cutS_len (l : List Int) : (cutS l).length ≤ 20 := by unfold cutS; simp; omega
theorem cutS_mem (l : List Int) : ∀ x ∈ cutS l, 0 ≤ x ∧ x < 12 := by
  intro x hx
  obtain ⟨y, _, rfl⟩ := List.mem_map.1 hx
  exact ⟨Int.emod_nonneg _ (by omega), Int.emod_lt_of_pos _ (by omega)⟩
theorem cutS_i64 (l : List Int) : AllI (cutS l) := fun x hx => by have := cutS_mem l x hx; exact ⟨by omega, by omega⟩
set_option maxHeartbeats 1000000 in
theorem cut_any (a : Option Addr) (n c : Nat) (l : List Int) (w : World) (hl : Lst Enc.int w (· < w.heap.size) a n l) (hn : n ≤ maxLen) :
    Calls Try.prog 11 #[.slice a n c] w fun e w' => ∃ v, e = .returned v ∧ w'.ownsRow w.heap.size 3 1 v (cutS l).length (vints (cutS l)) ∧ Below w.heap.size w w' := by
  have h1 := hl.1
  unfold maxLen at hn
  obtain ⟨B, hB⟩ : ∃ B, w.heap.size = B := ⟨_, rfl⟩
  replace h1 := hide h1; replace hl := hide hl; replace hB := hide hB
  go_enter Try.func11, Try.ntmps11
  go_wp2_with fail
  go_loopw [3, 4] (fun v i wr => ∃ k : Nat, k ≤ 20 ∧ k ≤ n ∧ i = .int .i64 (k : Int) ∧ wr.ownsRow B 3 1 v (cutS (l.take k)).length (vints (cutS (l.take k))) ∧ Below B w wr) (fun _ i _ => 20 - (intOf i).toNat)
  case atStart => exact ⟨0, by omega, by omega, rfl, World.ownsRow_nil _ _ _ _, by rw [← unhide hB]; exact Below.refl _ _⟩
  case round =>
    obtain ⟨k, hk, hkn, rfl, hown, hbw⟩ := hrel
    have hsz : B ≤ wr.heap.size := by rw [← unhide hB]; exact hbw.size
    by_cases hlt : k < n
    · by_cases h20 : k < 20
      · have t1 : decide ((k : Int) < (n : Int)) = true := by simp; omega
        have t2 : decide ((k : Int) < 20) = true := by simp; omega
        obtain ⟨b, off, x, rfl, hb, hx, hxi, hc⟩ := lst_int ((unhide hl).below (by rw [unhide hB]; exact hbw)) hlt
        have i1 : (0 : Int) ≤ (k : Int) := by omega
        have i2 : (k : Int) < (n : Int) := by omega
        have hmod : (wrap64 (x.tmod 12 + 12)).tmod 12 = x % 12 := mod_plain x 12 (by omega) (by omega)
        have hsn : cutS (l.take (k + 1)) = cutS (l.take k) ++ [x % 12] := by
          unfold cutS
          rw [List.take_take, List.take_take, Nat.min_eq_right (by omega), Nat.min_eq_right (by omega), List.take_add_one, hx]
          simp
        have hm0 := Int.emod_nonneg x (b := 12) (by omega)
        have hm1 := Int.emod_lt_of_pos x (b := 12) (by omega)
        have hlen := cutS_len (l.take k)
        obtain ⟨m, hm⟩ : ∃ m, x % 12 = m := ⟨_, rfl⟩
        rw [hm] at hmod hsn hm0 hm1
        have hbb := (Below.refl wr.heap.size wr).alloc (Nat.le_refl _) (Obj.cells #[.int .i64 m] 3)
        have hnb := heap_alloc_new wr (Obj.cells #[.int .i64 m] 3)
        have hown1 := own_belowb hown hbb
        have hbw1 := hbw.trans (hbb.mono hsz)
        have hsz1 : B ≤ (wr.alloc (Obj.cells #[.int .i64 m] 3)).heap.size := Nat.le_trans hsz hbb.size
        clear hown hbb hm
        replace hown1 := hide hown1; replace hbw1 := hide hbw1; replace hnb := hide hnb; replace hsn := hide hsn; replace hmod := hide hmod; replace hsz1 := hide hsz1; replace hlen := hide hlen; replace hbw := hide hbw
        have hmod1 := unhide hmod
        go_wp2_with (at_builtin; refine wpList_append_one rfl _ _ rfl B _ _ _ rfl (unhide hown1) _ m rfl (unhide hnb) ?c1 (unhide hsz1) ?_)
        case c1 => have := unhide hlen; omega
        intro v' w2 q1 q2 q3
        have hb2 := Below.grown (unhide hbw1) q2 (unhide hsz1) (fun g e => ((unhide hown1).lt g e).1)
        have hrow : w2.ownsRow B 3 1 v' (cutS (l.take (k + 1))).length (vints (cutS (l.take (k + 1)))) := by
          rw [unhide hsn, List.length_append]
          exact q1
        clear q1 q2 q3
        replace hrow := hide hrow; replace hb2 := hide hb2
        go_wp2_with fail
        go_roundw
        case rel => exact ⟨k + 1, by omega, by omega, by go_num, unhide hrow, unhide hb2⟩
        case measure => simp [intOf]; omega
      · obtain rfl : k = 20 := by omega
        have t1 : decide ((20 : Int) < (n : Int)) = true := by simp; omega
        have hfin : cutS (l.take 20) = cutS l := by unfold cutS; rw [List.take_take, Nat.min_self]
        rw [hfin] at hown
        replace hown := hide hown; replace hbw := hide hbw
        go_wp2_with fail
        go_ret
        rw [unhide hB]
        exact ⟨_, rfl, unhide hown, unhide hbw⟩
    · obtain rfl : k = n := by omega
      have t1 : decide ((k : Int) < (k : Int)) = false := by simp
      have hfin : cutS (l.take k) = cutS l := by rw [List.take_of_length_le (by rw [unhide h1]; omega)]
      rw [hfin] at hown
      replace hown := hide hown; replace hbw := hide hbw
      go_wp2_with fail
      go_ret
      rw [unhide hB]
      exact ⟨_, rfl, unhide hown, unhide hbw⟩
end Go.Proofs.Ytfbgbbbfpkpfkaa
