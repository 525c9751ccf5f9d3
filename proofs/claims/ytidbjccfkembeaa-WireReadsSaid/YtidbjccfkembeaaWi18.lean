/- cut, of the laws of wire. -/
import Derived.Test.YtidbjccfkembeaaWi14
import Derived.Test.YtidbjccfkembeaaWiV
import Derived.Deep.DrawnRows
namespace Go.Proofs.Ytidbjccfkembeaa
open Go.RowKit
attribute [local go_sem ↓] Go.wp_at_zero Go.wp_at_succ

def cut1 (s : ByteArray) : ByteArray := s.extract 0 (min (s.size : Int) 100).toNat
def cutL (l : List ByteArray) : List ByteArray := (l.take 20).map cut1
abbrev vba (x : ByteArray) : Value := .string x
theorem cut1_size (s : ByteArray) : (cut1 s).size ≤ 100 := by
  unfold cut1
  rw [ByteArray.size_extract]
  omega
theorem cut_done {l : List ByteArray} {k len : Nat} (hl : l.length = len) (hk : k ≤ len) (hk20 : k ≤ 20) (h : k = len ∨ k = 20) : k = (cutL l).length ∧ (l.take k).map (fun s => vba (cut1 s)) = (cutL l).map vba := by
  have e : l.take k = l.take 20 := by
    rcases h with h | h
    · rw [List.take_of_length_le (by omega), List.take_of_length_le (by omega)]
    · rw [h]
  refine ⟨by simp only [cutL, List.length_map, List.length_take]; omega, ?_⟩
  rw [e]
  simp only [cutL, List.map_map]
  rfl
theorem cut_step {l : List ByteArray} {k : Nat} {x : ByteArray} (hx : l[k]? = some x) : (l.take (k + 1)).map (fun s => vba (cut1 s)) = (l.take k).map (fun s => vba (cut1 s)) ++ [vba (cut1 x)] := by
  obtain ⟨hk, rfl⟩ := List.getElem?_eq_some_iff.1 hx
  rw [List.take_succ_eq_append_getElem hk, List.map_append]
  rfl
theorem own_ne_old {w : World} {base : Nat} {e : TypeId} {s : Nat} {v : Value} {n b : Nat} {xs : List Value} (h : w.ownsRow base e s v n xs) (hb : b < base) : some b ≠ v.ownBlock := fun he => by have := (h.lt b he.symm).1; omega
set_option maxRecDepth 100000 in
set_option maxHeartbeats 2000000 in
theorem cut_any (a : Option Addr) (len cap : Nat) (l : List ByteArray) (w : World) (hl : Lst Enc.str w (· < w.heap.size) a len l) (hlen : len ≤ maxLen) :
    Calls Try.prog 11 #[.slice a len cap] w fun e w' => ∃ v, e = .returned v ∧ w'.ownsRow w.heap.size 9 1 v (cutL l).length ((cutL l).map vba) ∧ Below w.heap.size w w' := by
  unfold maxLen at hlen
  have hlen0 := hl.1
  obtain ⟨W0, hW0⟩ : ∃ W0, w.heap.size = W0 := ⟨_, rfl⟩
  rw [hW0] at hl ⊢
  have hle : W0 ≤ w.heap.size := by omega
  clear hW0
  replace hl := hide hl
  replace hlen0 := hide hlen0
  obtain ⟨i0, hi, hz0, hz1, hz2⟩ := info_parts info_str
  replace hi := hide hi; replace hz0 := hide hz0; replace hz1 := hide hz1; replace hz2 := hide hz2
  go_enter Try.func11, Try.ntmps11
  go_wp2_with fail
  go_loopw [3, 4] (fun v3 v4 wr => ∃ k : Nat, k ≤ len ∧ k ≤ 20 ∧ v4 = .int .i64 (k : Int) ∧ wr.ownsRow W0 9 1 v3 k ((l.take k).map (fun s => vba (cut1 s))) ∧ Below W0 w wr) (fun _ v _ => (20 - intOf v).toNat)
  case atStart => exact ⟨0, by omega, by omega, rfl, World.ownsRow_nil _ _ _ _, Below.refl _ _⟩
  case round =>
    obtain ⟨k, hk, hk20, rfl, hown, hb⟩ := hrel
    by_cases hlt : k < len ∧ k < 20
    · have h1 : k < len := hlt.1
      have h2 : k < 20 := hlt.2
      obtain ⟨b, off, x, rfl, hbb, hx, hxi, hc⟩ := lst_str ((unhide hl).below hb) h1
      have hstep := cut_step hx
      replace hx := hide hx
      replace hstep := hide hstep
      unfold maxLen at hxi
      have t1 : decide ((k : Int) < (len : Int)) = true := by simp; omega
      have t2 : decide ((k : Int) < 20) = true := by simp; omega
      have i1 : (0 : Int) ≤ (k : Int) := by omega
      have i2 : (k : Int) < (len : Int) := by omega
      have hz : W0 ≤ wr.heap.size := Nat.le_trans hle hb.size
      have i3 : (0 : Int) ≤ min (x.size : Int) 100 := by omega
      have i4 : min (x.size : Int) 100 ≤ (x.size : Int) := by omega
      have hne := own_ne_old hown hbb
      replace hne := hide hne
      have hlb : b < wr.heap.size := by omega
      clear hlt
      go_wp2_with fail
      go_region_held3 (fun w' => w'.cell? ⟨b, off + k, none⟩ = some (.string x)) (first | go_keep | (rw [hg3.cell_far _ (by simp; omega) (unhide hne)]; go_keep)) ((refine step_append_own _ (by rfl) _ _ 23 (by rfl) W0 9 i0 (.string ⟨#[]⟩) 1 16 Try.underlying23 (unhide hi) (unhide hz0) (unhide hz1) (unhide hz2) rfl (by decide) _ _ _ (by rfl) (by first | exact hown.drew.alloc _ | exact (hown.alloc _).drew) ⟨wr.heap.size, 0, none⟩ 1 1 [.string (cut1 x)] (by rfl) (by rfl) (alloc_cells (w := wr.drew) rfl) (by intro u hu; simp at hu; subst hu; rfl) (by unfold maxLen; omega) (by omega) (by simp; omega) ?_; intro v' w3 hown3 hg3 _))
      have hb3 : Below W0 w w3 := Below.grown ((hb.drew).alloc (by simp; exact hz) _) hg3 (by simp; omega) (fun g hg => (hown.lt g hg).1)
      clear hg3 hown hb
      go_wp2_with fail
      go_roundw
      case rel => exact ⟨k + 1, by omega, by omega, by go_num, by rw [unhide hstep]; exact hown3, hb3⟩
      case measure => simp [intOf]; omega
    · have hd := cut_done (unhide hlen0) hk hk20 (by omega)
      have s1 : (len ≤ k) ∨ (k < len ∧ 20 ≤ k) := by omega
      replace hd := hide hd
      replace hlt := hide hlt
      rcases s1 with t1 | ⟨t1, t2⟩
      all_goals
        go_wp2_with fail
        go_ret
        refine ⟨_, rfl, ?_, hb⟩
        rw [← (unhide hd).2, ← (unhide hd).1]
        exact hown
end Go.Proofs.Ytidbjccfkembeaa
