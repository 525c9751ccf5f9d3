/- Lookups: Glyphs, renamed. -/
import Derived.Test.YtmlnjbljdincjaaSb8
namespace Go.Proofs.Ytmlnjbljdincjaa
open Go.RowKit
def glyphsS (l : List Int) (m : Int) : List Int := (l.take 24).map fun x => x % m
theorem glyphsS_len (l : List Int) (m : Int) : (glyphsS l m).length ≤ 24 := by unfold glyphsS; simp; omega
theorem glyphsS_mem (l : List Int) (m : Int) (hm : 1 ≤ m) : ∀ x ∈ glyphsS l m, 0 ≤ x ∧ x < m := by
  intro x hx
  unfold glyphsS at hx
  obtain ⟨y, _, rfl⟩ := List.mem_map.1 hx
  exact ⟨Int.emod_nonneg _ (by omega), Int.emod_lt_of_pos _ (by omega)⟩
theorem take_snoc {α : Type} {l : List α} {k : Nat} {x : α} (hx : l[k]? = some x) : l.take k ++ [x] = l.take (k + 1) := by
  rw [List.take_add_one, hx]
  rfl
theorem own_lst {w : World} {base n : Nat} {v : Value} {l : List Int} (h : w.ownsRow base 3 1 v n (vints l)) (hl : ∀ x ∈ l, I64 x) : ∃ a c, v = .slice a l.length c ∧ n = l.length ∧ Lst Enc.int w (· < w.heap.size) a l.length l := by
  have hn : n = l.length := by have := h.1; rw [vints_len] at this; omega
  obtain ⟨a, c, rfl⟩ := own_shape h
  have := (lst_own h hl).1
  subst hn
  exact ⟨a, c, rfl, rfl, this⟩
theorem own_belowb {w w' : World} {base n : Nat} {T s : Nat} {v : Value} {xs : List Value} (h : w.ownsRow base T s v n xs) (hb : Below w.heap.size w w') : w'.ownsRow base T s v n xs :=
  h.kept (row := none) (grown_of_below hb none) (by cases hv : v.ownBlock with
    | none => exact .inl rfl
    | some g => exact .inr (by simp))
set_option maxHeartbeats 2000000 in
theorem glyphs_any (a : Option Addr) (n c : Nat) (l : List Int) (m : Int) (w : World) (hl : Lst Enc.int w (· < w.heap.size) a n l) (hn : n ≤ maxLen) (hm : 1 ≤ m) (hm2 : m ≤ 1000) :
    Calls Try.prog 14 #[.slice a n c, .int .i64 m] w fun e w' => ∃ v, e = .returned v ∧ w'.ownsRow w.heap.size 3 1 v (glyphsS l m).length (vints (glyphsS l m)) ∧ Below w.heap.size w w' := by
  have hll := hl.1
  unfold maxLen at hn
  obtain ⟨M, hM⟩ : ∃ M, (l.map fun x => x % m) = M := ⟨_, rfl⟩
  have hMl : M.length = n := by rw [← hM, List.length_map, hll]
  have hMg : ∀ (k : Nat) x, l[k]? = some x → M[k]? = some (x % m) := fun k x hx => by rw [← hM, List.getElem?_map, hx]; rfl
  have hG : glyphsS l m = M.take 24 := by unfold glyphsS; rw [List.map_take, hM]
  rw [hG]
  obtain ⟨T, hT⟩ : ∃ T, M.take 24 = T := ⟨_, rfl⟩
  obtain ⟨L, hL⟩ : ∃ L, T.length = L := ⟨_, rfl⟩
  rw [hT, hL]
  clear hM hG hll
  replace hT := hide hT; replace hL := hide hL; replace hl := hide hl; replace hMl := hide hMl; replace hMg := hide hMg
  go_enter Try.func14, Try.ntmps14
  go_wp2_with fail
  go_loopw [5, 6] (fun v i wr => ∃ k : Nat, k ≤ n ∧ k ≤ 24 ∧ i = .int .i64 (k : Int) ∧ wr.ownsRow w.heap.size 3 1 v k (vints (M.take k)) ∧ Below w.heap.size w wr) (fun _ i _ => 24 - (intOf i).toNat)
  case atStart => exact ⟨0, by omega, by omega, rfl, World.ownsRow_nil _ _ _ _, Below.refl _ _⟩
  case round =>
    obtain ⟨k, hk, hk24, rfl, hown, hbw⟩ := hrel
    by_cases hlt : k < n ∧ k < 24
    · obtain ⟨h1, h2⟩ := hlt
      have t1 : (k : Int) < (n : Int) := by omega
      have t2 : (k : Int) < 24 := by omega
      obtain ⟨b, off, x, rfl, hSb, hx, hxi, hc⟩ := lst_int ((unhide hl).under hbw) h1
      have hmod := mod_any x m wr hm (by omega)
      have hsn := take_snoc (unhide hMg k x hx)
      have hbw2 := hbw.alloc hbw.size (Obj.cells #[.int .i64 (x % m)] 3)
      have hsz := hbw.size
      obtain ⟨y, hy⟩ : ∃ y, x % m = y := ⟨_, rfl⟩
      rw [hy] at hmod hbw2 hsn
      clear hy
      have hown2 := hown.alloc (Obj.cells #[.int .i64 y] 3)
      replace hmod := hide hmod; replace hown2 := hide hown2; replace hbw := hide hbw; replace hx := hide hx; replace hsn := hide hsn; replace hown := hide hown; replace hbw2 := hide hbw2
      go_wp2_with fail
      refine (unhide hmod).mono ?_
      rintro e w1 ⟨rfl, ew⟩
      subst ew
      clear hmod
      go_wp2_with (at_builtin; refine wpList_append_one rfl _ _ rfl w.heap.size _ _ _ rfl (unhide hown2) _ _ rfl (heap_alloc_new _ _) ?d1 ?d2 ?_)
      case d1 => omega
      case d2 => first | (simp; omega) | omega
      intro v' w2 hown3 hg3 _
      have hb3 := Below.grown (unhide hbw2) hg3 (by simp; omega) (fun g e => ((unhide hown).lt g e).1)
      rw [unhide hsn] at hown3
      clear hg3
      replace hown3 := hide hown3; replace hb3 := hide hb3
      go_wp2_with fail
      go_roundw
      case rel => exact ⟨k + 1, by omega, by omega, by go_num, unhide hown3, unhide hb3⟩
      case measure => simp [intOf]; omega
    · have hfin : M.take k = M.take 24 := by
        by_cases h : n ≤ 24
        · rw [List.take_of_length_le (by rw [unhide hMl]; omega), List.take_of_length_le (by rw [unhide hMl]; omega)]
        · rw [show k = 24 by omega]
      have hkl : k = L := by rw [← unhide hL, ← unhide hT, ← hfin, List.length_take, unhide hMl]; omega
      rw [hfin, unhide hT] at hown
      clear hfin
      replace hown := hide hown; replace hbw := hide hbw; replace hkl := hide hkl
      by_cases h1 : k < n
      · have t1 : (k : Int) < (n : Int) := by omega
        have t2 : ¬ (k : Int) < 24 := by omega
        replace hlt := hide hlt
        go_wp2_with fail
        go_ret
        exact ⟨_, rfl, by rw [← unhide hkl]; exact unhide hown, unhide hbw⟩
      · have t1 : ¬ (k : Int) < (n : Int) := by omega
        replace hlt := hide hlt
        go_wp2_with fail
        go_ret
        exact ⟨_, rfl, by rw [← unhide hkl]; exact unhide hown, unhide hbw⟩
def renS (l : List Int) : List Int := l.map fun x => 70 - 9 * x
set_option maxHeartbeats 2000000 in
theorem renamed_any (a : Option Addr) (n c : Nat) (l : List Int) (w : World) (hl : Lst Enc.int w (· < w.heap.size) a n l) (hn : n ≤ 1000000) (hb : ∀ x ∈ l, -1000 ≤ x ∧ x ≤ 1000) :
    Calls Try.prog 20 #[.slice a n c] w fun e w' => ∃ v, e = .returned v ∧ w'.ownsRow w.heap.size 3 1 v (renS l).length (vints (renS l)) ∧ Below w.heap.size w w' := by
  have hll := hl.1
  obtain ⟨M, hM⟩ : ∃ M, renS l = M := ⟨_, rfl⟩
  have hMl : M.length = n := by rw [← hM]; unfold renS; rw [List.length_map, hll]
  have hMg : ∀ (k : Nat) x, l[k]? = some x → M[k]? = some (70 - 9 * x) := fun k x hx => by rw [← hM]; unfold renS; rw [List.getElem?_map, hx]; rfl
  rw [hM, hMl]
  clear hM hll
  replace hl := hide hl; replace hMl := hide hMl; replace hMg := hide hMg; replace hb := hide hb
  go_enter Try.func20, Try.ntmps20
  go_wp2_with fail
  go_loopw [3, 7] (fun v i wr => ∃ k : Nat, k ≤ n ∧ i = .int .i64 (k : Int) ∧ wr.ownsRow w.heap.size 3 1 v k (vints (M.take k)) ∧ Below w.heap.size w wr) (fun _ i _ => n - (intOf i).toNat)
  case atStart => exact ⟨0, by omega, rfl, World.ownsRow_nil _ _ _ _, Below.refl _ _⟩
  case round =>
    obtain ⟨k, hk, rfl, hown, hbw⟩ := hrel
    by_cases hlt : k < n
    · obtain ⟨b, off, x, rfl, hSb, hx, hxi, hc⟩ := lst_int ((unhide hl).under hbw) hlt
      have hxb := unhide hb x (List.mem_of_getElem? hx)
      have hsn := take_snoc (unhide hMg k x hx)
      have t1 : IntKind.i64.wrap (9 * x) = 9 * x := IntWalk.i64_in _ (by omega)
      have t2 : IntKind.i64.wrap (70 - 9 * x) = 70 - 9 * x := IntWalk.i64_in _ (by omega)
      have hbw2 := hbw.alloc hbw.size (Obj.cells #[.int .i64 (70 - 9 * x)] 3)
      have hsz := hbw.size
      have hown2 := hown.alloc (Obj.cells #[.int .i64 (70 - 9 * x)] 3)
      replace hown2 := hide hown2; replace hbw := hide hbw; replace hx := hide hx; replace hsn := hide hsn; replace hown := hide hown; replace hbw2 := hide hbw2
      go_wp2_with (at_builtin; refine wpList_append_one rfl _ _ rfl w.heap.size _ _ _ rfl (unhide hown2) _ _ rfl (heap_alloc_new _ _) ?d1 ?d2 ?_)
      case d1 => omega
      case d2 => first | (simp; omega) | omega
      intro v' w2 hown3 hg3 _
      have hb3 := Below.grown (unhide hbw2) hg3 (by simp; omega) (fun g e => ((unhide hown).lt g e).1)
      rw [unhide hsn] at hown3
      clear hg3
      replace hown3 := hide hown3; replace hb3 := hide hb3
      go_wp2_with fail
      go_roundw
      case rel => exact ⟨k + 1, by omega, by go_num, unhide hown3, unhide hb3⟩
      case measure => simp [intOf]; omega
    · have hfin : M.take k = M := List.take_of_length_le (by rw [unhide hMl]; omega)
      obtain rfl : k = n := by omega
      rw [hfin] at hown
      clear hfin
      replace hown := hide hown; replace hbw := hide hbw
      go_wp2_with fail
      go_ret
      exact ⟨_, rfl, unhide hown, unhide hbw⟩
end Go.Proofs.Ytmlnjbljdincjaa
