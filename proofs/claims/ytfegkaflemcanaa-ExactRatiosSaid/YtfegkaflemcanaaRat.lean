/- The law ExactRatios: its walk. -/
import Derived.Test.YtfegkaflemcanaaRat0
import Derived.Test.YtfegkaflemcanaaSt
namespace Go.Proofs.Ytfegkaflemcanaa
open Go.RowKit
theorem i64_wrap (n : Int) : I64 (wrap64 n) := by unfold I64 wrap64; constructor <;> omega
theorem i64_kwrap (n : Int) : I64 (IntKind.i64.wrap n) := by
  rw [IntWalk.i64_left]; exact i64_wrap n
theorem i64_tmod {n : Int} (h : I64 n) (m : Int) : I64 (n.tmod m) := by
  unfold I64 at *
  have h1 : (n.tmod m).natAbs ≤ n.natAbs := by rw [Int.natAbs_tmod]; exact Nat.mod_le _ _
  have h2 : 0 ≤ n → 0 ≤ n.tmod m := fun h => Int.tmod_nonneg m h
  have h3 : n ≤ 0 → n.tmod m ≤ 0 := fun h => by
    have := Int.tmod_nonneg m (a := -n) (by omega)
    rw [Int.neg_tmod] at this
    omega
  omega
def IsI (v : Value) : Prop := ∃ z, v = .int .i64 z ∧ I64 z
def IsR (v : Value) : Prop := ∃ z y, v = .agg #[.int .i64 z, .int .i64 y] ∧ I64 z ∧ I64 y
def IsP (v : Value) : Prop := ∃ a b c d, v = .agg #[.int .i64 a, .int .i64 b, .int .i64 c, .int .i64 d] ∧ I64 a ∧ I64 b ∧ I64 c ∧ I64 d
theorem isI {z : Int} (h : I64 z) : IsI (.int .i64 z) := ⟨z, rfl, h⟩
theorem isR {z y : Int} (h : I64 z) (k : I64 y) : IsR (.agg #[.int .i64 z, .int .i64 y]) := ⟨z, y, rfl, h, k⟩
theorem isP {a b c d : Int} (ha : I64 a) (hb : I64 b) (hc : I64 c) (hd : I64 d) : IsP (.agg #[.int .i64 a, .int .i64 b, .int .i64 c, .int .i64 d]) := ⟨a, b, c, d, rfl, ha, hb, hc, hd⟩
def IsL (w : World) (v : Value) : Prop := ∃ (b : Nat) (L : List Int), v = .slice (some ⟨b, 0, none⟩) 8 8 ∧ L.length = 32 ∧ (∀ x ∈ L, I64 x) ∧ w.heap[b]? = some (.cells (L.map (Value.int .i64)).toArray 38 (0, 0))
theorem isL (w : World) (L : List Int) (cs : Array Value) (hcs : cs = (L.map (Value.int .i64)).toArray) (hl : L.length = 32) (ha : ∀ x ∈ L, I64 x) : IsL (w.alloc (Obj.cells cs 38)) (.slice (some ⟨w.heap.size, 0, none⟩) 8 8) :=
  ⟨_, L, rfl, hl, ha, by rw [hcs]; exact heap_alloc_new w _⟩
theorem isL_keep {w w' : World} {v : Value} (h : IsL w v) (hb : Below w.heap.size w w') : IsL w' v := by
  obtain ⟨b, L, h1, h2, h3, h4⟩ := h
  exact ⟨b, L, h1, h2, h3, kept hb (Array.getElem?_eq_some_iff.1 h4).1 h4⟩
theorem quad_all {w : World} {g : Nat} {t : TypeId} {l : List Int} (hb : w.heap[g]? = some (.cells (l.map (Value.int .i64)).toArray t (0, 0))) (hl : ∀ x ∈ l, I64 x) (n : Nat) (hn : n * 4 + 4 ≤ l.length) :
    ∃ x y z u : Int, I64 x ∧ I64 y ∧ I64 z ∧ I64 u ∧ w.cell? ⟨g, n * 4, none⟩ = some (.int .i64 x) ∧ w.cell? ⟨g, n * 4 + 1, none⟩ = some (.int .i64 y) ∧ w.cell? ⟨g, n * 4 + 2, none⟩ = some (.int .i64 z) ∧ w.cell? ⟨g, n * 4 + 3, none⟩ = some (.int .i64 u) := by
  have h : ∀ i (hi : i < l.length), w.cell? ⟨g, i, none⟩ = some (.int .i64 (l[i]'hi)) := by
    intro i hi
    rw [cell_of_row w g i _ t (0, 0) hb]
    simp [hi]
  exact ⟨l[n * 4], l[n * 4 + 1], l[n * 4 + 2], l[n * 4 + 3], hl _ (List.getElem_mem _), hl _ (List.getElem_mem _), hl _ (List.getElem_mem _), hl _ (List.getElem_mem _), h _ _, h _ _, h _ _, h _ _⟩
theorem cells4 {w : World} {b T : Nat} {x y z u : Value} (h : w.heap[b]? = some (.cells #[x, y, z, u] T (0, 0))) : w.cell? ⟨b, 0, none⟩ = some x ∧ w.cell? ⟨b, 1, none⟩ = some y ∧ w.cell? ⟨b, 2, none⟩ = some z ∧ w.cell? ⟨b, 3, none⟩ = some u := by
  refine ⟨?_, ?_, ?_, ?_⟩ <;> simp [World.cell?, h]
set_option maxRecDepth 100000 in
set_option maxHeartbeats 8000000 in
theorem ratios_any (xn xd yn yd f0 : Int) (w : World) (h1 : I64 xn) (h2 : I64 xd) (h3 : I64 yn) (h4 : I64 yd) :
    Calls Try.prog 6 #[.agg #[.int .i64 xn, .int .i64 xd], .agg #[.int .i64 yn, .int .i64 yd], .int .i64 f0] w fun e w' => e = .returned (.bool true) ∧ Below w.heap.size w w' := by
  obtain ⟨b3x, V3, hb3, hV3, st⟩ := (St.start w).new (Obj.cells #[.int .i64 xn, .int .i64 xd] 33)
  obtain ⟨b4x, V4, hb4, hV4, st⟩ := st.new (Obj.cells #[.int .i64 yn, .int .i64 yd] 33)
  have k3 := hide (st.get 1 rfl)
  have k4 := hide (st.get 0 rfl)
  have hz := hide st.below
  have hc4 : b3x + 1 = b4x := by rw [← hb4, ← hV3, World.size_alloc, hb3]
  clear st
  replace hb3 := hide hb3; replace hb4 := hide hb4; replace hV3 := hide hV3; replace hV4 := hide hV4; replace hc4 := hide hc4
  go_enter Try.func6, Try.ntmps6
  go_upto_region 1 with fail
  rw [unhide hb3, unhide hc4, unhide hV3, unhide hV4]
  clear hb3 hb4 hV3 hV4 hc4
  obtain ⟨b3, rfl⟩ : ∃ b : Nat, b = b3x := ⟨_, rfl⟩
  obtain ⟨b4, rfl⟩ : ∃ b : Nat, b = b4x := ⟨_, rfl⟩
  have hs := hide (sanity_any V4)
  go_wp2_with fail
  refine (unhide hs).mono ?_
  rintro e w1 ⟨rfl, hb1⟩
  replace k3 := hide (kept hb1 (Array.getElem?_eq_some_iff.1 (unhide k3)).1 (unhide k3))
  replace k4 := hide (kept hb1 (Array.getElem?_eq_some_iff.1 (unhide k4)).1 (unhide k4))
  replace hz := hide ((unhide hz).trans (hb1.mono (unhide hz).size))
  clear hb1 hs
  obtain ⟨c0, c1, _, _⟩ := cells2 (unhide k3)
  have hcf := hide (fun n d => of_any n d w1)
  go_upto_region 3 with fail
  have hfi : ∀ n m : Int, I64 n → I64 (n.tmod m) := fun n m h => i64_tmod h m
  have hx0 := hfi xn 1073741824 h1
  have hx1 := hfi xd 1073741824 h2
  clear hfi
  generalize f0.tmod 1048576 = fm at *
  go_wp2_with fail
  refine (unhide hcf _ _).mono ?_
  rintro e v1 ⟨rfl, hb1⟩
  generalize xn.tmod 1073741824 = sn at *
  generalize xd.tmod 1073741824 = sd at *
  replace k3 := hide (kept hb1 (Array.getElem?_eq_some_iff.1 (unhide k3)).1 (unhide k3))
  replace k4 := hide (kept hb1 (Array.getElem?_eq_some_iff.1 (unhide k4)).1 (unhide k4))
  replace hz := hide ((unhide hz).trans (hb1.mono (unhide hz).size))
  obtain ⟨b8, V8, hb8, hV8, st⟩ := (St.start v1).new (Obj.cells #[.int .i64 sn, .int .i64 sd] 33)
  have hb2 := st.below
  have k8 := st.get 0 rfl
  have f3 := kept hb2 (Array.getElem?_eq_some_iff.1 (unhide k3)).1 (unhide k3)
  have f4 := kept hb2 (Array.getElem?_eq_some_iff.1 (unhide k4)).1 (unhide k4)
  replace hz := hide ((unhide hz).trans (hb2.mono (unhide hz).size))
  clear st hb1 hb2 hcf c0 c1 k3 k4
  replace hb8 := hide hb8; replace hV8 := hide hV8; replace k8 := hide k8; replace f3 := hide f3; replace f4 := hide f4
  go_upto_region 4 with fail
  rw [unhide hV8]
  try rw [unhide hb8]
  clear hb8 hV8
  obtain ⟨w6, rfl⟩ : ∃ W : World, W = V8 := ⟨_, rfl⟩
  obtain ⟨f30, f31, _, _⟩ := cells2 (unhide f3)
  obtain ⟨f40, f41, _, _⟩ := cells2 (unhide f4)
  obtain ⟨f80, f81, _, _⟩ := cells2 (unhide k8)
  clear f3 f4 k8
  refine wp_region_frontG 60 (fun _ _ w' => Below w6.heap.size w6 w') (fun wa wb => Below wa.heap.size wa wb)
    (fun ix v w' => match ix with
      | 0 => IsR v
      | 1 => IsR v
      | 2 => IsP v
      | 3 => IsR v
      | 4 => v = .pointer (some ⟨b4, 0, none⟩)
      | 5 => IsI v
      | 6 => IsI v
      | 7 => v = .pointer (some ⟨b4, 1, none⟩)
      | 8 => IsI v
      | 9 => IsI v
      | 10 => IsR v
      | 11 => IsP v
      | 12 => v = .pointer (some ⟨b8, 0, none⟩)
      | 13 => IsI v
      | 14 => v = .int .i64 fm
      | 15 => IsI v
      | 16 => v = .pointer (some ⟨b8, 1, none⟩)
      | 17 => IsI v
      | 18 => v = .int .i64 fm
      | 19 => IsI v
      | 20 => IsR v
      | 21 => IsR v
      | 22 => IsP v
      | 23 => v = .pointer (some ⟨b3, 0, none⟩)
      | 24 => IsI v
      | 25 => v = .pointer (some ⟨b4, 1, none⟩)
      | 26 => IsI v
      | 27 => IsR v
      | 28 => v = .pointer (some ⟨b4, 0, none⟩)
      | 29 => IsI v
      | 30 => v = .pointer (some ⟨b3, 1, none⟩)
      | 31 => IsI v
      | 32 => IsR v
      | 33 => IsP v
      | 34 => IsR v
      | 35 => v = .pointer (some ⟨b3, 0, none⟩)
      | 36 => IsI v
      | 37 => IsI v
      | 38 => v = .pointer (some ⟨b3, 1, none⟩)
      | 39 => IsI v
      | 40 => IsR v
      | 41 => IsP v
      | 42 => v = .pointer (some ⟨b3, 1, none⟩)
      | 43 => IsI v
      | 44 => IsR v
      | 45 => IsR v
      | 46 => IsP v
      | 47 => v = .pointer (some ⟨b3, 0, none⟩)
      | 48 => IsI v
      | 49 => IsR v
      | 50 => v = .pointer (some ⟨b4, 0, none⟩)
      | 51 => IsI v
      | 52 => IsR v
      | 53 => IsP v
      | 54 => IsR v
      | 55 => IsR v
      | 56 => IsP v
      | 57 => IsL w' v
      | 58 => v = .int .i64 8
      | 59 => v = .int .i64 0
      | _ => True) (by rfl) (by kernel_rfl) ?_ ?_ ?_ ?_
  · exact (Below.refl _ _).drew
  · intro wa wb hR ix v hv
    match ix, hv with
    | 0, h => exact h
    | 1, h => exact h
    | 2, h => exact h
    | 3, h => exact h
    | 4, h => exact h
    | 5, h => exact h
    | 6, h => exact h
    | 7, h => exact h
    | 8, h => exact h
    | 9, h => exact h
    | 10, h => exact h
    | 11, h => exact h
    | 12, h => exact h
    | 13, h => exact h
    | 14, h => exact h
    | 15, h => exact h
    | 16, h => exact h
    | 17, h => exact h
    | 18, h => exact h
    | 19, h => exact h
    | 20, h => exact h
    | 21, h => exact h
    | 22, h => exact h
    | 23, h => exact h
    | 24, h => exact h
    | 25, h => exact h
    | 26, h => exact h
    | 27, h => exact h
    | 28, h => exact h
    | 29, h => exact h
    | 30, h => exact h
    | 31, h => exact h
    | 32, h => exact h
    | 33, h => exact h
    | 34, h => exact h
    | 35, h => exact h
    | 36, h => exact h
    | 37, h => exact h
    | 38, h => exact h
    | 39, h => exact h
    | 40, h => exact h
    | 41, h => exact h
    | 42, h => exact h
    | 43, h => exact h
    | 44, h => exact h
    | 45, h => exact h
    | 46, h => exact h
    | 47, h => exact h
    | 48, h => exact h
    | 49, h => exact h
    | 50, h => exact h
    | 51, h => exact h
    | 52, h => exact h
    | 53, h => exact h
    | 54, h => exact h
    | 55, h => exact h
    | 56, h => exact h
    | 57, h => exact isL_keep h hR
    | 58, h => exact h
    | 59, h => exact h
    | _ + 60, _ => trivial
  · intro ix hix
    obtain rfl | rfl | rfl | rfl | rfl | rfl | rfl | rfl | rfl | rfl | rfl | rfl | rfl | rfl | rfl | rfl | rfl | rfl | rfl | rfl | rfl | rfl | rfl | rfl | rfl | rfl | rfl | rfl | rfl | rfl | rfl | rfl | rfl | rfl | rfl | rfl | rfl | rfl | rfl | rfl | rfl | rfl | rfl | rfl | rfl | rfl | rfl | rfl | rfl | rfl | rfl | rfl | rfl | rfl | rfl | rfl | rfl | rfl | rfl | rfl : ix = 0 ∨ ix = 1 ∨ ix = 2 ∨ ix = 3 ∨ ix = 4 ∨ ix = 5 ∨ ix = 6 ∨ ix = 7 ∨ ix = 8 ∨ ix = 9 ∨ ix = 10 ∨ ix = 11 ∨ ix = 12 ∨ ix = 13 ∨ ix = 14 ∨ ix = 15 ∨ ix = 16 ∨ ix = 17 ∨ ix = 18 ∨ ix = 19 ∨ ix = 20 ∨ ix = 21 ∨ ix = 22 ∨ ix = 23 ∨ ix = 24 ∨ ix = 25 ∨ ix = 26 ∨ ix = 27 ∨ ix = 28 ∨ ix = 29 ∨ ix = 30 ∨ ix = 31 ∨ ix = 32 ∨ ix = 33 ∨ ix = 34 ∨ ix = 35 ∨ ix = 36 ∨ ix = 37 ∨ ix = 38 ∨ ix = 39 ∨ ix = 40 ∨ ix = 41 ∨ ix = 42 ∨ ix = 43 ∨ ix = 44 ∨ ix = 45 ∨ ix = 46 ∨ ix = 47 ∨ ix = 48 ∨ ix = 49 ∨ ix = 50 ∨ ix = 51 ∨ ix = 52 ∨ ix = 53 ∨ ix = 54 ∨ ix = 55 ∨ ix = 56 ∨ ix = 57 ∨ ix = 58 ∨ ix = 59 := by omega
    · refine FrontStep.of [] _ rfl (by kernel_rfl) ?_
      intro vs LL wq hLL hC hf
      simp only [putL, List.foldl_nil]
      have g30 := cell_under f30 hC; have g31 := cell_under f31 hC; have g40 := cell_under f40 hC; have g41 := cell_under f41 hC; have g80 := cell_under f80 hC; have g81 := cell_under f81 hC
      go_wp2_with fail
      first | exact ⟨hC, Below.refl _ _, isR (by assumption) (by assumption)⟩ | exact ⟨Below.refl _ _, isR (by assumption) (by assumption)⟩ | exact ⟨hC, isR (by assumption) (by assumption)⟩ | exact isR (by assumption) (by assumption)
    · refine FrontStep.of [] _ rfl (by kernel_rfl) ?_
      intro vs LL wq hLL hC hf
      simp only [putL, List.foldl_nil]
      have g30 := cell_under f30 hC; have g31 := cell_under f31 hC; have g40 := cell_under f40 hC; have g41 := cell_under f41 hC; have g80 := cell_under f80 hC; have g81 := cell_under f81 hC
      go_wp2_with fail
      first | exact ⟨hC, Below.refl _ _, isR (by assumption) (by assumption)⟩ | exact ⟨Below.refl _ _, isR (by assumption) (by assumption)⟩ | exact ⟨hC, isR (by assumption) (by assumption)⟩ | exact isR (by assumption) (by assumption)
    · refine FrontStep.of [0, 1] _ rfl (by kernel_rfl) ?_
      intro vs LL wq hLL hC hf
      simp only [putL, List.foldl_nil, List.foldl_cons, List.getElem?_cons_zero, List.getElem?_cons_succ]
      obtain ⟨z33, y33, e33, hz33, hy33⟩ := hf 0 (by simp)
      rw [e33]
      obtain ⟨z34, y34, e34, hz34, hy34⟩ := hf 1 (by simp)
      rw [e34]
      go_wp2_with fail
      first | exact ⟨hC, Below.refl _ _, isP (by assumption) (by assumption) (by assumption) (by assumption)⟩ | exact ⟨Below.refl _ _, isP (by assumption) (by assumption) (by assumption) (by assumption)⟩ | exact ⟨hC, isP (by assumption) (by assumption) (by assumption) (by assumption)⟩ | exact isP (by assumption) (by assumption) (by assumption) (by assumption)
    · refine FrontStep.of [] _ rfl (by kernel_rfl) ?_
      intro vs LL wq hLL hC hf
      simp only [putL, List.foldl_nil]
      have g30 := cell_under f30 hC; have g31 := cell_under f31 hC; have g40 := cell_under f40 hC; have g41 := cell_under f41 hC; have g80 := cell_under f80 hC; have g81 := cell_under f81 hC
      go_wp2_with fail
      first | exact ⟨hC, Below.refl _ _, isR (by assumption) (by assumption)⟩ | exact ⟨Below.refl _ _, isR (by assumption) (by assumption)⟩ | exact ⟨hC, isR (by assumption) (by assumption)⟩ | exact isR (by assumption) (by assumption)
    · refine FrontStep.of [] _ rfl (by kernel_rfl) ?_
      intro vs LL wq hLL hC hf
      simp only [putL, List.foldl_nil]
      go_wp2_with fail
      first | exact Below.refl _ _ | exact hC | exact ⟨hC, Below.refl _ _⟩
    · refine FrontStep.of [4] _ rfl (by kernel_rfl) ?_
      intro vs LL wq hLL hC hf
      simp only [putL, List.foldl_nil, List.foldl_cons, List.getElem?_cons_zero, List.getElem?_cons_succ]
      have e4 : vs 4 = _ := hf 4 (by simp)
      rw [e4]
      have g30 := cell_under f30 hC; have g31 := cell_under f31 hC; have g40 := cell_under f40 hC; have g41 := cell_under f41 hC; have g80 := cell_under f80 hC; have g81 := cell_under f81 hC
      go_wp2_with fail
      first | exact ⟨hC, Below.refl _ _, isI (by assumption)⟩ | exact ⟨Below.refl _ _, isI (by assumption)⟩ | exact ⟨hC, isI (by assumption)⟩ | exact isI (by assumption)
    · refine FrontStep.of [5] _ rfl (by kernel_rfl) ?_
      intro vs LL wq hLL hC hf
      simp only [putL, List.foldl_nil, List.foldl_cons, List.getElem?_cons_zero, List.getElem?_cons_succ]
      obtain ⟨z38, e38, hz38⟩ := hf 5 (by simp)
      rw [e38]
      go_wp2_with fail
      first | exact ⟨hC, Below.refl _ _, isI (by first | exact i64_wrap _ | exact i64_kwrap _ | exact i64_tmod (by assumption) _)⟩ | exact ⟨Below.refl _ _, isI (by first | exact i64_wrap _ | exact i64_kwrap _ | exact i64_tmod (by assumption) _)⟩ | exact ⟨hC, isI (by first | exact i64_wrap _ | exact i64_kwrap _ | exact i64_tmod (by assumption) _)⟩ | exact isI (by first | exact i64_wrap _ | exact i64_kwrap _ | exact i64_tmod (by assumption) _)
    · refine FrontStep.of [] _ rfl (by kernel_rfl) ?_
      intro vs LL wq hLL hC hf
      simp only [putL, List.foldl_nil]
      go_wp2_with fail
      first | exact Below.refl _ _ | exact hC | exact ⟨hC, Below.refl _ _⟩
    · refine FrontStep.of [7] _ rfl (by kernel_rfl) ?_
      intro vs LL wq hLL hC hf
      simp only [putL, List.foldl_nil, List.foldl_cons, List.getElem?_cons_zero, List.getElem?_cons_succ]
      have e7 : vs 7 = _ := hf 7 (by simp)
      rw [e7]
      have g30 := cell_under f30 hC; have g31 := cell_under f31 hC; have g40 := cell_under f40 hC; have g41 := cell_under f41 hC; have g80 := cell_under f80 hC; have g81 := cell_under f81 hC
      go_wp2_with fail
      first | exact ⟨hC, Below.refl _ _, isI (by assumption)⟩ | exact ⟨Below.refl _ _, isI (by assumption)⟩ | exact ⟨hC, isI (by assumption)⟩ | exact isI (by assumption)
    · refine FrontStep.of [8] _ rfl (by kernel_rfl) ?_
      intro vs LL wq hLL hC hf
      simp only [putL, List.foldl_nil, List.foldl_cons, List.getElem?_cons_zero, List.getElem?_cons_succ]
      obtain ⟨z41, e41, hz41⟩ := hf 8 (by simp)
      rw [e41]
      go_wp2_with fail
      first | exact ⟨hC, Below.refl _ _, isI (by first | exact i64_wrap _ | exact i64_kwrap _ | exact i64_tmod (by assumption) _)⟩ | exact ⟨Below.refl _ _, isI (by first | exact i64_wrap _ | exact i64_kwrap _ | exact i64_tmod (by assumption) _)⟩ | exact ⟨hC, isI (by first | exact i64_wrap _ | exact i64_kwrap _ | exact i64_tmod (by assumption) _)⟩ | exact isI (by first | exact i64_wrap _ | exact i64_kwrap _ | exact i64_tmod (by assumption) _)
    · refine FrontStep.of [6, 9] _ rfl (by kernel_rfl) ?_
      intro vs LL wq hLL hC hf
      simp only [putL, List.foldl_nil, List.foldl_cons, List.getElem?_cons_zero, List.getElem?_cons_succ]
      obtain ⟨z39, e39, hz39⟩ := hf 6 (by simp)
      rw [e39]
      obtain ⟨z42, e42, hz42⟩ := hf 9 (by simp)
      rw [e42]
      have hcq := fun n d => of_any n d wq
      replace hcq := hide hcq
      go_wp2_with fail
      refine (unhide hcq _ _).mono ?_
      rintro e wz ⟨rfl, hbz⟩
      clear hcq
      replace hbz := hide hbz
      go_wp2_with fail
      first | exact ⟨hC.trans ((unhide hbz).mono hC.size), unhide hbz, isR (by first | assumption | (unfold I64; omega)) (by first | assumption | (unfold I64; omega))⟩ | exact ⟨unhide hbz, isR (by first | assumption | (unfold I64; omega)) (by first | assumption | (unfold I64; omega))⟩
    · refine FrontStep.of [3, 10] _ rfl (by kernel_rfl) ?_
      intro vs LL wq hLL hC hf
      simp only [putL, List.foldl_nil, List.foldl_cons, List.getElem?_cons_zero, List.getElem?_cons_succ]
      obtain ⟨z36, y36, e36, hz36, hy36⟩ := hf 3 (by simp)
      rw [e36]
      obtain ⟨z43, y43, e43, hz43, hy43⟩ := hf 10 (by simp)
      rw [e43]
      go_wp2_with fail
      first | exact ⟨hC, Below.refl _ _, isP (by assumption) (by assumption) (by assumption) (by assumption)⟩ | exact ⟨Below.refl _ _, isP (by assumption) (by assumption) (by assumption) (by assumption)⟩ | exact ⟨hC, isP (by assumption) (by assumption) (by assumption) (by assumption)⟩ | exact isP (by assumption) (by assumption) (by assumption) (by assumption)
    · refine FrontStep.of [] _ rfl (by kernel_rfl) ?_
      intro vs LL wq hLL hC hf
      simp only [putL, List.foldl_nil]
      go_wp2_with fail
      first | exact Below.refl _ _ | exact hC | exact ⟨hC, Below.refl _ _⟩
    · refine FrontStep.of [12] _ rfl (by kernel_rfl) ?_
      intro vs LL wq hLL hC hf
      simp only [putL, List.foldl_nil, List.foldl_cons, List.getElem?_cons_zero, List.getElem?_cons_succ]
      have e12 : vs 12 = _ := hf 12 (by simp)
      rw [e12]
      have g30 := cell_under f30 hC; have g31 := cell_under f31 hC; have g40 := cell_under f40 hC; have g41 := cell_under f41 hC; have g80 := cell_under f80 hC; have g81 := cell_under f81 hC
      go_wp2_with fail
      first | exact ⟨hC, Below.refl _ _, isI (by assumption)⟩ | exact ⟨Below.refl _ _, isI (by assumption)⟩ | exact ⟨hC, isI (by assumption)⟩ | exact isI (by assumption)
    · refine FrontStep.of [] _ rfl (by kernel_rfl) ?_
      intro vs LL wq hLL hC hf
      simp only [putL, List.foldl_nil]
      go_wp2_with fail
      first | exact Below.refl _ _ | exact hC | exact ⟨hC, Below.refl _ _⟩
    · refine FrontStep.of [13, 14] _ rfl (by kernel_rfl) ?_
      intro vs LL wq hLL hC hf
      simp only [putL, List.foldl_nil, List.foldl_cons, List.getElem?_cons_zero, List.getElem?_cons_succ]
      obtain ⟨z46, e46, hz46⟩ := hf 13 (by simp)
      rw [e46]
      have e14 : vs 14 = _ := hf 14 (by simp)
      rw [e14]
      go_wp2_with fail
      first | exact ⟨hC, Below.refl _ _, isI (by first | exact i64_wrap _ | exact i64_kwrap _ | exact i64_tmod (by assumption) _)⟩ | exact ⟨Below.refl _ _, isI (by first | exact i64_wrap _ | exact i64_kwrap _ | exact i64_tmod (by assumption) _)⟩ | exact ⟨hC, isI (by first | exact i64_wrap _ | exact i64_kwrap _ | exact i64_tmod (by assumption) _)⟩ | exact isI (by first | exact i64_wrap _ | exact i64_kwrap _ | exact i64_tmod (by assumption) _)
    · refine FrontStep.of [] _ rfl (by kernel_rfl) ?_
      intro vs LL wq hLL hC hf
      simp only [putL, List.foldl_nil]
      go_wp2_with fail
      first | exact Below.refl _ _ | exact hC | exact ⟨hC, Below.refl _ _⟩
    · refine FrontStep.of [16] _ rfl (by kernel_rfl) ?_
      intro vs LL wq hLL hC hf
      simp only [putL, List.foldl_nil, List.foldl_cons, List.getElem?_cons_zero, List.getElem?_cons_succ]
      have e16 : vs 16 = _ := hf 16 (by simp)
      rw [e16]
      have g30 := cell_under f30 hC; have g31 := cell_under f31 hC; have g40 := cell_under f40 hC; have g41 := cell_under f41 hC; have g80 := cell_under f80 hC; have g81 := cell_under f81 hC
      go_wp2_with fail
      first | exact ⟨hC, Below.refl _ _, isI (by assumption)⟩ | exact ⟨Below.refl _ _, isI (by assumption)⟩ | exact ⟨hC, isI (by assumption)⟩ | exact isI (by assumption)
    · refine FrontStep.of [] _ rfl (by kernel_rfl) ?_
      intro vs LL wq hLL hC hf
      simp only [putL, List.foldl_nil]
      go_wp2_with fail
      first | exact Below.refl _ _ | exact hC | exact ⟨hC, Below.refl _ _⟩
    · refine FrontStep.of [17, 18] _ rfl (by kernel_rfl) ?_
      intro vs LL wq hLL hC hf
      simp only [putL, List.foldl_nil, List.foldl_cons, List.getElem?_cons_zero, List.getElem?_cons_succ]
      obtain ⟨z50, e50, hz50⟩ := hf 17 (by simp)
      rw [e50]
      have e18 : vs 18 = _ := hf 18 (by simp)
      rw [e18]
      go_wp2_with fail
      first | exact ⟨hC, Below.refl _ _, isI (by first | exact i64_wrap _ | exact i64_kwrap _ | exact i64_tmod (by assumption) _)⟩ | exact ⟨Below.refl _ _, isI (by first | exact i64_wrap _ | exact i64_kwrap _ | exact i64_tmod (by assumption) _)⟩ | exact ⟨hC, isI (by first | exact i64_wrap _ | exact i64_kwrap _ | exact i64_tmod (by assumption) _)⟩ | exact isI (by first | exact i64_wrap _ | exact i64_kwrap _ | exact i64_tmod (by assumption) _)
    · refine FrontStep.of [10, 15, 19] _ rfl (by kernel_rfl) ?_
      intro vs LL wq hLL hC hf
      simp only [putL, List.foldl_nil, List.foldl_cons, List.getElem?_cons_zero, List.getElem?_cons_succ]
      obtain ⟨z43, y43, e43, hz43, hy43⟩ := hf 10 (by simp)
      rw [e43]
      obtain ⟨z48, e48, hz48⟩ := hf 15 (by simp)
      rw [e48]
      obtain ⟨z52, e52, hz52⟩ := hf 19 (by simp)
      rw [e52]
      have hcq := fun n d => of_any n d wq
      replace hcq := hide hcq
      go_wp2_with fail
      refine (unhide hcq _ _).mono ?_
      rintro e wz ⟨rfl, hbz⟩
      clear hcq
      replace hbz := hide hbz
      go_wp2_with fail
      first | exact ⟨hC.trans ((unhide hbz).mono hC.size), unhide hbz, isR (by first | assumption | (unfold I64; omega)) (by first | assumption | (unfold I64; omega))⟩ | exact ⟨unhide hbz, isR (by first | assumption | (unfold I64; omega)) (by first | assumption | (unfold I64; omega))⟩
    · refine FrontStep.of [] _ rfl (by kernel_rfl) ?_
      intro vs LL wq hLL hC hf
      simp only [putL, List.foldl_nil]
      have g30 := cell_under f30 hC; have g31 := cell_under f31 hC; have g40 := cell_under f40 hC; have g41 := cell_under f41 hC; have g80 := cell_under f80 hC; have g81 := cell_under f81 hC
      go_wp2_with fail
      first | exact ⟨hC, Below.refl _ _, isR (by assumption) (by assumption)⟩ | exact ⟨Below.refl _ _, isR (by assumption) (by assumption)⟩ | exact ⟨hC, isR (by assumption) (by assumption)⟩ | exact isR (by assumption) (by assumption)
    · refine FrontStep.of [20, 21] _ rfl (by kernel_rfl) ?_
      intro vs LL wq hLL hC hf
      simp only [putL, List.foldl_nil, List.foldl_cons, List.getElem?_cons_zero, List.getElem?_cons_succ]
      obtain ⟨z53, y53, e53, hz53, hy53⟩ := hf 20 (by simp)
      rw [e53]
      obtain ⟨z54, y54, e54, hz54, hy54⟩ := hf 21 (by simp)
      rw [e54]
      go_wp2_with fail
      first | exact ⟨hC, Below.refl _ _, isP (by assumption) (by assumption) (by assumption) (by assumption)⟩ | exact ⟨Below.refl _ _, isP (by assumption) (by assumption) (by assumption) (by assumption)⟩ | exact ⟨hC, isP (by assumption) (by assumption) (by assumption) (by assumption)⟩ | exact isP (by assumption) (by assumption) (by assumption) (by assumption)
    · refine FrontStep.of [] _ rfl (by kernel_rfl) ?_
      intro vs LL wq hLL hC hf
      simp only [putL, List.foldl_nil]
      go_wp2_with fail
      first | exact Below.refl _ _ | exact hC | exact ⟨hC, Below.refl _ _⟩
    · refine FrontStep.of [23] _ rfl (by kernel_rfl) ?_
      intro vs LL wq hLL hC hf
      simp only [putL, List.foldl_nil, List.foldl_cons, List.getElem?_cons_zero, List.getElem?_cons_succ]
      have e23 : vs 23 = _ := hf 23 (by simp)
      rw [e23]
      have g30 := cell_under f30 hC; have g31 := cell_under f31 hC; have g40 := cell_under f40 hC; have g41 := cell_under f41 hC; have g80 := cell_under f80 hC; have g81 := cell_under f81 hC
      go_wp2_with fail
      first | exact ⟨hC, Below.refl _ _, isI (by assumption)⟩ | exact ⟨Below.refl _ _, isI (by assumption)⟩ | exact ⟨hC, isI (by assumption)⟩ | exact isI (by assumption)
    · refine FrontStep.of [] _ rfl (by kernel_rfl) ?_
      intro vs LL wq hLL hC hf
      simp only [putL, List.foldl_nil]
      go_wp2_with fail
      first | exact Below.refl _ _ | exact hC | exact ⟨hC, Below.refl _ _⟩
    · refine FrontStep.of [25] _ rfl (by kernel_rfl) ?_
      intro vs LL wq hLL hC hf
      simp only [putL, List.foldl_nil, List.foldl_cons, List.getElem?_cons_zero, List.getElem?_cons_succ]
      have e25 : vs 25 = _ := hf 25 (by simp)
      rw [e25]
      have g30 := cell_under f30 hC; have g31 := cell_under f31 hC; have g40 := cell_under f40 hC; have g41 := cell_under f41 hC; have g80 := cell_under f80 hC; have g81 := cell_under f81 hC
      go_wp2_with fail
      first | exact ⟨hC, Below.refl _ _, isI (by assumption)⟩ | exact ⟨Below.refl _ _, isI (by assumption)⟩ | exact ⟨hC, isI (by assumption)⟩ | exact isI (by assumption)
    · refine FrontStep.of [20, 24, 26] _ rfl (by kernel_rfl) ?_
      intro vs LL wq hLL hC hf
      simp only [putL, List.foldl_nil, List.foldl_cons, List.getElem?_cons_zero, List.getElem?_cons_succ]
      obtain ⟨z53, y53, e53, hz53, hy53⟩ := hf 20 (by simp)
      rw [e53]
      obtain ⟨z57, e57, hz57⟩ := hf 24 (by simp)
      rw [e57]
      obtain ⟨z59, e59, hz59⟩ := hf 26 (by simp)
      rw [e59]
      have hcq := fun n d => of_any n d wq
      replace hcq := hide hcq
      go_wp2_with fail
      refine (unhide hcq _ _).mono ?_
      rintro e wz ⟨rfl, hbz⟩
      clear hcq
      replace hbz := hide hbz
      go_wp2_with fail
      first | exact ⟨hC.trans ((unhide hbz).mono hC.size), unhide hbz, isR (by first | assumption | (unfold I64; omega)) (by first | assumption | (unfold I64; omega))⟩ | exact ⟨unhide hbz, isR (by first | assumption | (unfold I64; omega)) (by first | assumption | (unfold I64; omega))⟩
    · refine FrontStep.of [] _ rfl (by kernel_rfl) ?_
      intro vs LL wq hLL hC hf
      simp only [putL, List.foldl_nil]
      go_wp2_with fail
      first | exact Below.refl _ _ | exact hC | exact ⟨hC, Below.refl _ _⟩
    · refine FrontStep.of [28] _ rfl (by kernel_rfl) ?_
      intro vs LL wq hLL hC hf
      simp only [putL, List.foldl_nil, List.foldl_cons, List.getElem?_cons_zero, List.getElem?_cons_succ]
      have e28 : vs 28 = _ := hf 28 (by simp)
      rw [e28]
      have g30 := cell_under f30 hC; have g31 := cell_under f31 hC; have g40 := cell_under f40 hC; have g41 := cell_under f41 hC; have g80 := cell_under f80 hC; have g81 := cell_under f81 hC
      go_wp2_with fail
      first | exact ⟨hC, Below.refl _ _, isI (by assumption)⟩ | exact ⟨Below.refl _ _, isI (by assumption)⟩ | exact ⟨hC, isI (by assumption)⟩ | exact isI (by assumption)
    · refine FrontStep.of [] _ rfl (by kernel_rfl) ?_
      intro vs LL wq hLL hC hf
      simp only [putL, List.foldl_nil]
      go_wp2_with fail
      first | exact Below.refl _ _ | exact hC | exact ⟨hC, Below.refl _ _⟩
    · refine FrontStep.of [30] _ rfl (by kernel_rfl) ?_
      intro vs LL wq hLL hC hf
      simp only [putL, List.foldl_nil, List.foldl_cons, List.getElem?_cons_zero, List.getElem?_cons_succ]
      have e30 : vs 30 = _ := hf 30 (by simp)
      rw [e30]
      have g30 := cell_under f30 hC; have g31 := cell_under f31 hC; have g40 := cell_under f40 hC; have g41 := cell_under f41 hC; have g80 := cell_under f80 hC; have g81 := cell_under f81 hC
      go_wp2_with fail
      first | exact ⟨hC, Below.refl _ _, isI (by assumption)⟩ | exact ⟨Below.refl _ _, isI (by assumption)⟩ | exact ⟨hC, isI (by assumption)⟩ | exact isI (by assumption)
    · refine FrontStep.of [27, 29, 31] _ rfl (by kernel_rfl) ?_
      intro vs LL wq hLL hC hf
      simp only [putL, List.foldl_nil, List.foldl_cons, List.getElem?_cons_zero, List.getElem?_cons_succ]
      obtain ⟨z60, y60, e60, hz60, hy60⟩ := hf 27 (by simp)
      rw [e60]
      obtain ⟨z62, e62, hz62⟩ := hf 29 (by simp)
      rw [e62]
      obtain ⟨z64, e64, hz64⟩ := hf 31 (by simp)
      rw [e64]
      have hcq := fun n d => of_any n d wq
      replace hcq := hide hcq
      go_wp2_with fail
      refine (unhide hcq _ _).mono ?_
      rintro e wz ⟨rfl, hbz⟩
      clear hcq
      replace hbz := hide hbz
      go_wp2_with fail
      first | exact ⟨hC.trans ((unhide hbz).mono hC.size), unhide hbz, isR (by first | assumption | (unfold I64; omega)) (by first | assumption | (unfold I64; omega))⟩ | exact ⟨unhide hbz, isR (by first | assumption | (unfold I64; omega)) (by first | assumption | (unfold I64; omega))⟩
    · refine FrontStep.of [27, 32] _ rfl (by kernel_rfl) ?_
      intro vs LL wq hLL hC hf
      simp only [putL, List.foldl_nil, List.foldl_cons, List.getElem?_cons_zero, List.getElem?_cons_succ]
      obtain ⟨z60, y60, e60, hz60, hy60⟩ := hf 27 (by simp)
      rw [e60]
      obtain ⟨z65, y65, e65, hz65, hy65⟩ := hf 32 (by simp)
      rw [e65]
      go_wp2_with fail
      first | exact ⟨hC, Below.refl _ _, isP (by assumption) (by assumption) (by assumption) (by assumption)⟩ | exact ⟨Below.refl _ _, isP (by assumption) (by assumption) (by assumption) (by assumption)⟩ | exact ⟨hC, isP (by assumption) (by assumption) (by assumption) (by assumption)⟩ | exact isP (by assumption) (by assumption) (by assumption) (by assumption)
    · refine FrontStep.of [] _ rfl (by kernel_rfl) ?_
      intro vs LL wq hLL hC hf
      simp only [putL, List.foldl_nil]
      have g30 := cell_under f30 hC; have g31 := cell_under f31 hC; have g40 := cell_under f40 hC; have g41 := cell_under f41 hC; have g80 := cell_under f80 hC; have g81 := cell_under f81 hC
      go_wp2_with fail
      first | exact ⟨hC, Below.refl _ _, isR (by assumption) (by assumption)⟩ | exact ⟨Below.refl _ _, isR (by assumption) (by assumption)⟩ | exact ⟨hC, isR (by assumption) (by assumption)⟩ | exact isR (by assumption) (by assumption)
    · refine FrontStep.of [] _ rfl (by kernel_rfl) ?_
      intro vs LL wq hLL hC hf
      simp only [putL, List.foldl_nil]
      go_wp2_with fail
      first | exact Below.refl _ _ | exact hC | exact ⟨hC, Below.refl _ _⟩
    · refine FrontStep.of [35] _ rfl (by kernel_rfl) ?_
      intro vs LL wq hLL hC hf
      simp only [putL, List.foldl_nil, List.foldl_cons, List.getElem?_cons_zero, List.getElem?_cons_succ]
      have e35 : vs 35 = _ := hf 35 (by simp)
      rw [e35]
      have g30 := cell_under f30 hC; have g31 := cell_under f31 hC; have g40 := cell_under f40 hC; have g41 := cell_under f41 hC; have g80 := cell_under f80 hC; have g81 := cell_under f81 hC
      go_wp2_with fail
      first | exact ⟨hC, Below.refl _ _, isI (by assumption)⟩ | exact ⟨Below.refl _ _, isI (by assumption)⟩ | exact ⟨hC, isI (by assumption)⟩ | exact isI (by assumption)
    · refine FrontStep.of [36] _ rfl (by kernel_rfl) ?_
      intro vs LL wq hLL hC hf
      simp only [putL, List.foldl_nil, List.foldl_cons, List.getElem?_cons_zero, List.getElem?_cons_succ]
      obtain ⟨z69, e69, hz69⟩ := hf 36 (by simp)
      rw [e69]
      go_wp2_with fail
      first | exact ⟨hC, Below.refl _ _, isI (by first | exact i64_wrap _ | exact i64_kwrap _ | exact i64_tmod (by assumption) _)⟩ | exact ⟨Below.refl _ _, isI (by first | exact i64_wrap _ | exact i64_kwrap _ | exact i64_tmod (by assumption) _)⟩ | exact ⟨hC, isI (by first | exact i64_wrap _ | exact i64_kwrap _ | exact i64_tmod (by assumption) _)⟩ | exact isI (by first | exact i64_wrap _ | exact i64_kwrap _ | exact i64_tmod (by assumption) _)
    · refine FrontStep.of [] _ rfl (by kernel_rfl) ?_
      intro vs LL wq hLL hC hf
      simp only [putL, List.foldl_nil]
      go_wp2_with fail
      first | exact Below.refl _ _ | exact hC | exact ⟨hC, Below.refl _ _⟩
    · refine FrontStep.of [38] _ rfl (by kernel_rfl) ?_
      intro vs LL wq hLL hC hf
      simp only [putL, List.foldl_nil, List.foldl_cons, List.getElem?_cons_zero, List.getElem?_cons_succ]
      have e38 : vs 38 = _ := hf 38 (by simp)
      rw [e38]
      have g30 := cell_under f30 hC; have g31 := cell_under f31 hC; have g40 := cell_under f40 hC; have g41 := cell_under f41 hC; have g80 := cell_under f80 hC; have g81 := cell_under f81 hC
      go_wp2_with fail
      first | exact ⟨hC, Below.refl _ _, isI (by assumption)⟩ | exact ⟨Below.refl _ _, isI (by assumption)⟩ | exact ⟨hC, isI (by assumption)⟩ | exact isI (by assumption)
    · refine FrontStep.of [32, 37, 39] _ rfl (by kernel_rfl) ?_
      intro vs LL wq hLL hC hf
      simp only [putL, List.foldl_nil, List.foldl_cons, List.getElem?_cons_zero, List.getElem?_cons_succ]
      obtain ⟨z65, y65, e65, hz65, hy65⟩ := hf 32 (by simp)
      rw [e65]
      obtain ⟨z70, e70, hz70⟩ := hf 37 (by simp)
      rw [e70]
      obtain ⟨z72, e72, hz72⟩ := hf 39 (by simp)
      rw [e72]
      have hcq := fun n d => of_any n d wq
      replace hcq := hide hcq
      go_wp2_with fail
      refine (unhide hcq _ _).mono ?_
      rintro e wz ⟨rfl, hbz⟩
      clear hcq
      replace hbz := hide hbz
      go_wp2_with fail
      first | exact ⟨hC.trans ((unhide hbz).mono hC.size), unhide hbz, isR (by first | assumption | (unfold I64; omega)) (by first | assumption | (unfold I64; omega))⟩ | exact ⟨unhide hbz, isR (by first | assumption | (unfold I64; omega)) (by first | assumption | (unfold I64; omega))⟩
    · refine FrontStep.of [34, 40] _ rfl (by kernel_rfl) ?_
      intro vs LL wq hLL hC hf
      simp only [putL, List.foldl_nil, List.foldl_cons, List.getElem?_cons_zero, List.getElem?_cons_succ]
      obtain ⟨z67, y67, e67, hz67, hy67⟩ := hf 34 (by simp)
      rw [e67]
      obtain ⟨z73, y73, e73, hz73, hy73⟩ := hf 40 (by simp)
      rw [e73]
      go_wp2_with fail
      first | exact ⟨hC, Below.refl _ _, isP (by assumption) (by assumption) (by assumption) (by assumption)⟩ | exact ⟨Below.refl _ _, isP (by assumption) (by assumption) (by assumption) (by assumption)⟩ | exact ⟨hC, isP (by assumption) (by assumption) (by assumption) (by assumption)⟩ | exact isP (by assumption) (by assumption) (by assumption) (by assumption)
    · refine FrontStep.of [] _ rfl (by kernel_rfl) ?_
      intro vs LL wq hLL hC hf
      simp only [putL, List.foldl_nil]
      go_wp2_with fail
      first | exact Below.refl _ _ | exact hC | exact ⟨hC, Below.refl _ _⟩
    · refine FrontStep.of [42] _ rfl (by kernel_rfl) ?_
      intro vs LL wq hLL hC hf
      simp only [putL, List.foldl_nil, List.foldl_cons, List.getElem?_cons_zero, List.getElem?_cons_succ]
      have e42 : vs 42 = _ := hf 42 (by simp)
      rw [e42]
      have g30 := cell_under f30 hC; have g31 := cell_under f31 hC; have g40 := cell_under f40 hC; have g41 := cell_under f41 hC; have g80 := cell_under f80 hC; have g81 := cell_under f81 hC
      go_wp2_with fail
      first | exact ⟨hC, Below.refl _ _, isI (by assumption)⟩ | exact ⟨Below.refl _ _, isI (by assumption)⟩ | exact ⟨hC, isI (by assumption)⟩ | exact isI (by assumption)
    · refine FrontStep.of [40, 43] _ rfl (by kernel_rfl) ?_
      intro vs LL wq hLL hC hf
      simp only [putL, List.foldl_nil, List.foldl_cons, List.getElem?_cons_zero, List.getElem?_cons_succ]
      obtain ⟨z73, y73, e73, hz73, hy73⟩ := hf 40 (by simp)
      rw [e73]
      obtain ⟨z76, e76, hz76⟩ := hf 43 (by simp)
      rw [e76]
      have hcq := fun n d => of_any n d wq
      replace hcq := hide hcq
      go_wp2_with fail
      refine (unhide hcq _ _).mono ?_
      rintro e wz ⟨rfl, hbz⟩
      clear hcq
      replace hbz := hide hbz
      go_wp2_with fail
      first | exact ⟨hC.trans ((unhide hbz).mono hC.size), unhide hbz, isR (by first | assumption | (unfold I64; omega)) (by first | assumption | (unfold I64; omega))⟩ | exact ⟨unhide hbz, isR (by first | assumption | (unfold I64; omega)) (by first | assumption | (unfold I64; omega))⟩
    · refine FrontStep.of [] _ rfl (by kernel_rfl) ?_
      intro vs LL wq hLL hC hf
      simp only [putL, List.foldl_nil]
      have g30 := cell_under f30 hC; have g31 := cell_under f31 hC; have g40 := cell_under f40 hC; have g41 := cell_under f41 hC; have g80 := cell_under f80 hC; have g81 := cell_under f81 hC
      go_wp2_with fail
      first | exact ⟨hC, Below.refl _ _, isR (by assumption) (by assumption)⟩ | exact ⟨Below.refl _ _, isR (by assumption) (by assumption)⟩ | exact ⟨hC, isR (by assumption) (by assumption)⟩ | exact isR (by assumption) (by assumption)
    · refine FrontStep.of [44, 45] _ rfl (by kernel_rfl) ?_
      intro vs LL wq hLL hC hf
      simp only [putL, List.foldl_nil, List.foldl_cons, List.getElem?_cons_zero, List.getElem?_cons_succ]
      obtain ⟨z77, y77, e77, hz77, hy77⟩ := hf 44 (by simp)
      rw [e77]
      obtain ⟨z78, y78, e78, hz78, hy78⟩ := hf 45 (by simp)
      rw [e78]
      go_wp2_with fail
      first | exact ⟨hC, Below.refl _ _, isP (by assumption) (by assumption) (by assumption) (by assumption)⟩ | exact ⟨Below.refl _ _, isP (by assumption) (by assumption) (by assumption) (by assumption)⟩ | exact ⟨hC, isP (by assumption) (by assumption) (by assumption) (by assumption)⟩ | exact isP (by assumption) (by assumption) (by assumption) (by assumption)
    · refine FrontStep.of [] _ rfl (by kernel_rfl) ?_
      intro vs LL wq hLL hC hf
      simp only [putL, List.foldl_nil]
      go_wp2_with fail
      first | exact Below.refl _ _ | exact hC | exact ⟨hC, Below.refl _ _⟩
    · refine FrontStep.of [47] _ rfl (by kernel_rfl) ?_
      intro vs LL wq hLL hC hf
      simp only [putL, List.foldl_nil, List.foldl_cons, List.getElem?_cons_zero, List.getElem?_cons_succ]
      have e47 : vs 47 = _ := hf 47 (by simp)
      rw [e47]
      have g30 := cell_under f30 hC; have g31 := cell_under f31 hC; have g40 := cell_under f40 hC; have g41 := cell_under f41 hC; have g80 := cell_under f80 hC; have g81 := cell_under f81 hC
      go_wp2_with fail
      first | exact ⟨hC, Below.refl _ _, isI (by assumption)⟩ | exact ⟨Below.refl _ _, isI (by assumption)⟩ | exact ⟨hC, isI (by assumption)⟩ | exact isI (by assumption)
    · refine FrontStep.of [44, 48] _ rfl (by kernel_rfl) ?_
      intro vs LL wq hLL hC hf
      simp only [putL, List.foldl_nil, List.foldl_cons, List.getElem?_cons_zero, List.getElem?_cons_succ]
      obtain ⟨z77, y77, e77, hz77, hy77⟩ := hf 44 (by simp)
      rw [e77]
      obtain ⟨z81, e81, hz81⟩ := hf 48 (by simp)
      rw [e81]
      have hcq := fun n d => of_any n d wq
      replace hcq := hide hcq
      go_wp2_with fail
      refine (unhide hcq _ _).mono ?_
      rintro e wz ⟨rfl, hbz⟩
      clear hcq
      replace hbz := hide hbz
      go_wp2_with fail
      first | exact ⟨hC.trans ((unhide hbz).mono hC.size), unhide hbz, isR (by first | assumption | (unfold I64; omega)) (by first | assumption | (unfold I64; omega))⟩ | exact ⟨unhide hbz, isR (by first | assumption | (unfold I64; omega)) (by first | assumption | (unfold I64; omega))⟩
    · refine FrontStep.of [] _ rfl (by kernel_rfl) ?_
      intro vs LL wq hLL hC hf
      simp only [putL, List.foldl_nil]
      go_wp2_with fail
      first | exact Below.refl _ _ | exact hC | exact ⟨hC, Below.refl _ _⟩
    · refine FrontStep.of [50] _ rfl (by kernel_rfl) ?_
      intro vs LL wq hLL hC hf
      simp only [putL, List.foldl_nil, List.foldl_cons, List.getElem?_cons_zero, List.getElem?_cons_succ]
      have e50 : vs 50 = _ := hf 50 (by simp)
      rw [e50]
      have g30 := cell_under f30 hC; have g31 := cell_under f31 hC; have g40 := cell_under f40 hC; have g41 := cell_under f41 hC; have g80 := cell_under f80 hC; have g81 := cell_under f81 hC
      go_wp2_with fail
      first | exact ⟨hC, Below.refl _ _, isI (by assumption)⟩ | exact ⟨Below.refl _ _, isI (by assumption)⟩ | exact ⟨hC, isI (by assumption)⟩ | exact isI (by assumption)
    · refine FrontStep.of [49, 51] _ rfl (by kernel_rfl) ?_
      intro vs LL wq hLL hC hf
      simp only [putL, List.foldl_nil, List.foldl_cons, List.getElem?_cons_zero, List.getElem?_cons_succ]
      obtain ⟨z82, y82, e82, hz82, hy82⟩ := hf 49 (by simp)
      rw [e82]
      obtain ⟨z84, e84, hz84⟩ := hf 51 (by simp)
      rw [e84]
      have hcq := fun n d => of_any n d wq
      replace hcq := hide hcq
      go_wp2_with fail
      refine (unhide hcq _ _).mono ?_
      rintro e wz ⟨rfl, hbz⟩
      clear hcq
      replace hbz := hide hbz
      go_wp2_with fail
      first | exact ⟨hC.trans ((unhide hbz).mono hC.size), unhide hbz, isR (by first | assumption | (unfold I64; omega)) (by first | assumption | (unfold I64; omega))⟩ | exact ⟨unhide hbz, isR (by first | assumption | (unfold I64; omega)) (by first | assumption | (unfold I64; omega))⟩
    · refine FrontStep.of [49, 52] _ rfl (by kernel_rfl) ?_
      intro vs LL wq hLL hC hf
      simp only [putL, List.foldl_nil, List.foldl_cons, List.getElem?_cons_zero, List.getElem?_cons_succ]
      obtain ⟨z82, y82, e82, hz82, hy82⟩ := hf 49 (by simp)
      rw [e82]
      obtain ⟨z85, y85, e85, hz85, hy85⟩ := hf 52 (by simp)
      rw [e85]
      go_wp2_with fail
      first | exact ⟨hC, Below.refl _ _, isP (by assumption) (by assumption) (by assumption) (by assumption)⟩ | exact ⟨Below.refl _ _, isP (by assumption) (by assumption) (by assumption) (by assumption)⟩ | exact ⟨hC, isP (by assumption) (by assumption) (by assumption) (by assumption)⟩ | exact isP (by assumption) (by assumption) (by assumption) (by assumption)
    · refine FrontStep.of [] _ rfl (by kernel_rfl) ?_
      intro vs LL wq hLL hC hf
      simp only [putL, List.foldl_nil]
      have g30 := cell_under f30 hC; have g31 := cell_under f31 hC; have g40 := cell_under f40 hC; have g41 := cell_under f41 hC; have g80 := cell_under f80 hC; have g81 := cell_under f81 hC
      go_wp2_with fail
      first | exact ⟨hC, Below.refl _ _, isR (by assumption) (by assumption)⟩ | exact ⟨Below.refl _ _, isR (by assumption) (by assumption)⟩ | exact ⟨hC, isR (by assumption) (by assumption)⟩ | exact isR (by assumption) (by assumption)
    · refine FrontStep.of [] _ rfl (by kernel_rfl) ?_
      intro vs LL wq hLL hC hf
      simp only [putL, List.foldl_nil]
      have g30 := cell_under f30 hC; have g31 := cell_under f31 hC; have g40 := cell_under f40 hC; have g41 := cell_under f41 hC; have g80 := cell_under f80 hC; have g81 := cell_under f81 hC
      go_wp2_with fail
      first | exact ⟨hC, Below.refl _ _, isR (by assumption) (by assumption)⟩ | exact ⟨Below.refl _ _, isR (by assumption) (by assumption)⟩ | exact ⟨hC, isR (by assumption) (by assumption)⟩ | exact isR (by assumption) (by assumption)
    · refine FrontStep.of [54, 55] _ rfl (by kernel_rfl) ?_
      intro vs LL wq hLL hC hf
      simp only [putL, List.foldl_nil, List.foldl_cons, List.getElem?_cons_zero, List.getElem?_cons_succ]
      obtain ⟨z87, y87, e87, hz87, hy87⟩ := hf 54 (by simp)
      rw [e87]
      obtain ⟨z88, y88, e88, hz88, hy88⟩ := hf 55 (by simp)
      rw [e88]
      go_wp2_with fail
      first | exact ⟨hC, Below.refl _ _, isP (by assumption) (by assumption) (by assumption) (by assumption)⟩ | exact ⟨Below.refl _ _, isP (by assumption) (by assumption) (by assumption) (by assumption)⟩ | exact ⟨hC, isP (by assumption) (by assumption) (by assumption) (by assumption)⟩ | exact isP (by assumption) (by assumption) (by assumption) (by assumption)
    · refine FrontStep.of [2, 11, 22, 33, 41, 46, 53, 56] _ rfl (by kernel_rfl) ?_
      intro vs LL wq hLL hC hf
      simp only [putL, List.foldl_nil, List.foldl_cons, List.getElem?_cons_zero, List.getElem?_cons_succ]
      obtain ⟨p35, q35, r35, s35, e35, ha35, hb35, hc35, hd35⟩ := hf 2 (by simp)
      rw [e35]
      obtain ⟨p44, q44, r44, s44, e44, ha44, hb44, hc44, hd44⟩ := hf 11 (by simp)
      rw [e44]
      obtain ⟨p55, q55, r55, s55, e55, ha55, hb55, hc55, hd55⟩ := hf 22 (by simp)
      rw [e55]
      obtain ⟨p66, q66, r66, s66, e66, ha66, hb66, hc66, hd66⟩ := hf 33 (by simp)
      rw [e66]
      obtain ⟨p74, q74, r74, s74, e74, ha74, hb74, hc74, hd74⟩ := hf 41 (by simp)
      rw [e74]
      obtain ⟨p79, q79, r79, s79, e79, ha79, hb79, hc79, hd79⟩ := hf 46 (by simp)
      rw [e79]
      obtain ⟨p86, q86, r86, s86, e86, ha86, hb86, hc86, hd86⟩ := hf 53 (by simp)
      rw [e86]
      obtain ⟨p89, q89, r89, s89, e89, ha89, hb89, hc89, hd89⟩ := hf 56 (by simp)
      rw [e89]
      have hal := (Below.refl wq.heap.size wq).alloc (Nat.le_refl _) (Obj.cells #[.int .i64 p35, .int .i64 q35, .int .i64 r35, .int .i64 s35, .int .i64 p44, .int .i64 q44, .int .i64 r44, .int .i64 s44, .int .i64 p55, .int .i64 q55, .int .i64 r55, .int .i64 s55, .int .i64 p66, .int .i64 q66, .int .i64 r66, .int .i64 s66, .int .i64 p74, .int .i64 q74, .int .i64 r74, .int .i64 s74, .int .i64 p79, .int .i64 q79, .int .i64 r79, .int .i64 s79, .int .i64 p86, .int .i64 q86, .int .i64 r86, .int .i64 s86, .int .i64 p89, .int .i64 q89, .int .i64 r89, .int .i64 s89] 38)
      have hIL := isL wq [p35, q35, r35, s35, p44, q44, r44, s44, p55, q55, r55, s55, p66, q66, r66, s66, p74, q74, r74, s74, p79, q79, r79, s79, p86, q86, r86, s86, p89, q89, r89, s89] #[.int .i64 p35, .int .i64 q35, .int .i64 r35, .int .i64 s35, .int .i64 p44, .int .i64 q44, .int .i64 r44, .int .i64 s44, .int .i64 p55, .int .i64 q55, .int .i64 r55, .int .i64 s55, .int .i64 p66, .int .i64 q66, .int .i64 r66, .int .i64 s66, .int .i64 p74, .int .i64 q74, .int .i64 r74, .int .i64 s74, .int .i64 p79, .int .i64 q79, .int .i64 r79, .int .i64 s79, .int .i64 p86, .int .i64 q86, .int .i64 r86, .int .i64 s86, .int .i64 p89, .int .i64 q89, .int .i64 r89, .int .i64 s89] rfl rfl (by (repeat (refine List.forall_mem_cons.2 ⟨by assumption, ?_⟩)); (intro x hx; cases hx))
      go_wp2_with fail
      first | exact ⟨hC.trans (hal.mono hC.size), hal, hIL⟩ | exact ⟨hal, hIL⟩ | exact hC.trans (hal.mono hC.size)
    · refine FrontStep.of [57] _ rfl (by kernel_rfl) ?_
      intro vs LL wq hLL hC hf
      simp only [putL, List.foldl_nil, List.foldl_cons, List.getElem?_cons_zero, List.getElem?_cons_succ]
      obtain ⟨bs, L, e90, hlen, hall, kS⟩ := hf 57 (by simp)
      rw [e90]
      go_wp2_with fail
      first | exact Below.refl _ _ | exact hC | exact ⟨hC, Below.refl _ _⟩
    · refine FrontStep.of [] _ rfl (by kernel_rfl) ?_
      intro vs LL wq hLL hC hf
      simp only [putL, List.foldl_nil]
      go_wp2_with fail
      first | exact Below.refl _ _ | exact hC | exact ⟨hC, Below.refl _ _⟩
  · intro vs LL wq hLL hC hf
    obtain ⟨bs, L, e90, hlen, hall, kS⟩ := hf 57 (by omega)
    have e91 : vs 58 = _ := hf 58 (by omega)
    have e92 : vs 59 = _ := hf 59 (by omega)
    rw [putSome_all]
    simp only [putL, List.range, List.range.loop, List.foldl_nil, List.foldl_cons, List.getElem?_cons_zero, List.getElem?_cons_succ, List.drop_succ_cons, List.drop_zero]
    rw [e90, e91, e92]
    have hbel := (unhide hz).trans (hC.mono (unhide hz).size)
    clear hf hLL hC hz f30 f31 f40 f41 f80 f81 e90 e91 e92
    replace hlen := hide hlen; replace hall := hide hall; replace kS := hide kS; replace hbel := hide hbel
    go_simp
    go_wp2_with fail
    go_loopw [92] (fun v wr => ∃ k : Nat, k ≤ 8 ∧ v = .int .i64 (k : Int) ∧ wr.heap[bs]? = some (.cells (L.map (Value.int .i64)).toArray 38 (0, 0)) ∧ Below w.heap.size w wr) (fun v _ => (8 - intOf v).toNat)
    case atStart => exact ⟨0, by omega, rfl, unhide kS, unhide hbel⟩
    case round =>
      obtain ⟨k, hk, rfl, kb, hb⟩ := hrel
      clear kS hbel
      by_cases hlt : k < 8
      · have t1 : decide ((k : Int) < 8) = true := by simp; omega
        obtain ⟨x0, x1, y0, y1, i0, i1, i2, i3, c0, c1, c2, c3⟩ := quad_all kb (unhide hall) k (by rw [unhide hlen]; omega)
        have es := fun w => esum_any x0 x1 y0 y1 w i0 i1 i2 i3
        have rs := fun w => rsum_any x0 x1 y0 y1 w i0 i1 i2 i3
        have em := fun w => emul_any x0 x1 y0 y1 w i0 i1 i2 i3
        have rm := fun w => rmul_any x0 x1 y0 y1 w i0 i1 i2 i3
        have el := fun w => elow_all x0 x1 w i0 i1
        have rl := fun w => rlow_all x0 x1 w i0 i1
        have ec := fun w => ecmp_any x0 x1 y0 y1 w i0 i1 i2 i3
        have rc := fun w => rcmp_any x0 x1 y0 y1 w i0 i1 i2 i3
        generalize Ex.numR (Ex.sumS x0 x1 y0 y1) = S1 at *
        generalize Ex.denR (Ex.sumS x0 x1 y0 y1) = S2 at *
        generalize Ex.okR (Ex.sumS x0 x1 y0 y1) = S3 at *
        generalize Ex.numR (Ex.mulS x0 x1 y0 y1) = M1 at *
        generalize Ex.denR (Ex.mulS x0 x1 y0 y1) = M2 at *
        generalize Ex.okR (Ex.mulS x0 x1 y0 y1) = M3 at *
        generalize Ex.numR (Ex.lowS x0 x1) = L1 at *
        generalize Ex.denR (Ex.lowS x0 x1) = L2 at *
        generalize Ex.okR (Ex.lowS x0 x1) = L3 at *
        generalize Ex.cmpS x0 x1 y0 y1 = C0 at *
        clear i0 i1 i2 i3
        replace es := hide es; replace rs := hide rs; replace em := hide em; replace rm := hide rm; replace el := hide el; replace rl := hide rl; replace ec := hide ec; replace rc := hide rc
        obtain ⟨bx, Vx, hbx, hVx, st⟩ := (St.start wr).new (Obj.cells #[.int .i64 x0, .int .i64 x1, .int .i64 y0, .int .i64 y1] 38)
        have hb1 := st.below
        replace kb := hide (kept hb1 (Array.getElem?_eq_some_iff.1 kb).1 kb)
        have hb0 := hide (hb.trans (hb1.mono hb.size))
        have kv := hide (st.get 0 rfl)
        clear st hb1 hb
        replace hbx := hide hbx; replace hVx := hide hVx
        go_upto_region 7 with fail
        rw [unhide hVx]
        try rw [unhide hbx]
        clear hbx hVx c0 c1 c2 c3
        obtain ⟨bv, rfl⟩ : ∃ b : Nat, b = bx := ⟨_, rfl⟩
        obtain ⟨u, rfl⟩ : ∃ W : World, W = Vx := ⟨_, rfl⟩
        have hv := unhide es u
        replace hv := hide hv
        obtain ⟨g0, g1, g2, g3⟩ := cells4 (unhide kv)
        go_wp2_with fail
        refine (unhide hv).mono ?_
        rintro e v ⟨rfl, hb1⟩
        clear hv es g0 g1 g2 g3
        replace kv := hide (kept hb1 (Array.getElem?_eq_some_iff.1 (unhide kv)).1 (unhide kv))
        replace kb := hide (kept hb1 (Array.getElem?_eq_some_iff.1 (unhide kb)).1 (unhide kb))
        replace hb0 := hide ((unhide hb0).trans (hb1.mono (unhide hb0).size))
        clear hb1
        obtain ⟨bx, Vx, hbx, hVx, st⟩ := (St.start v).new (Obj.cells #[.int .i64 S1, .int .i64 S2] 33)
        have hb1 := st.below
        replace kv := hide (kept hb1 (Array.getElem?_eq_some_iff.1 (unhide kv)).1 (unhide kv))
        replace kb := hide (kept hb1 (Array.getElem?_eq_some_iff.1 (unhide kb)).1 (unhide kb))
        replace hb0 := hide ((unhide hb0).trans (hb1.mono (unhide hb0).size))
        have x0 := hide (st.get 0 rfl)
        clear st hb1
        replace hbx := hide hbx; replace hVx := hide hVx
        go_upto_region 8 with fail
        rw [unhide hVx]
        try rw [unhide hbx]
        clear hbx hVx
        obtain ⟨d0, rfl⟩ : ∃ b : Nat, b = bx := ⟨_, rfl⟩
        obtain ⟨u, rfl⟩ : ∃ W : World, W = Vx := ⟨_, rfl⟩
        have hv := unhide rs u
        replace hv := hide hv
        obtain ⟨g0, g1, g2, g3⟩ := cells4 (unhide kv)
        go_wp2_with fail
        refine (unhide hv).mono ?_
        rintro e v ⟨rfl, hb1⟩
        clear hv rs g0 g1 g2 g3
        replace kv := hide (kept hb1 (Array.getElem?_eq_some_iff.1 (unhide kv)).1 (unhide kv))
        replace kb := hide (kept hb1 (Array.getElem?_eq_some_iff.1 (unhide kb)).1 (unhide kb))
        replace x0 := hide (kept hb1 (Array.getElem?_eq_some_iff.1 (unhide x0)).1 (unhide x0))
        replace hb0 := hide ((unhide hb0).trans (hb1.mono (unhide hb0).size))
        clear hb1
        obtain ⟨bx, Vx, hbx, hVx, st⟩ := (St.start v).new (Obj.cells #[.int .i64 S1, .int .i64 S2] 33)
        have hb1 := st.below
        replace kv := hide (kept hb1 (Array.getElem?_eq_some_iff.1 (unhide kv)).1 (unhide kv))
        replace kb := hide (kept hb1 (Array.getElem?_eq_some_iff.1 (unhide kb)).1 (unhide kb))
        replace x0 := hide (kept hb1 (Array.getElem?_eq_some_iff.1 (unhide x0)).1 (unhide x0))
        replace hb0 := hide ((unhide hb0).trans (hb1.mono (unhide hb0).size))
        have x1 := hide (st.get 0 rfl)
        clear st hb1
        replace hbx := hide hbx; replace hVx := hide hVx
        go_upto_region 9 with fail
        rw [unhide hVx]
        try rw [unhide hbx]
        clear hbx hVx
        obtain ⟨d1, rfl⟩ : ∃ b : Nat, b = bx := ⟨_, rfl⟩
        obtain ⟨u, rfl⟩ : ∃ W : World, W = Vx := ⟨_, rfl⟩
        have hv := unhide em u
        replace hv := hide hv
        obtain ⟨g0, g1, g2, g3⟩ := cells4 (unhide kv)
        go_wp2_with fail
        refine (unhide hv).mono ?_
        rintro e v ⟨rfl, hb1⟩
        clear hv em g0 g1 g2 g3
        replace kv := hide (kept hb1 (Array.getElem?_eq_some_iff.1 (unhide kv)).1 (unhide kv))
        replace kb := hide (kept hb1 (Array.getElem?_eq_some_iff.1 (unhide kb)).1 (unhide kb))
        replace x0 := hide (kept hb1 (Array.getElem?_eq_some_iff.1 (unhide x0)).1 (unhide x0))
        replace x1 := hide (kept hb1 (Array.getElem?_eq_some_iff.1 (unhide x1)).1 (unhide x1))
        replace hb0 := hide ((unhide hb0).trans (hb1.mono (unhide hb0).size))
        clear hb1
        obtain ⟨bx, Vx, hbx, hVx, st⟩ := (St.start v).new (Obj.cells #[.int .i64 M1, .int .i64 M2] 33)
        have hb1 := st.below
        replace kv := hide (kept hb1 (Array.getElem?_eq_some_iff.1 (unhide kv)).1 (unhide kv))
        replace kb := hide (kept hb1 (Array.getElem?_eq_some_iff.1 (unhide kb)).1 (unhide kb))
        replace x0 := hide (kept hb1 (Array.getElem?_eq_some_iff.1 (unhide x0)).1 (unhide x0))
        replace x1 := hide (kept hb1 (Array.getElem?_eq_some_iff.1 (unhide x1)).1 (unhide x1))
        replace hb0 := hide ((unhide hb0).trans (hb1.mono (unhide hb0).size))
        have x2 := hide (st.get 0 rfl)
        clear st hb1
        replace hbx := hide hbx; replace hVx := hide hVx
        go_upto_region 10 with fail
        rw [unhide hVx]
        try rw [unhide hbx]
        clear hbx hVx
        obtain ⟨d2, rfl⟩ : ∃ b : Nat, b = bx := ⟨_, rfl⟩
        obtain ⟨u, rfl⟩ : ∃ W : World, W = Vx := ⟨_, rfl⟩
        have hv := unhide rm u
        replace hv := hide hv
        obtain ⟨g0, g1, g2, g3⟩ := cells4 (unhide kv)
        go_wp2_with fail
        refine (unhide hv).mono ?_
        rintro e v ⟨rfl, hb1⟩
        clear hv rm g0 g1 g2 g3
        replace kv := hide (kept hb1 (Array.getElem?_eq_some_iff.1 (unhide kv)).1 (unhide kv))
        replace kb := hide (kept hb1 (Array.getElem?_eq_some_iff.1 (unhide kb)).1 (unhide kb))
        replace x0 := hide (kept hb1 (Array.getElem?_eq_some_iff.1 (unhide x0)).1 (unhide x0))
        replace x1 := hide (kept hb1 (Array.getElem?_eq_some_iff.1 (unhide x1)).1 (unhide x1))
        replace x2 := hide (kept hb1 (Array.getElem?_eq_some_iff.1 (unhide x2)).1 (unhide x2))
        replace hb0 := hide ((unhide hb0).trans (hb1.mono (unhide hb0).size))
        clear hb1
        obtain ⟨bx, Vx, hbx, hVx, st⟩ := (St.start v).new (Obj.cells #[.int .i64 M1, .int .i64 M2] 33)
        have hb1 := st.below
        replace kv := hide (kept hb1 (Array.getElem?_eq_some_iff.1 (unhide kv)).1 (unhide kv))
        replace kb := hide (kept hb1 (Array.getElem?_eq_some_iff.1 (unhide kb)).1 (unhide kb))
        replace x0 := hide (kept hb1 (Array.getElem?_eq_some_iff.1 (unhide x0)).1 (unhide x0))
        replace x1 := hide (kept hb1 (Array.getElem?_eq_some_iff.1 (unhide x1)).1 (unhide x1))
        replace x2 := hide (kept hb1 (Array.getElem?_eq_some_iff.1 (unhide x2)).1 (unhide x2))
        replace hb0 := hide ((unhide hb0).trans (hb1.mono (unhide hb0).size))
        have x3 := hide (st.get 0 rfl)
        clear st hb1
        replace hbx := hide hbx; replace hVx := hide hVx
        go_upto_region 11 with fail
        rw [unhide hVx]
        try rw [unhide hbx]
        clear hbx hVx
        obtain ⟨d3, rfl⟩ : ∃ b : Nat, b = bx := ⟨_, rfl⟩
        obtain ⟨u, rfl⟩ : ∃ W : World, W = Vx := ⟨_, rfl⟩
        have hv := unhide el u
        replace hv := hide hv
        obtain ⟨g0, g1, g2, g3⟩ := cells4 (unhide kv)
        go_wp2_with fail
        refine (unhide hv).mono ?_
        rintro e v ⟨rfl, hb1⟩
        clear hv el g0 g1 g2 g3
        replace kv := hide (kept hb1 (Array.getElem?_eq_some_iff.1 (unhide kv)).1 (unhide kv))
        replace kb := hide (kept hb1 (Array.getElem?_eq_some_iff.1 (unhide kb)).1 (unhide kb))
        replace x0 := hide (kept hb1 (Array.getElem?_eq_some_iff.1 (unhide x0)).1 (unhide x0))
        replace x1 := hide (kept hb1 (Array.getElem?_eq_some_iff.1 (unhide x1)).1 (unhide x1))
        replace x2 := hide (kept hb1 (Array.getElem?_eq_some_iff.1 (unhide x2)).1 (unhide x2))
        replace x3 := hide (kept hb1 (Array.getElem?_eq_some_iff.1 (unhide x3)).1 (unhide x3))
        replace hb0 := hide ((unhide hb0).trans (hb1.mono (unhide hb0).size))
        clear hb1
        obtain ⟨bx, Vx, hbx, hVx, st⟩ := (St.start v).new (Obj.cells #[.int .i64 L1, .int .i64 L2] 33)
        have hb1 := st.below
        replace kv := hide (kept hb1 (Array.getElem?_eq_some_iff.1 (unhide kv)).1 (unhide kv))
        replace kb := hide (kept hb1 (Array.getElem?_eq_some_iff.1 (unhide kb)).1 (unhide kb))
        replace x0 := hide (kept hb1 (Array.getElem?_eq_some_iff.1 (unhide x0)).1 (unhide x0))
        replace x1 := hide (kept hb1 (Array.getElem?_eq_some_iff.1 (unhide x1)).1 (unhide x1))
        replace x2 := hide (kept hb1 (Array.getElem?_eq_some_iff.1 (unhide x2)).1 (unhide x2))
        replace x3 := hide (kept hb1 (Array.getElem?_eq_some_iff.1 (unhide x3)).1 (unhide x3))
        replace hb0 := hide ((unhide hb0).trans (hb1.mono (unhide hb0).size))
        have x4 := hide (st.get 0 rfl)
        clear st hb1
        replace hbx := hide hbx; replace hVx := hide hVx
        go_upto_region 12 with fail
        rw [unhide hVx]
        try rw [unhide hbx]
        clear hbx hVx
        obtain ⟨d4, rfl⟩ : ∃ b : Nat, b = bx := ⟨_, rfl⟩
        obtain ⟨u, rfl⟩ : ∃ W : World, W = Vx := ⟨_, rfl⟩
        have hv := unhide rl u
        replace hv := hide hv
        obtain ⟨g0, g1, g2, g3⟩ := cells4 (unhide kv)
        go_wp2_with fail
        refine (unhide hv).mono ?_
        rintro e v ⟨rfl, hb1⟩
        clear hv rl g0 g1 g2 g3
        replace kv := hide (kept hb1 (Array.getElem?_eq_some_iff.1 (unhide kv)).1 (unhide kv))
        replace kb := hide (kept hb1 (Array.getElem?_eq_some_iff.1 (unhide kb)).1 (unhide kb))
        replace x0 := hide (kept hb1 (Array.getElem?_eq_some_iff.1 (unhide x0)).1 (unhide x0))
        replace x1 := hide (kept hb1 (Array.getElem?_eq_some_iff.1 (unhide x1)).1 (unhide x1))
        replace x2 := hide (kept hb1 (Array.getElem?_eq_some_iff.1 (unhide x2)).1 (unhide x2))
        replace x3 := hide (kept hb1 (Array.getElem?_eq_some_iff.1 (unhide x3)).1 (unhide x3))
        replace x4 := hide (kept hb1 (Array.getElem?_eq_some_iff.1 (unhide x4)).1 (unhide x4))
        replace hb0 := hide ((unhide hb0).trans (hb1.mono (unhide hb0).size))
        clear hb1
        obtain ⟨bx, Vx, hbx, hVx, st⟩ := (St.start v).new (Obj.cells #[.int .i64 L1, .int .i64 L2] 33)
        have hb1 := st.below
        replace kv := hide (kept hb1 (Array.getElem?_eq_some_iff.1 (unhide kv)).1 (unhide kv))
        replace kb := hide (kept hb1 (Array.getElem?_eq_some_iff.1 (unhide kb)).1 (unhide kb))
        replace x0 := hide (kept hb1 (Array.getElem?_eq_some_iff.1 (unhide x0)).1 (unhide x0))
        replace x1 := hide (kept hb1 (Array.getElem?_eq_some_iff.1 (unhide x1)).1 (unhide x1))
        replace x2 := hide (kept hb1 (Array.getElem?_eq_some_iff.1 (unhide x2)).1 (unhide x2))
        replace x3 := hide (kept hb1 (Array.getElem?_eq_some_iff.1 (unhide x3)).1 (unhide x3))
        replace x4 := hide (kept hb1 (Array.getElem?_eq_some_iff.1 (unhide x4)).1 (unhide x4))
        replace hb0 := hide ((unhide hb0).trans (hb1.mono (unhide hb0).size))
        have x5 := hide (st.get 0 rfl)
        clear st hb1
        replace hbx := hide hbx; replace hVx := hide hVx
        go_upto_region 13 with fail
        rw [unhide hVx]
        try rw [unhide hbx]
        clear hbx hVx
        obtain ⟨d5, rfl⟩ : ∃ b : Nat, b = bx := ⟨_, rfl⟩
        obtain ⟨u, rfl⟩ : ∃ W : World, W = Vx := ⟨_, rfl⟩
        have hbu := unhide hb0
        have kbu := unhide kb
        obtain ⟨g0, g1, g2, g3⟩ := cells4 (unhide kv)
        obtain ⟨c00, c01, _, _⟩ := cells2 (unhide x0)
        obtain ⟨c10, c11, _, _⟩ := cells2 (unhide x1)
        obtain ⟨c20, c21, _, _⟩ := cells2 (unhide x2)
        obtain ⟨c30, c31, _, _⟩ := cells2 (unhide x3)
        obtain ⟨c40, c41, _, _⟩ := cells2 (unhide x4)
        obtain ⟨c50, c51, _, _⟩ := cells2 (unhide x5)
        have y0 := fun x : Ext u => x.cell g0
        have y1 := fun x : Ext u => x.cell g1
        have y2 := fun x : Ext u => x.cell g2
        have y3 := fun x : Ext u => x.cell g3
        have z00 := fun x : Ext u => x.cell c00
        have z01 := fun x : Ext u => x.cell c01
        have z10 := fun x : Ext u => x.cell c10
        have z11 := fun x : Ext u => x.cell c11
        have z20 := fun x : Ext u => x.cell c20
        have z21 := fun x : Ext u => x.cell c21
        have z30 := fun x : Ext u => x.cell c30
        have z31 := fun x : Ext u => x.cell c31
        have z40 := fun x : Ext u => x.cell c40
        have z41 := fun x : Ext u => x.cell c41
        have z50 := fun x : Ext u => x.cell c50
        have z51 := fun x : Ext u => x.cell c51
        clear g0 g1 g2 g3 c00 c01 c10 c11 c20 c21 c30 c31 c40 c41 c50 c51 x0 x1 x2 x3 x4 x5 kv kb hb0
        replace kbu := hide kbu; replace hbu := hide hbu
        refine wp_region_ext (by rfl) (by kernel_rfl) ?_
        repeat (quiet_step ((first | (go_at_call 18; with_reducible exact Ext.calls (unhide ec _)) | (go_at_call 26; with_reducible exact Ext.calls (unhide rc _)))))
        refine wpQuiet_nil ?_
        rintro w' ⟨x, rfl⟩
        have kb' := kept x.le (Array.getElem?_eq_some_iff.1 (unhide kbu)).1 (unhide kbu)
        have hb' := (unhide hbu).trans (x.le.mono (unhide hbu).size)
        clear kbu hbu y0 y1 y2 y3 z00 z01 z10 z11 z20 z21 z30 z31 z40 z41 z50 z51 ec rc
        obtain ⟨w2, hw2⟩ : ∃ w2, w2 = x.get := ⟨_, rfl⟩
        rw [← hw2] at kb' hb' ⊢
        clear hw2 x
        replace kb' := hide kb'; replace hb' := hide hb'
        go_wp2_with fail
        go_roundw
        case rel => exact ⟨k + 1, by omega, by go_num, unhide kb', unhide hb'⟩
        case measure => simp [intOf]; omega
      · have t1 : decide ((k : Int) < 8) = false := by simp; omega
        go_wp2_with fail
        go_ret
        exact ⟨rfl, hb⟩
end Go.Proofs.Ytfegkaflemcanaa
