/- Streams: the function that takes glyphs for a stage. -/
import Derived.Test.YtfbgbbbfpkpfkaaTr6
namespace Go.Proofs.Ytfbgbbbfpkpfkaa
open Go.RowKit
theorem blk_cell {w : World} {b : Nat} {v : Value} {T : TypeId} (h : w.heap[b]? = some (.cells #[v] T (0, 0))) : w.cell? ⟨b, 0, none⟩ = some v := by rw [cell_of_row w b _ _ _ _ h]; rfl
set_option maxRecDepth 100000 in
set_option maxHeartbeats 8000000 in
theorem sinkfn_any (bs bo bf bF bA bW bN : Nat) (la : Option Addr) (ln lc n : Nat) (l : List (List Sub)) (k : Nat) (x : List Sub) (fn : FuncId) (cn : Array Value) (L' : List (Nat × Obj))
    (hx : l[k]? = some x) (hsm : Small x) (hto : ToI x) (hln : ln ≤ 1000000) (hn : l.length = n) (hn2 : n ≤ 1000000)
    (hfn : (fn = 54 ∧ ∃ p1 p2 p3 p4, cn = #[.pointer p1, .pointer p2, .pointer p3, .pointer p4]) ∨ ((fn = 37 ∨ fn = 33) ∧ ∃ p, cn = #[.pointer p])) (hk : SinkOK L' bs bo la ln l (k + 1) fn cn) :
    SinkOK ((bf, Obj.cells #[.slice la ln lc, .slice (some ⟨bs, 0, none⟩) n n] 68 (0, 0)) :: (bF, Obj.cells #[.pointer (some ⟨bf, 0, none⟩)] 63 (0, 0)) :: (bA, Obj.cells #[.int .i64 (k : Int)] 3 (0, 0)) :: (bW, Obj.cells #[.int .i64 (winS x : Nat)] 3 (0, 0)) :: (bN, Obj.cells #[.func (.func fn) #[] cn] 65 (0, 0)) :: L')
      bs bo la ln l k 54 #[.pointer (some ⟨bF, 0, none⟩), .pointer (some ⟨bA, 0, none⟩), .pointer (some ⟨bW, 0, none⟩), .pointer (some ⟨bN, 0, none⟩)] := by
  intro Q w pre ss0 out vs vo g hL hl h hp hs hg ht hb
  have hdrop : l.drop k = x :: l.drop (k + 1) := by
    obtain ⟨h1, h2⟩ := List.getElem?_eq_some_iff.1 hx
    rw [List.drop_eq_getElem_cons h1, h2]
  rw [hdrop] at hs ⊢
  cases ss0 with
  | nil => simp at hs
  | cons s ss =>
  have hs' : ss.length = (l.drop (k + 1)).length := by simpa using hs
  clear hs
  have hL0 := hL _ (List.mem_cons_self ..)
  have hLF := hL _ (List.mem_cons_of_mem _ (List.mem_cons_self ..))
  have hLA := hL _ (List.mem_cons_of_mem _ (List.mem_cons_of_mem _ (List.mem_cons_self ..)))
  have hLW := hL _ (List.mem_cons_of_mem _ (List.mem_cons_of_mem _ (List.mem_cons_of_mem _ (List.mem_cons_self ..))))
  have hLN := hL _ (List.mem_cons_of_mem _ (List.mem_cons_of_mem _ (List.mem_cons_of_mem _ (List.mem_cons_of_mem _ (List.mem_cons_self ..)))))
  have hLx : ∀ p ∈ L', Q p.1 ∧ w.heap[p.1]? = some p.2 := fun p hp => hL p (by simp [hp])
  clear hL
  show Calls Try.prog _ #[.int .i64 g, .pointer (some ⟨bF, 0, none⟩), .pointer (some ⟨bA, 0, none⟩), .pointer (some ⟨bW, 0, none⟩), .pointer (some ⟨bN, 0, none⟩)] w _
  obtain ⟨R, hR⟩ : ∃ R, loopS (winS x) x (feedS (l.drop (k + 1))) (s.2.length + 1) (s.1, s.2 ++ [g]) ss = R := ⟨_, rfl⟩
  have hfe : feedS (x :: l.drop (k + 1)) (s :: ss) g = (R.1.1 :: R.1.2, R.2) := by rw [← hR]; rfl
  rw [hfe]
  clear hfe
  replace hR := hide hR
  obtain ⟨v1, v2, e1, e2, V1, V2, A1, A2, c1, c2⟩ := h.stage
  obtain ⟨a2, q2, hv2, hq2, hq2'⟩ := V2.shape
  subst hv2
  obtain ⟨n2, hn2'⟩ : ∃ m, s.2.length = m := ⟨_, rfl⟩
  rw [hp] at e1 e2 c1 c2
  rw [hn2'] at c2 hq2 V2 e2
  have htl : n2 ≤ 200000 := by rw [← hn2']; rw [tot_app, tot_cons] at ht; omega
  have hkn : k < n := by rw [← hn]; exact (List.getElem?_eq_some_iff.1 hx).1
  have i1 : (0 : Int) ≤ (k : Int) := by omega
  have i2 : (k : Int) < (n : Int) := by omega
  have hAny : ∀ wq : World, (Below w.heap.size w wq ∨ ∃ v, ∃ wm, Below w.heap.size w wm ∧ View wq (fun g => ¬ Q g) v (s.2 ++ [g]) ∧ wm.grownBy wq (Value.slice a2 n2 q2).ownBlock ∧ (v.ownBlock = (Value.slice a2 n2 q2).ownBlock ∨ v.ownBlock = some wm.heap.size)) →
      wq.cell? ⟨bF, 0, none⟩ = some (.pointer (some ⟨bf, 0, none⟩)) ∧ wq.cell? ⟨bA, 0, none⟩ = some (.int .i64 (k : Int)) ∧ wq.cell? ⟨bf, 1, none⟩ = some (.slice (some ⟨bs, 0, none⟩) n n) := by
    intro wq hq
    have hkeep : ∀ (b : Nat) (o : Obj), Q b → w.heap[b]? = some o → wq.heap[b]? = some o := by
      intro b o hb ho
      have hlt := (Array.getElem?_eq_some_iff.1 ho).1
      rcases hq with hq | ⟨v, wm, hq, _, hg, _⟩
      · exact (hq.block b hlt).trans ho
      · refine (hg.block b (Nat.lt_of_lt_of_le hlt hq.size) (fun e => ?_)).trans ((hq.block b hlt).trans ho)
        exact (V2.blk e.symm).1 hb
    refine ⟨blk_cell (hkeep _ _ hLF.1 hLF.2), blk_cell (hkeep _ _ hLA.1 hLA.2), ?_⟩
    rw [cell_of_row wq bf _ _ _ _ (hkeep _ _ hL0.1 hL0.2)]
    rfl
  replace h := hide h; replace e2 := hide e2; replace V2 := hide V2; replace A1 := hide A1; replace A2 := hide A2; replace c2 := hide c2; replace hn2' := hide hn2'; replace hp := hide hp; replace hs' := hide hs'; replace ht := hide ht; replace hb := hide hb; replace hL0 := hide hL0; replace hLF := hide hLF; replace hLA := hide hLA; replace hLW := hide hLW; replace hLN := hide hLN; replace hLx := hide hLx; replace hk := hide hk; replace hfn := hide hfn; replace hsm := hide hsm; replace hto := hide hto; replace hx := hide hx; replace hl := hide hl; replace hn := hide hn
  clear V1 c1 e1 hdrop
  go_enter Try.func54, Try.ntmps54
  go_wp2_with fail
  refine wp_region_frontG 16 (fun LL vs w' => CA 15 [12, 14] [] (fun wz => Below w.heap.size w wz) (fun v wz => ∃ wm, Below w.heap.size w wm ∧ View wz (fun g => ¬ Q g) v (s.2 ++ [g]) ∧ wm.grownBy wz (Value.slice a2 n2 q2).ownBlock ∧ (v.ownBlock = (Value.slice a2 n2 q2).ownBlock ∨ v.ownBlock = some wm.heap.size)) LL vs w') (RN w)
    (fun ix v w' => match ix with
      | 0 => v = .pointer (some ⟨bf, 0, none⟩)
      | 1 => v = .pointer (some ⟨bf, 0, none⟩)
      | 2 => v = .pointer (some ⟨bf, 1, none⟩)
      | 3 => v = .slice (some ⟨bs, 0, none⟩) n n
      | 4 => v = .int .i64 (k : Int)
      | 5 => v = .pointer (some ⟨bf, 0, none⟩)
      | 6 => v = .pointer (some ⟨bf, 0, none⟩)
      | 7 => v = .pointer (some ⟨bf, 1, none⟩)
      | 8 => v = .slice (some ⟨bs, 0, none⟩) n n
      | 9 => v = .int .i64 (k : Int)
      | 10 => v = .pointer (some ⟨bs, k * 2, none⟩)
      | 11 => v = .pointer (some ⟨bs, k * 2 + 1, none⟩)
      | 12 => v = .slice a2 n2 q2
      | 13 => v = .int .i64 g
      | 14 => ∃ b, v = .slice (some ⟨b, 0, none⟩) 1 1 ∧ w.heap.size ≤ b ∧ w'.heap[b]? = some (.cells #[.int .i64 g] 3 (0, 0))
      | 15 => True
      | _ => True) (by rfl) (by kernel_rfl) ?_ ?_ ?_ ?_
  · exact CA.start 15 [12, 14] [] _ (Below.refl _ _).drew
  · intro wa wb hR ix v hv
    match ix, hv with
    | 0, h => exact h
    | 1, h => exact h
    | 2, h => exact h
    | 3, h => exact h
    | 4, h => exact h
    | 5, h => exact h
    | 6, h => exact h
    | 7, h => exact h
    | 8, h => exact h
    | 9, h => exact h
    | 10, h => exact h
    | 11, h => exact h
    | 12, h => exact h
    | 13, h => exact h
    | 14, h => obtain ⟨b, h1, h3, h2⟩ := h; exact ⟨b, h1, h3, hR.blk h3 h2⟩
    | 15, h => exact h
    | _ + 16, _ => trivial
  · intro ix hix
    obtain rfl | rfl | rfl | rfl | rfl | rfl | rfl | rfl | rfl | rfl | rfl | rfl | rfl | rfl | rfl | rfl : ix = 0 ∨ ix = 1 ∨ ix = 2 ∨ ix = 3 ∨ ix = 4 ∨ ix = 5 ∨ ix = 6 ∨ ix = 7 ∨ ix = 8 ∨ ix = 9 ∨ ix = 10 ∨ ix = 11 ∨ ix = 12 ∨ ix = 13 ∨ ix = 14 ∨ ix = 15 := by omega
    · refine FrontStep.of [] _ rfl (by kernel_rfl) ?_
      intro vs LL wq hLL hC hf
      simp only [putL, List.foldl_nil]
      have hcc : ∀ p ∈ ([] : List (Nat × Nat)), p.1 = 0 → LL p.2 = true := fun p hp e => by
        simp at hp
      have hF := hAny wq (by cases e : LL 15 with | false => exact .inl (hC.pre e) | true => exact .inr ⟨_, hC.post e⟩)
      have g0 := hF.1
      go_wp2_with fail
      first | exact hC.keep 0 _ (by decide) hcc | exact ⟨hC.keep 0 _ (by decide) hcc, RN.below (Below.refl _ _)⟩ | exact ⟨hC.keep 0 _ (by decide) hcc, RN.below (Below.refl _ _), by omega⟩
    · refine FrontStep.of [0] _ rfl (by kernel_rfl) ?_
      intro vs LL wq hLL hC hf
      simp only [putL, List.foldl_nil, List.foldl_cons, List.getElem?_cons_zero]
      have y0 : vs 0 = _ := hf 0 (by simp)
      try rw [y0]
      have hcc : ∀ p ∈ ([] : List (Nat × Nat)), p.1 = 1 → LL p.2 = true := fun p hp e => by
        simp at hp
      go_wp2_with fail
      first | exact hC.keep 1 _ (by decide) hcc | exact ⟨hC.keep 1 _ (by decide) hcc, RN.below (Below.refl _ _)⟩ | exact ⟨hC.keep 1 _ (by decide) hcc, RN.below (Below.refl _ _), by omega⟩
    · refine FrontStep.of [1] _ rfl (by kernel_rfl) ?_
      intro vs LL wq hLL hC hf
      simp only [putL, List.foldl_nil, List.foldl_cons, List.getElem?_cons_zero, List.getElem?_cons_succ]
      have y1 : vs 1 = _ := hf 1 (by simp)
      try rw [y1]
      have hcc : ∀ p ∈ ([] : List (Nat × Nat)), p.1 = 2 → LL p.2 = true := fun p hp e => by
        simp at hp
      go_wp2_with fail
      first | exact hC.keep 2 _ (by decide) hcc | exact ⟨hC.keep 2 _ (by decide) hcc, RN.below (Below.refl _ _)⟩ | exact ⟨hC.keep 2 _ (by decide) hcc, RN.below (Below.refl _ _), by omega⟩
    · refine FrontStep.of [2] _ rfl (by kernel_rfl) ?_
      intro vs LL wq hLL hC hf
      simp only [putL, List.foldl_nil, List.foldl_cons, List.getElem?_cons_zero, List.getElem?_cons_succ]
      have y2 : vs 2 = _ := hf 2 (by simp)
      try rw [y2]
      have hcc : ∀ p ∈ ([] : List (Nat × Nat)), p.1 = 3 → LL p.2 = true := fun p hp e => by
        simp at hp
      have hF := hAny wq (by cases e : LL 15 with | false => exact .inl (hC.pre e) | true => exact .inr ⟨_, hC.post e⟩)
      have g0 := hF.2.2
      go_wp2_with fail
      first | exact hC.keep 3 _ (by decide) hcc | exact ⟨hC.keep 3 _ (by decide) hcc, RN.below (Below.refl _ _)⟩ | exact ⟨hC.keep 3 _ (by decide) hcc, RN.below (Below.refl _ _), by omega⟩
    · refine FrontStep.of [] _ rfl (by kernel_rfl) ?_
      intro vs LL wq hLL hC hf
      simp only [putL, List.foldl_nil]
      have hcc : ∀ p ∈ ([] : List (Nat × Nat)), p.1 = 4 → LL p.2 = true := fun p hp e => by
        simp at hp
      have hF := hAny wq (by cases e : LL 15 with | false => exact .inl (hC.pre e) | true => exact .inr ⟨_, hC.post e⟩)
      have g0 := hF.2.1
      go_wp2_with fail
      first | exact hC.keep 4 _ (by decide) hcc | exact ⟨hC.keep 4 _ (by decide) hcc, RN.below (Below.refl _ _)⟩ | exact ⟨hC.keep 4 _ (by decide) hcc, RN.below (Below.refl _ _), by omega⟩
    · refine FrontStep.of [] _ rfl (by kernel_rfl) ?_
      intro vs LL wq hLL hC hf
      simp only [putL, List.foldl_nil]
      have hcc : ∀ p ∈ ([] : List (Nat × Nat)), p.1 = 5 → LL p.2 = true := fun p hp e => by
        simp at hp
      have hF := hAny wq (by cases e : LL 15 with | false => exact .inl (hC.pre e) | true => exact .inr ⟨_, hC.post e⟩)
      have g0 := hF.1
      go_wp2_with fail
      first | exact hC.keep 5 _ (by decide) hcc | exact ⟨hC.keep 5 _ (by decide) hcc, RN.below (Below.refl _ _)⟩ | exact ⟨hC.keep 5 _ (by decide) hcc, RN.below (Below.refl _ _), by omega⟩
    · refine FrontStep.of [5] _ rfl (by kernel_rfl) ?_
      intro vs LL wq hLL hC hf
      simp only [putL, List.foldl_nil, List.foldl_cons, List.getElem?_cons_zero, List.getElem?_cons_succ]
      have y5 : vs 5 = _ := hf 5 (by simp)
      try rw [y5]
      have hcc : ∀ p ∈ ([] : List (Nat × Nat)), p.1 = 6 → LL p.2 = true := fun p hp e => by
        simp at hp
      go_wp2_with fail
      first | exact hC.keep 6 _ (by decide) hcc | exact ⟨hC.keep 6 _ (by decide) hcc, RN.below (Below.refl _ _)⟩ | exact ⟨hC.keep 6 _ (by decide) hcc, RN.below (Below.refl _ _), by omega⟩
    · refine FrontStep.of [6] _ rfl (by kernel_rfl) ?_
      intro vs LL wq hLL hC hf
      simp only [putL, List.foldl_nil, List.foldl_cons, List.getElem?_cons_zero, List.getElem?_cons_succ]
      have y6 : vs 6 = _ := hf 6 (by simp)
      try rw [y6]
      have hcc : ∀ p ∈ ([] : List (Nat × Nat)), p.1 = 7 → LL p.2 = true := fun p hp e => by
        simp at hp
      go_wp2_with fail
      first | exact hC.keep 7 _ (by decide) hcc | exact ⟨hC.keep 7 _ (by decide) hcc, RN.below (Below.refl _ _)⟩ | exact ⟨hC.keep 7 _ (by decide) hcc, RN.below (Below.refl _ _), by omega⟩
    · refine FrontStep.of [7] _ rfl (by kernel_rfl) ?_
      intro vs LL wq hLL hC hf
      simp only [putL, List.foldl_nil, List.foldl_cons, List.getElem?_cons_zero, List.getElem?_cons_succ]
      have y7 : vs 7 = _ := hf 7 (by simp)
      try rw [y7]
      have hcc : ∀ p ∈ ([] : List (Nat × Nat)), p.1 = 8 → LL p.2 = true := fun p hp e => by
        simp at hp
      have hF := hAny wq (by cases e : LL 15 with | false => exact .inl (hC.pre e) | true => exact .inr ⟨_, hC.post e⟩)
      have g0 := hF.2.2
      go_wp2_with fail
      first | exact hC.keep 8 _ (by decide) hcc | exact ⟨hC.keep 8 _ (by decide) hcc, RN.below (Below.refl _ _)⟩ | exact ⟨hC.keep 8 _ (by decide) hcc, RN.below (Below.refl _ _), by omega⟩
    · refine FrontStep.of [] _ rfl (by kernel_rfl) ?_
      intro vs LL wq hLL hC hf
      simp only [putL, List.foldl_nil]
      have hcc : ∀ p ∈ ([] : List (Nat × Nat)), p.1 = 9 → LL p.2 = true := fun p hp e => by
        simp at hp
      have hF := hAny wq (by cases e : LL 15 with | false => exact .inl (hC.pre e) | true => exact .inr ⟨_, hC.post e⟩)
      have g0 := hF.2.1
      go_wp2_with fail
      first | exact hC.keep 9 _ (by decide) hcc | exact ⟨hC.keep 9 _ (by decide) hcc, RN.below (Below.refl _ _)⟩ | exact ⟨hC.keep 9 _ (by decide) hcc, RN.below (Below.refl _ _), by omega⟩
    · refine FrontStep.of [8, 9] _ rfl (by kernel_rfl) ?_
      intro vs LL wq hLL hC hf
      simp only [putL, List.foldl_nil, List.foldl_cons, List.getElem?_cons_zero, List.getElem?_cons_succ]
      have y8 : vs 8 = _ := hf 8 (by simp)
      try rw [y8]
      have y9 : vs 9 = _ := hf 9 (by simp)
      try rw [y9]
      have hcc : ∀ p ∈ ([] : List (Nat × Nat)), p.1 = 10 → LL p.2 = true := fun p hp e => by
        simp at hp
      go_wp2_with fail
      first | exact hC.keep 10 _ (by decide) hcc | exact ⟨hC.keep 10 _ (by decide) hcc, RN.below (Below.refl _ _)⟩ | exact ⟨hC.keep 10 _ (by decide) hcc, RN.below (Below.refl _ _), by omega⟩
    · refine FrontStep.of [10] _ rfl (by kernel_rfl) ?_
      intro vs LL wq hLL hC hf
      simp only [putL, List.foldl_nil, List.foldl_cons, List.getElem?_cons_zero, List.getElem?_cons_succ]
      have y10 : vs 10 = _ := hf 10 (by simp)
      try rw [y10]
      have hcc : ∀ p ∈ ([] : List (Nat × Nat)), p.1 = 11 → LL p.2 = true := fun p hp e => by
        simp at hp
      go_wp2_with fail
      first | exact hC.keep 11 _ (by decide) hcc | exact ⟨hC.keep 11 _ (by decide) hcc, RN.below (Below.refl _ _)⟩ | exact ⟨hC.keep 11 _ (by decide) hcc, RN.below (Below.refl _ _), by omega⟩
    · refine FrontStep.of [11] _ rfl (by kernel_rfl) ?_
      intro vs LL wq hLL hC hf
      simp only [putL, List.foldl_nil, List.foldl_cons, List.getElem?_cons_zero, List.getElem?_cons_succ]
      have y11 : vs 11 = _ := hf 11 (by simp)
      try rw [y11]
      have hP := (hC.early hLL (by simp)).2
      have hcc : ∀ p ∈ ([] : List (Nat × Nat)), p.1 = 12 → LL p.2 = true := fun p hp e => by
        simp at hp
      have g0 := cell_under (unhide c2) hP
      go_wp2_with fail
      first | exact hC.keep 12 _ (by decide) hcc | exact ⟨hC.keep 12 _ (by decide) hcc, RN.below (Below.refl _ _)⟩ | exact ⟨hC.keep 12 _ (by decide) hcc, RN.below (Below.refl _ _), by omega⟩
    · refine FrontStep.of [] _ rfl (by kernel_rfl) ?_
      intro vs LL wq hLL hC hf
      simp only [putL, List.foldl_nil]
      have hcc : ∀ p ∈ ([] : List (Nat × Nat)), p.1 = 13 → LL p.2 = true := fun p hp e => by
        simp at hp
      go_wp2_with fail
      first | exact hC.keep 13 _ (by decide) hcc | exact ⟨hC.keep 13 _ (by decide) hcc, RN.below (Below.refl _ _)⟩ | exact ⟨hC.keep 13 _ (by decide) hcc, RN.below (Below.refl _ _), by omega⟩
    · refine FrontStep.of [13] _ rfl (by kernel_rfl) ?_
      intro vs LL wq hLL hC hf
      simp only [putL, List.foldl_nil, List.foldl_cons, List.getElem?_cons_zero, List.getElem?_cons_succ]
      have y13 : vs 13 = _ := hf 13 (by simp)
      try rw [y13]
      have hP := (hC.early hLL (by simp)).2
      have hs15 := (hC.early hLL (by simp)).1
      have hn0 := heap_alloc_new wq (Obj.cells #[.int .i64 g] 3)
      have hb0 := (Below.refl wq.heap.size wq).alloc (Nat.le_refl _) (Obj.cells #[.int .i64 g] 3)
      have hcl := fun v => hC.call (w2 := wq.alloc (Obj.cells #[.int .i64 g] 3)) 14 v hs15 (by decide) (fun p hp e => by cases hp) (hP.trans (hb0.mono hP.size))
      have hrn : RN w wq (wq.alloc (Obj.cells #[.int .i64 g] 3)) := RN.below hb0
      have hsz := hP.size
      replace hcl := hide hcl; replace hrn := hide hrn
      go_wp2_with fail
      first | exact ⟨unhide hcl _, unhide hrn, _, rfl, hsz, hn0⟩ | exact ⟨unhide hcl _, unhide hrn, hsz, hn0⟩ | exact ⟨unhide hcl _, unhide hrn, hsz, (Array.getElem?_eq_some_iff.1 hn0).2⟩ | exact ⟨unhide hcl _, unhide hrn, (Array.getElem?_eq_some_iff.1 hn0).2⟩ | trace_state
    · refine FrontStep.of [12, 14] _ rfl (by kernel_rfl) ?_
      intro vs LL wq hLL hC hf
      simp only [putL, List.foldl_nil, List.foldl_cons, List.getElem?_cons_zero, List.getElem?_cons_succ]
      have y12 : vs 12 = _ := hf 12 (by simp)
      try rw [y12]
      obtain ⟨b14, e14, hge14, hr14⟩ := hf 14 (by simp)
      try rw [e14]
      have hP := hC.pre hLL
      have VQ := (unhide V2).same (w' := wq) (fun b hb => hP.block b ((unhide V2).blk hb).2.1)
      have hnew : ¬ Q wq.heap.size := fun hq => by have := (unhide h).lt _ hq; have := hP.size; omega
      have hrun := fun v w2 q => hC.run (w2 := w2) v (fun j hj => by simp at hj; rcases hj with rfl | rfl <;> first | (rw [y12]; exact slice_def _ _ _) | (rw [e14]; exact slice_def _ _ _)) (fun p hp e => by cases hp) q
      have hrn : ∀ w2, wq.grownBy w2 (Value.slice a2 n2 q2).ownBlock → RN w wq w2 := fun w2 hg => RN.grown hg (fun g hg => ((unhide V2).blk hg).2.1)
      replace VQ := hide VQ; replace hnew := hide hnew; replace hrun := hide hrun; replace hrn := hide hrn; replace hP := hide hP; replace hr14 := hide hr14
      clear y12 e14 hC
      go_wp2_with (at_builtin; refine wpList_append_view1 (S := fun g => ¬ Q g) rfl _ _ rfl _ s.2 rfl (unhide VQ) (unhide hnew) b14 g rfl (unhide hr14) ?d1 ?_)
      case d1 => rw [unhide hn2']; omega
      intro v' w2 q1' q2' q3'
      have hfin := unhide hrun v' w2 ⟨wq, unhide hP, q1', q2', q3'⟩
      have hrf := unhide hrn w2 q2'
      replace hfin := hide hfin; replace hrf := hide hrf
      clear q1' q2' q3' VQ hrun hrn
      go_wp2_with fail
      first | exact ⟨v', rfl, unhide hfin, unhide hrf, trivial⟩ | exact ⟨v', unhide hfin, unhide hrf⟩ | exact ⟨unhide hfin, unhide hrf⟩ | exact ⟨v', rfl, unhide hfin, unhide hrf⟩ | trace_state
  · intro vs LL wq hLL hC hf
    obtain ⟨wm, hwm, pv, pg, po⟩ := hC.post (hLL 15 (by omega))
    have hhm := (unhide h).under hwm
    obtain ⟨a7, c7, e15, _, _⟩ := pv.shape
    have e3 : vs 3 = _ := hf 3 (by omega)
    have e4 : vs 4 = _ := hf 4 (by omega)
    obtain ⟨m1, m2⟩ := hhm.mid (unhide e2) pg
    obtain ⟨L7, hL7⟩ : ∃ m, (s.2 ++ [g]).length = m := ⟨_, rfl⟩
    rw [hL7] at e15
    have hput := hhm.put (unhide e2) pg pv po (sts' := pre ++ (s.1, s.2 ++ [g]) :: ss) (by rw [flatS_set2' (unhide hp)]) (fun t ht => by
      rcases List.mem_append.1 ht with ht | ht
      · exact hhm.num t (by simp [ht])
      · rcases List.mem_cons.1 ht with rfl | ht
        · exact ⟨unhide A1, fun y hy => by rcases List.mem_append.1 hy with hy | hy; exact unhide A2 y hy; simp at hy; rw [hy]; exact hg⟩
        · exact hhm.num t (by simp [ht]))
    have km := (unhide h).keeps hwm
    rw [putSome_all]
    simp only [putL, List.range, List.range.loop, List.foldl_nil, List.foldl_cons, List.getElem?_cons_zero, List.getElem?_cons_succ, List.drop_succ_cons, List.drop_zero]
    rw [e3, e4, e15]
    rw [e15] at hput
    obtain ⟨W7, hW7⟩ : ∃ W, wq.setCell ⟨bs, k * 2 + 1, none⟩ (.slice a7 L7 c7) = W := ⟨_, rfl⟩
    rw [hW7] at hput
    obtain ⟨h7, kp7⟩ := hput
    replace kp7 := km.trans kp7
    clear hf hLL hC pv pg po e3 e4 e15 hwm hhm km V2 hAny
    replace hW7 := hide hW7; replace h7 := hide h7; replace hL7 := hide hL7; replace kp7 := hide kp7
    go_simp
    go_wp2_with fail
    rw [unhide hW7]
    clear hW7 m1 m2
    obtain ⟨w7, rfl⟩ : ∃ W : World, W = W7 := ⟨_, rfl⟩
    have htot0 : tot (pre ++ (s.1, s.2 ++ [g]) :: ss) out ≤ 200000 := by have := unhide ht; rw [tot_app, tot_cons] at this ⊢; simp only [List.length_append, List.length_cons, List.length_nil]; omega
    have hlen0 : (pre ++ (s.1, s.2 ++ [g]) :: ss).length = n := by
      rw [← unhide hn, List.length_append, List.length_cons, unhide hs', unhide hp, List.length_drop]
      have := (List.getElem?_eq_some_iff.1 (unhide hx)).1
      omega
    have hb0 : ∀ t ∈ pre ++ (s.1, s.2 ++ [g]) :: ss, t.1.length ≤ 300000 := fun t ht => by
      rcases List.mem_append.1 ht with ht | ht
      · exact unhide hb t (by simp [ht])
      · rcases List.mem_cons.1 ht with rfl | ht
        · exact unhide hb s (by simp)
        · exact unhide hb t (by simp [ht])
    clear hL7
    replace htot0 := hide htot0; replace hb0 := hide hb0; replace hlen0 := hide hlen0
    go_loopg [] (s.2.length + 1) (fun q wr => ∃ (t : Stg) (tt : List Stg) (done : List Int) (vs' : List Value) (vo' : Value), t.2.length ≤ q ∧ tt.length = ss.length ∧ R.1 = (loopS (winS x) x (feedS (l.drop (k + 1))) q t tt).1 ∧ R.2 = done ++ (loopS (winS x) x (feedS (l.drop (k + 1))) q t tt).2 ∧ FlowI Q bs bo wr vs' vo' (pre ++ t :: tt) (out ++ done) ∧ Keeps Q w wr ∧ tot (pre ++ t :: tt) (out ++ done) ≤ 200000 ∧ ∀ t' ∈ pre ++ t :: tt, t'.1.length ≤ 300000)
    case atStart => exact ⟨(s.1, s.2 ++ [g]), ss, [], _, _, by simp, rfl, by rw [unhide hR], by rw [unhide hR]; rfl, by rw [List.append_nil]; exact unhide h7, unhide kp7, by rw [List.append_nil]; exact unhide htot0, unhide hb0⟩
    case round =>
      obtain ⟨t, tt, done, vs1, vo1, hq, htt, hr1, hr2, hI, hkeep, htt2, hbb⟩ := hrel
      obtain ⟨wo, rfl⟩ : ∃ W : World, W = wr := ⟨_, rfl⟩
      have kF := (hkeep.block bF (unhide hLF).1).trans (unhide hLF).2
      have kA := (hkeep.block bA (unhide hLA).1).trans (unhide hLA).2
      have kW := (hkeep.block bW (unhide hLW).1).trans (unhide hLW).2
      have kN := (hkeep.block bN (unhide hLN).1).trans (unhide hLN).2
      have k0 := (hkeep.block bf (unhide hL0).1).trans (unhide hL0).2
      have cF := blk_cell kF
      have cA := blk_cell kA
      have cW := blk_cell kW
      have cN := blk_cell kN
      have cf1 : wo.cell? ⟨bf, 1, none⟩ = some (.slice (some ⟨bs, 0, none⟩) n n) := by rw [cell_of_row wo bf _ _ _ _ k0]; rfl
      have hlo := Lst.same (w' := wo) (fun b hb => hkeep.block b hb) (unhide hl)
      have hlq := hlo.wide (fun b hb => hI.lt b hb)
      have hLo : ∀ p ∈ L', Q p.1 ∧ wo.heap[p.1]? = some p.2 := fun p hp => ⟨((unhide hLx) p hp).1, (hkeep.block p.1 ((unhide hLx) p hp).1).trans ((unhide hLx) p hp).2⟩
      obtain ⟨v1, v2, _, _, V1, V2, B1, B2, _, c2⟩ := hI.stage
      obtain ⟨a4, q4, hv2, _, _⟩ := V2.shape
      subst hv2
      rw [unhide hp] at c2
      obtain ⟨nt, hnt⟩ : ∃ m, t.2.length = m := ⟨_, rfl⟩
      rw [hnt] at c2 hq
      have hlen1 : (pre ++ t :: tt).length = n := by have := unhide hlen0; rw [List.length_append, List.length_cons] at this ⊢; omega
      have hntl : nt ≤ 200000 := by rw [← hnt]; rw [tot_app, tot_cons] at htt2; omega
      have htb := hbb t (by simp)
      have hwp := winS_pos x
      have hwl := winS_le (unhide hsm)
      obtain ⟨M, hM⟩ : ∃ M, winS x = M := ⟨_, rfl⟩
      rw [hM] at hwp hwl cW kW hr1 hr2
      clear V1 V2 kF kA kW kN
      replace hI := hide hI; replace hkeep := hide hkeep; replace hr1 := hide hr1; replace hr2 := hide hr2; replace hlo := hide hlo; replace hlq := hide hlq; replace hLo := hide hLo; replace B1 := hide B1; replace B2 := hide B2; replace hlen1 := hide hlen1; replace htt := hide htt; replace htt2 := hide htt2; replace hbb := hide hbb; replace k0 := hide k0; replace hM := hide hM; replace hnt := hide hnt
      by_cases hgo : M ≤ nt
      · have t1 : (M : Int) ≤ (nt : Int) := by omega
        obtain ⟨q', rfl⟩ : ∃ q', gk = q' + 1 := ⟨gk - 1, by omega⟩
        have hs1 : loopS M x (feedS (l.drop (k + 1))) (q' + 1) t tt = ((loopS M x (feedS (l.drop (k + 1))) q' (decS x t) (feedS (l.drop (k + 1)) tt (decO x t)).1).1, (feedS (l.drop (k + 1)) tt (decO x t)).2 ++ (loopS M x (feedS (l.drop (k + 1))) q' (decS x t) (feedS (l.drop (k + 1)) tt (decO x t)).1).2) := by rw [loopS, if_pos (by rw [unhide hnt]; exact hgo)]
        have hR1 := unhide hr1
        have hR2 := unhide hr2
        rw [hs1] at hR1 hR2
        replace hR1 := hide hR1; replace hR2 := hide hR2
        clear hs1 hr1 hr2
        go_wp2_with fail
        go_quiet (fail)
        have hI2 := hide ((unhide hI).under (blw_drewN (Below.refl _ _) nq))
        have hk2 := hide ((unhide hkeep).trans ((unhide hI).keeps (blw_drewN (Below.refl _ _) nq)))
        have hlq2 := hide ((unhide hlq).under (blw_drewN (Below.refl _ _) nq))
        have hlo2 := hide (Lst.same (w := wo) (w' := wo.drewN nq) (fun _ _ => rfl) (unhide hlo))
        have d0 : Hid ((wo.drewN nq).heap[bf]? = some (.cells #[.slice la ln lc, .slice (some ⟨bs, 0, none⟩) n n] 68 (0, 0))) := hide (unhide k0)
        have dF : (wo.drewN nq).cell? ⟨bF, 0, none⟩ = some (.pointer (some ⟨bf, 0, none⟩)) := cF
        have dA : (wo.drewN nq).cell? ⟨bA, 0, none⟩ = some (.int .i64 (k : Int)) := cA
        have dN : (wo.drewN nq).cell? ⟨bN, 0, none⟩ = some (.func (.func fn) #[] cn) := cN
        have hLo2 : Hid (∀ p ∈ L', Q p.1 ∧ (wo.drewN nq).heap[p.1]? = some p.2) := hide (unhide hLo)
        clear hI hkeep hlq hlo k0 cF cA cN cW cf1 c2 hLo
        obtain ⟨w2, hw2⟩ : ∃ W : World, W = wo.drewN nq := ⟨_, rfl⟩
        rw [← hw2] at hI2 hk2 hlq2 hlo2 d0 dF dA dN hLo2 ⊢
        clear hw2
        have hAny2 : ∀ wz : World, (Below w2.heap.size w2 wz ∨ ∃ v : Value, (∃ vs', FlowI Q bs bo wz vs' vo1 (pre ++ decS x t :: tt) (out ++ done)) ∧ Keeps Q w2 wz) → wz.cell? ⟨bN, 0, none⟩ = some (.func (.func fn) #[] cn) := by
          intro wz hz
          have hb : ∀ (b : Nat) (v : Value), Q b → w2.cell? ⟨b, 0, none⟩ = some v → wz.cell? ⟨b, 0, none⟩ = some v := fun b v hq hc => by
            rcases hz with hz | ⟨_, _, hz⟩
            · exact cell_under hc hz
            · exact (World.cell?_of_block (a := ⟨b, 0, none⟩) (hz.block b hq)).trans hc
          exact hb _ _ (unhide hLN).1 dN
        have hdc := fun wq h => decide_any Q bs bo bf la ln lc n l pre tt t (out ++ done) vs1 vo1 x wq h
        rw [unhide hp] at hdc
        replace hdc := hide hdc
        go_wp2_with fail
        refine wp_region_frontG 4 (fun LL vs w' => CA 3 [1, 2] [] (fun wz => Below w2.heap.size w2 wz) (fun _ wz => (∃ vs', FlowI Q bs bo wz vs' vo1 (pre ++ decS x t :: tt) (out ++ done)) ∧ Keeps Q w2 wz) LL vs w') (fun _ _ => True)
          (fun ix v w' => match ix with
            | 0 => v = .func (.func fn) #[] cn
            | 1 => v = .pointer (some ⟨bf, 0, none⟩)
            | 2 => v = .int .i64 (k : Int)
            | 3 => v = .int .i64 (decO x t)
            | _ => True) (by rfl) (by kernel_rfl) ?_ ?_ ?_ ?_
        · exact CA.start 3 [1, 2] [] _ (Below.refl _ _).drew
        · intro wa wb hR ix v hv
          match ix, hv with
          | 0, h => exact h
          | 1, h => exact h
          | 2, h => exact h
          | 3, h => exact h
          | _ + 4, _ => trivial
        · intro ix hix
          obtain rfl | rfl | rfl | rfl : ix = 0 ∨ ix = 1 ∨ ix = 2 ∨ ix = 3 := by omega
          · refine FrontStep.of [] _ rfl (by kernel_rfl) ?_
            intro vs LL wq hLL hC hf
            simp only [putL, List.foldl_nil]
            have hcc : ∀ p ∈ ([] : List (Nat × Nat)), p.1 = 0 → LL p.2 = true := fun p hp e => by
              simp at hp
            have g0 := hAny2 wq (by cases e : LL 3 with | false => exact .inl (hC.pre e) | true => exact .inr ⟨undef, hC.post e⟩)
            go_wp2_with fail
            first | exact hC.keep 0 _ (by decide) hcc | exact ⟨hC.keep 0 _ (by decide) hcc, trivial⟩ | exact ⟨hC.keep 0 _ (by decide) hcc, trivial, by omega⟩
          · refine FrontStep.of [] _ rfl (by kernel_rfl) ?_
            intro vs LL wq hLL hC hf
            simp only [putL, List.foldl_nil]
            have hP := (hC.early hLL (by simp)).2
            have hcc : ∀ p ∈ ([] : List (Nat × Nat)), p.1 = 1 → LL p.2 = true := fun p hp e => by
              simp at hp
            have g0 := cell_under dF hP
            go_wp2_with fail
            first | exact hC.keep 1 _ (by decide) hcc | exact ⟨hC.keep 1 _ (by decide) hcc, trivial⟩ | exact ⟨hC.keep 1 _ (by decide) hcc, trivial, by omega⟩
          · refine FrontStep.of [] _ rfl (by kernel_rfl) ?_
            intro vs LL wq hLL hC hf
            simp only [putL, List.foldl_nil]
            have hP := (hC.early hLL (by simp)).2
            have hcc : ∀ p ∈ ([] : List (Nat × Nat)), p.1 = 2 → LL p.2 = true := fun p hp e => by
              simp at hp
            have g0 := cell_under dA hP
            go_wp2_with fail
            first | exact hC.keep 2 _ (by decide) hcc | exact ⟨hC.keep 2 _ (by decide) hcc, trivial⟩ | exact ⟨hC.keep 2 _ (by decide) hcc, trivial, by omega⟩
          · refine FrontStep.of [1, 2] _ rfl (by kernel_rfl) ?_
            intro vs LL wq hLL hC hf
            simp only [putL, List.foldl_nil, List.foldl_cons, List.getElem?_cons_zero, List.getElem?_cons_succ]
            have y1 : vs 1 = _ := hf 1 (by simp)
            try rw [y1]
            have y2 : vs 2 = _ := hf 2 (by simp)
            try rw [y2]
            have hP := hC.pre hLL
            have hq2 := (unhide hI2).under hP
            have hdw := unhide hdc wq ((hP.block bf (Array.getElem?_eq_some_iff.1 (unhide d0)).1).trans (unhide d0)) ((unhide hlq2).under hP) (unhide hx) (unhide hsm) (unhide hto) hln hq2 (by rw [unhide hnt]; omega) htb (by rw [unhide hnt]; omega) (unhide hlen1) hn2
            have hrun := fun v w2 q => hC.run (w2 := w2) v (fun j hj => by simp at hj; rcases hj with rfl | rfl <;> first | (rw [y1]; exact ptr_def _) | (rw [y2]; exact int_def _ _)) (fun p hp e => by cases hp) q
            have hkq := (unhide hI2).keeps hP
            replace hdw := hide hdw; replace hrun := hide hrun; replace hkq := hide hkq
            clear y1 y2 hC hP hq2
            go_wp2_with fail
            refine (unhide hdw).mono ?_
            rintro e wz ⟨rfl, hfl, hkz⟩
            have hfin := hide (unhide hrun (.int .i64 (decO x t)) wz ⟨hfl, (unhide hkq).trans hkz⟩)
            clear hdw hrun hkz hfl hkq
            go_wp2_with fail
            first | exact ⟨unhide hfin, trivial⟩ | exact unhide hfin | trace_state
        · intro vs LL wq hLL hC hf
          obtain ⟨⟨vs2, hI3⟩, hk3⟩ := hC.post (hLL 3 (by omega))
          have e0 : vs 0 = _ := hf 0 (by omega)
          have e3 : vs 3 = _ := hf 3 (by omega)
          rw [putSome_all]
          simp only [putL, List.range, List.range.loop, List.foldl_nil, List.foldl_cons, List.getElem?_cons_zero, List.getElem?_cons_succ, List.drop_succ_cons, List.drop_zero]
          rw [e0, e3]
          have hlq3 := hide (Lst.same (w' := wq) (fun b hb => hk3.block b hb) (unhide hlo2))
          have hLo3 : Hid (∀ p ∈ L', Q p.1 ∧ wq.heap[p.1]? = some p.2) := hide (fun p hp => ⟨((unhide hLo2) p hp).1, (hk3.block p.1 ((unhide hLo2) p hp).1).trans ((unhide hLo2) p hp).2⟩)
          have hnb : ∀ t' ∈ pre ++ decS x t :: tt, t'.1.length ≤ 300000 := fun t' ht' => by
            rcases List.mem_append.1 ht' with ht' | ht'
            · exact unhide hbb t' (by simp [ht'])
            · rcases List.mem_cons.1 ht' with rfl | ht'
              · exact Nat.le_trans (last2_len _) (by omega)
              · exact unhide hbb t' (by simp [ht'])
          have hdb := decN_bd x t (by rw [unhide hnt]; omega)
          have hdw := decS_wait x t
          rw [unhide hnt] at hdw hdb
          have hnt1 : tot (pre ++ decS x t :: tt) (out ++ done) + 1 ≤ 200000 := by have := unhide htt2; rw [tot_app, tot_cons] at this ⊢; rw [unhide hnt] at this; omega
          have hdl : tt.length = (l.drop (k + 1)).length := by rw [unhide htt, unhide hs']
          have hft := feedS_tot (l.drop (k + 1)) tt (decO x t) hdl
          have hfl := feedS_len (l.drop (k + 1)) tt (decO x t) hdl
          have hfb := feedS_back (l.drop (k + 1)) tt (decO x t) 300000 (by omega) hdl (fun t' ht' => unhide hbb t' (by simp [ht']))
          have hkc := unhide hk Q wq (pre ++ [decS x t]) tt (out ++ done) vs2 vo1 (decO x t) (unhide hLo3) (unhide hlq3) (by rw [List.append_assoc]; exact hI3) (by rw [List.length_append, unhide hp]; rfl) hdl (decO_i64 (unhide hto) (unhide B2)) (by rw [List.append_assoc]; exact hnt1) (by rw [List.append_assoc]; exact hnb)
          obtain ⟨rr, hrr⟩ : ∃ r, feedS (l.drop (k + 1)) tt (decO x t) = r := ⟨_, rfl⟩
          replace hR1 := unhide hR1; replace hR2 := unhide hR2; rw [hrr] at hkc hft hfl hfb hR1 hR2
          have hk4 := (unhide hk2).trans hk3
          have hfl0 := hfl
          replace hR1 := hide hR1; replace hR2 := hide hR2
          have hnt2 : tot (pre ++ decS x t :: rr.1) (out ++ done ++ rr.2) ≤ 200000 := by rw [tot_app, tot_cons, tot_out] at hnt1 ⊢; rw [tot_out]; rw [show tot tt out = tot tt [] + out.length from by simp [tot]] at hnt1; rw [show tot rr.1 out = tot rr.1 [] + out.length from by simp [tot]]; rw [show tot rr.1 rr.2 = tot rr.1 [] + rr.2.length from by simp [tot]] at hft; omega
          have hbb2 : ∀ t' ∈ pre ++ decS x t :: rr.1, t'.1.length ≤ 300000 := fun t' ht' => by
            rcases List.mem_append.1 ht' with ht' | ht'
            · exact hnb t' (by simp [ht'])
            · rcases List.mem_cons.1 ht' with rfl | ht'
              · exact hnb _ (by simp)
              · exact hfb t' ht'
          have hq3 : (decS x t).2.length ≤ q' := by rw [hdw]; omega
          clear hf hLL hC e0 e3 hI3 hft hfl hfb hnt1 hnb hdb hdw hk3 hlq3 hLo3 hI2 hk2 hlq2 hlo2 d0 dF dA dN hLo2 hAny2 hdc hbb htt2 B1 B2
          have hrl : Hid (rr.1.length = tt.length) := hide (by rw [hfl0, hdl])
          replace hkc := hide hkc; replace hk4 := hide hk4; replace hnt2 := hide hnt2; replace hbb2 := hide hbb2; replace hrr := hide hrr; replace hdl := hide hdl; replace hq3 := hide hq3
          go_simp
          rcases unhide hfn with ⟨rfl, p1, p2, p3, p4, rfl⟩ | ⟨rfl | rfl, p1, rfl⟩
          all_goals
            replace hkc := hide (unhide hkc)
            go_wp2_with fail
            refine (unhide hkc).mono ?_
            rintro e w3 ⟨rfl, ⟨vs3, vo3, hI4⟩, hk5⟩
            have hI5 : Hid (FlowI Q bs bo w3 vs3 vo3 (pre ++ decS x t :: rr.1) (out ++ (done ++ rr.2))) := hide (by have := hI4; rw [List.append_assoc, List.append_assoc] at this; exact this)
            have hk6 := hide ((unhide hk4).trans hk5)
            clear hkc hI4 hk5
            go_wp2_with fail
            go_roundg q'
            case rel => exact ⟨decS x t, rr.1, done ++ rr.2, vs3, vo3, unhide hq3, by rw [unhide hrl, unhide htt], by rw [unhide hM]; exact unhide hR1, by rw [unhide hM, unhide hR2, List.append_assoc], unhide hI5, unhide hk6, by rw [← List.append_assoc]; exact unhide hnt2, unhide hbb2⟩
            case measure => omega
      · have t1 : ¬ (M : Int) ≤ (nt : Int) := by omega
        have hfin : loopS M x (feedS (l.drop (k + 1))) gk t tt = ((t, tt), []) := by
          cases gk with
          | zero => rfl
          | succ q => rw [loopS, if_neg (by rw [unhide hnt]; exact hgo)]
        have hR1 := unhide hr1
        have hR2 := unhide hr2
        rw [hfin] at hR1 hR2
        replace hR1 := hide hR1; replace hR2 := hide hR2
        clear hfin hr1 hr2
        go_wp2_with fail
        go_quiet (fail)
        have hI2 := hide ((unhide hI).under (blw_drewN (Below.refl _ _) nq))
        have hk2 := hide ((unhide hkeep).trans ((unhide hI).keeps (blw_drewN (Below.refl _ _) nq)))
        go_wp2_with fail
        go_end0
        refine ⟨rfl, ⟨vs1, vo1, ?_⟩, unhide hk2⟩
        have hI3 := unhide hI2
        rw [unhide hR1, unhide hR2, List.append_nil]
        exact hI3
end Go.Proofs.Ytfbgbbbfpkpfkaa
