/- The journal's law: disk, Change.of, cut. -/
import Derived.Test.YtcliegeooooonaaJnB
import Derived.Lib.ConvBytes
namespace Go.Proofs.Ytcliegeooooonaa
open Go.RowKit
/-- the worlds of a region whose operation s turns the world; the operations bs run ahead of it, and of each pair in cs the second ahead of the first -/
structure CA (s : Nat) (bs : List Nat) (cs : List (Nat × Nat)) (P0 : World → Prop) (P1 : Value → World → Prop) (LL : Nat → Bool) (vs : Nat → Value) (w' : World) : Prop where
  un : ∀ j, LL j = false → vs j = undef
  b1 : LL s = true → ∀ j ∈ bs, LL j = true
  b2 : ∀ p ∈ cs, LL p.1 = true → LL p.2 = true
  pre : LL s = false → P0 w'
  post : LL s = true → P1 (vs s) w'
section
variable {s : Nat} {bs : List Nat} {cs : List (Nat × Nat)} {P0 : World → Prop} {P1 : Value → World → Prop} {LL : Nat → Bool} {vs : Nat → Value} {w w2 : World}
theorem CA.start (s : Nat) (bs : List Nat) (cs : List (Nat × Nat)) (P1 : Value → World → Prop) (h : P0 { w with drawn := w.drawn + 1 }) : CA s bs cs P0 P1 (fun _ => false) (fun _ => undef) { w with drawn := w.drawn + 1 } :=
  ⟨fun _ _ => rfl, fun e => Bool.noConfusion e, fun _ _ e => Bool.noConfusion e, fun _ => h, fun e => Bool.noConfusion e⟩
theorem CA.undo (h : CA s bs cs P0 P1 LL vs w) (i : Nat) (v : Value) : ∀ j, (LL j || j == i) = false → (if j = i then v else vs j) = undef := fun j hj => by
  rw [Bool.or_eq_false_iff] at hj
  rw [if_neg (by simpa using hj.2)]
  exact h.un j hj.1
theorem CA.two (h : CA s bs cs P0 P1 LL vs w) (i : Nat) (hc : ∀ p ∈ cs, p.1 = i → LL p.2 = true) : ∀ p ∈ cs, (LL p.1 || p.1 == i) = true → (LL p.2 || p.2 == i) = true := fun p hp e => by
  rcases Bool.or_eq_true_iff.1 e with e | e
  · rw [h.b2 p hp e, Bool.true_or]
  · rw [hc p hp (by simpa using e), Bool.true_or]
theorem CA.keep (h : CA s bs cs P0 P1 LL vs w) (i : Nat) (v : Value) (hi : s ≠ i) (hc : ∀ p ∈ cs, p.1 = i → LL p.2 = true) : CA s bs cs P0 P1 (fun j => LL j || j == i) (fun j => if j = i then v else vs j) w := by
  have hs : (LL s || s == i) = LL s := by rw [beq_eq_false_iff_ne.2 hi, Bool.or_false]
  refine ⟨h.undo i v, fun e j hj => ?_, h.two i hc, fun e => ?_, fun e => ?_⟩
  · rw [hs] at e
    rw [h.b1 e j hj, Bool.true_or]
  · rw [hs] at e
    exact h.pre e
  · rw [hs] at e
    rw [if_neg hi]
    exact h.post e
theorem CA.early (h : CA s bs cs P0 P1 LL vs w) {j : Nat} (hj : LL j = false) (hm : j ∈ bs ∨ ∃ p ∈ cs, p.2 = j ∧ p.1 ∈ bs) : LL s = false ∧ P0 w := by
  have hs : LL s = false := by
    cases e : LL s with
    | false => rfl
    | true =>
      rcases hm with hm | ⟨p, hp, rfl, hb⟩
      · have := h.b1 e j hm; rw [hj] at this; cases this
      · have := h.b2 p hp (h.b1 e p.1 hb); rw [hj] at this; cases this
  exact ⟨hs, h.pre hs⟩
theorem CA.call (h : CA s bs cs P0 P1 LL vs w) (i : Nat) (v : Value) (hs : LL s = false) (hne : s ≠ i) (hc : ∀ p ∈ cs, p.1 = i → LL p.2 = true) (hb : P0 w2) : CA s bs cs P0 P1 (fun j => LL j || j == i) (fun j => if j = i then v else vs j) w2 := by
  have hs2 : (LL s || s == i) = false := by rw [hs, beq_eq_false_iff_ne.2 hne]; rfl
  exact ⟨h.undo i v, fun e => by (rw [hs2] at e; cases e), h.two i hc, fun _ => hb, fun e => by (rw [hs2] at e; cases e)⟩
theorem CA.ran (h : CA s bs cs P0 P1 LL vs w) {j : Nat} (hj : vs j ≠ undef) : LL j = true := by
  cases e : LL j with
  | true => rfl
  | false => exact absurd (h.un j e) hj
theorem CA.run (h : CA s bs cs P0 P1 LL vs w) (v : Value) (hv : ∀ j ∈ bs, vs j ≠ undef) (hc : ∀ p ∈ cs, p.1 = s → LL p.2 = true) (hp : P1 v w2) : CA s bs cs P0 P1 (fun j => LL j || j == s) (fun j => if j = s then v else vs j) w2 := by
  refine ⟨h.undo s v, fun _ j hj => by rw [h.ran (hv j hj), Bool.true_or], h.two s hc, fun e => ?_, fun _ => ?_⟩
  · simp at e
  · rw [if_pos rfl]
    exact hp
end

theorem agg_def (a : Array Value) : Value.agg a ≠ undef := fun e => by cases e
theorem int_def (k : IntKind) (n : Int) : Value.int k n ≠ undef := fun e => by cases e
theorem tup_def (a b : Value) : Value.tuple #[a, b] ≠ undef := fun e => by simp [undef] at e
theorem str_def (a : ByteArray) : Value.string a ≠ undef := fun e => by cases e
theorem slice_def (a : Option Addr) (n c : Nat) : Value.slice a n c ≠ undef := fun e => by cases e
abbrev nilSl : Value := .slice none 0 0
set_option maxRecDepth 100000 in
set_option maxHeartbeats 4000000 in
theorem disk_any (a : Option Addr) (n c : Nat) (L : List Stp) (w : World) (hL : StL w a n L) (hn : n ≤ 8) (hx : ∀ x ∈ L, x.1.length ≤ 20) :
    Calls Try.prog 9 #[.slice a n c] w fun e w' => e = .returned (dk (wrS L).1 (wrS L).2.1) ∧ Below w.heap.size w w' := by
  obtain ⟨B, hB⟩ : ∃ B, w.heap.size = B := ⟨_, rfl⟩
  obtain ⟨x2, x3, w1, e1, e2, ew, st⟩ := St.new2 w (Obj.cells #[.string ⟨#[]⟩, .string ⟨#[]⟩] 27) (Obj.cells #[.string ⟨#[]⟩, .string ⟨#[]⟩] 27)
  have hws : WS w B x2 x3 nilSl [] [] [] w1 := ⟨hB ▸ st.below, by have := st.below.size; omega, ⟨by omega, by omega, by omega⟩, st.get 1 rfl, st.get 0 rfl, World.ownsRow_nil _ _ _ _⟩
  clear st
  replace hB := hide hB; replace hL := hide hL; replace hx := hide hx; replace hws := hide hws; replace e1 := hide e1; replace e2 := hide e2; replace ew := hide ew
  go_enter Try.func9, Try.ntmps9
  go_upto_region 2 with fail
  rw [unhide ew]
  try rw [unhide e2]
  try rw [unhide e1]
  clear ew e1 e2
  go_wp2_with fail
  go_loopw [4] (fun v4 wr => ∃ k : Nat, k ≤ n ∧ v4 = .int .i64 (k : Int) ∧ WS w B x2 x3 nilSl (wrS (L.take k)).1 (wrS (L.take k)).2.1 [] wr) (fun v _ => n - (intOf v).toNat)
  case atStart => exact ⟨0, by omega, rfl, unhide hws⟩
  case round =>
    clear hws
    obtain ⟨k, hk, rfl, hws⟩ := hrel
    obtain ⟨V, rfl⟩ : ∃ V : World, V = wr := ⟨_, rfl⟩
    have hLn := (unhide hL).1
    have htl : (L.take k).length = k := by rw [List.length_take]; omega
    have hbd := wr_bd (L.take k) (by omega) (fun x hx' => unhide hx x (List.mem_of_mem_take hx'))
    have hBV := hws.hB
    by_cases hlt : k < n
    · obtain ⟨x, hxk⟩ : ∃ x, L[k]? = some x := ⟨_, List.getElem?_eq_getElem (by omega)⟩
      obtain ⟨b, off, rfl, c1, c2⟩ := (unhide hL).2 k x hxk
      have hxl := unhide hx x (List.mem_of_getElem? hxk)
      have hap := wr_ap (L.take k) (fun x hx' => unhide hx x (List.mem_of_mem_take hx')) x.1 hxl
      have hsn : wrS (L.take (k + 1)) = wrStep (wrS (L.take k)) x := by rw [List.take_add_one, hxk, ← wrS_snoc]; rfl
      obtain ⟨s, hs⟩ : ∃ s, (wrS (L.take k)).1 = s := ⟨_, rfl⟩
      obtain ⟨p, hp⟩ : ∃ s, (wrS (L.take k)).2.1 = s := ⟨_, rfl⟩
      obtain ⟨A, hA⟩ : ∃ s, (wrS (L.take k)).2.2.1 = s := ⟨_, rfl⟩
      obtain ⟨f, hf⟩ : ∃ s, (wrS (L.take k)).2.2.2 = s := ⟨_, rfl⟩
      obtain ⟨xs, xb⟩ := x
      unfold wrStep at hsn
      simp only [hs, hp, hA, hf] at hws hbd hap hsn hxl c1 c2 ⊢
      obtain ⟨p2, hp2⟩ : ∃ p2, p ++ Jn.recd (Jn.lastb b0L A) xs = p2 := ⟨_, rfl⟩
      rw [hp2] at hap hsn
      have hp2l : p2.length ≤ 450 := by rw [← hp2, List.length_append, Jn.recd_len]; have := txt_len xs; omega
      have hcon := fun w => rappend_any s p xs w (by omega) (by omega) (by omega)
      simp only [hap] at hcon
      have hsy := fun w => rsync_any s p2 w (by omega) (by omega)
      have j1 : (0 : Int) ≤ (k : Int) := by omega
      have j2 : (k : Int) < (n : Int) := by omega
      have hc1 : ∀ wz, Below B w wz → wz.cell? ⟨b, off + k * 2, none⟩ = some (.string ⟨xs.toArray⟩) := fun wz h => cell_under c1 (by rw [unhide hB]; exact h)
      have hc2 : ∀ wz, Below B w wz → wz.cell? ⟨b, off + k * 2 + 1, none⟩ = some (.bool xb) := fun wz h => cell_under c2 (by rw [unhide hB]; exact h)
      clear hs hp hA hf hap hxk hp2 htl hbd c1 c2
      replace hws := hide hws; replace hc1 := hide hc1; replace hc2 := hide hc2; replace hcon := hide hcon; replace hsy := hide hsy; replace hsn := hide hsn; replace hLn := hide hLn
      go_upto_region 5 with fail
      refine wp_region_frontG 11 (fun LL vs w' => CA 10 [0, 1, 2, 3, 4, 5, 6, 7, 8] [] (fun w' => WS w B x2 x3 nilSl s p [] w') (fun _ w' => WS w B x2 x3 nilSl s p2 [] w') LL vs w') (fun _ _ => True)
        (fun ix v w' => match ix with
          | 0 => v = dk s p
          | 1 => v = .slice (some ⟨b, off, none⟩) n c
          | 2 => v = .int .i64 (k : Int)
          | 3 => v = .pointer (some ⟨b, off + k * 2, none⟩)
          | 4 => v = .pointer (some ⟨b, off + k * 2, none⟩)
          | 5 => v = .string ⟨xs.toArray⟩
          | 6 => v = .tuple #[dk s p2, .int .i64 0]
          | 7 => v = .tuple #[dk s p2, .int .i64 0]
          | 8 => v = dk s p2
          | 9 => v = .int .i64 0
          | 10 => True
          | _ => True) (by rfl) (by kernel_rfl) ?_ ?_ ?_ ?_
      · exact CA.start (P0 := (fun w' => WS w B x2 x3 nilSl s p [] w')) _ _ _ (fun _ w' => WS w B x2 x3 nilSl s p2 [] w') ((unhide hws).call (Below.refl _ _).drew)
      · intro wa wb hR ix v hv
        match ix, hv with
        | 0, h => exact h
        | 1, h => exact h
        | 2, h => exact h
        | 3, h => exact h
        | 4, h => exact h
        | 5, h => exact h
        | 6, h => exact h
        | 7, h => exact h
        | 8, h => exact h
        | 9, h => exact h
        | 10, h => exact h
        | _ + 11, _ => trivial
      · intro ix hix
        obtain rfl | rfl | rfl | rfl | rfl | rfl | rfl | rfl | rfl | rfl | rfl : ix = 0 ∨ ix = 1 ∨ ix = 2 ∨ ix = 3 ∨ ix = 4 ∨ ix = 5 ∨ ix = 6 ∨ ix = 7 ∨ ix = 8 ∨ ix = 9 ∨ ix = 10 := by omega
        · refine FrontStep.of [] _ rfl (by kernel_rfl) ?_
          intro vs LL wq hLL hC hf
          simp only [putL, List.foldl_nil]
          have hP := (hC.early hLL (.inl (by decide))).2
          have dd0 := hP.d6.c0
          have dd1 := hP.d6.c1
          unfold dk
          clear hP
          have hkp := fun v => hC.keep 0 v (by decide) (fun p hp => by cases hp)
          replace hkp := hide hkp
          clear hC
          go_wp2_with fail
          first | exact unhide hkp _ | exact ⟨unhide hkp _, trivial⟩
        · refine FrontStep.of [] _ rfl (by kernel_rfl) ?_
          intro vs LL wq hLL hC hf
          simp only [putL, List.foldl_nil]
          have hkp := fun v => hC.keep 1 v (by decide) (fun p hp => by cases hp)
          replace hkp := hide hkp
          clear hC
          go_wp2_with fail
          first | exact unhide hkp _ | exact ⟨unhide hkp _, trivial⟩
        · refine FrontStep.of [] _ rfl (by kernel_rfl) ?_
          intro vs LL wq hLL hC hf
          simp only [putL, List.foldl_nil]
          have hkp := fun v => hC.keep 2 v (by decide) (fun p hp => by cases hp)
          replace hkp := hide hkp
          clear hC
          go_wp2_with fail
          first | exact unhide hkp _ | exact ⟨unhide hkp _, trivial⟩
        · refine FrontStep.of [1, 2] _ rfl (by kernel_rfl) ?_
          intro vs LL wq hLL hC hf
          simp only [putL, List.foldl_nil, List.foldl_cons, List.getElem?_cons_zero, List.getElem?_cons_succ]
          have e1 : vs 1 = _ := hf 1 (by simp)
          rw [e1]
          have e2 : vs 2 = _ := hf 2 (by simp)
          rw [e2]
          have hkp := fun v => hC.keep 3 v (by decide) (fun p hp => by cases hp)
          replace hkp := hide hkp
          clear hC
          go_wp2_with fail
          first | exact unhide hkp _ | exact ⟨unhide hkp _, trivial⟩
        · refine FrontStep.of [3] _ rfl (by kernel_rfl) ?_
          intro vs LL wq hLL hC hf
          simp only [putL, List.foldl_nil, List.foldl_cons, List.getElem?_cons_zero, List.getElem?_cons_succ]
          have e3 : vs 3 = _ := hf 3 (by simp)
          rw [e3]
          have hkp := fun v => hC.keep 4 v (by decide) (fun p hp => by cases hp)
          replace hkp := hide hkp
          clear hC
          go_wp2_with fail
          first | exact unhide hkp _ | exact ⟨unhide hkp _, trivial⟩
        · refine FrontStep.of [4] _ rfl (by kernel_rfl) ?_
          intro vs LL wq hLL hC hf
          simp only [putL, List.foldl_nil, List.foldl_cons, List.getElem?_cons_zero, List.getElem?_cons_succ]
          have e4 : vs 4 = _ := hf 4 (by simp)
          rw [e4]
          have hP := (hC.early hLL (.inl (by decide))).2
          have dd := unhide hc1 wq hP.bel
          clear hP
          have hkp := fun v => hC.keep 5 v (by decide) (fun p hp => by cases hp)
          replace hkp := hide hkp
          clear hC
          go_wp2_with fail
          first | exact unhide hkp _ | exact ⟨unhide hkp _, trivial⟩
        · refine FrontStep.of [0, 5] _ rfl (by kernel_rfl) ?_
          intro vs LL wq hLL hC hf
          simp only [putL, List.foldl_nil, List.foldl_cons, List.getElem?_cons_zero, List.getElem?_cons_succ]
          have e0 : vs 0 = _ := hf 0 (by simp)
          rw [e0]
          have e5 : vs 5 = _ := hf 5 (by simp)
          rw [e5]
          have hne := hC.early hLL (.inl (by decide))
          have hP := hne.2
          have hkp := fun (v : Value) (w2 : World) (hb : Below wq.heap.size wq w2) => hC.call (w2 := w2) 6 v hne.1 (by decide) (fun p hp => by cases hp) (hP.call hb)
          replace hkp := hide hkp
          clear hC hP hne
          go_wp2_with fail
          refine (unhide hcon _).mono ?_
          rintro e w2 ⟨rfl, hb2⟩
          have hfin := hide (unhide hkp (.tuple #[dk s p2, .int .i64 0]) w2 hb2)
          unfold dk at hfin ⊢
          clear hkp hb2
          go_wp2_with fail
          first | exact unhide hfin | exact ⟨unhide hfin, trivial⟩ | exact ⟨⟨rfl, rfl⟩, unhide hfin⟩
        · refine FrontStep.of [6] _ rfl (by kernel_rfl) ?_
          intro vs LL wq hLL hC hf
          simp only [putL, List.foldl_nil, List.foldl_cons, List.getElem?_cons_zero, List.getElem?_cons_succ]
          have e6 : vs 6 = _ := hf 6 (by simp)
          rw [e6]
          have hkp := fun v => hC.keep 7 v (by decide) (fun p hp => by cases hp)
          replace hkp := hide hkp
          clear hC
          go_wp2_with fail
          first | exact unhide hkp _ | exact ⟨unhide hkp _, trivial⟩
        · refine FrontStep.of [7] _ rfl (by kernel_rfl) ?_
          intro vs LL wq hLL hC hf
          simp only [putL, List.foldl_nil, List.foldl_cons, List.getElem?_cons_zero, List.getElem?_cons_succ]
          have e7 : vs 7 = _ := hf 7 (by simp)
          rw [e7]
          have hkp := fun v => hC.keep 8 v (by decide) (fun p hp => by cases hp)
          replace hkp := hide hkp
          clear hC
          go_wp2_with fail
          first | exact unhide hkp _ | exact ⟨unhide hkp _, trivial⟩
        · refine FrontStep.of [7] _ rfl (by kernel_rfl) ?_
          intro vs LL wq hLL hC hf
          simp only [putL, List.foldl_nil, List.foldl_cons, List.getElem?_cons_zero, List.getElem?_cons_succ]
          have e7 : vs 7 = _ := hf 7 (by simp)
          rw [e7]
          have hkp := fun v => hC.keep 9 v (by decide) (fun p hp => by cases hp)
          replace hkp := hide hkp
          clear hC
          go_wp2_with fail
          first | exact unhide hkp _ | exact ⟨unhide hkp _, trivial⟩
        · refine FrontStep.of [0, 1, 2, 3, 4, 5, 6, 7, 8] _ rfl (by kernel_rfl) ?_
          intro vs LL wq hLL hC hf
          simp only [putL, List.foldl_nil, List.foldl_cons, List.getElem?_cons_zero, List.getElem?_cons_succ]
          have e0 : vs 0 = _ := hf 0 (by simp)
          rw [e0]
          have e1 : vs 1 = _ := hf 1 (by simp)
          rw [e1]
          have e2 : vs 2 = _ := hf 2 (by simp)
          rw [e2]
          have e3 : vs 3 = _ := hf 3 (by simp)
          rw [e3]
          have e4 : vs 4 = _ := hf 4 (by simp)
          rw [e4]
          have e5 : vs 5 = _ := hf 5 (by simp)
          rw [e5]
          have e6 : vs 6 = _ := hf 6 (by simp)
          rw [e6]
          have e7 : vs 7 = _ := hf 7 (by simp)
          rw [e7]
          have e8 : vs 8 = _ := hf 8 (by simp)
          rw [e8]
          have hs0 : LL 10 = false := hLL
          have hP := hC.pre hs0
          have zc0 := hP.d6.c0
          have zc1 := hP.d6.c1
          have z0 := hP.d6.frz.1
          have z1 := hP.d6.frz.2
          have hw2 := hP.put s p2
          have hv : ∀ j ∈ [0, 1, 2, 3, 4, 5, 6, 7, 8], vs j ≠ undef := fun j hj => by
            simp only [List.mem_cons, List.not_mem_nil, or_false] at hj
            rcases hj with rfl | rfl | rfl | rfl | rfl | rfl | rfl | rfl | rfl
            · rw [e0]; exact agg_def _
            · rw [e1]; exact slice_def _ _ _
            · rw [e2]; exact int_def _ _
            · rw [e3]; exact ptr_def _
            · rw [e4]; exact ptr_def _
            · rw [e5]; exact str_def _
            · rw [e6]; exact tup_def _ _
            · rw [e7]; exact tup_def _ _
            · rw [e8]; exact agg_def _
          have hkp := fun v => hC.run v hv (fun p hp => by cases hp) hw2
          replace hkp := hide hkp
          clear hC hP hw2 hv
          unfold dk
          go_wp2_with fail
          first | exact ⟨undef, unhide hkp _⟩ | exact ⟨undef, unhide hkp _, trivial⟩
      · intro vs LL wq hLL hC hf
        have hws2 := hC.post (hLL 10 (by decide))
        rw [putSome_all]
        simp only [putL, List.range, List.range.loop, List.foldl_nil, List.foldl_cons, List.getElem?_cons_zero, List.getElem?_cons_succ, List.drop_succ_cons, List.drop_zero]
        obtain ⟨W2, rfl⟩ : ∃ W : World, W = wq := ⟨_, rfl⟩
        have d2 := unhide hc2 W2 hws2.bel
        have y0 := hws2.d6.c0
        have y1 := hws2.d6.c1
        have y2 := hws2.d6.frz.1
        have y3 := hws2.d6.frz.2
        clear hC hf hLL hws hcon hc1 hc2
        replace hws2 := hide hws2
        go_simp
        cases xb with
        | true =>
          rw [if_pos rfl] at hsn
          go_wp2_with fail
          refine (unhide hsy W2).mono ?_
          rintro e w5 ⟨rfl, hb5⟩
          have hw5 := (unhide hws2).call hb5
          have y2 := hw5.d6.c0
          have y3 := hw5.d6.c1
          have y4 := hw5.d6.frz.1
          have y5 := hw5.d6.frz.2
          have hw6 := hw5.put (s ++ p2) []
          replace hw6 := hide hw6
          clear hw5 hb5 hws2 hsy
          unfold dk
          go_wp2_with fail
          go_roundw
          case rel => exact ⟨k + 1, by omega, by go_num, by rw [unhide hsn]; exact unhide hw6⟩
          case measure => simp [intOf]; omega
        | false =>
          rw [if_neg (by decide)] at hsn
          go_wp2_with fail
          go_roundw
          case rel => exact ⟨k + 1, by omega, by go_num, by rw [unhide hsn]; exact unhide hws2⟩
          case measure => simp [intOf]; omega
    · obtain rfl : k = n := by omega
      have htk : L.take k = L := List.take_of_length_le (by omega)
      rw [htk] at hws
      have y0 := hws.d6.c0
      have y1 := hws.d6.c1
      have y2 := hws.d2.c0
      have y3 := hws.d2.c1
      have y4 := hws.d2.frz.1
      have y5 := hws.d2.frz.2
      have hlo := hws.lo
      have hbel := hws.bel
      have hx2 : B ≤ x2 := hlo.1
      have hn2 : x2 ≠ x3 := hlo.2.2
      obtain ⟨s, hs⟩ : ∃ s, (wrS L).1 = s := ⟨_, rfl⟩
      obtain ⟨p, hp⟩ : ∃ s, (wrS L).2.1 = s := ⟨_, rfl⟩
      simp only [hs, hp] at y0 y1 ⊢
      have t1 : ¬ (k : Int) < (k : Int) := by omega
      clear hws htk hbd
      replace hs := hide hs; replace hp := hide hp; replace hbel := hide hbel; replace hlo := hide hlo
      go_wp2_with fail
      exact bodyPost_ret (v := dk s p) (by unfold dk; simp [results, Try.results9, go_sem, y2, y3]) rfl ⟨by rw [unhide hs, unhide hp], by rw [unhide hB]; exact (((unhide hbel).setCell (p := ⟨x2, 0, none⟩) hx2 _).setCell (p := ⟨x2, 1, none⟩) hx2 _)⟩
end Go.Proofs.Ytcliegeooooonaa
