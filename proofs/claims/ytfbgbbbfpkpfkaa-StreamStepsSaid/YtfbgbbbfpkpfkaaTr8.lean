/- Streams: sink. -/
import Derived.Test.YtfbgbbbfpkpfkaaTr7
namespace Go.Proofs.Ytfbgbbbfpkpfkaa
open Go.RowKit
def GoodO (o : Obj) : Prop := o ≠ .cells #[Value.nilFunc] 65 (0, 0) ∧ o ≠ .cells #[.int .i64 0] 3 (0, 0)
theorem goodO_flow (a b : Value) : GoodO (.cells #[a, b] 68 (0, 0)) := ⟨fun e => (by injection e with _ h; exact absurd h (by decide)), fun e => (by injection e with _ h; exact absurd h (by decide))⟩
theorem goodO_ptr (a : Value) : GoodO (.cells #[a] 63 (0, 0)) := ⟨fun e => (by injection e with _ h; exact absurd h (by decide)), fun e => (by injection e with _ h; exact absurd h (by decide))⟩
theorem goodO_int {k : Int} (h : k ≠ 0) : GoodO (.cells #[.int .i64 k] 3 (0, 0)) := ⟨fun e => (by injection e with _ h; exact absurd h (by decide)), fun e => (by simp at e; exact h e)⟩
theorem goodO_func (f : FuncId) (c : Array Value) : GoodO (.cells #[.func (.func f) #[] c] 65 (0, 0)) := ⟨fun e => (by simp at e), fun e => (by injection e with _ h; exact absurd h (by decide))⟩
def SkShape (fid : FuncId) (caps : Array Value) : Prop := (fid = 54 ∧ ∃ p1 p2 p3 p4, caps = #[.pointer p1, .pointer p2, .pointer p3, .pointer p4]) ∨ ((fid = 37 ∨ fid = 33) ∧ ∃ p, caps = #[.pointer p])
/-- a function that takes glyphs for the stages from k on, and the blocks that it needs -/
def SkAt (bs bo : Nat) (la : Option Addr) (ln bf B : Nat) (l : List (List Sub)) (k : Nat) (Lo : List (Nat × Obj)) (v : Value) (w' : World) : Prop :=
  ∃ (fid : FuncId) (caps : Array Value) (L : List (Nat × Obj)), v = .func (.func fid) #[] caps ∧ SkShape fid caps ∧ (∀ p ∈ L, w'.heap[p.1]? = some p.2) ∧ (∀ p ∈ L, p.1 = bf ∨ p ∈ Lo ∨ B ≤ p.1) ∧ (1 ≤ k → ∀ p ∈ L, GoodO p.2) ∧ SinkOK L bs bo la ln l k fid caps
theorem SkAt.keep {bs bo : Nat} {la : Option Addr} {ln bf B : Nat} {l : List (List Sub)} {k : Nat} {Lo : List (Nat × Obj)} {v : Value} {w w' : World} (h : SkAt bs bo la ln bf B l k Lo v w) (hR : Below w.heap.size w w') : SkAt bs bo la ln bf B l k Lo v w' := by
  obtain ⟨fid, caps, L, h1, h2, h3, h4, h5, h6⟩ := h
  exact ⟨fid, caps, L, h1, h2, fun p hp => kept' hR (h3 p hp), h4, h5, h6⟩
theorem SkAt.low {bs bo : Nat} {la : Option Addr} {ln bf B B' : Nat} {l : List (List Sub)} {k : Nat} {Lo : List (Nat × Obj)} {v : Value} {w : World} (h : SkAt bs bo la ln bf B l k Lo v w) (hB : B' ≤ B) : SkAt bs bo la ln bf B' l k Lo v w := by
  obtain ⟨fid, caps, L, h1, h2, h3, h4, h5, h6⟩ := h
  refine ⟨fid, caps, L, h1, h2, h3, fun p hp => ?_, h5, h6⟩
  rcases h4 p hp with e | e | e
  · exact .inl e
  · exact .inr (.inl e)
  · exact .inr (.inr (Nat.le_trans hB e))
set_option maxRecDepth 100000 in
set_option maxHeartbeats 8000000 in
theorem sink_any (bs bo bf : Nat) (la : Option Addr) (ln lc n : Nat) (l : List (List Sub)) (hsml : ∀ x ∈ l, Small x) (htol : ∀ x ∈ l, ToI x) (hln : ln ≤ 1000000) (hn : l.length = n) (hn2 : n ≤ 1000000) :
    ∀ (d k : Nat) (w : World) (fo : FuncId) (co : Array Value) (Lo : List (Nat × Obj)), l.length = k + d → SkShape fo co → SinkOK Lo bs bo la ln l l.length fo co → (∀ p ∈ Lo, w.heap[p.1]? = some p.2) → (∀ p ∈ Lo, GoodO p.2) →
      w.heap[bf]? = some (.cells #[.slice la ln lc, .slice (some ⟨bs, 0, none⟩) n n] 68 (0, 0)) → Lst Enc.lk w (fun b => b < w.heap.size) la ln l →
      Calls Try.prog 32 #[.pointer (some ⟨bf, 0, none⟩), .int .i64 (k : Int), .func (.func fo) #[] co] w fun e w' => ∃ v, e = .returned v ∧ SkAt bs bo la ln bf w.heap.size l k Lo v w' ∧ Below w.heap.size w w' := by
  intro d
  induction d with
  | zero =>
    intro k w fo co Lo hd hfo hso hLo hgo hbf hl
    have hll := hl.1
    have hb2 : ∀ o1 o2, Below w.heap.size w ((w.alloc o1).alloc o2) := fun o1 o2 => ((Below.refl _ _).alloc (Nat.le_refl _) _).alloc (by simp) _
    have cb : w.cell? ⟨bf, 0, none⟩ = some (.slice la ln lc) := by rw [cell_of_row w bf _ _ _ _ hbf]; rfl
    have t1 : ((k : Int) == (ln : Int)) = true := by simp; omega
    obtain ⟨b3x, V3, hb3, hV3, st⟩ := (St.start w).new (Obj.cells #[.pointer (some ⟨bf, 0, none⟩)] 63)
    obtain ⟨b4x, V4, hb4, hV4, st⟩ := st.new (Obj.cells #[.int .i64 (k : Int)] 3)
    have hc4 : b3x + 1 = b4x := by rw [← hb4, ← hV3, World.size_alloc, hb3]
    have f3 := st.cell 1 rfl 0 (v := .pointer (some ⟨bf, 0, none⟩)) rfl
    have f4 := st.cell 0 rfl 0 (v := .int .i64 (k : Int)) rfl
    have hz := st.below
    have fb := cell_under cb hz
    have hLo4 : ∀ p ∈ Lo, V4.heap[p.1]? = some p.2 := fun p hp => kept' hz (hLo p hp)
    clear st cb hb2 hbf hl hll
    replace hb3 := hide hb3; replace hV3 := hide hV3; replace hV4 := hide hV4; replace hc4 := hide hc4; replace hz := hide hz; replace hLo4 := hide hLo4; replace hso := hide hso; replace hfo := hide hfo; replace hgo := hide hgo; replace f3 := hide f3; replace f4 := hide f4; replace fb := hide fb; replace hb4 := hide hb4
    go_enter Try.func32, Try.ntmps32
    go_upto_region 1 with fail
    rw [unhide hb3, unhide hc4, unhide hV3, unhide hV4]
    clear hb3 hc4 hV3 hV4 hb4
    replace f3 := unhide f3; replace f4 := unhide f4; replace fb := unhide fb
    go_quiet (fail)
    have hz2 := hide (blw_drewN (unhide hz) nq)
    have hL5 : Hid (∀ p ∈ Lo, (V4.drewN nq).heap[p.1]? = some p.2) := hide (unhide hLo4)
    clear f3 f4 fb hz
    go_wp2_with fail
    go_ret
    exact ⟨_, rfl, ⟨fo, co, Lo, rfl, unhide hfo, unhide hL5, fun p hp => .inr (.inl hp), fun _ => unhide hgo, by rw [show k = l.length by omega]; exact unhide hso⟩, unhide hz2⟩
  | succ d ih =>
    intro k w fo co Lo hd hfo hso hLo hgo hbf hl
    have hll := hl.1
    have hkl : k < l.length := by omega
    obtain ⟨x, hx⟩ : ∃ x, l[k]? = some x := ⟨_, List.getElem?_eq_getElem hkl⟩
    have hsm := hsml x (List.mem_of_getElem? hx)
    have hto := htol x (List.mem_of_getElem? hx)
    obtain ⟨gl, ol, _, _, _, _, rfl, _⟩ := lst_list hl (k := k) (by rw [← hl.1]; exact hkl)
    have cb : w.cell? ⟨bf, 0, none⟩ = some (.slice (some ⟨gl, ol, none⟩) ln lc) := by rw [cell_of_row w bf _ _ _ _ hbf]; rfl
    have t1 : ((k : Int) == (ln : Int)) = false := by simp; omega
    have i1 : (0 : Int) ≤ (k : Int) := by omega
    have i2 : (k : Int) < (ln : Int) := by omega
    have i3 : (k : Int) ≤ 1000000 := by omega
    have hwl := winS_le hsm
    have hwp := winS_pos x
    obtain ⟨M, hM⟩ : ∃ M, winS x = M := ⟨_, rfl⟩
    rw [hM] at hwl hwp
    obtain ⟨b3x, V3, hb3, hV3, st⟩ := (St.start w).new (Obj.cells #[.pointer (some ⟨bf, 0, none⟩)] 63)
    obtain ⟨b4x, V4, hb4, hV4, st⟩ := st.new (Obj.cells #[.int .i64 (k : Int)] 3)
    have hc4 : b3x + 1 = b4x := by rw [← hb4, ← hV3, World.size_alloc, hb3]
    have hge4 : w.heap.size ≤ b4x := by omega
    have hge3 : w.heap.size ≤ b3x := by omega
    have f3 := st.cell 1 rfl 0 (v := .pointer (some ⟨bf, 0, none⟩)) rfl
    have f4 := st.cell 0 rfl 0 (v := .int .i64 (k : Int)) rfl
    have hr3 := st.get 1 rfl
    have hr4 := st.get 0 rfl
    have hz := st.below
    have fb := cell_under cb hz
    have hLo4 : ∀ p ∈ Lo, V4.heap[p.1]? = some p.2 := fun p hp => kept' hz (hLo p hp)
    have hbf4 := kept' hz hbf
    have hl4 := hl.under hz
    clear st cb hbf hl hll hLo
    replace hb3 := hide hb3; replace hV3 := hide hV3; replace hV4 := hide hV4; replace hc4 := hide hc4; replace hz := hide hz; replace hLo4 := hide hLo4; replace hso := hide hso; replace hfo := hide hfo; replace hgo := hide hgo; replace f3 := hide f3; replace f4 := hide f4; replace fb := hide fb; replace hb4 := hide hb4
    replace hr3 := hide hr3; replace hr4 := hide hr4; replace hbf4 := hide hbf4; replace hl4 := hide hl4; replace hsm := hide hsm; replace hto := hide hto; replace hx := hide hx; replace hM := hide hM; replace ih := hide ih; replace hn := hide hn; replace hge3 := hide hge3; replace hge4 := hide hge4; replace hsml := hide hsml; replace htol := hide htol
    go_enter Try.func32, Try.ntmps32
    go_upto_region 1 with fail
    rw [unhide hb3, unhide hc4, unhide hV3, unhide hV4]
    clear hb3 hc4 hV3 hV4 hb4
    obtain ⟨b3, rfl⟩ : ∃ b : Nat, b = b3x := ⟨_, rfl⟩
    obtain ⟨b4, rfl⟩ : ∃ b : Nat, b = b4x := ⟨_, rfl⟩
    replace f3 := unhide f3; replace f4 := unhide f4; replace fb := unhide fb
    go_quiet (fail)
    have hz6 := hide (blw_drewN (unhide hz) nq)
    have hLo : Hid (∀ p ∈ Lo, (V4.drewN nq).heap[p.1]? = some p.2) := hide (unhide hLo4)
    have hl6 := hide ((unhide hl4).under (blw_drewN (Below.refl _ _) nq))
    have f33 : (V4.drewN nq).cell? ⟨b3, 0, none⟩ = some (.pointer (some ⟨bf, 0, none⟩)) := f3
    have f43 : (V4.drewN nq).cell? ⟨b4, 0, none⟩ = some (.int .i64 (k : Int)) := f4
    have fb3 : (V4.drewN nq).cell? ⟨bf, 0, none⟩ = some (.slice (some ⟨gl, ol, none⟩) ln lc) := fb
    have hbf : Hid ((V4.drewN nq).heap[bf]? = _) := hide (unhide hbf4)
    have hr33 : Hid ((V4.drewN nq).heap[b3]? = _) := hide (unhide hr3)
    have hr43 : Hid ((V4.drewN nq).heap[b4]? = _) := hide (unhide hr4)
    obtain ⟨w6, hw6⟩ : ∃ W : World, W = V4.drewN nq := ⟨_, rfl⟩
    rw [← hw6] at hz6 hLo hl6 f33 f43 fb3 hbf hr33 hr43 ⊢
    clear hw6 f3 f4 fb hz hLo4 hl4 hbf4 hr3 hr4
    obtain ⟨f3, rfl⟩ : ∃ f : w6.cell? ⟨b3, 0, none⟩ = some (.pointer (some ⟨bf, 0, none⟩)), f = f33 := ⟨_, rfl⟩
    obtain ⟨f4, rfl⟩ : ∃ f : w6.cell? ⟨b4, 0, none⟩ = some (.int .i64 (k : Int)), f = f43 := ⟨_, rfl⟩
    obtain ⟨fb, rfl⟩ : ∃ f : w6.cell? ⟨bf, 0, none⟩ = some (.slice (some ⟨gl, ol, none⟩) ln lc), f = fb3 := ⟨_, rfl⟩
    have hr3 := hr33; have hr4 := hr43
    clear hr33 hr43
    obtain ⟨gl', ol', x', xa, xn, xc, hgl, _, hx', hxn, hxc, hLx, cl⟩ := lst_list (unhide hl6) (k := k) (by rw [← (unhide hl6).1]; exact hkl)
    injection hgl with hgl
    injection hgl with hgl1 hgl2
    subst hgl1; subst hgl2
    rw [unhide hx] at hx'
    injection hx' with hx'
    subst hx'
    replace hLx := hide hLx
    go_upto_region 3 with fail
    have hmf : ∀ (fn : Fn) (first cap : Array Value) (w : World), (Instr.makeFunc fn first cap).run Try.prog w = .ok (.func fn first cap) w := fun _ _ _ _ => rfl
    refine wp_region_frontG 15 (fun _ _ w' => Below w6.heap.size w6 w') (fun wa wb => Below wa.heap.size wa wb)
      (fun ix v w' => match ix with
        | 0 => v = .pointer (some ⟨bf, 0, none⟩)
        | 1 => v = .int .i64 (k : Int)
        | 2 => v = .int .i64 ((k : Int) + 1)
        | 3 => v = .func (.func fo) #[] co
        | 4 => SkAt bs bo (some ⟨gl, ol, none⟩) ln bf w6.heap.size l (k + 1) Lo v w'
        | 5 => v = .pointer (some ⟨bf, 0, none⟩)
        | 6 => v = .pointer (some ⟨bf, 0, none⟩)
        | 7 => v = .pointer (some ⟨bf, 0, none⟩)
        | 8 => v = .slice (some ⟨gl, ol, none⟩) ln lc
        | 9 => v = .int .i64 (k : Int)
        | 10 => v = .pointer (some ⟨gl, ol + k, none⟩)
        | 11 => v = .agg #[.slice xa xn xc]
        | 12 => v = .int .i64 (M : Int)
        | 13 => ∃ b, v = .pointer (some ⟨b, 0, none⟩) ∧ w6.heap.size ≤ b ∧ w'.heap[b]? = some (.cells #[Value.nilFunc] 65 (0, 0))
        | 14 => ∃ b, v = .pointer (some ⟨b, 0, none⟩) ∧ w6.heap.size ≤ b ∧ w'.heap[b]? = some (.cells #[.int .i64 0] 3 (0, 0))
        | _ => True) (by rfl) (by kernel_rfl) ?_ ?_ ?_ ?_
    · exact (Below.refl _ _).drew
    · intro wa wb hR ix v hv
      match ix, hv with
      | 0, h => exact h
      | 1, h => exact h
      | 2, h => exact h
      | 3, h => exact h
      | 4, h => exact h.keep hR
      | 5, h => exact h
      | 6, h => exact h
      | 7, h => exact h
      | 8, h => exact h
      | 9, h => exact h
      | 10, h => exact h
      | 11, h => exact h
      | 12, h => exact h
      | 13, h => obtain ⟨b, h1, h3, h2⟩ := h; exact ⟨b, h1, h3, (hR.block b (Array.getElem?_eq_some_iff.1 h2).1).trans h2⟩
      | 14, h => obtain ⟨b, h1, h3, h2⟩ := h; exact ⟨b, h1, h3, (hR.block b (Array.getElem?_eq_some_iff.1 h2).1).trans h2⟩
      | _ + 15, _ => trivial
    · intro ix hix
      obtain rfl | rfl | rfl | rfl | rfl | rfl | rfl | rfl | rfl | rfl | rfl | rfl | rfl | rfl | rfl : ix = 0 ∨ ix = 1 ∨ ix = 2 ∨ ix = 3 ∨ ix = 4 ∨ ix = 5 ∨ ix = 6 ∨ ix = 7 ∨ ix = 8 ∨ ix = 9 ∨ ix = 10 ∨ ix = 11 ∨ ix = 12 ∨ ix = 13 ∨ ix = 14 := by omega
      · refine FrontStep.of [] _ rfl (by kernel_rfl) ?_
        intro vs LL wq hLL hC hf
        simp only [putL, List.foldl_nil]
        have g0 := cell_under f3 hC
        go_wp2_with fail
        first | exact Below.refl _ _ | exact hC | exact ⟨hC, Below.refl _ _⟩ | exact ⟨hC, Below.refl _ _, by omega⟩ | exact ⟨Below.refl _ _, by omega⟩
      · refine FrontStep.of [] _ rfl (by kernel_rfl) ?_
        intro vs LL wq hLL hC hf
        simp only [putL, List.foldl_nil]
        have g0 := cell_under f4 hC
        go_wp2_with fail
        first | exact Below.refl _ _ | exact hC | exact ⟨hC, Below.refl _ _⟩ | exact ⟨hC, Below.refl _ _, by omega⟩ | exact ⟨Below.refl _ _, by omega⟩
      · refine FrontStep.of [1] _ rfl (by kernel_rfl) ?_
        intro vs LL wq hLL hC hf
        simp only [putL, List.foldl_nil, List.foldl_cons, List.getElem?_cons_zero, List.getElem?_cons_succ]
        have e1 : vs 1 = _ := hf 1 (by simp)
        rw [e1]
        go_wp2_with fail
        first | exact Below.refl _ _ | exact hC | exact ⟨hC, Below.refl _ _⟩ | exact ⟨hC, Below.refl _ _, by omega⟩ | exact ⟨Below.refl _ _, by omega⟩
      · refine FrontStep.of [] _ rfl (by kernel_rfl) ?_
        intro vs LL wq hLL hC hf
        simp only [putL, List.foldl_nil]
        go_wp2_with fail
        first | exact Below.refl _ _ | exact hC | exact ⟨hC, Below.refl _ _⟩ | exact ⟨hC, Below.refl _ _, by omega⟩ | exact ⟨Below.refl _ _, by omega⟩
      · refine FrontStep.of [0, 2, 3] _ rfl (by kernel_rfl) ?_
        intro vs LL wq hLL hC hf
        simp only [putL, List.foldl_nil, List.foldl_cons, List.getElem?_cons_zero, List.getElem?_cons_succ]
        have e0 : vs 0 = _ := hf 0 (by simp)
        rw [e0]
        have e2 : vs 2 = _ := hf 2 (by simp)
        rw [e2]
        have e3 : vs 3 = _ := hf 3 (by simp)
        rw [e3]
        have hre := unhide ih (k + 1) wq fo co Lo (by omega) (unhide hfo) (unhide hso) (fun p hp => kept' hC (unhide hLo p hp)) (unhide hgo) (kept' hC (unhide hbf)) ((unhide hl6).under hC)
        replace hre := hide hre
        go_wp2_with fail
        have hkc : ((k : Int) + 1) = ((k + 1 : Nat) : Int) := by omega
        first | rw [hkc] | skip
        clear hkc
        refine (unhide hre).mono ?_
        rintro e wz ⟨v, rfl, hsa, hbz⟩
        have hall := hsa.low hC.size
        clear hre hsa
        replace hbz := hide hbz; replace hall := hide hall
        go_wp2_with fail
        first | exact ⟨hC.trans ((unhide hbz).mono hC.size), unhide hbz, unhide hall⟩ | trace_state
      · refine FrontStep.of [] _ rfl (by kernel_rfl) ?_
        intro vs LL wq hLL hC hf
        simp only [putL, List.foldl_nil]
        have g0 := cell_under f3 hC
        go_wp2_with fail
        first | exact Below.refl _ _ | exact hC | exact ⟨hC, Below.refl _ _⟩ | exact ⟨hC, Below.refl _ _, by omega⟩ | exact ⟨Below.refl _ _, by omega⟩
      · refine FrontStep.of [5] _ rfl (by kernel_rfl) ?_
        intro vs LL wq hLL hC hf
        simp only [putL, List.foldl_nil, List.foldl_cons, List.getElem?_cons_zero, List.getElem?_cons_succ]
        have e5 : vs 5 = _ := hf 5 (by simp)
        rw [e5]
        go_wp2_with fail
        first | exact Below.refl _ _ | exact hC | exact ⟨hC, Below.refl _ _⟩ | exact ⟨hC, Below.refl _ _, by omega⟩ | exact ⟨Below.refl _ _, by omega⟩
      · refine FrontStep.of [6] _ rfl (by kernel_rfl) ?_
        intro vs LL wq hLL hC hf
        simp only [putL, List.foldl_nil, List.foldl_cons, List.getElem?_cons_zero, List.getElem?_cons_succ]
        have e6 : vs 6 = _ := hf 6 (by simp)
        rw [e6]
        go_wp2_with fail
        first | exact Below.refl _ _ | exact hC | exact ⟨hC, Below.refl _ _⟩ | exact ⟨hC, Below.refl _ _, by omega⟩ | exact ⟨Below.refl _ _, by omega⟩
      · refine FrontStep.of [7] _ rfl (by kernel_rfl) ?_
        intro vs LL wq hLL hC hf
        simp only [putL, List.foldl_nil, List.foldl_cons, List.getElem?_cons_zero, List.getElem?_cons_succ]
        have e7 : vs 7 = _ := hf 7 (by simp)
        rw [e7]
        have g0 := cell_under fb hC
        go_wp2_with fail
        first | exact Below.refl _ _ | exact hC | exact ⟨hC, Below.refl _ _⟩ | exact ⟨hC, Below.refl _ _, by omega⟩ | exact ⟨Below.refl _ _, by omega⟩
      · refine FrontStep.of [] _ rfl (by kernel_rfl) ?_
        intro vs LL wq hLL hC hf
        simp only [putL, List.foldl_nil]
        have g0 := cell_under f4 hC
        go_wp2_with fail
        first | exact Below.refl _ _ | exact hC | exact ⟨hC, Below.refl _ _⟩ | exact ⟨hC, Below.refl _ _, by omega⟩ | exact ⟨Below.refl _ _, by omega⟩
      · refine FrontStep.of [8, 9] _ rfl (by kernel_rfl) ?_
        intro vs LL wq hLL hC hf
        simp only [putL, List.foldl_nil, List.foldl_cons, List.getElem?_cons_zero, List.getElem?_cons_succ]
        have e8 : vs 8 = _ := hf 8 (by simp)
        rw [e8]
        have e9 : vs 9 = _ := hf 9 (by simp)
        rw [e9]
        go_wp2_with fail
        first | exact Below.refl _ _ | exact hC | exact ⟨hC, Below.refl _ _⟩ | exact ⟨hC, Below.refl _ _, by omega⟩ | exact ⟨Below.refl _ _, by omega⟩
      · refine FrontStep.of [10] _ rfl (by kernel_rfl) ?_
        intro vs LL wq hLL hC hf
        simp only [putL, List.foldl_nil, List.foldl_cons, List.getElem?_cons_zero, List.getElem?_cons_succ]
        have e10 : vs 10 = _ := hf 10 (by simp)
        rw [e10]
        have g0 := cell_under cl hC
        go_wp2_with fail
        first | exact Below.refl _ _ | exact hC | exact ⟨hC, Below.refl _ _⟩ | exact ⟨hC, Below.refl _ _, by omega⟩ | exact ⟨Below.refl _ _, by omega⟩
      · refine FrontStep.of [4, 11] _ rfl (by kernel_rfl) ?_
        intro vs LL wq hLL hC hf
        simp only [putL, List.foldl_nil, List.foldl_cons, List.getElem?_cons_zero, List.getElem?_cons_succ]
        obtain ⟨fid, caps, L, e21, q1, q2, q3, q4, q5⟩ := hf 4 (by simp)
        rw [e21]
        have e11 : vs 11 = _ := hf 11 (by simp)
        rw [e11]
        have hwn := window_any xa xn xc x wq ((unhide hLx).under hC) (unhide hsm)
        rw [unhide hM] at hwn
        replace hwn := hide hwn
        go_wp2_with fail
        refine (unhide hwn).mono ?_
        rintro e wz ⟨rfl, hbz⟩
        clear hwn
        replace hbz := hide hbz
        go_wp2_with fail
        first | exact ⟨hC.trans ((unhide hbz).mono hC.size), unhide hbz⟩ | exact hC.trans ((unhide hbz).mono hC.size) | trace_state
      · refine FrontStep.of [] _ rfl (by kernel_rfl) ?_
        intro vs LL wq hLL hC hf
        simp only [putL, List.foldl_nil]
        have hn0 := heap_alloc_new wq (Obj.cells #[Value.nilFunc] 65)
        have hb0 := (Below.refl wq.heap.size wq).alloc (Nat.le_refl _) (Obj.cells #[Value.nilFunc] 65)
        go_wp2_with fail
        first | exact ⟨hC.trans (hb0.mono hC.size), hb0, _, rfl, hC.size, hn0⟩ | exact ⟨hC.trans (hb0.mono hC.size), hb0, hC.size, hn0⟩ | exact ⟨hC.trans (hb0.mono hC.size), hb0, hC.size, (Array.getElem?_eq_some_iff.1 hn0).2⟩ | exact ⟨hC.trans (hb0.mono hC.size), hC.size, (Array.getElem?_eq_some_iff.1 hn0).2⟩ | exact ⟨hC.trans (hb0.mono hC.size), hb0, hC.size⟩ | exact ⟨hC.trans (hb0.mono hC.size), hC.size⟩ | trace_state
      · refine FrontStep.of [] _ rfl (by kernel_rfl) ?_
        intro vs LL wq hLL hC hf
        simp only [putL, List.foldl_nil]
        have hn0 := heap_alloc_new wq (Obj.cells #[.int .i64 0] 3)
        have hb0 := (Below.refl wq.heap.size wq).alloc (Nat.le_refl _) (Obj.cells #[.int .i64 0] 3)
        go_wp2_with fail
        first | exact ⟨hC.trans (hb0.mono hC.size), hb0, _, rfl, hC.size, hn0⟩ | exact ⟨hC.trans (hb0.mono hC.size), hb0, hC.size, hn0⟩ | exact ⟨hC.trans (hb0.mono hC.size), hb0, hC.size, (Array.getElem?_eq_some_iff.1 hn0).2⟩ | exact ⟨hC.trans (hb0.mono hC.size), hC.size, (Array.getElem?_eq_some_iff.1 hn0).2⟩ | exact ⟨hC.trans (hb0.mono hC.size), hb0, hC.size⟩ | exact ⟨hC.trans (hb0.mono hC.size), hC.size⟩ | trace_state
    · intro vs LL wq hLL hC hf
      obtain ⟨fid, caps, L, e4, q1, q2, q3, q4', q5⟩ := hf 4 (by omega)
      have q4 := q4' (by omega)
      clear q4'
      obtain ⟨b7, e13, hge7, hr7⟩ := hf 13 (by omega)
      obtain ⟨b8, e14, hge8, hr8⟩ := hf 14 (by omega)
      have e12 : vs 12 = _ := hf 12 (by omega)
      rw [putSome_all]
      simp only [putL, List.range, List.range.loop, List.foldl_nil, List.foldl_cons, List.getElem?_cons_zero, List.getElem?_cons_succ, List.drop_succ_cons, List.drop_zero]
      rw [e4, e12, e13, e14]
      have hne : b7 ≠ b8 := fun e => by rw [e, hr8] at hr7; injection hr7 with hr7; injection hr7 with _ ht; exact absurd ht (by decide)
      have z0 : wq.cell? ⟨b7, 0, none⟩ = some Value.nilFunc := blk_cell hr7
      have z1 : wq.frozen? ⟨b7, 0, none⟩ = false := by simp [World.frozen?, hr7]
      have hst : (store ⟨b7, 0, none⟩ (.func (.func fid) #[] caps)).run Try.prog wq = .ok () (wq.setCell ⟨b7, 0, none⟩ (.func (.func fid) #[] caps)) := by rw [run_store _ _ _ _ _ rfl, z0]; simp [z1]
      have r7 := heap_set (off := 0) hr7 (.func (.func fid) #[] caps)
      have r8 : (wq.setCell ⟨b7, 0, none⟩ (.func (.func fid) #[] caps)).heap[b8]? = _ := (Below.heap_setCell _ _ _ _ (fun e => hne e.symm)).trans hr8
      have z2 := blk_cell r8
      have z3 : (wq.setCell ⟨b7, 0, none⟩ (.func (.func fid) #[] caps)).frozen? ⟨b8, 0, none⟩ = false := by simp [World.frozen?, r8]
      have s7 : ((wq.setCell ⟨b7, 0, none⟩ (.func (.func fid) #[] caps)).setCell ⟨b8, 0, none⟩ (.int .i64 (M : Int))).heap[b7]? = some (.cells #[.func (.func fid) #[] caps] 65 (0, 0)) := (Below.heap_setCell _ _ _ _ hne).trans r7
      have s8 : ((wq.setCell ⟨b7, 0, none⟩ (.func (.func fid) #[] caps)).setCell ⟨b8, 0, none⟩ (.int .i64 (M : Int))).heap[b8]? = some (.cells #[.int .i64 (M : Int)] 3 (0, 0)) := heap_set r8 _
      have sl : ∀ p ∈ L, ((wq.setCell ⟨b7, 0, none⟩ (.func (.func fid) #[] caps)).setCell ⟨b8, 0, none⟩ (.int .i64 (M : Int))).heap[p.1]? = some p.2 := fun p hp => by
        have h7 : p.1 ≠ b7 := fun e => by have := q2 p hp; rw [e, hr7] at this; exact (q4 p hp).1 (Option.some.inj this).symm
        have h8 : p.1 ≠ b8 := fun e => by have := q2 p hp; rw [e, hr8] at this; exact (q4 p hp).2 (Option.some.inj this).symm
        exact (Below.heap_setCell _ _ _ _ h8).trans ((Below.heap_setCell _ _ _ _ h7).trans (q2 p hp))
      have hz0 := (unhide hz6).trans (hC.mono (unhide hz6).size)
      have hs6 := (unhide hz6).size
      have hzz := (hz0.setCell (p := ⟨b7, 0, none⟩) (by show w.heap.size ≤ b7; omega) (.func (.func fid) #[] caps)).setCell (p := ⟨b8, 0, none⟩) (by show w.heap.size ≤ b8; omega) (.int .i64 (M : Int))
      have o3 : ∀ (b : Nat) (o : Obj), b < w6.heap.size → w6.heap[b]? = some o → ((wq.setCell ⟨b7, 0, none⟩ (.func (.func fid) #[] caps)).setCell ⟨b8, 0, none⟩ (.int .i64 (M : Int))).heap[b]? = some o := fun b o hb ho => (Below.heap_setCell _ _ _ _ (by show b ≠ b8; omega)).trans ((Below.heap_setCell _ _ _ _ (by show b ≠ b7; omega)).trans ((hC.block b hb).trans ho))
      have o30 := o3 _ _ (Array.getElem?_eq_some_iff.1 (unhide hr3)).1 (unhide hr3)
      have o40 := o3 _ _ (Array.getElem?_eq_some_iff.1 (unhide hr4)).1 (unhide hr4)
      have ob0 := o3 _ _ (Array.getElem?_eq_some_iff.1 (unhide hbf)).1 (unhide hbf)
      obtain ⟨W9, hW9⟩ : ∃ W, (wq.setCell ⟨b7, 0, none⟩ (.func (.func fid) #[] caps)).setCell ⟨b8, 0, none⟩ (.int .i64 (M : Int)) = W := ⟨_, rfl⟩
      rw [hW9] at s7 s8 sl hzz o30 o40 ob0
      clear hf hLL o3 e4 e12 e13 e14 r7 hr7 hr8 hz0 ih hLo hl6 hbf hr3 hr4 hLx
      have hsk := sinkfn_any bs bo bf b3 b4 b8 b7 (some ⟨gl, ol, none⟩) ln lc n l k x fid caps L (unhide hx) (unhide hsm) (unhide hto) hln (unhide hn) hn2 q1 q5
      rw [unhide hM] at hsk
      replace hW9 := hide hW9; replace s7 := hide s7; replace s8 := hide s8; replace sl := hide sl; replace hzz := hide hzz; replace o30 := hide o30; replace o40 := hide o40; replace ob0 := hide ob0; replace q1 := hide q1; replace q2 := hide q2; replace q3 := hide q3; replace q4 := hide q4; replace q5 := hide q5; replace hsk := hide hsk; replace hge7 := hide hge7; replace hge8 := hide hge8; replace hne := hide hne
      clear r8 hC
      go_simp
      go_wp2_with fail
      rw [unhide hW9]
      go_ret
      refine ⟨_, rfl, ⟨_, _, _, rfl, .inl ⟨rfl, _, _, _, _, rfl⟩, ?_, ?_, ?_, unhide hsk⟩, unhide hzz⟩
      · intro p hp
        simp only [List.mem_cons] at hp
        rcases hp with rfl | rfl | rfl | rfl | rfl | hp
        · exact unhide ob0
        · exact unhide o30
        · exact unhide o40
        · exact unhide s8
        · exact unhide s7
        · exact unhide sl p hp
      · intro p hp
        simp only [List.mem_cons] at hp
        have h3 := unhide hge3; have h4 := unhide hge4; have h7 := unhide hge7; have h8 := unhide hge8
        rcases hp with rfl | rfl | rfl | rfl | rfl | hp
        · exact .inl rfl
        · exact .inr (.inr (by show w.heap.size ≤ b3; omega))
        · exact .inr (.inr (by show w.heap.size ≤ b4; omega))
        · exact .inr (.inr (by show w.heap.size ≤ b8; omega))
        · exact .inr (.inr (by show w.heap.size ≤ b7; omega))
        · rcases unhide q3 p hp with e | e | e
          · exact .inl e
          · exact .inr (.inl e)
          · exact .inr (.inr (by omega))
      · intro hk1 p hp
        simp only [List.mem_cons] at hp
        rcases hp with rfl | rfl | rfl | rfl | rfl | hp
        · exact goodO_flow _ _
        · exact goodO_ptr _
        · exact goodO_int (by omega)
        · exact goodO_int (by omega)
        · exact goodO_func _ _
        · exact unhide q4 p hp
end Go.Proofs.Ytfbgbbbfpkpfkaa
