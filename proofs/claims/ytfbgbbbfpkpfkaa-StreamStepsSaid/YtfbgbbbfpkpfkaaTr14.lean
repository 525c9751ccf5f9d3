/- Streams: fed. -/
import Derived.Test.YtfbgbbbfpkpfkaaTr13
namespace Go.Proofs.Ytfbgbbbfpkpfkaa
open Go.RowKit
theorem feedAll_tot (l : List (List Sub)) : ∀ (g : List Int) (ss : List Stg), ss.length = l.length → tot (feedAll l ss g).1 (feedAll l ss g).2 ≤ tot ss [] + g.length := by
  intro g
  induction g with
  | nil => intro ss _; exact Nat.le_refl _
  | cons y g ih =>
    intro ss h
    have h1 := feedS_tot l ss y h
    have h2 := ih (feedS l ss y).1 (feedS_len _ _ _ h)
    simp only [feedAll, List.length_cons]
    generalize feedS l ss y = r at *
    generalize feedAll l r.1 g = q at *
    unfold tot at *
    simp only [List.length_append, List.length_nil] at *
    omega
theorem feedAll_back (l : List (List Sub)) (m : Nat) (hm : 2 ≤ m) : ∀ (g : List Int) (ss : List Stg), ss.length = l.length → (∀ s ∈ ss, s.1.length ≤ m) → ∀ s ∈ (feedAll l ss g).1, s.1.length ≤ m := by
  intro g
  induction g with
  | nil => intro ss _ h; exact h
  | cons y g ih => intro ss h h2; exact ih _ (feedS_len _ _ _ h) (feedS_back _ _ _ m hm h h2)
theorem tot_start (l : List (List Sub)) : tot (startS l) [] = 0 := by
  unfold tot startS
  simp
theorem back_start (l : List (List Sub)) (m : Nat) : ∀ s ∈ startS l, s.1.length ≤ m := by
  intro s hs
  unfold startS at hs
  rw [List.mem_replicate] at hs
  rw [hs.2]
  exact Nat.zero_le _
theorem feedS_i64 : ∀ (l : List (List Sub)) (ss : List Stg) (g : Int), (∀ x ∈ l, ToI x) → (∀ s ∈ ss, AllI s.1 ∧ AllI s.2) → I64 g → (∀ s ∈ (feedS l ss g).1, AllI s.1 ∧ AllI s.2) ∧ AllI (feedS l ss g).2 := by
  intro l
  induction l with
  | nil =>
    intro ss g _ h hg
    exact ⟨h, fun y hy => by simp [feedS] at hy; rw [hy]; exact hg⟩
  | cons x xs ih =>
    intro ss g hx h hg
    cases ss with
    | nil =>
      constructor
      · intro s hs
        simp [feedS] at hs
      · intro y hy
        simp [feedS] at hy
    | cons s ss =>
      have hxs : ∀ y ∈ xs, ToI y := fun y hy => hx y (by simp [hy])
      have hl : ∀ (f : Nat) (s : Stg) (ss : List Stg), AllI s.1 → AllI s.2 → (∀ t ∈ ss, AllI t.1 ∧ AllI t.2) → AllI (loopS (winS x) x (feedS xs) f s ss).1.1.1 ∧ AllI (loopS (winS x) x (feedS xs) f s ss).1.1.2 ∧ (∀ t ∈ (loopS (winS x) x (feedS xs) f s ss).1.2, AllI t.1 ∧ AllI t.2) ∧ AllI (loopS (winS x) x (feedS xs) f s ss).2 := by
        intro f
        induction f with
        | zero => intro s ss h1 h2 h3; exact ⟨h1, h2, h3, fun y hy => by cases hy⟩
        | succ f ihf =>
          intro s ss h1 h2 h3
          unfold loopS
          split
          · obtain ⟨d1, d2⟩ := decS_i64 (x := x) (s := s) h1 h2
            obtain ⟨r1, r2⟩ := ih ss (decO x s) hxs h3 (decO_i64 (hx x (by simp)) h2)
            obtain ⟨q1, q2, q3, q4⟩ := ihf (decS x s) (feedS xs ss (decO x s)).1 d1 d2 r1
            exact ⟨q1, q2, q3, fun y hy => by rcases List.mem_append.1 hy with hy | hy; exact r2 y hy; exact q4 y hy⟩
          · exact ⟨h1, h2, h3, fun y hy => by cases hy⟩
      have hs := h s (by simp)
      obtain ⟨q1, q2, q3, q4⟩ := hl (s.2.length + 1) (s.1, s.2 ++ [g]) ss hs.1 (fun y hy => by rcases List.mem_append.1 hy with hy | hy; exact hs.2 y hy; simp at hy; rw [hy]; exact hg) (fun t ht => h t (by simp [ht]))
      exact ⟨fun t ht => by
        simp only [feedS] at ht
        rcases List.mem_cons.1 ht with rfl | ht
        · exact ⟨q1, q2⟩
        · exact q3 t ht, q4⟩
/-- append of numbers to an own row: where the new row lies -/
theorem wpList_append_ints2 {w : World} {ops : Array Oper} {rest : List Oper} {o : Oper} {a : Act} {Q : Exit → Act → World → Prop} (hgd : o.guard = none) (s x : Operand)
    (ho : o.op = .call { callee := .builtin .append, args := #[s, x], argTypes := #[22, 22] })
    (base : Nat) (v : Value) (k : Nat) (xs : List Int) (hs : a.eval s = v) (hown : w.ownsRow base 3 1 v k (vints xs))
    (S : Nat → Prop) (ad : Option Addr) (n c : Nat) (l : List Int) (hx : a.eval x = .slice ad n c) (hl : Lst Enc.int w S ad n l) (h63 : k + n ≤ 1000000000000) (hbase : base ≤ w.heap.size)
    (h : ∀ v' w', w'.ownsRow base 3 1 v' (k + n) (vints (xs ++ l)) → w.grownBy w' v.ownBlock → (v'.ownBlock = v.ownBlock ∨ v'.ownBlock = some w.heap.size) → wpList Try.prog ops Q rest (a.put o.dst v') w') : wpList Try.prog ops Q (o :: rest) a w := by
  obtain ⟨i3, hi3, hiz3, his3, hiy3⟩ := info_parts info_int
  have hlen := hl.1
  have go : ∀ g, ad = some g → (∀ (j : Nat) (u : Value), (vints l)[j]? = some u → w.cell? (g.add j) = some u) → wpList Try.prog ops Q (o :: rest) a w := fun g hg hc => by
    subst hg
    obtain ⟨v', w', hr, q1, q2, q3⟩ := run_append_own2 (P := Try.prog) w base 22 o.type 3 i3 (.int .i64 0) 1 8 Try.underlying22 hi3 hiz3 his3 hiy3 rfl (by decide) v k (vints xs) hown g n c (vints l) (by rw [vints_len, hlen, Nat.mul_one]) hc (vints_one l) (by unfold maxLen; omega) (by omega) hbase
    rw [vints_app] at q1
    exact Lib.wpList_append_run w hgd s x 22 22 ho v _ hs hx v' w' hr (h v' w' q1 q2 q3)
  by_cases h0 : n = 0
  · subst h0
    have hnil : l = [] := List.eq_nil_of_length_eq_zero hlen
    subst hnil
    cases ad with
    | none =>
      refine Lib.wpList_append_run w hgd s x 22 22 ho v _ hs hx v w (run_append_empty base _ _ _ i3 1 c Try.underlying22 hi3 v k (vints xs) hown) (h v w ?_ (grown_of_below (Below.refl _ _) _) (.inl rfl))
      rw [List.append_nil]
      exact hown
    | some g => exact go g rfl (fun j u hu => by simp [vints] at hu)
  · obtain ⟨b, off, rfl, _⟩ := hl.2 (by omega)
    exact go _ rfl (lst_vints hl)
set_option maxRecDepth 100000 in
set_option maxHeartbeats 4000000 in
theorem fed_any (la : Option Addr) (ln lc : Nat) (l : List (List Sub)) (ga : Option Addr) (gn gc : Nat) (g : List Int) (w : World) (hll : Lst Enc.lk w (fun b => b < w.heap.size) la ln l) (hsm : ∀ x ∈ l, Small x) (hto : ∀ x ∈ l, ToI x) (hg : Lst Enc.int w (fun b => b < w.heap.size) ga gn g) (hn : ln ≤ 1000000) (hgn : gn ≤ 100000) :
    Calls Try.prog 12 #[.slice la ln lc, .slice ga gn gc] w fun e w' => ∃ a c v, e = .returned (.tuple #[.agg #[.slice a ln c], v]) ∧ Lst Enc.stg w' (fun b => b < w'.heap.size) a ln (feedAll l (startS l) g).1 ∧ w'.ownsRow w.heap.size 3 1 v (feedAll l (startS l) g).2.length (vints (feedAll l (startS l) g).2) ∧ Below w.heap.size w w' := by
  have hln := hll.1
  have hgl := hg.1
  obtain ⟨B, hB⟩ : ∃ B, w.heap.size = B := ⟨_, rfl⟩
  obtain ⟨b4x, V4, hb4, hV4, st⟩ := (St.start w).new (Obj.cells #[nilS] 29)
  have hz := st.below
  have k4 := st.get 0 rfl
  have hge4 : B ≤ b4x := by omega
  have hsc := start_any la ln lc V4 hn
  clear st
  rw [hB] at hz
  replace hln := hide hln; replace hgl := hide hgl; replace hb4 := hide hb4; replace hV4 := hide hV4; replace hz := hide hz; replace k4 := hide k4; replace hsc := hide hsc; replace hll := hide hll; replace hg := hide hg; replace hB := hide hB; replace hsm := hide hsm; replace hto := hide hto
  go_enter Try.func12, Try.ntmps12
  go_upto_region 1 with fail
  rw [unhide hV4, unhide hb4]
  clear hV4 hb4
  obtain ⟨b4, rfl⟩ : ∃ b : Nat, b = b4x := ⟨_, rfl⟩
  go_wp2_with fail
  refine (unhide hsc).mono ?_
  rintro e w1 ⟨a0, rfl, hst, hb⟩
  have hBV : B ≤ V4.heap.size := by rw [← unhide hB]; have := (unhide hz).size; exact this
  have hz1 := (unhide hz).trans (hb.mono hBV)
  have k41 := kept' hb (unhide k4)
  obtain ⟨b6x, V6, hb6, hV6, st⟩ := (St.start w1).new (Obj.cells #[.slice a0 ln ln] 29)
  have hbb := st.below
  have k6 := st.get 0 rfl
  have hB1 : B ≤ w1.heap.size := Nat.le_trans hBV hb.size
  have hz6 := hz1.trans (hbb.mono hB1)
  have k46 := kept' hbb k41
  have hb46 : b4 < b6x := by have := (Array.getElem?_eq_some_iff.1 k41).1; omega
  have hst6 : Lst Enc.stg V6 (fun b => b ≠ b6x ∧ b ≠ b4 ∧ b < V6.heap.size) a0 ln (startS l) := by
    have h1 : startS l = List.replicate ln ([], []) := by unfold startS; rw [unhide hln]
    rw [h1]
    have h4 := (Array.getElem?_eq_some_iff.1 (unhide k4)).1
    refine (Lst.same (w := w1) (w' := V6) (fun b hb => hbb.block b hb.2) hst).wide (fun b hb => ⟨by omega, by omega, Nat.lt_of_lt_of_le hb.2 hbb.size⟩)
  clear st hsc hst hb hbb k41 hz1 k4 hz
  replace hb6 := hide hb6; replace hV6 := hide hV6; replace k6 := hide k6; replace hz6 := hide hz6; replace k46 := hide k46; replace hst6 := hide hst6
  have hBb6 : B ≤ b6x := by have := unhide hb6; omega
  go_wp2_with fail
  rw [unhide hV6]
  try rw [unhide hb6]
  clear hV6 hb6
  obtain ⟨b6, rfl⟩ : ∃ b : Nat, b = b6x := ⟨_, rfl⟩
  go_loopw [7, 16] (fun v i wr => ∃ (k : Nat) (a : Option Addr) (c : Nat), k ≤ gn ∧ i = .int .i64 (k : Int) ∧ wr.heap[b6]? = some (.cells #[.slice a ln c] 29 (0, 0)) ∧ wr.heap[b4]? = some (.cells #[nilS] 29 (0, 0)) ∧ Lst Enc.stg wr (fun b => b ≠ b6 ∧ b ≠ b4 ∧ v.ownBlock ≠ some b ∧ b < wr.heap.size) a ln (feedAll l (startS l) (g.take k)).1 ∧ wr.ownsRow B 3 1 v (feedAll l (startS l) (g.take k)).2.length (vints (feedAll l (startS l) (g.take k)).2) ∧ Below B w wr) (fun _ i _ => gn - (intOf i).toNat)
  case atStart => exact ⟨0, a0, ln, by omega, rfl, unhide k6, unhide k46, (unhide hst6).wide (fun b hb => ⟨hb.1, hb.2.1, (by simp [Value.ownBlock]), hb.2.2⟩), World.ownsRow_nil _ _ _ _, unhide hz6⟩
  case round =>
    obtain ⟨k, a, c, hk, rfl, r6, r4, hst, hown, hbw⟩ := hrel
    obtain ⟨wo, rfl⟩ : ∃ W : World, W = wr := ⟨_, rfl⟩
    have hBo : B ≤ wo.heap.size := by rw [← unhide hB]; exact hbw.size
    by_cases hlt : k < gn
    · obtain ⟨bg, og, y, rfl, _, hy, hyi, hc⟩ := lst_int ((unhide hg).below (by rw [unhide hB]; exact hbw)) hlt
      have hsn := feedAll_snoc l (startS l) (g.take k) y
      rw [take_snoc hy] at hsn
      have htl := feedAll_tot l (g.take k) (startS l) (startS_len l)
      rw [tot_start, List.length_take] at htl
      have hbk := feedAll_back l 300000 (by omega) (g.take k) (startS l) (startS_len l) (back_start l _)
      obtain ⟨FA, hFA⟩ : ∃ r, feedAll l (startS l) (g.take k) = r := ⟨_, rfl⟩
      rw [hFA] at hst hown hsn htl hbk
      have hlo := ((unhide hll).below (by rw [unhide hB]; exact hbw)).wide (S' := fun b => b < wo.heap.size) (fun b (hb : b < w.heap.size) => by have := unhide hB; omega)
      have htt : tot FA.1 [] + 1 ≤ 200000 := by unfold tot at *; simp only [List.length_nil]; omega
      have hol : FA.2.length ≤ 100000 := by unfold tot at htl; omega
      have hfc := feed_any la ln lc l a c FA.1 y wo hlo (unhide hsm) (unhide hto) (hst.wide (fun b hb => hb.2.2.2)) hn hyi hbk htt
      have hft := feedS_tot l FA.1 y (by rw [hst.1, unhide hln])
      obtain ⟨FS, hFS⟩ : ∃ r, feedS l FA.1 y = r := ⟨_, rfl⟩
      rw [hFS] at hfc hsn hft
      have hsl : FS.2.length ≤ 200000 := by unfold tot at *; simp only [List.length_nil] at *; omega
      have d6 := blk_cell r6
      have i1 : (0 : Int) ≤ (k : Int) := by omega
      have i2 : (k : Int) < (gn : Int) := by omega
      clear hlo hst hbk htl htt hft hFA hy
      replace hfc := hide hfc; replace hown := hide hown; replace r4 := hide r4; replace r6 := hide r6; replace hbw := hide hbw; replace hsn := hide hsn; replace hol := hide hol; replace hsl := hide hsl; replace hFS := hide hFS
      go_wp2_with fail
      refine (unhide hfc).mono ?_
      rintro e w2 ⟨a2, a3, c3, rfl, hst2, hlo2, hb⟩
      have r62 := kept' hb (unhide r6)
      have r42 := kept' hb (unhide r4)
      have hown2 := own_belowb (unhide hown) hb
      have hbw2 := (unhide hbw).trans (hb.mono hBo)
      have hvl := hide (fun b e => ((unhide hown).lt b e).2)
      have h6lt := (Array.getElem?_eq_some_iff.1 (unhide r6)).1
      have h4lt := (Array.getElem?_eq_some_iff.1 (unhide r4)).1
      obtain ⟨b10x, V10, hb10, hV10, st⟩ := (St.start w2).new (Obj.cells #[.slice a2 ln ln] 29)
      have hbb := st.below
      have d10 := st.cell 0 rfl 0 (v := .slice a2 ln ln) rfl
      have r63 := kept' hbb r62
      have r43 := kept' hbb r42
      have hown3 := own_belowb hown2 hbb
      have hB2 : B ≤ w2.heap.size := Nat.le_trans hBo hb.size
      have hbw3 := hbw2.trans (hbb.mono hB2)
      have hst3 : Lst Enc.stg V10 (fun b => b ≠ b6 ∧ b ≠ b4 ∧ wo.heap.size ≤ b ∧ b < V10.heap.size) a2 ln FS.1 := (Lst.same (w := w2) (w' := V10) (fun b hb => hbb.block b hb.2) hst2).wide (fun b hb => ⟨by omega, by omega, hb.1, Nat.lt_of_lt_of_le hb.2 hbb.size⟩)
      have hlo3 : Lst Enc.int V10 (fun b => b ≠ b6 ∧ b < V10.heap.size) a3 FS.2.length FS.2 := (Lst.same (w := w2) (w' := V10) (fun b hb => hbb.block b hb.2) hlo2).wide (fun b hb => ⟨by omega, Nat.lt_of_lt_of_le hb.2 hbb.size⟩)
      have z0 := blk_cell r63
      have z1 : V10.frozen? ⟨b6, 0, none⟩ = false := by simp [World.frozen?, r63]
      have g6 := grown_set (w := V10) b6 0 (.slice a2 ln ln)
      have r64 := heap_set (off := 0) r63 (.slice a2 ln ln)
      have hoth : ∀ b, b ≠ b6 → (V10.setCell ⟨b6, 0, none⟩ (.slice a2 ln ln)).heap[b]? = V10.heap[b]? := fun b hb => Below.heap_setCell _ _ _ _ hb
      have hs10 : (V10.setCell ⟨b6, 0, none⟩ (.slice a2 ln ln)).heap.size = V10.heap.size := by simp [World.setCell]
      have r44 := (hoth b4 (by omega)).trans r43
      have hown4 := hown3.kept g6 (.inr (own_ne_blk hown3 r63 (by decide)))
      have hbw4 := hbw3.setCell (p := ⟨b6, 0, none⟩) hBb6 (.slice a2 ln ln)
      have hst4 := Lst.same (w' := V10.setCell ⟨b6, 0, none⟩ (.slice a2 ln ln)) (fun b hb => hoth b hb.1) hst3
      have hlo4 := Lst.same (w' := V10.setCell ⟨b6, 0, none⟩ (.slice a2 ln ln)) (fun b hb => hoth b hb.1) hlo3
      obtain ⟨W4, hW4⟩ : ∃ W, V10.setCell ⟨b6, 0, none⟩ (.slice a2 ln ln) = W := ⟨_, rfl⟩
      rw [hW4] at r64 r44 hown4 hbw4 hst4 hlo4 hs10
      have hB4 : B ≤ W4.heap.size := by rw [hs10]; exact Nat.le_trans hB2 hbb.size
      obtain ⟨m, hm⟩ : ∃ m, FS.2.length = m := ⟨_, rfl⟩
      rw [hm] at hlo4
      clear st hfc hst2 hlo2 hb r62 r42 hown2 hbw2 hbb r63 r43 hown3 hbw3 hst3 hlo3 g6 hoth r6 r4 hown hbw hc d6
      replace hb10 := hide hb10; replace hV10 := hide hV10; replace hW4 := hide hW4; replace r64 := hide r64; replace r44 := hide r44; replace hown4 := hide hown4; replace hbw4 := hide hbw4; replace hst4 := hide hst4; replace hlo4 := hide hlo4; replace hs10 := hide hs10; replace hm := hide hm
      rw [unhide hm]
      go_upto_region 7 with fail
      rw [unhide hV10]
      try rw [unhide hb10]
      go_wp2_with (at_builtin; rw [unhide hW4]; refine wpList_append_ints2 rfl _ _ rfl B _ _ _ rfl (unhide hown4) _ _ _ _ _ rfl (unhide hlo4) ?d1 hB4 ?_)
      case d1 => have := unhide hol; have := unhide hsl; have := unhide hm; omega
      intro v' w5 q1 q2 q3
      have hb5 := Below.grown (unhide hbw4) q2 hB4 (fun g e => ((unhide hown4).lt g e).1)
      have hrow : w5.ownsRow B 3 1 v' (feedAll l (startS l) (g.take (k + 1))).2.length (vints (feedAll l (startS l) (g.take (k + 1))).2) := by
        rw [unhide hsn, List.length_append, unhide hm]
        exact q1
      have hne6 := own_ne_blk (unhide hown4) (unhide r64) (by decide)
      have hne4 := own_ne_blk (unhide hown4) (unhide r44) (by decide)
      have r65 := (q2.block b6 (Array.getElem?_eq_some_iff.1 (unhide r64)).1 (fun e => hne6 e.symm)).trans (unhide r64)
      have r45 := (q2.block b4 (Array.getElem?_eq_some_iff.1 (unhide r44)).1 (fun e => hne4 e.symm)).trans (unhide r44)
      have hvlt : ∀ b, u7.ownBlock = some b → b < wo.heap.size := unhide hvl
      have hst5 : Lst Enc.stg w5 (fun b => b ≠ b6 ∧ b ≠ b4 ∧ v'.ownBlock ≠ some b ∧ b < w5.heap.size) a2 ln (feedAll l (startS l) (g.take (k + 1))).1 := by
        rw [unhide hsn]
        refine (Lst.same (w' := w5) (fun b hb => q2.block b (by rw [unhide hs10]; exact hb.2.2.2) (fun e => by have := hvlt b e.symm; omega)) (unhide hst4)).wide (fun b hb => ⟨hb.1, hb.2.1, fun e => ?_, Nat.lt_of_lt_of_le (by rw [unhide hs10]; exact hb.2.2.2) q2.size⟩)
        rcases q3 with h | h
        · have := hvlt b (h.symm.trans e); omega
        · rw [h] at e
          injection e with e
          have := unhide hs10
          omega
      clear q1 q2 q3 hne6 hne4 hown4 hbw4 hlo4 hst4 r64 r44
      replace hb5 := hide hb5; replace hrow := hide hrow; replace r65 := hide r65; replace r45 := hide r45; replace hst5 := hide hst5
      go_wp2_with fail
      go_roundw
      case rel => exact ⟨k + 1, a2, ln, by omega, by go_num, unhide r65, unhide r45, unhide hst5, unhide hrow, unhide hb5⟩
      case measure => simp [intOf]; omega
    · have hkg : g.take k = g := List.take_of_length_le (by rw [unhide hgl]; omega)
      rw [hkg] at hst hown
      have hne4 : b4 ≠ b6 := by omega
      have d6 := blk_cell r6
      have z0 := blk_cell r4
      have z1 : wo.frozen? ⟨b4, 0, none⟩ = false := by simp [World.frozen?, r4]
      have g4 := grown_set (w := wo) b4 0 (.slice a ln c)
      have r44 := blk_cell (heap_set (off := 0) r4 (.slice a ln c))
      have hown4 := hown.kept g4 (.inr (own_ne_blk hown r4 (by decide)))
      have hbw4 := hbw.setCell (p := ⟨b4, 0, none⟩) hge4 (.slice a ln c)
      have hst4 := (Lst.same (w' := wo.setCell ⟨b4, 0, none⟩ (.slice a ln c)) (fun b hb => Below.heap_setCell _ _ _ _ hb.2.1) hst).wide (S' := fun b => b < (wo.setCell ⟨b4, 0, none⟩ (.slice a ln c)).heap.size) (fun b hb => by simp [World.setCell]; exact hb.2.2.2)
      obtain ⟨W4, hW4⟩ : ∃ W, wo.setCell ⟨b4, 0, none⟩ (.slice a ln c) = W := ⟨_, rfl⟩
      rw [hW4] at r44 hown4 hbw4 hst4
      clear g4 hst hown hbw
      replace hW4 := hide hW4; replace hown4 := hide hown4; replace hbw4 := hide hbw4; replace hst4 := hide hst4; replace r4 := hide r4; replace r6 := hide r6
      go_wp2_with fail
      rw [unhide hW4]
      refine bodyPost_ret (v := .tuple #[.agg #[.slice a ln c], u7]) (by simp [results, Try.results12, go_sem, r44]) rfl ?_
      rw [unhide hB]
      exact ⟨a, c, _, rfl, unhide hst4, unhide hown4, unhide hbw4⟩
end Go.Proofs.Ytfbgbbbfpkpfkaa
