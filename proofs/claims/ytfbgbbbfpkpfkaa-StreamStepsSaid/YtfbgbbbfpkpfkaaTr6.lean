/- Streams: the functions that take results. -/
import Derived.Test.YtfbgbbbfpkpfkaaTr5
namespace Go.Proofs.Ytfbgbbbfpkpfkaa
open Go.RowKit
set_option maxHeartbeats 1000000 in
theorem feed1_any (Q : Nat → Prop) (bs bo : Nat) (sts : List Stg) (out : List Int) (vs : List Value) (vo : Value) (g : Int) (w : World) (h : FlowI Q bs bo w vs vo sts out) (hg : I64 g) (hb : out.length ≤ 1000000) :
    Calls Try.prog 37 #[.int .i64 g, .pointer (some ⟨bo, 0, none⟩)] w fun e w' => e = .returned (.tuple #[]) ∧ (∃ vo', FlowI Q bs bo w' vs vo' sts (out ++ [g])) ∧ Keeps Q w w' := by
  have hv : View w (fun g => ¬ Q g) vo out := h.fam.view 0 vo out rfl rfl
  obtain ⟨a, c, hs, _, _⟩ := hv.shape
  have c0 : w.cell? ⟨bo, 0, none⟩ = some (.slice a out.length c) := by rw [cell_of_row w bo _ _ _ _ h.box, hs]; rfl
  have hbel := (Below.refl w.heap.size w).alloc (Nat.le_refl _) (Obj.cells #[.int .i64 g] 3)
  have hn0 := heap_alloc_new w (Obj.cells #[.int .i64 g] 3)
  obtain ⟨b1, hb1⟩ : ∃ b, w.heap.size = b := ⟨_, rfl⟩
  have h1 := h.under hbel
  have hv1 := h1.fam.view 0 vo out rfl rfl
  have hnew := h1.new
  have hk1 := h.keeps hbel
  obtain ⟨w1, hw1⟩ : ∃ W, w.alloc (Obj.cells #[.int .i64 g] 3) = W := ⟨_, rfl⟩
  rw [hw1] at hn0 h1 hv1 hnew hk1
  rw [hb1] at hn0
  rw [hs] at hv1
  have hnum := h.numo
  clear hbel hv
  replace h1 := hide h1; replace hv1 := hide hv1; replace hnew := hide hnew; replace hk1 := hide hk1; replace hn0 := hide hn0; replace hw1 := hide hw1; replace hb1 := hide hb1; replace hnum := hide hnum; replace hs := hide hs
  clear h
  go_enter Try.func37, Try.ntmps37
  go_wp2_with (at_builtin; rw [unhide hw1]; try rw [unhide hb1]; refine wpList_append_view1 (S := fun g => ¬ Q g) rfl _ _ rfl _ out rfl (unhide hv1) (unhide hnew) b1 g rfl (unhide hn0) (by omega) ?_)
  intro v' w2 q1 q2 q3
  obtain ⟨a2, c2, hs2, _, _⟩ := q1.shape
  obtain ⟨n2, hn2⟩ : ∃ m, (out ++ [g]).length = m := ⟨_, rfl⟩
  rw [hn2] at hs2
  subst hs2
  rw [← unhide hs] at q2 q3
  obtain ⟨m1, m2⟩ := (unhide h1).mido q2
  obtain ⟨h2, k2⟩ := (unhide h1).pout q2 q1 q3 (fun y hy => by
    rcases List.mem_append.1 hy with hy | hy
    · exact unhide hnum y hy
    · simp at hy
      rw [hy]
      exact hg)
  have kf := (unhide hk1).trans k2
  obtain ⟨w3, hw3⟩ : ∃ W, w2.setCell ⟨bo, 0, none⟩ (.slice a2 n2 c2) = W := ⟨_, rfl⟩
  rw [hw3] at h2 kf
  clear q1 q2 q3 k2 h1 hk1 hv1
  replace h2 := hide h2; replace kf := hide kf; replace hw3 := hide hw3
  go_wp2_with fail
  rw [unhide hw3]
  go_end0
  exact ⟨rfl, ⟨_, unhide h2⟩, unhide kf⟩
set_option maxHeartbeats 1000000 in
theorem end1_any (Q : Nat → Prop) (bs bo : Nat) (sts : List Stg) (out : List Int) (vs : List Value) (vo : Value) (g : Int) (w : World) (h : FlowI Q bs bo w vs vo sts out) (hg : I64 g) (hb : out.length ≤ 1000000) :
    Calls Try.prog 33 #[.int .i64 g, .pointer (some ⟨bo, 0, none⟩)] w fun e w' => e = .returned (.tuple #[]) ∧ (∃ vo', FlowI Q bs bo w' vs vo' sts (out ++ [g])) ∧ Keeps Q w w' := by
  have hv : View w (fun g => ¬ Q g) vo out := h.fam.view 0 vo out rfl rfl
  obtain ⟨a, c, hs, _, _⟩ := hv.shape
  have c0 : w.cell? ⟨bo, 0, none⟩ = some (.slice a out.length c) := by rw [cell_of_row w bo _ _ _ _ h.box, hs]; rfl
  have hbel := (Below.refl w.heap.size w).alloc (Nat.le_refl _) (Obj.cells #[.int .i64 g] 3)
  have hn0 := heap_alloc_new w (Obj.cells #[.int .i64 g] 3)
  obtain ⟨b1, hb1⟩ : ∃ b, w.heap.size = b := ⟨_, rfl⟩
  have h1 := h.under hbel
  have hv1 := h1.fam.view 0 vo out rfl rfl
  have hnew := h1.new
  have hk1 := h.keeps hbel
  obtain ⟨w1, hw1⟩ : ∃ W, w.alloc (Obj.cells #[.int .i64 g] 3) = W := ⟨_, rfl⟩
  rw [hw1] at hn0 h1 hv1 hnew hk1
  rw [hb1] at hn0
  rw [hs] at hv1
  have hnum := h.numo
  clear hbel hv
  replace h1 := hide h1; replace hv1 := hide hv1; replace hnew := hide hnew; replace hk1 := hide hk1; replace hn0 := hide hn0; replace hw1 := hide hw1; replace hb1 := hide hb1; replace hnum := hide hnum; replace hs := hide hs
  clear h
  go_enter Try.func33, Try.ntmps33
  go_wp2_with (at_builtin; rw [unhide hw1]; try rw [unhide hb1]; refine wpList_append_view1 (S := fun g => ¬ Q g) rfl _ _ rfl _ out rfl (unhide hv1) (unhide hnew) b1 g rfl (unhide hn0) (by omega) ?_)
  intro v' w2 q1 q2 q3
  obtain ⟨a2, c2, hs2, _, _⟩ := q1.shape
  obtain ⟨n2, hn2⟩ : ∃ m, (out ++ [g]).length = m := ⟨_, rfl⟩
  rw [hn2] at hs2
  subst hs2
  rw [← unhide hs] at q2 q3
  obtain ⟨m1, m2⟩ := (unhide h1).mido q2
  obtain ⟨h2, k2⟩ := (unhide h1).pout q2 q1 q3 (fun y hy => by
    rcases List.mem_append.1 hy with hy | hy
    · exact unhide hnum y hy
    · simp at hy
      rw [hy]
      exact hg)
  have kf := (unhide hk1).trans k2
  obtain ⟨w3, hw3⟩ : ∃ W, w2.setCell ⟨bo, 0, none⟩ (.slice a2 n2 c2) = W := ⟨_, rfl⟩
  rw [hw3] at h2 kf
  clear q1 q2 q3 k2 h1 hk1 hv1
  replace h2 := hide h2; replace kf := hide kf; replace hw3 := hide hw3
  go_wp2_with fail
  rw [unhide hw3]
  go_end0
  exact ⟨rfl, ⟨_, unhide h2⟩, unhide kf⟩
/-- what a function that takes glyphs for the stages from k on does -/
def SinkOK (L : List (Nat × Obj)) (bs bo : Nat) (la : Option Addr) (ln : Nat) (l : List (List Sub)) (k : Nat) (fid : FuncId) (caps : Array Value) : Prop :=
  ∀ (Q : Nat → Prop) (w : World) (pre ss : List Stg) (out : List Int) (vs : List Value) (vo : Value) (g : Int), (∀ p ∈ L, Q p.1 ∧ w.heap[p.1]? = some p.2) → Lst Enc.lk w Q la ln l → FlowI Q bs bo w vs vo (pre ++ ss) out → pre.length = k → ss.length = (l.drop k).length → I64 g →
    tot (pre ++ ss) out + 1 ≤ 200000 → (∀ s ∈ pre ++ ss, s.1.length ≤ 300000) →
    Calls Try.prog fid (#[.int .i64 g] ++ caps) w fun e w' => e = .returned (.tuple #[]) ∧ (∃ vs' vo', FlowI Q bs bo w' vs' vo' (pre ++ (feedS (l.drop k) ss g).1) (out ++ (feedS (l.drop k) ss g).2)) ∧ Keeps Q w w'
theorem sinkOK_feed (bs bo : Nat) (la : Option Addr) (ln : Nat) (l : List (List Sub)) : SinkOK [] bs bo la ln l l.length 37 #[.pointer (some ⟨bo, 0, none⟩)] := by
  intro Q w pre ss out vs vo g _ _ h _ hs hg ht _
  have hd : l.drop l.length = [] := List.drop_length
  rw [hd] at hs ⊢
  have : ss = [] := List.eq_nil_of_length_eq_zero hs
  subst this
  refine (feed1_any Q bs bo _ out vs vo g w h hg (by unfold tot at ht; omega)).mono fun e w' ⟨h1, ⟨vo', h2⟩, h3⟩ => ⟨h1, ⟨vs, vo', ?_⟩, h3⟩
  simpa [feedS] using h2
theorem sinkOK_end (bs bo : Nat) (la : Option Addr) (ln : Nat) (l : List (List Sub)) : SinkOK [] bs bo la ln l l.length 33 #[.pointer (some ⟨bo, 0, none⟩)] := by
  intro Q w pre ss out vs vo g _ _ h _ hs hg ht _
  have hd : l.drop l.length = [] := List.drop_length
  rw [hd] at hs ⊢
  have : ss = [] := List.eq_nil_of_length_eq_zero hs
  subst this
  refine (end1_any Q bs bo _ out vs vo g w h hg (by unfold tot at ht; omega)).mono fun e w' ⟨h1, ⟨vo', h2⟩, h3⟩ => ⟨h1, ⟨vs, vo', ?_⟩, h3⟩
  simpa [feedS] using h2

/-! ### how many glyphs there are -/
theorem tot_nil (out : List Int) : tot [] out = out.length := by simp [tot]
theorem tot_app (a b : List Stg) (out : List Int) : tot (a ++ b) out = (a.map fun s => s.2.length).sum + tot b out := by
  unfold tot
  rw [List.map_append, List.sum_append]
  omega
theorem tot_cons (s : Stg) (ss : List Stg) (out : List Int) : tot (s :: ss) out = s.2.length + tot ss out := by
  unfold tot
  rw [List.map_cons, List.sum_cons]
  omega
theorem tot_out (ss : List Stg) (a b : List Int) : tot ss (a ++ b) = tot ss a + b.length := by
  unfold tot
  rw [List.length_append]
  omega
/-- a glyph more at most, and no Back gets longer than 2 -/
theorem feedS_tot : ∀ (l : List (List Sub)) (ss : List Stg) (g : Int), ss.length = l.length → tot (feedS l ss g).1 (feedS l ss g).2 ≤ tot ss [] + 1 := by
  intro l
  induction l with
  | nil =>
    intro ss g h
    have : ss = [] := List.eq_nil_of_length_eq_zero h
    subst this
    simp [feedS, tot]
  | cons x xs ih =>
    intro ss g h
    cases ss with
    | nil => simp at h
    | cons s ss =>
      have hl : ∀ (f : Nat) (s : Stg) (ss : List Stg), ss.length = xs.length → (loopS (winS x) x (feedS xs) f s ss).1.1.2.length + tot (loopS (winS x) x (feedS xs) f s ss).1.2 (loopS (winS x) x (feedS xs) f s ss).2 ≤ s.2.length + tot ss [] := by
        intro f
        induction f with
        | zero => intro s ss _; exact Nat.le_refl _
        | succ f ihf =>
          intro s ss h
          unfold loopS
          split
          · have h1 := ih ss (decO x s) h
            have h2 := ihf (decS x s) (feedS xs ss (decO x s)).1 (feedS_len _ _ _ h)
            rw [decS_wait] at h2
            have hw := winS_pos x
            have h3 := decN_bd x s (by omega)
            generalize feedS xs ss (decO x s) = r at *
            generalize loopS (winS x) x (feedS xs) f (decS x s) r.1 = q at *
            unfold tot at *
            simp only [List.length_append, List.length_nil] at *
            omega
          · exact Nat.le_refl _
      have h4 := hl (s.2.length + 1) (s.1, s.2 ++ [g]) ss (by simpa using h)
      simp only [feedS]
      rw [tot_cons, tot_cons]
      simp only [List.length_append, List.length_cons, List.length_nil] at h4
      omega
theorem feedS_back : ∀ (l : List (List Sub)) (ss : List Stg) (g : Int) (m : Nat), 2 ≤ m → ss.length = l.length → (∀ s ∈ ss, s.1.length ≤ m) → ∀ s ∈ (feedS l ss g).1, s.1.length ≤ m := by
  intro l
  induction l with
  | nil => intro ss g m _ _ h; exact h
  | cons x xs ih =>
    intro ss g m hm hlen h
    cases ss with
    | nil => simp at hlen
    | cons s ss =>
      have hl : ∀ (f : Nat) (s : Stg) (ss : List Stg), ss.length = xs.length → s.1.length ≤ m → (∀ t ∈ ss, t.1.length ≤ m) → (loopS (winS x) x (feedS xs) f s ss).1.1.1.length ≤ m ∧ ∀ t ∈ (loopS (winS x) x (feedS xs) f s ss).1.2, t.1.length ≤ m := by
        intro f
        induction f with
        | zero => intro s ss _ h1 h2; exact ⟨h1, h2⟩
        | succ f ihf =>
          intro s ss h0 h1 h2
          unfold loopS
          split
          · exact ihf _ _ (feedS_len _ _ _ h0) (Nat.le_trans (last2_len _) hm) (ih _ _ m hm h0 h2)
          · exact ⟨h1, h2⟩
      intro t ht
      simp only [feedS] at ht
      have := hl (s.2.length + 1) (s.1, s.2 ++ [g]) ss (by simpa using hlen) (h s (by simp)) (fun t ht => h t (by simp [ht]))
      rcases List.mem_cons.1 ht with rfl | ht
      · exact this.1
      · exact this.2 t ht
end Go.Proofs.Ytfbgbbbfpkpfkaa
