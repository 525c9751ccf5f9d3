/- The journal's next: one record. -/
import Derived.Test.YtcliegeooooonaaJn1
import Derived.Test.YtcliegeooooonaaRng
namespace Go.Proofs.Ytcliegeooooonaa
open Go.RowKit
theorem kept' {w w' : World} {b : Nat} {o : Obj} (hb : Below w.heap.size w w') (h : w.heap[b]? = some o) : w'.heap[b]? = some o := (hb.block b (Array.getElem?_eq_some_iff.1 h).1).trans h
theorem heap_set {w : World} {b off : Nat} {t : TypeId} {cs : Array Value} (h : w.heap[b]? = some (.cells cs t (0, 0))) (u : Value) : (w.setCell ⟨b, off, none⟩ u).heap[b]? = some (.cells (cs.setIfInBounds off u) t (0, 0)) := by
  simp [World.setCell, Array.getElem?_modify, h]
theorem blk_cell {w : World} {b : Nat} {v : Value} {T : TypeId} (h : w.heap[b]? = some (.cells #[v] T (0, 0))) : w.cell? ⟨b, 0, none⟩ = some v := by rw [cell_of_row w b _ _ _ _ h]; rfl
theorem own_belowb {w w' : World} {base n : Nat} {T s : Nat} {v : Value} {xs : List Value} (h : w.ownsRow base T s v n xs) (hb : Below w.heap.size w w') : w'.ownsRow base T s v n xs :=
  h.kept (row := none) (grown_of_below hb none) (by cases hv : v.ownBlock with
    | none => exact .inl rfl
    | some g => exact .inr (by simp))
/-- all but two blocks stays -/
structure Two (p q : Nat) (w w' : World) : Prop where
  os : w'.os = w.os
  tape : w'.tape = w.tape
  output : w'.output = w.output
  size : w.heap.size ≤ w'.heap.size
  block : ∀ k, k < w.heap.size → k ≠ p → k ≠ q → w'.heap[k]? = w.heap[k]?
theorem Two.of_below {p q : Nat} {w w' : World} (h : Below w.heap.size w w') : Two p q w w' := ⟨h.os, h.tape, h.output, h.size, fun k hk _ _ => h.block k hk⟩
theorem Two.below {p q B : Nat} {v w w' : World} (h : Below B v w) (ht : Two p q w w') (hB : B ≤ w.heap.size) (hp : B ≤ p) (hq : B ≤ q) : Below B v w' :=
  ⟨ht.os.trans h.os, ht.tape.trans h.tape, ht.output.trans h.output, Nat.le_trans h.size ht.size, fun k hk => (ht.block k (by omega) (by omega) (by omega)).trans (h.block k hk)⟩
theorem Two.set {p q : Nat} {w w1 : World} (h : Two p q w w1) (v : Value) : Two p q w (w1.setCell ⟨p, 0, none⟩ v) :=
  ⟨h.os, h.tape, h.output, by simp [World.setCell]; exact h.size, fun k hk h1 h2 => (Below.heap_setCell _ _ _ _ h1).trans (h.block k hk h1 h2)⟩
theorem Two.set2 {p q : Nat} {w w1 : World} (h : Two p q w w1) (v : Value) : Two p q w (w1.setCell ⟨q, 0, none⟩ v) :=
  ⟨h.os, h.tape, h.output, by simp [World.setCell]; exact h.size, fun k hk h1 h2 => (Below.heap_setCell _ _ _ _ h2).trans (h.block k hk h1 h2)⟩
theorem Two.drew {p q : Nat} {w w1 : World} (h : Two p q w w1) : Two p q w w1.drew := ⟨h.os, h.tape, h.output, h.size, h.block⟩
/-- a box that holds a string -/
def BoxS (w : World) (b : Nat) (s : List UInt8) : Prop := w.heap[b]? = some (.cells #[.string ⟨s.toArray⟩] 9 (0, 0))
def BoxP (w : World) (b q : Nat) : Prop := w.heap[b]? = some (.cells #[.pointer (some ⟨q, 0, none⟩)] 64 (0, 0))
theorem BoxS.call {w w' : World} {b : Nat} {s : List UInt8} (h : BoxS w b s) (hb : Below w.heap.size w w') : BoxS w' b s := kept' hb h
theorem BoxP.call {w w' : World} {b q : Nat} (h : BoxP w b q) (hb : Below w.heap.size w w') : BoxP w' b q := kept' hb h
theorem BoxS.lt {w : World} {b : Nat} {s : List UInt8} (h : BoxS w b s) : b < w.heap.size := (Array.getElem?_eq_some_iff.1 h).1
theorem BoxS.frz {w : World} {b : Nat} {s : List UInt8} (h : BoxS w b s) : w.frozen? ⟨b, 0, none⟩ = false := by
  have h' : w.heap[b]? = some (.cells #[.string ⟨s.toArray⟩] 9 (0, 0)) := h
  simp [World.frozen?, h']
theorem BoxS.put {w : World} {b : Nat} {s : List UInt8} (h : BoxS w b s) (t : List UInt8) : BoxS (w.setCell ⟨b, 0, none⟩ (.string ⟨t.toArray⟩)) b t := heap_set (off := 0) h _
theorem BoxS.put' {w : World} {b c : Nat} {s : List UInt8} (h : BoxS w b s) (hne : b ≠ c) (v : Value) : BoxS (w.setCell ⟨c, 0, none⟩ v) b s := (Below.heap_setCell _ _ _ _ hne).trans h
theorem BoxS.drawn {w : World} {b : Nat} {s : List UInt8} (h : BoxS w b s) (n : Nat) : BoxS { w with drawn := n } b s := h
theorem box_ne {w : World} {b c q : Nat} {s : List UInt8} (h : BoxS w b s) (k : BoxP w c q) : c ≠ b := fun e => by
  have h' : w.heap[b]? = some (.cells #[.string ⟨s.toArray⟩] 9 (0, 0)) := h
  have k' : w.heap[c]? = some (.cells #[.pointer (some ⟨q, 0, none⟩)] 64 (0, 0)) := k
  rw [e, h'] at k'
  simp at k'
/-- what next hands back and leaves -/
def NextPost (br bl : Nat) (b r : List UInt8) (w : World) (e : Ending) (w' : World) : Prop :=
  match Jn.stepR b r with
  | none => e = .returned (.tuple #[.string ⟨#[]⟩, .bool false]) ∧ Below w.heap.size w w'
  | some (s, r', b') => e = .returned (.tuple #[.string ⟨s.toArray⟩, .bool true]) ∧ BoxS w' br r' ∧ BoxS w' bl b' ∧ Two br bl w w'
theorem next_no {br bl : Nat} {b r : List UInt8} {w w' : World} (h : Jn.stepR b r = none) (hb : Below w.heap.size w w') : NextPost br bl b r w (.returned (.tuple #[.string ⟨#[]⟩, .bool false])) w' := by
  unfold NextPost
  rw [h]
  exact ⟨rfl, hb⟩
theorem next_yes {br bl : Nat} {b r s r' b' : List UInt8} {w w' : World} (h : Jn.stepR b r = some (s, r', b')) (h1 : BoxS w' br r') (h2 : BoxS w' bl b') (h3 : Two br bl w w') : NextPost br bl b r w (.returned (.tuple #[.string ⟨s.toArray⟩, .bool true])) w' := by
  unfold NextPost
  rw [h]
  exact ⟨rfl, h1, h2, h3⟩
theorem rtext_len (st : Option (List UInt8)) : (Wi.rText st).1.length ≤ (st.getD []).length := by
  cases st with
  | none => exact Nat.zero_le _
  | some s =>
    cases h : Wi.rText (some s) with
    | mk l o =>
      cases o with
      | none => have := Wi.rText_zero (st := some s) (by rw [h]); rw [h] at this; simp only at this; rw [this]; exact Nat.zero_le _
      | some r =>
        have := congrArg List.length (Wi.rText_canon h)
        simp only [Wi.txt, List.length_append, Option.getD_some] at this ⊢
        omega
set_option maxRecDepth 100000 in
set_option maxHeartbeats 2000000 in
theorem next_any (br bp bl : Nat) (b r : List UInt8) (w : World) (hr : BoxS w br r) (hp : BoxP w bp bl) (hl : BoxS w bl b) (hne : br ≠ bl) (hb0 : b.length ≤ 1000000) (hr0 : r.length ≤ 1000000000) :
    Calls Try.prog 41 #[.pointer (some ⟨br, 0, none⟩), .pointer (some ⟨bp, 0, none⟩)] w (NextPost br bl b r w) := by
  obtain ⟨bR, w1, ebR, ew1, st⟩ := (St.start w).new (Obj.cells #[.string ⟨r.toArray⟩, .bool false] 83)
  have hrd : Rd w1 bR (some r) := by rw [← ebR, ← ew1]; exact rnew_rd r w
  have hb1 := st.below
  clear st
  have d1 := blk_cell hr
  have hlt := hr.lt
  replace hrd := hide hrd; replace hb1 := hide hb1; replace hr := hide hr; replace hp := hide hp; replace hl := hide hl; replace ebR := hide ebR; replace ew1 := hide ew1
  go_enter Try.func41, Try.ntmps41
  go_wp2_with fail
  refine (rnew_any r _).mono ?_
  rintro e w1' ⟨rfl, hw1'⟩
  rw [unhide ebR]
  rw [unhide ew1] at hw1'
  rw [hw1']
  clear hw1' w1'
  have hRb := unhide ebR
  have hge : w.heap.size ≤ bR := by omega
  clear hRb ebR ew1
  have htx := rtextm_any bR (some r) w1 (unhide hrd) (by simp; omega)
  replace htx := hide htx
  go_wp2_with fail
  refine (unhide htx).mono ?_
  rintro e w2 ⟨rfl, hrd2, hg2⟩
  have hb2 : Below w.heap.size w w2 := Below.grown (unhide hb1) hg2 (unhide hb1).size (fun g e => by cases e; exact hge)
  have hsl := rtext_len (some r)
  obtain ⟨s, hs⟩ : ∃ s, (Wi.rText (some r)).1 = s := ⟨_, rfl⟩
  obtain ⟨o, ho⟩ : ∃ o, (Wi.rText (some r)).2 = o := ⟨_, rfl⟩
  rw [hs] at hsl ⊢
  rw [ho] at hrd2
  simp only [Option.getD_some] at hsl
  have hr2 := (unhide hr).call hb2
  have hp2 := (unhide hp).call hb2
  have hl2 := (unhide hl).call hb2
  have d2 := blk_cell hp2
  have d3 := blk_cell hl2
  have hrec := record_any b s w2 hb0 (by omega)
  clear htx hrd hb1 hg2 hr hp hl
  replace hrec := hide hrec; replace hb2 := hide hb2; replace hr2 := hide hr2; replace hp2 := hide hp2; replace hl2 := hide hl2; replace hs := hide hs; replace ho := hide ho; replace hrd2 := hide hrd2
  go_wp2_with fail
  refine (unhide hrec).mono ?_
  rintro e w3 ⟨rfl, hb3⟩
  have hbw := (unhide hb2).trans (hb3.mono (unhide hb2).size)
  have hr3 := (unhide hr2).call hb3
  have hp3 := (unhide hp2).call hb3
  have hl3 := (unhide hl2).call hb3
  have hrd3 : Rd w3 bR o := kept' hb3 (unhide hrd2)
  have d1 := blk_cell hr3
  have hrl : (Jn.recd b s).length ≤ 1000000000000 := by rw [Jn.recd_len]; have := txt_len s; omega
  have hcy := cutPrefix_yes r (Jn.recd b s) w3 (by omega) hrl
  have hcn := cutPrefix_no r (Jn.recd b s) w3 (by omega) hrl
  have hbad := rbad_any bR o w3 hrd3
  have hstep : Jn.stepR b r = if o.isSome ∧ Jn.recd b s <+: r then some (s, r.drop (Jn.recd b s).length, Jn.chL b s) else none := by
    unfold Jn.stepR
    rw [unhide hs, unhide ho]
  have e2 := blk_cell hp3
  have e3 := blk_cell hl3
  have f1 := hr3.frz
  have f2 := hl3.frz
  obtain ⟨RD, hRD⟩ : ∃ x, Jn.recd b s = x := ⟨_, rfl⟩
  obtain ⟨CH, hCH⟩ : ∃ x, Jn.chL b s = x := ⟨_, rfl⟩
  rw [hRD, hCH] at hstep ⊢
  rw [hRD] at hcy hcn
  clear hrec hb2 hr2 hp2 hl2 hb3 hrd2 hs ho hrd3 hRD hrl d2 d3 hsl hCH
  replace hbw := hide hbw; replace hr3 := hide hr3; replace hp3 := hide hp3; replace hl3 := hide hl3; replace hbad := hide hbad; replace hstep := hide hstep; replace hcy := hide hcy; replace hcn := hide hcn
  by_cases hpre : RD <+: r
  · have hcy' := hide (unhide hcy hpre)
    clear hcy hcn
    go_wp2_with fail
    refine (unhide hcy').mono ?_
    rintro e w4 ⟨rfl, hw4⟩
    subst hw4
    clear hcy'
    cases o with
    | none =>
      have hn : Jn.stepR b r = none := by rw [unhide hstep]; simp
      replace hn := hide hn
      go_wp2_with fail
      refine (unhide hbad).mono ?_
      rintro e w5 ⟨rfl, hw5⟩
      subst hw5
      clear hbad
      go_wp2_with fail
      go_ret2
      exact next_no (unhide hn) (unhide hbw)
    | some q =>
      have hn : Jn.stepR b r = some (s, r.drop RD.length, CH) := by rw [unhide hstep, if_pos ⟨rfl, hpre⟩]
      replace hn := hide hn
      go_wp2_with fail
      refine (unhide hbad).mono ?_
      rintro e w5 ⟨rfl, hw5⟩
      subst hw5
      clear hbad
      go_wp2_with fail
      have hne2 : bl ≠ br := fun e => hne e.symm
      have hn1 := box_ne (unhide hr3) (unhide hp3)
      have hn2 := box_ne (unhide hl3) (unhide hp3)
      go_region
      all_goals
        go_wp2_with fail
        go_ret2
        exact next_yes (unhide hn) (((unhide hr3).put (r.drop RD.length)).put' hne (.string ⟨CH.toArray⟩)) (((unhide hl3).put' hne2 (.string ⟨(r.drop RD.length).toArray⟩)).put CH) (((Two.of_below (unhide hbw)).set (.string ⟨(r.drop RD.length).toArray⟩)).set2 (.string ⟨CH.toArray⟩)).drew
  · have hcn' := hide (unhide hcn hpre)
    clear hcy hcn
    have hn : Jn.stepR b r = none := by rw [unhide hstep, if_neg (fun h => hpre h.2)]
    replace hn := hide hn
    go_wp2_with fail
    refine (unhide hcn').mono ?_
    rintro e w4 ⟨rfl, hw4⟩
    subst hw4
    clear hcn'
    cases o with
    | none =>
      go_wp2_with fail
      refine (unhide hbad).mono ?_
      rintro e w5 ⟨rfl, hw5⟩
      subst hw5
      clear hbad
      go_wp2_with fail
      go_ret2
      exact next_no (unhide hn) (unhide hbw)
    | some q =>
      go_wp2_with fail
      refine (unhide hbad).mono ?_
      rintro e w5 ⟨rfl, hw5⟩
      subst hw5
      clear hbad
      go_wp2_with fail
      go_ret2
      exact next_no (unhide hn) (unhide hbw)
end Go.Proofs.Ytcliegeooooonaa
