/- The journal's records: the iterator. -/
import Derived.Test.YtcliegeooooonaaJn3
import Derived.OwnWalkIn
import Derived.TacticsInMore
import Derived.LoopNIn
import Derived.LoopIn
import Derived.RangeFuncBound
namespace Go.Proofs.Ytcliegeooooonaa
open Go.RowKit
attribute [local go_sem ↓] Go.wp_at_zero Go.wp_at_succ
theorem BoxP.put' {w : World} {b q c : Nat} (h : BoxP w b q) (hne : b ≠ c) (v : Value) : BoxP (w.setCell ⟨c, 0, none⟩ v) b q := (Below.heap_setCell _ _ _ _ hne).trans h
def b0L : List UInt8 := Dg.dig []
set_option maxRecDepth 100000 in
set_option maxHeartbeats 1000000 in
theorem records_any (all x : List UInt8) (bl : Nat) (w : World) (hl : BoxS w bl x) :
    Calls Try.prog 32 #[.string ⟨all.toArray⟩, .pointer (some ⟨bl, 0, none⟩)] w fun e w' => ∃ ball bp, e = .returned (.func (.func 40) #[] #[.pointer (some ⟨ball, 0, none⟩), .pointer (some ⟨bp, 0, none⟩)]) ∧ w.heap.size ≤ ball ∧ w.heap.size ≤ bp ∧ BoxS w' ball all ∧ BoxP w' bp bl ∧ BoxS w' bl b0L ∧ Two bl bl w w' := by
  have hof := fun w => dOf_any ⟨#[]⟩ w (by decide)
  rw [show (Dg.dig (⟨#[]⟩ : ByteArray).data.toList) = b0L from rfl] at hof
  obtain ⟨ball, bp, w1, e1, e2, ew, st⟩ := St.new2 w (Obj.cells #[.string ⟨all.toArray⟩] 9) (Obj.cells #[.pointer (some ⟨bl, 0, none⟩)] 64)
  have hb1 := st.below
  have ha : BoxS w1 ball all := st.get 1 rfl
  have hp : BoxP w1 bp bl := st.get 0 rfl
  have hl1 := hl.call hb1
  have hlt := hl.lt
  have g1 : w.heap.size ≤ ball := by omega
  have g2 : w.heap.size ≤ bp := by omega
  clear st
  replace e1 := hide e1; replace e2 := hide e2; replace ew := hide ew; replace hof := hide hof; replace hb1 := hide hb1; replace ha := hide ha; replace hp := hide hp; replace hl := hide hl; replace hl1 := hide hl1
  go_enter Try.func32, Try.ntmps32
  go_upto_region 1 with fail
  rw [unhide ew]
  try rw [unhide e2]
  try rw [unhide e1]
  clear ew e1 e2
  obtain ⟨v, rfl⟩ : ∃ v : World, v = w1 := ⟨_, rfl⟩
  have d1 := blk_cell (unhide hp)
  have d2 := blk_cell (unhide hl1)
  have hall : ∀ w2, Below v.heap.size v w2 → w2.cell? ⟨bp, 0, none⟩ = some (.pointer (some ⟨bl, 0, none⟩)) ∧ w2.cell? ⟨bl, 0, none⟩ = some (.string ⟨x.toArray⟩) ∧ w2.frozen? ⟨bl, 0, none⟩ = false ∧ BoxS w2 ball all ∧ BoxP w2 bp bl ∧ BoxS w2 bl x ∧ Below w.heap.size w w2 := fun w2 h => ⟨blk_cell ((unhide hp).call h), blk_cell ((unhide hl1).call h), ((unhide hl1).call h).frz, (unhide ha).call h, (unhide hp).call h, (unhide hl1).call h, (unhide hb1).trans (h.mono (unhide hb1).size)⟩
  replace hall := hide hall
  have hdr : Below v.heap.size v v.drew := (Below.refl _ _).drew
  replace hdr := hide hdr
  clear hb1 ha hl1
  have n1 : ball ≠ bl := by omega
  have n2 : bp ≠ bl := by omega
  go_region_with ((go_at_call 39; refine (unhide hof _).mono ?_; rintro e w2 ⟨rfl, hb2⟩; obtain ⟨q1, q2, q3, q4, q5, q6, q7⟩ := unhide hall w2 ((unhide hdr).trans hb2); replace q4 := hide q4; replace q5 := hide q5; replace q6 := hide q6; replace q7 := hide q7; clear hb2))
  all_goals
    go_wp2_with fail
    go_ret
    exact ⟨ball, bp, rfl, g1, g2, (unhide q4).put' n1 _, (unhide q5).put' n2 _, (unhide q6).put b0L, (Two.of_below (unhide q7)).set _⟩
/-- what the loop knows at its head -/
def Hd (V : World) (B b2 b3 bl ball bp br : Nat) (b0 all : List UInt8) (LA : World → Prop) (v6 v7 : Value) (W : World) : Prop :=
  (∃ (s : List UInt8) (L : List (List UInt8)) (n : Nat) (r b : List UInt8), v6 = .string ⟨s.toArray⟩ ∧ v7 = .bool true ∧ JS V B (br + 1) b2 b3 bl ball bp all L n b W ∧ BoxS W br r ∧ LA W ∧ Jn.good b0 all = (L ++ s :: (Jn.good b r).1, (Jn.good b r).2) ∧ r.length ≤ all.length ∧ b.length = 8) ∨
  (∃ (L : List (List UInt8)) (n : Nat) (r b : List UInt8), v6 = .string ⟨#[]⟩ ∧ v7 = .bool false ∧ JS V B (br + 1) b2 b3 bl ball bp all L n b W ∧ LA W ∧ Jn.good b0 all = (L, r, b) ∧ n = all.length - r.length)
def okV : Value → Nat
  | .bool true => 1
  | _ => 0
def boxLen (w : World) (b : Nat) : Nat :=
  match w.cell? ⟨b, 0, none⟩ with
  | some (.string s) => s.size
  | _ => 0
theorem boxLen_of {w : World} {b : Nat} {s : List UInt8} (h : BoxS w b s) : boxLen w b = s.length := by
  unfold boxLen
  rw [blk_cell h]
  exact ba_size s
set_option maxRecDepth 100000 in
set_option maxHeartbeats 4000000 in
theorem iter_in (n l D : Nat) (V : World) (B R0 b2 b3 bl ball bp : Nat) (all b0 : List UInt8) (W : World) (fn : FuncId) (tmps : Array Value) (ps : Array Tmp) (assign body : Code)
    (hJ : JS V B R0 b2 b3 bl ball bp all [] 0 b0 W) (hnil : W.heap[b2]? = some (.cells #[.slice none 0 0] 40 (0, 0))) (hall : all.length ≤ 1000000000) (hb0 : b0.length = 8) (hL : LoopAt fn tmps ps assign body D l W)
    (hround : ∀ br r L k b s k' W, JS V B (br + 1) b2 b3 bl ball bp all L k b W → BoxS W br r → B ≤ br → LoopAt fn tmps ps assign body D l W → k' ≤ 1000000000 → L.length ≤ 1000000000 →
      YieldAt Fence.wide (n - 1) Try.prog l #[.string ⟨(s : List UInt8).toArray⟩, .int .i64 ((k' : Nat) : Int)] W fun e W' => e = .returned (.bool true) ∧ JS V B (br + 1) b2 b3 bl ball bp all (L ++ [s]) k' b W' ∧ BoxS W' br r ∧ LoopAt fn tmps ps assign body D l W') :
    CallsIn Fence.wide n Try.prog 40 #[.func (.yield l) #[] #[], .pointer (some ⟨ball, 0, none⟩), .pointer (some ⟨bp, 0, none⟩)] W fun e W' => (∃ v, e = .returned v) ∧ ∃ R, JS V B R b2 b3 bl ball bp all (Jn.good b0 all).1 (all.length - (Jn.good b0 all).2.1.length) (Jn.good b0 all).2.2 W' ∧ LoopAt fn tmps ps assign body D l W' := by
  obtain ⟨br, V1, ebr, eV, st⟩ := (St.start W).new (Obj.cells #[.string ⟨all.toArray⟩] 9)
  have hb1 := st.below
  have hbr : BoxS V1 br all := st.get 0 rfl
  clear st
  have hJ1 : JS V B (br + 1) b2 b3 bl ball bp all [] 0 b0 V1 := by
    have h := hJ.call hb1
    have hh := hJ.hi
    have hR := hJ.hR
    have hlt := hbr.lt
    exact ⟨h.bel, h.lo, ⟨by omega, by omega, by omega, by omega, by omega⟩, by omega, h.ne, ⟨_, kept' hb1 hnil, World.ownsRow_nil _ _ _ _⟩, h.len, h.last, h.whole, h.ptr⟩
  have hL1 := hL.kept (keeps_below hb1)
  have hBr : B ≤ br := by have := hJ.hB; omega
  have n1 : br ≠ bl := by have := hJ.hi.2.2.1; have := hJ.hR; omega
  have n2 : br ≠ ball := by have := hJ.hi.2.2.2.1; have := hJ.hR; omega
  have hnx := next_any br bp bl b0 all V1 hbr hJ1.ptr hJ1.last n1 (by omega) hall
  have d1 := blk_cell hJ.whole
  clear hnil
  replace ebr := hide ebr; replace eV := hide eV; replace hb1 := hide hb1; replace hbr := hide hbr; replace hJ1 := hide hJ1; replace hL1 := hide hL1; replace hnx := hide hnx; replace hround := hide hround; replace hJ := hide hJ; replace hL := hide hL; replace hb0 := hide hb0
  refine callsIn_of_wp Try.func40 rfl trivial ?_
  simp only [Try.ntmps40, List.size_toArray, List.length_cons, List.length_nil, Nat.reduceAdd, Nat.reduceSub, Array.replicate_succ, Array.replicate_zero, List.push_toArray, List.append_toArray, List.nil_append, List.cons_append]
  refine wpIn_wide.2 ?_
  go_upto_region 1 with fail
  rw [unhide eV]
  rw [unhide ebr]
  clear eV ebr hJ hL hb1
  go_upto_region 2 with fail
  go_cut [6, 7] (fun v6 v7 wr => Hd V B b2 b3 bl ball bp br b0 all (LoopAt fn tmps ps assign body D l) v6 v7 wr)
  case first =>
    go_wp2_with fail
    refine (unhide hnx).mono ?_
    intro e W1 hpost
    unfold NextPost at hpost
    cases hst : Jn.stepR b0 all with
    | none =>
      rw [hst] at hpost
      obtain ⟨rfl, hb⟩ := hpost
      have hfin : Hd V B b2 b3 bl ball bp br b0 all (LoopAt fn tmps ps assign body D l) (.string ⟨#[]⟩) (.bool false) W1 := .inr ⟨[], 0, all, b0, rfl, rfl, (unhide hJ1).call hb, (unhide hL1).kept (keeps_below hb), Jn.good_none hst, by omega⟩
      replace hfin := hide hfin
      clear hb hst
      go_wp2_with fail
      go_meet
      exact unhide hfin
    | some p =>
      obtain ⟨s, r', b'⟩ := p
      rw [hst] at hpost
      obtain ⟨rfl, q1, q2, q3⟩ := hpost
      have hfin : Hd V B b2 b3 bl ball bp br b0 all (LoopAt fn tmps ps assign body D l) (.string ⟨s.toArray⟩) (.bool true) W1 := .inl ⟨s, [], 0, r', b', rfl, rfl, (unhide hJ1).next (unhide hbr) hBr (by omega) n2 q3 q2, q1, (unhide hL1).kept (keeps_two q3 (unhide hbr) (unhide hJ1).last), by rw [Jn.good_some hst]; rfl, Nat.le_of_lt (Jn.step_less hst), by rw [(Jn.stepR_some hst).2]; exact Jn.chL_len _ _⟩
      replace hfin := hide hfin
      clear q1 q2 q3 hst
      go_wp2_with fail
      go_meet
      exact unhide hfin
  case rest =>
    clear hnx hJ1 hL1 hbr d1
    replace hcut := hide hcut
    go_wp2_with fail
    go_loopw [6, 7] (fun v6 v7 wr => Hd V B b2 b3 bl ball bp br b0 all (LoopAt fn tmps ps assign body D l) v6 v7 wr) (fun _ v7 wr => okV v7 * (boxLen wr br + 1))
    case atStart => exact unhide hcut
    case round =>
      clear hcut
      obtain ⟨wo, rfl⟩ : ∃ wo : World, wo = wr := ⟨_, rfl⟩
      rcases hrel with ⟨s, L, k, r, b, rfl, rfl, hj, hbr, hla, hgood, hrl, hb8⟩ | ⟨L, k, r, b, rfl, rfl, hj, hla, hgood, hk⟩
      · have hLn : L.length ≤ 1000000000 := by
          have h1 := Jn.recs_count b0 (Jn.good b0 all).1
          have h2 := congrArg List.length (Jn.good_eq b0 all)
          rw [List.length_append] at h2
          rw [hgood] at h1 h2
          simp only [List.length_append, List.length_cons] at h1 h2
          omega
        have hy := unhide hround br r L k b s (all.length - r.length) wo hj hbr hBr hla (by omega) hLn
        rw [show ((all.length - r.length : Nat) : Int) = (all.length : Int) - (r.length : Int) by omega] at hy
        obtain ⟨gn, gt, ga, gb, gy, hR⟩ := hy
        have d1 := blk_cell hj.whole
        have d2 := blk_cell hbr
        have z1 : (⟨all.toArray⟩ : ByteArray).size = all.length := ba_size all
        have z2 : (⟨r.toArray⟩ : ByteArray).size = r.length := ba_size r
        replace hj := hide hj; replace hla := hide hla; replace hgood := hide hgood; replace hbr := hide hbr; replace hb8 := hide hb8
        refine (wpIn_wide (n := n)).1 ?_
        gi_wp2
        refine ⟨fun h => (by cases h), ?_⟩
        refine hR.mono ?_
        rintro e W3 ⟨rfl, hj3, hbr3, hla3⟩
        have hnx3 := next_any br bp bl b r W3 hbr3 hj3.ptr hj3.last n1 (by rw [unhide hb8]; omega) (by omega)
        have mo := boxLen_of (unhide hbr)
        clear hR d1 d2 z1 z2 hj hbr hla gy
        replace hj3 := hide hj3; replace hla3 := hide hla3; replace hbr3 := hide hbr3; replace hnx3 := hide hnx3; replace mo := hide mo
        gi_wp2
        refine ⟨trivial, fun h => (by cases h), (callsIn_wide.2 (unhide hnx3)).mono ?_⟩
        intro e W4 hpost
        unfold NextPost at hpost
        cases hst : Jn.stepR b r with
        | none =>
          rw [hst] at hpost
          obtain ⟨rfl, hb⟩ := hpost
          have hfin : Hd V B b2 b3 bl ball bp br b0 all (LoopAt fn tmps ps assign body D l) (.string ⟨#[]⟩) (.bool false) W4 := .inr ⟨L ++ [s], all.length - r.length, r, b, rfl, rfl, (unhide hj3).call hb, (unhide hla3).kept (keeps_below hb), by rw [unhide hgood, Jn.good_none hst], rfl⟩
          replace hfin := hide hfin
          clear hb hst hgood hnx3
          gi_wp2
          go_roundw
          case rel => exact unhide hfin
          case measure => rw [unhide mo]; simp [okV]
        | some p =>
          obtain ⟨s2, r', b'⟩ := p
          rw [hst] at hpost
          obtain ⟨rfl, q1, q2, q3⟩ := hpost
          have hless := Jn.step_less hst
          have hfin : Hd V B b2 b3 bl ball bp br b0 all (LoopAt fn tmps ps assign body D l) (.string ⟨s2.toArray⟩) (.bool true) W4 := .inl ⟨s2, L ++ [s], all.length - r.length, r', b', rfl, rfl, (unhide hj3).next (unhide hbr3) hBr (by omega) n2 q3 q2, q1, (unhide hla3).kept (keeps_two q3 (unhide hbr3) (unhide hj3).last), by rw [unhide hgood, Jn.good_some hst]; simp, by omega, by rw [(Jn.stepR_some hst).2]; exact Jn.chL_len _ _⟩
          have m1 := boxLen_of q1
          replace hfin := hide hfin; replace m1 := hide m1
          clear q1 q2 q3 hst hgood hnx3
          gi_wp2
          go_roundw
          case rel => exact unhide hfin
          case measure => rw [unhide mo, unhide m1]; simp [okV]; omega
      · have hfin : ∃ R, JS V B R b2 b3 bl ball bp all (Jn.good b0 all).1 (all.length - (Jn.good b0 all).2.1.length) (Jn.good b0 all).2.2 wo ∧ LoopAt fn tmps ps assign body D l wo := ⟨br + 1, by rw [hgood, ← hk]; exact hj, hla⟩
        clear hj hla hgood hk hround
        replace hfin := hide hfin
        go_wp2_with fail
        go_end0
        exact ⟨⟨_, rfl⟩, unhide hfin⟩
end Go.Proofs.Ytcliegeooooonaa
