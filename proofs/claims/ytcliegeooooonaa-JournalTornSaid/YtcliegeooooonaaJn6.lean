/- The journal's Crash, Sync, Open, Append. -/
import Derived.Test.YtcliegeooooonaaJn5
namespace Go.Proofs.Ytcliegeooooonaa
open Go.RowKit
theorem kept2 {w w' : World} {b : Nat} {o : Obj} (hb : Below w.heap.size w w') (h : w.heap[b]? = some o) : w'.heap[b]? = some o := kept' hb h
def dk (s p : List UInt8) : Value := .agg #[.string ⟨s.toArray⟩, .string ⟨p.toArray⟩]
def crN (p : List UInt8) (n : Int) : Nat := if n < 0 then 0 else if (p.length : Int) < n then p.length else n.toNat
theorem crN_le (p : List UInt8) (n : Int) : crN p n ≤ p.length := by unfold crN; split <;> (try split) <;> omega
set_option maxRecDepth 100000 in
set_option maxHeartbeats 1000000 in
theorem crash_any (s p : List UInt8) (n : Int) (w : World) (_ : I64 n) (hs : s.length ≤ 100000000) (hp : p.length ≤ 100000000) :
    Calls Try.prog 17 #[dk s p, .int .i64 n] w fun e w' => e = .returned (dk (s ++ p.take (crN p n)) []) ∧ Below w.heap.size w w' := by
  obtain ⟨bd, br, w1, e1, e2, ew, st⟩ := St.new2 w (Obj.cells #[.string ⟨s.toArray⟩, .string ⟨p.toArray⟩] 27) (Obj.cells #[.string ⟨#[]⟩, .string ⟨#[]⟩] 27)
  have hb1 := st.below
  have d0 := st.cell 1 rfl 0 rfl
  have d1 := st.cell 1 rfl 1 rfl
  have z1 : (⟨p.toArray⟩ : ByteArray).size = p.length := ba_size p
  obtain ⟨q, hq⟩ : ∃ q, crN p n = q := ⟨_, rfl⟩
  have hql : q ≤ p.length := by rw [← hq]; exact crN_le p n
  have hx : (⟨p.toArray⟩ : ByteArray).extract 0 q = ⟨(p.take q).toArray⟩ := ba_take p q
  have ha : ∀ w, (Op.stringOp .add ⟨s.toArray⟩ ⟨(p.take q).toArray⟩).run Try.prog w = .ok (.string ⟨(s ++ p.take q).toArray⟩) w := fun w => str_add2 _ _ (by rw [List.length_take]; omega)
  have hm : max (0 : Int) (min (p.length : Int) n) = (q : Int) := by
    rw [← hq]; unfold crN; split <;> (try split) <;> omega
  have i1 : (q : Int) ≤ (p.length : Int) := by omega
  have c0 := st.cell 0 rfl 0 rfl
  have c1 := st.cell 0 rfl 1 rfl
  have f0 := st.free 0 rfl 0
  have f1 := st.free 0 rfl 1
  rw [hq]
  clear hq
  replace e1 := hide e1; replace e2 := hide e2; replace ew := hide ew; replace hb1 := hide hb1; replace hm := hide hm
  unfold dk
  go_enter Try.func17, Try.ntmps17
  go_upto_region 1 with fail
  rw [unhide ew]
  try rw [unhide e2]
  try rw [unhide e1]
  go_upto_region 2 with fail
  rw [unhide hm]
  clear hm
  have hge : w.heap.size ≤ br := by have := unhide e1; have := unhide e2; omega
  go_region
  go_wp2_with fail
  exact bodyPost_ret (v := .agg #[.string ⟨(s ++ p.take q).toArray⟩, .string ⟨#[]⟩]) (by simp [results, Try.results17, go_sem, c0, c1]) rfl ⟨rfl, (((unhide hb1).setCell (p := ⟨br, 0, none⟩) hge _).setCell (p := ⟨br, 1, none⟩) hge _).drew⟩
set_option maxRecDepth 100000 in
set_option maxHeartbeats 1000000 in
theorem sync_any (s p : List UInt8) (w : World) (hs : s.length ≤ 100000000) (hp : p.length ≤ 100000000) :
    Calls Try.prog 15 #[dk s p] w fun e w' => e = .returned (dk (s ++ p) []) ∧ Below w.heap.size w w' := by
  obtain ⟨bd, br, w1, e1, e2, ew, st⟩ := St.new2 w (Obj.cells #[.string ⟨s.toArray⟩, .string ⟨p.toArray⟩] 27) (Obj.cells #[.string ⟨#[]⟩, .string ⟨#[]⟩] 27)
  have hb1 := st.below
  have d0 := st.cell 1 rfl 0 rfl
  have d1 := st.cell 1 rfl 1 rfl
  have h0 := st.get 0 rfl
  have z1 : (⟨p.toArray⟩ : ByteArray).size = p.length := ba_size p
  have hc := crash_any s p (p.length : Int) w1 ⟨by omega, by omega⟩ hs hp
  rw [show crN p (p.length : Int) = p.length by unfold crN; split <;> (try split) <;> omega, List.take_length] at hc
  clear st
  replace e1 := hide e1; replace e2 := hide e2; replace ew := hide ew; replace hb1 := hide hb1; replace hc := hide hc; replace h0 := hide h0
  unfold dk
  go_enter Try.func15, Try.ntmps15
  go_upto_region 1 with fail
  rw [unhide ew]
  try rw [unhide e2]
  try rw [unhide e1]
  have hge : w.heap.size ≤ br := by have := unhide e1; have := unhide e2; omega
  go_wp2_with fail
  refine (unhide hc).mono ?_
  rintro e w2 ⟨rfl, hb2⟩
  have h2 := kept2 hb2 (unhide h0)
  have c0 := cell_of_row _ _ 0 _ _ _ h2
  have c1 := cell_of_row _ _ 1 _ _ _ h2
  have f0 : w2.frozen? ⟨br, 0, none⟩ = false := by simp [World.frozen?, h2]
  have f1 : w2.frozen? ⟨br, 1, none⟩ = false := by simp [World.frozen?, h2]
  have hbw := (unhide hb1).trans (hb2.mono (unhide hb1).size)
  unfold dk
  clear hc hb1 hb2 h0 h2 d0 d1
  replace hbw := hide hbw
  go_wp2_with fail
  exact bodyPost_ret (v := .agg #[.string ⟨(s ++ p).toArray⟩, .string ⟨#[]⟩]) (by simp [results, Try.results15, go_sem, c0, c1]) rfl ⟨rfl, ((unhide hbw).setCell (p := ⟨br, 0, none⟩) hge _).setCell (p := ⟨br, 1, none⟩) hge _⟩
/-- what Open hands back -/
def opN (all : List UInt8) : Nat := all.length - (Jn.good b0L all).2.1.length
def opK (s p : List UInt8) : Nat := min (opN (s ++ p)) s.length
def OpenPost (s p : List UInt8) (w : World) (e : Ending) (w' : World) : Prop :=
  ∃ v, e = .returned (.tuple #[v, dk ((s ++ p).take (opK s p)) (((s ++ p).drop (opK s p)).take (opN (s ++ p) - opK s p))]) ∧ w'.ownsRow w.heap.size 9 1 v (Jn.good b0L (s ++ p)).1.length ((Jn.good b0L (s ++ p)).1.map vl) ∧ Below w.heap.size w w'
theorem own_set {w : World} {B b off : Nat} {e : TypeId} {n k : Nat} {v x : Value} {xs : List Value} (h : w.ownsRow B e n v k xs) (hb : b < B) : (w.setCell ⟨b, off, none⟩ x).ownsRow B e n v k xs :=
  own_same h fun c hc => by
    have hne : c ≠ b := by have := (h.lt c hc).1; omega
    exact Below.heap_setCell _ _ _ _ hne
set_option maxRecDepth 100000 in
set_option maxHeartbeats 2000000 in
theorem open_any (s p : List UInt8) (w : World) (hs : s.length ≤ 100000000) (hp : p.length ≤ 100000000) :
    Calls Try.prog 19 #[dk s p] w (OpenPost s p w) := by
  obtain ⟨bd, br, w1, e1, e2, ew, st⟩ := St.new2 w (Obj.cells #[.string ⟨s.toArray⟩, .string ⟨p.toArray⟩] 27) (Obj.cells #[.string ⟨#[]⟩, .string ⟨#[]⟩] 27)
  have hb1 := st.below
  have d0 := st.cell 1 rfl 0 rfl
  have d1 := st.cell 1 rfl 1 rfl
  have h0 := st.get 0 rfl
  have hD := st.get 1 rfl
  have z1 : (⟨s.toArray⟩ : ByteArray).size = s.length := ba_size s
  obtain ⟨all, hall⟩ : ∃ all, s ++ p = all := ⟨_, rfl⟩
  have hal : all.length = s.length + p.length := by rw [← hall, List.length_append]
  have ha : ∀ w, (Op.stringOp .add ⟨s.toArray⟩ ⟨p.toArray⟩).run Try.prog w = .ok (.string ⟨all.toArray⟩) w := fun w => by rw [← hall]; exact str_add2 _ _ (by omega)
  have hrd := read_any all w1 (by omega)
  obtain ⟨N, hN⟩ : ∃ N, opN all = N := ⟨_, rfl⟩
  obtain ⟨K, hK⟩ : ∃ K, opK s p = K := ⟨_, rfl⟩
  have hNl : N ≤ all.length := by rw [← hN]; unfold opN; omega
  have hKN : K ≤ N := by rw [← hK, ← hN, ← hall]; unfold opK; omega
  have hm : min (N : Int) (s.length : Int) = (K : Int) := by rw [← hK, ← hN]; unfold opK; rw [hall]; omega
  have z2 : (⟨all.toArray⟩ : ByteArray).size = all.length := ba_size all
  have x1 : (⟨all.toArray⟩ : ByteArray).extract 0 K = ⟨(all.take K).toArray⟩ := ba_take all K
  have x2 : (⟨all.toArray⟩ : ByteArray).extract K N = ⟨((all.drop K).take (N - K)).toArray⟩ := by
    have := ba_mid ⟨all.toArray⟩ K (N - K)
    rw [ba_list, show K + (N - K) = N by omega] at this
    exact this
  have hpost : ∀ v w', w'.ownsRow w.heap.size 9 1 v (Jn.good b0L all).1.length ((Jn.good b0L all).1.map vl) → Below w.heap.size w w' → OpenPost s p w (.returned (.tuple #[v, dk (all.take K) ((all.drop K).take (N - K))])) w' := fun v w' h1 h2 => by
    refine ⟨v, ?_, ?_, h2⟩
    · rw [hall, hK, hN]
    · rw [hall]; exact h1
  have hNd : all.length - (Jn.good b0L all).2.1.length = N := hN
  have hge : w.heap.size ≤ br := by omega
  have hlt : br < w1.heap.size := (Array.getElem?_eq_some_iff.1 h0).1
  clear st hK hall
  replace e1 := hide e1; replace e2 := hide e2; replace ew := hide ew; replace hb1 := hide hb1; replace hrd := hide hrd; replace h0 := hide h0; replace hD := hide hD; replace hm := hide hm; replace hpost := hide hpost; replace hNd := hide hNd; replace hN := hide hN; replace hal := hide hal
  unfold dk
  go_enter Try.func19, Try.ntmps19
  go_upto_region 1 with fail
  rw [unhide ew]
  try rw [unhide e2]
  try rw [unhide e1]
  go_wp2_with fail
  refine (unhide hrd).mono ?_
  rintro e w2 ⟨v, rfl, hrow, hb2⟩
  rw [unhide hNd]
  have h2 := kept2 hb2 (unhide h0)
  have h3 := kept2 hb2 (unhide hD)
  have d0 := cell_of_row _ _ 0 _ _ _ h3
  have c0 := cell_of_row _ _ 0 _ _ _ h2
  have c1 := cell_of_row _ _ 1 _ _ _ h2
  have f0 : w2.frozen? ⟨br, 0, none⟩ = false := by simp [World.frozen?, h2]
  have f1 : w2.frozen? ⟨br, 1, none⟩ = false := by simp [World.frozen?, h2]
  have hbw := (unhide hb1).trans (hb2.mono (unhide hb1).size)
  obtain ⟨va, vc, hv⟩ := own_shape hrow
  have hs1 := (unhide hb1).size
  obtain ⟨gn, hgn⟩ : ∃ m, (Jn.good b0L all).1.length = m := ⟨_, rfl⟩
  rw [hgn] at hv hrow
  subst hv
  have i1 : (K : Int) ≤ (N : Int) := by omega
  have i2 : (N : Int) ≤ (all.length : Int) := by omega
  have i3 : (K : Int) ≤ (all.length : Int) := by omega
  clear hrd hb1 hb2 h0 h2 d1 h3 hD
  replace hbw := hide hbw; replace hrow := hide hrow; replace hgn := hide hgn
  go_upto_region 4 with fail
  rw [unhide hm]
  clear hm
  go_region
  go_wp2_with fail
  refine bodyPost_ret (v := .tuple #[.slice va gn vc, dk (all.take K) ((all.drop K).take (N - K))]) (by unfold dk; simp [results, Try.results19, go_sem, c0, c1]) rfl (unhide hpost _ _ ?_ (((unhide hbw).setCell (p := ⟨br, 0, none⟩) hge _).setCell (p := ⟨br, 1, none⟩) hge _).drew)
  rw [unhide hgn]
  exact own_base (own_same (own_set (own_set (unhide hrow) hlt) hlt) (fun _ _ => rfl)) hs1
/-- what Append hands back: the new pending bytes, or an error -/
def apS (s p x : List UInt8) : List UInt8 × List UInt8 × Int :=
  if 262144 < x.length then ([], [], 2) else if (Jn.good b0L (s ++ p)).2.1 = [] then (s, p ++ Jn.recd (Jn.good b0L (s ++ p)).2.2 x, 0) else ([], [], 90)
set_option maxRecDepth 100000 in
set_option maxHeartbeats 2000000 in
theorem append_any (s p x : List UInt8) (w : World) (hs : s.length ≤ 100000000) (hp : p.length ≤ 100000000) (hx : x.length ≤ 100000000) :
    Calls Try.prog 13 #[dk s p, .string ⟨x.toArray⟩] w fun e w' => e = .returned (.tuple #[dk (apS s p x).1 (apS s p x).2.1, .int .i64 (apS s p x).2.2]) ∧ Below w.heap.size w w' := by
  obtain ⟨bd, br, w1, e1, e2, ew, st⟩ := St.new2 w (Obj.cells #[.string ⟨s.toArray⟩, .string ⟨p.toArray⟩] 27) (Obj.cells #[.string ⟨#[]⟩, .string ⟨#[]⟩] 27)
  have hb1 := st.below
  have zx : (⟨x.toArray⟩ : ByteArray).size = x.length := ba_size x
  have c0 := st.cell 0 rfl 0 rfl
  have c1 := st.cell 0 rfl 1 rfl
  have f0 := st.free 0 rfl 0
  have f1 := st.free 0 rfl 1
  have hge : w.heap.size ≤ br := by omega
  have hgd : w.heap.size ≤ bd := by omega
  have hne : bd ≠ br := by omega
  have hne' : br ≠ bd := by omega
  obtain ⟨A, hA⟩ : ∃ A, apS s p x = A := ⟨_, rfl⟩
  rw [hA]
  by_cases hbig : 262144 < x.length
  · have hA' : A = ([], [], 2) := by rw [← hA]; unfold apS; rw [if_pos hbig]
    have t1 : decide ((262144 : Int) < (x.length : Int)) = true := by simp; omega
    have t2 : (262144 : Int) < (x.length : Int) := by omega
    subst hA'
    clear st hA
    replace e1 := hide e1; replace e2 := hide e2; replace ew := hide ew; replace hb1 := hide hb1
    unfold dk
    go_enter Try.func13, Try.ntmps13
    go_upto_region 1 with fail
    rw [unhide ew]
    try rw [unhide e2]
    try rw [unhide e1]
    go_wp2_with fail
    exact bodyPost_ret (v := .tuple #[.agg #[.string ⟨#[]⟩, .string ⟨#[]⟩], .int .i64 2]) (by simp [results, Try.results13, go_sem, c0, c1]) rfl ⟨rfl, ((unhide hb1).setCell (p := ⟨br, 0, none⟩) hge _).setCell (p := ⟨br, 1, none⟩) hge _⟩
  · have t2 : ¬ (262144 : Int) < (x.length : Int) := by omega
    have d0 := st.cell 1 rfl 0 rfl
    have d1 := st.cell 1 rfl 1 rfl
    have hS := hide st
    obtain ⟨all, hall⟩ : ∃ all, s ++ p = all := ⟨_, rfl⟩
    have hal : all.length = s.length + p.length := by rw [← hall, List.length_append]
    have ha : ∀ w, (Op.stringOp .add ⟨s.toArray⟩ ⟨p.toArray⟩).run Try.prog w = .ok (.string ⟨all.toArray⟩) w := fun w => by rw [← hall]; exact str_add2 _ _ (by omega)
    have hrd := read_any all w1 (by omega)
    have z2 : (⟨all.toArray⟩ : ByteArray).size = all.length := ba_size all
    unfold apS at hA
    rw [if_neg hbig, hall] at hA
    have hgl := Jn.good_left b0L all
    have hlb : (Jn.good b0L all).2.2.length = 8 := by rw [Jn.good_last]; exact Jn.lastb_len _ rfl _
    obtain ⟨G, hG⟩ : ∃ G, Jn.good b0L all = G := ⟨_, rfl⟩
    unfold ReadPost at hrd
    simp only [hG] at hrd hA hgl hlb
    clear st hall hbig
    replace e1 := hide e1; replace e2 := hide e2; replace ew := hide ew; replace hb1 := hide hb1; replace hrd := hide hrd; replace hA := hide hA; replace hG := hide hG; replace hal := hide hal; replace hlb := hide hlb
    unfold dk
    go_enter Try.func13, Try.ntmps13
    go_upto_region 1 with fail
    rw [unhide ew]
    try rw [unhide e2]
    try rw [unhide e1]
    go_wp2_with fail
    refine (unhide hrd).mono ?_
    rintro e w2 ⟨v, rfl, -, hb2⟩
    have st2 := (unhide hS).call hb2
    have c0 := st2.cell 0 rfl 0 rfl
    have c1 := st2.cell 0 rfl 1 rfl
    have f0 := st2.free 0 rfl 0
    have f1 := st2.free 0 rfl 1
    have hbw := st2.below
    replace st2 := hide st2; replace hbw := hide hbw
    by_cases hl : G.2.1 = []
    · have hA' : A = (s, p ++ Jn.recd G.2.2 x, 0) := by rw [← unhide hA, if_pos hl]
      rw [hl, List.length_nil, Nat.sub_zero]
      have hre := record_any G.2.2 x w2 (by rw [unhide hlb]; omega) (by omega)
      have ha2 : ∀ w, (Op.stringOp .add ⟨p.toArray⟩ ⟨(Jn.recd G.2.2 x).toArray⟩).run Try.prog w = .ok (.string ⟨(p ++ Jn.recd G.2.2 x).toArray⟩) w := fun w => str_add2 _ _ (by rw [Jn.recd_len]; have := txt_len x; omega)
      obtain ⟨R, hR⟩ : ∃ R, Jn.recd G.2.2 x = R := ⟨_, rfl⟩
      rw [hR] at ha2 hre hA'
      subst hA'
      have t3 : ((all.length : Int) != (all.length : Int)) = false := bne_self_eq_false _
      have d0 := (unhide st2).cell 1 rfl 0 rfl
      have d1 := (unhide st2).cell 1 rfl 1 rfl
      clear hrd hb2 hS hR hl hA
      replace hre := hide hre
      go_wp2_with fail
      refine (unhide hre).mono ?_
      rintro e w3 ⟨rfl, hb3⟩
      have st3 := (unhide st2).call hb3
      have c0 := st3.cell 0 rfl 0 rfl
      have c1 := st3.cell 0 rfl 1 rfl
      have f0 := st3.free 0 rfl 0
      have f1 := st3.free 0 rfl 1
      have d0 := st3.cell 1 rfl 0 rfl
      have d1 := st3.cell 1 rfl 1 rfl
      have k1 := st3.free 1 rfl 1
      have hbw := st3.below
      clear hb3 hre st2
      replace st3 := hide st3; replace hbw := hide hbw
      go_wp2_with fail
      exact bodyPost_ret (v := .tuple #[.agg #[.string ⟨s.toArray⟩, .string ⟨(p ++ R).toArray⟩], .int .i64 0]) (by simp [results, Try.results13, go_sem, c0, c1]) rfl ⟨rfl, (((unhide hbw).setCell (p := ⟨bd, 1, none⟩) hgd _).setCell (p := ⟨br, 0, none⟩) hge _).setCell (p := ⟨br, 1, none⟩) hge _⟩
    · have hA' : A = ([], [], 90) := by rw [← unhide hA, if_neg hl]
      have hpos : 0 < G.2.1.length := List.length_pos_iff.2 hl
      have t3 : (((all.length - G.2.1.length : Nat) : Int) != (all.length : Int)) = true := by simp; omega
      subst hA'
      clear hrd hb2 hS hl hA
      replace hpos := hide hpos
      go_wp2_with fail
      exact bodyPost_ret (v := .tuple #[.agg #[.string ⟨#[]⟩, .string ⟨#[]⟩], .int .i64 90]) (by simp [results, Try.results13, go_sem, c0, c1]) rfl ⟨rfl, ((unhide hbw).setCell (p := ⟨br, 0, none⟩) hge _).setCell (p := ⟨br, 1, none⟩) hge _⟩
end Go.Proofs.Ytcliegeooooonaa
