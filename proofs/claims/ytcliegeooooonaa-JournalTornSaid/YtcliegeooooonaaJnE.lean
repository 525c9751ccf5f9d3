/- The journal's law: Change.of. -/
import Derived.Test.YtcliegeooooonaaJnD
namespace Go.Proofs.Ytcliegeooooonaa
open Go.RowKit
def ofS (at_ : Nat) (b : UInt8) (d : Nat) (s : List UInt8) : List UInt8 :=
  if d % 4 = 0 then s.take (at_ % (s.length + 1)) ++ [b] ++ s.drop (min (at_ % (s.length + 1) + 1) s.length)
  else if d % 4 = 1 then s.take (at_ % (s.length + 1)) ++ [b] ++ s.drop (at_ % (s.length + 1))
  else if d % 4 = 2 then s.take (at_ % (s.length + 1)) ++ s.drop (min (at_ % (s.length + 1) + 1) s.length)
  else s.take (at_ % (s.length + 1))
theorem ofS_len (at_ : Nat) (b : UInt8) (d : Nat) (s : List UInt8) : (ofS at_ b d s).length ≤ 2 * s.length + 1 := by
  unfold ofS
  split
  · simp only [List.length_append, List.length_take, List.length_drop, List.length_cons, List.length_nil]; omega
  split
  · simp only [List.length_append, List.length_take, List.length_drop, List.length_cons, List.length_nil]; omega
  split
  · simp only [List.length_append, List.length_take, List.length_drop]; omega
  · rw [List.length_take]; omega
def chV (at_ b d : Nat) : Value := .agg #[.int .u16 (at_ : Int), .int .u8 (b : Int), .int .u8 (d : Int)]
set_option maxRecDepth 100000 in
set_option maxHeartbeats 4000000 in
theorem chof_any (at_ b d : Nat) (s : List UInt8) (w : World) (ha : at_ < 65536) (hb : b < 256) (hd : d < 256) (hs : s.length ≤ 1000000) :
    Calls Try.prog 11 #[chV at_ b d, .string ⟨s.toArray⟩] w fun e w' => e = .returned (.string ⟨(ofS at_ (UInt8.ofNat b) d s).toArray⟩) ∧ Below w.heap.size w w' := by
  obtain ⟨x0, w1, e1, ew, st⟩ := St.new1 w (Obj.cells #[.int .u16 (at_ : Int), .int .u8 (b : Int), .int .u8 (d : Int)] 25)
  have d0 := st.cell 0 rfl 0 rfl
  have d1 := st.cell 0 rfl 1 rfl
  have d2 := st.cell 0 rfl 2 rfl
  obtain ⟨x1, w2, f1, fw, st2⟩ := st.new (Obj.cells #[.int .u8 (b : Int)] 5)
  have hbw := st2.below
  have g0 := st2.cell 0 rfl 0 rfl
  have g1 := st2.cell 1 rfl 0 rfl
  have g2 := st2.cell 1 rfl 1 rfl
  have g3 := st2.cell 1 rfl 2 rfl
  have hcv : (convert 51 9 (.slice (some ⟨w1.heap.size, 0, none⟩) 1 1)).run Try.prog (w1.alloc (Obj.cells #[.int .u8 (b : Int)] 5)) = .ok (.string ⟨[UInt8.ofNat b].toArray⟩) (w1.alloc (Obj.cells #[.int .u8 (b : Int)] 5)) := by
    rw [fw, f1]
    have := run_convert_bytes_back (P := Try.prog) w2 51 9 5 ⟨x1, 0, none⟩ 1 [UInt8.ofNat b] Try.underlying51 Try.underlying5 Try.underlying9 (by
      intro t ht
      have ht0 : t = 0 := by simp at ht; omega
      subst ht0
      rw [Addr.add_lit]
      simp only [List.getElem_cons_zero]
      rw [show ((UInt8.ofNat b).toNat : Int) = (b : Int) by rw [UInt8.toNat_ofNat_of_lt' hb]]
      exact g0)
    exact this
  have zs : (⟨s.toArray⟩ : ByteArray).size = s.length := ba_size s
  obtain ⟨k, hk⟩ : ∃ k, at_ % (s.length + 1) = k := ⟨_, rfl⟩
  have hkl : k ≤ s.length := by
    have h := Nat.mod_lt at_ (show 0 < s.length + 1 by omega)
    rw [hk] at h
    omega
  have t2 : (at_ : Int) % ((s.length : Int) + 1) = (k : Int) := by rw [← hk]; simp
  have t1 : (at_ : Int).tmod ((s.length : Int) + 1) = (k : Int) := by
    rw [Int.tmod_eq_emod_of_nonneg (by omega)]; exact t2
  obtain ⟨R, hR⟩ : ∃ R, ofS at_ (UInt8.ofNat b) d s = R := ⟨_, rfl⟩
  rw [hR]
  have hR' := hR
  unfold ofS at hR'
  simp only [hk] at hR'
  obtain ⟨m, hm⟩ : ∃ m, min (k + 1) s.length = m := ⟨_, rfl⟩
  rw [hm] at hR'
  have hml : m ≤ s.length := by omega
  have hm' : min ((k : Int) + 1) (s.length : Int) = (m : Int) := by omega
  have x1' : (⟨s.toArray⟩ : ByteArray).extract 0 k = ⟨(s.take k).toArray⟩ := ba_take s k
  have x2' : (⟨s.toArray⟩ : ByteArray).extract k s.length = ⟨(s.drop k).toArray⟩ := ba_drop s k
  have x3' : (⟨s.toArray⟩ : ByteArray).extract m s.length = ⟨(s.drop m).toArray⟩ := ba_drop s m
  have a1 : ∀ w, (Op.stringOp .add ⟨(s.take k).toArray⟩ ⟨[UInt8.ofNat b].toArray⟩).run Try.prog w = .ok (.string ⟨(s.take k ++ [UInt8.ofNat b]).toArray⟩) w := fun w => str_add2 _ _ (by rw [List.length_take, List.length_singleton]; omega)
  have a2 : ∀ w, (Op.stringOp .add ⟨(s.take k ++ [UInt8.ofNat b]).toArray⟩ ⟨(s.drop m).toArray⟩).run Try.prog w = .ok (.string ⟨(s.take k ++ [UInt8.ofNat b] ++ s.drop m).toArray⟩) w := fun w => str_add2 _ _ (by rw [List.length_append, List.length_take, List.length_singleton, List.length_drop]; omega)
  have a3 : ∀ w, (Op.stringOp .add ⟨(s.take k ++ [UInt8.ofNat b]).toArray⟩ ⟨(s.drop k).toArray⟩).run Try.prog w = .ok (.string ⟨(s.take k ++ [UInt8.ofNat b] ++ s.drop k).toArray⟩) w := fun w => str_add2 _ _ (by rw [List.length_append, List.length_take, List.length_singleton, List.length_drop]; omega)
  have a4 : ∀ w, (Op.stringOp .add ⟨(s.take k).toArray⟩ ⟨(s.drop m).toArray⟩).run Try.prog w = .ok (.string ⟨(s.take k ++ s.drop m).toArray⟩) w := fun w => str_add2 _ _ (by rw [List.length_take, List.length_drop]; omega)
  have w16 : IntKind.i64.wrap (at_ : Int) = (at_ : Int) := IntWalk.i64_in _ (by omega)
  have i1 : (k : Int) ≤ (s.length : Int) := by omega
  have i2 : (m : Int) ≤ (s.length : Int) := by omega
  have hd4 : d % 4 = 0 ∨ d % 4 = 1 ∨ d % 4 = 2 ∨ d % 4 = 3 := by omega
  obtain ⟨T1, hT1⟩ : ∃ T, s.take k = T := ⟨_, rfl⟩
  obtain ⟨D1, hD1⟩ : ∃ T, s.drop k = T := ⟨_, rfl⟩
  obtain ⟨D2, hD2⟩ : ∃ T, s.drop m = T := ⟨_, rfl⟩
  obtain ⟨bl, hbl⟩ : ∃ T, [UInt8.ofNat b] = T := ⟨_, rfl⟩
  simp only [hT1, hD1, hD2, hbl] at hR' x1' x2' x3' a1 a2 a3 a4 hcv
  obtain ⟨Y1, hY1⟩ : ∃ T, T1 ++ bl = T := ⟨_, rfl⟩
  obtain ⟨Y2, hY2⟩ : ∃ T, T1 ++ D2 = T := ⟨_, rfl⟩
  simp only [hY1, hY2] at hR' a1 a2 a3 a4
  obtain ⟨Y3, hY3⟩ : ∃ T, Y1 ++ D2 = T := ⟨_, rfl⟩
  obtain ⟨Y4, hY4⟩ : ∃ T, Y1 ++ D1 = T := ⟨_, rfl⟩
  simp only [hY3, hY4] at hR' a2 a3
  clear st st2 hR hk hm hT1 hD1 hD2 hbl hY1 hY2 hY3 hY4 g0
  replace hbw := hide hbw; replace e1 := hide e1; replace ew := hide ew; replace f1 := hide f1; replace fw := hide fw; replace hR' := hide hR'; replace hm' := hide hm'
  rcases hd4 with h4 | h4 | h4 | h4
  all_goals
    have q1 : (d : Int).tmod 4 = ((d % 4 : Nat) : Int) := by rw [Int.tmod_eq_emod_of_nonneg (by omega)]; omega
    have q2 : (d : Int) % 4 = ((d % 4 : Nat) : Int) := by omega
    rw [h4] at q1 q2
    have hRR := unhide hR'
    rw [h4] at hRR
    replace hRR := hide hRR; replace h4 := hide h4
    clear hR'
    unfold chV
    go_enter Try.func11, Try.ntmps11
    go_upto_region 1 with fail
    rw [unhide ew]
    try rw [unhide e1]
    go_upto_region 3 with fail
    rw [unhide fw]
    try rw [unhide f1]
    clear fw f1 ew e1 d0 d1 d2 hcv
    obtain ⟨V, rfl⟩ : ∃ V : World, V = w2 := ⟨_, rfl⟩
    replace t1 := hide t1; replace t2 := hide t2
  · have hY : Y3 = R := by have := unhide hRR; simpa using this
    replace hY := hide hY
    go_upto_region 5 with fail
    have hm2 := unhide hm'
    go_region
    all_goals
      go_wp2_with fail
      go_ret
      first | exact ⟨by rw [unhide hY]; rfl, (unhide hbw).drew⟩ | exact ⟨by rw [unhide hY]; rfl, unhide hbw⟩
  · have hY : Y4 = R := by have := unhide hRR; simpa using this
    replace hY := hide hY
    go_upto_region 7 with fail
    go_region
    all_goals
      go_wp2_with fail
      go_ret
      first | exact ⟨by rw [unhide hY]; rfl, (unhide hbw).drew⟩ | exact ⟨by rw [unhide hY]; rfl, unhide hbw⟩
  · have hY : Y2 = R := by have := unhide hRR; simpa using this
    replace hY := hide hY
    go_upto_region 9 with fail
    have hm2 := unhide hm'
    go_region
    all_goals
      go_wp2_with fail
      go_ret
      first | exact ⟨by rw [unhide hY]; rfl, (unhide hbw).drew⟩ | exact ⟨by rw [unhide hY]; rfl, unhide hbw⟩
  · have hY : T1 = R := by have := unhide hRR; simpa using this
    replace hY := hide hY
    go_wp2_with fail
    go_ret
    first | exact ⟨by rw [unhide hY]; rfl, (unhide hbw).drew⟩ | exact ⟨by rw [unhide hY]; rfl, unhide hbw⟩
def cut60 (s : List UInt8) : List UInt8 := s.take 60
theorem cut60_len (s : List UInt8) : (cut60 s).length ≤ 60 := by unfold cut60; rw [List.length_take]; omega
theorem take_min (s : List UInt8) (n : Nat) : s.take (min s.length n) = s.take n := by
  rcases Nat.le_total s.length n with h | h
  · rw [Nat.min_eq_left h, List.take_length, List.take_of_length_le h]
  · rw [Nat.min_eq_right h]
set_option maxRecDepth 100000 in
set_option maxHeartbeats 4000000 in
theorem cut_any (s p : List UInt8) (w : World) (hs : s.length ≤ maxLen) (hp : p.length ≤ maxLen) :
    Calls Try.prog 12 #[dk s p] w fun e w' => e = .returned (dk (cut60 s) (cut60 p)) ∧ Below w.heap.size w w' := by
  unfold maxLen at hs hp
  obtain ⟨x1, x2, w1, e1, e2, ew, st⟩ := St.new2 w (Obj.cells #[.string ⟨s.toArray⟩, .string ⟨p.toArray⟩] 27) (Obj.cells #[.string ⟨#[]⟩, .string ⟨#[]⟩] 27)
  have hbw := st.below
  have c0 := st.cell 0 rfl 0 rfl
  have c1 := st.cell 0 rfl 1 rfl
  have f0 := st.free 0 rfl 0
  have f1 := st.free 0 rfl 1
  have d0 := st.cell 1 rfl 0 rfl
  have d1 := st.cell 1 rfl 1 rfl
  have zs : (⟨s.toArray⟩ : ByteArray).size = s.length := ba_size s
  have zp : (⟨p.toArray⟩ : ByteArray).size = p.length := ba_size p
  obtain ⟨m, hm⟩ : ∃ m, min s.length 60 = m := ⟨_, rfl⟩
  obtain ⟨n, hn⟩ : ∃ m, min p.length 60 = m := ⟨_, rfl⟩
  have hm' : min (s.length : Int) 60 = (m : Int) := by omega
  have hn' : min (p.length : Int) 60 = (n : Int) := by omega
  have h1 : s.take m = cut60 s := by rw [← hm, take_min]; rfl
  have h2 : p.take n = cut60 p := by rw [← hn, take_min]; rfl
  have x1' : (⟨s.toArray⟩ : ByteArray).extract 0 m = ⟨(cut60 s).toArray⟩ := by rw [← h1]; exact ba_take s m
  have x2' : (⟨p.toArray⟩ : ByteArray).extract 0 n = ⟨(cut60 p).toArray⟩ := by rw [← h2]; exact ba_take p n
  have i1 : (m : Int) ≤ (s.length : Int) := by omega
  have i2 : (n : Int) ≤ (p.length : Int) := by omega
  have hge : w.heap.size ≤ x2 := by omega
  have hne : x1 ≠ x2 := by omega
  obtain ⟨S1, hS1⟩ : ∃ S, cut60 s = S := ⟨_, rfl⟩
  obtain ⟨P1, hP1⟩ : ∃ S, cut60 p = S := ⟨_, rfl⟩
  rw [hS1] at x1' ⊢
  rw [hP1] at x2' ⊢
  clear st hm hn h1 h2 hS1 hP1
  replace hbw := hide hbw; replace e1 := hide e1; replace e2 := hide e2; replace ew := hide ew
  unfold dk
  go_enter Try.func12, Try.ntmps12
  go_upto_region 1 with fail
  rw [unhide ew]
  try rw [unhide e2]
  try rw [unhide e1]
  clear ew e1 e2
  go_region
  go_wp2_with fail
  first
  | exact bodyPost_ret (v := .agg #[.string ⟨S1.toArray⟩, .string ⟨P1.toArray⟩]) (by simp [results, Try.results12, go_sem, c0, c1]) rfl ⟨rfl, (((unhide hbw).setCell (p := ⟨x2, 0, none⟩) hge _).setCell (p := ⟨x2, 1, none⟩) hge _).drew⟩
  | exact bodyPost_ret (v := .agg #[.string ⟨S1.toArray⟩, .string ⟨P1.toArray⟩]) (by simp [results, Try.results12, go_sem, c0, c1]) rfl ⟨rfl, ((unhide hbw).setCell (p := ⟨x2, 0, none⟩) hge _).setCell (p := ⟨x2, 1, none⟩) hge _⟩
end Go.Proofs.Ytcliegeooooonaa
