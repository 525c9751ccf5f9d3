/- The law WirePrefix. -/
import Derived.Test.YtidbjccfkembeaaWi20
namespace Go.Proofs.Ytidbjccfkembeaa
open Go.RowKit
attribute [local go_sem ↓] Go.wp_at_zero Go.wp_at_succ

theorem serV_len (q n : Int) (s : ByteArray) (l : List Int) (t : List ByteArray) : 1 ≤ (serV q n s l t).length ∧ (serV q n s l t).length ≤ 100000000 := by
  unfold serV
  split
  · have := int_len n; omega
  · split
    · have h1 := cut1_size s
      have h2 := btxt_len (cut1 s) (by omega)
      have h3 := Wi.txt_pos (cut1 s).data.toList
      exact ⟨h3, by omega⟩
    · split
      · have h1 := ints_len (l.take 20)
        have h2 := int_len ((l.take 20).length : Int)
        simp only [Wi.ints, List.length_append, List.length_take] at *
        omega
      · have h1 := btxts_len (cutL t) (fun x hx => Nat.le_trans (cutL_size t x hx) (by omega))
        have h2 := int_len ((cutL t).length : Int)
        have h3 := cutL_len t
        simp only [Wi.btxts, List.length_append] at *
        omega
theorem ba_inj {x y : List UInt8} : ((⟨x.toArray⟩ : ByteArray) = ⟨y.toArray⟩) ↔ x = y := by
  constructor
  · intro h
    injection h with h
    simpa using h
  · rintro rfl; rfl
theorem ser_of {α : Type} {f : Option (List UInt8) → α × Option (List UInt8)} {ser : α → List UInt8} {a b : α} [DecidableEq α] (ha : ∀ r, f (some (ser a ++ r)) = (a, some r)) (hb : ∀ r, f (some (ser b ++ r)) = (b, some r)) :
    (decide ((⟨((ser a).take (min (ser a).length (ser b).length)).toArray⟩ : ByteArray) = ⟨((ser b).take (min (ser a).length (ser b).length)).toArray⟩) = decide (a = b)) ∧ (decide ((⟨(ser a).toArray⟩ : ByteArray) = ⟨(ser b).toArray⟩) = decide (a = b)) := by
  by_cases h : a = b
  · subst h; simp
  · have h1 : ¬ (ser a).take (min (ser a).length (ser b).length) = (ser b).take (min (ser a).length (ser b).length) := fun e => h (Wi.prefix_free ha hb e)
    have h2 : ¬ ser a = ser b := fun e => h1 (by rw [e])
    rw [decide_eq_false h, decide_eq_false (fun e => h1 (ba_inj.1 e)), decide_eq_false (fun e => h2 (ba_inj.1 e))]
    exact ⟨rfl, rfl⟩
theorem read_ints {l : List Int} (hl : ∀ x ∈ l, I64 x) (hlen : l.length ≤ 1000000) (r : List UInt8) : Wi.rList Wi.rInt (some (Wi.ints l ++ r)) = (l, some r) := by
  unfold Wi.ints
  exact Wi.rList_of r (fun a ha r => Wi.rInt_of (hl a ha) r) (fun a _ => Wi.int_pos a) (by omega)
theorem btxts_txts (l : List ByteArray) : Wi.btxts l = Wi.txts (l.map fun x => x.data.toList) := by
  unfold Wi.btxts Wi.txts
  rw [List.flatMap_map, List.length_map]
  rfl
theorem read_txts {l : List (List UInt8)} (hl : ∀ x ∈ l, x.length ≤ 1000000) (hlen : l.length ≤ 1000000) (r : List UInt8) : Wi.rList Wi.rText (some (Wi.txts l ++ r)) = (l, some r) := by
  unfold Wi.txts
  exact Wi.rList_of r (fun a ha r => Wi.rText_of (by have := hl a ha; omega) r) (fun a _ => Wi.txt_pos a) (by omega)
theorem ba_list_inj {x y : List ByteArray} : x = y ↔ (x.map fun x => x.data.toList) = (y.map fun x => x.data.toList) := by
  refine ⟨fun h => by rw [h], fun h => ?_⟩
  have h2 := congrArg (List.map (fun l : List UInt8 => (⟨l.toArray⟩ : ByteArray))) h
  rw [List.map_map, List.map_map] at h2
  simpa [Function.comp_def] using h2
theorem data_len (s : ByteArray) : s.data.toList.length = s.size := by rw [Array.length_toList]; rfl
theorem ser_laws (q n : Int) (s : ByteArray) (l : List Int) (t : List ByteArray) (n' : Int) (s' : ByteArray) (l' : List Int) (t' : List ByteArray) (hn : I64 n) (hn' : I64 n') (hl : ∀ x ∈ l, I64 x) (hl' : ∀ x ∈ l', I64 x) :
    (decide ((⟨((serV q n s l t).take (min (serV q n s l t).length (serV q n' s' l' t').length)).toArray⟩ : ByteArray) = ⟨((serV q n' s' l' t').take (min (serV q n s l t).length (serV q n' s' l' t').length)).toArray⟩) = sameV q n s l t n' s' l' t') ∧
    (decide ((⟨(serV q n s l t).toArray⟩ : ByteArray) = ⟨(serV q n' s' l' t').toArray⟩) = sameV q n s l t n' s' l' t') := by
  obtain h | h | h | h : q % 4 = 0 ∨ q % 4 = 1 ∨ q % 4 = 2 ∨ q % 4 = 3 := by omega
  · rw [ser0 h, ser0 h, same0 h]
    exact ser_of (f := Wi.rInt) (fun r => Wi.rInt_of hn r) (fun r => Wi.rInt_of hn' r)
  · rw [ser1 h, ser1 h, same1 h]
    have e : decide (cut1 s = cut1 s') = decide ((cut1 s).data.toList = (cut1 s').data.toList) := by
      rw [decide_eq_decide]
      exact ⟨fun h => by rw [h], fun h => ByteArray.ext (Array.toList_inj.1 h)⟩
    rw [e]
    have z := cut1_size s
    have z' := cut1_size s'
    exact ser_of (f := Wi.rText) (ser := Wi.txt) (fun r => Wi.rText_of (by rw [data_len]; omega) r) (fun r => Wi.rText_of (by rw [data_len]; omega) r)
  · rw [ser2 h, ser2 h, same2 h]
    exact ser_of (f := Wi.rList Wi.rInt) (fun r => read_ints (fun x hx => hl x (List.mem_of_mem_take hx)) (by rw [List.length_take]; omega) r) (fun r => read_ints (fun x hx => hl' x (List.mem_of_mem_take hx)) (by rw [List.length_take]; omega) r)
  · rw [ser3 h, ser3 h, same3 h, btxts_txts, btxts_txts]
    have e : decide (cutL t = cutL t') = decide (((cutL t).map fun x => x.data.toList) = ((cutL t').map fun x => x.data.toList)) := by
      rw [decide_eq_decide]
      exact ba_list_inj
    rw [e]
    have hz : ∀ t : List ByteArray, ∀ x ∈ (cutL t).map (fun x => x.data.toList), x.length ≤ 1000000 := by
      intro t x hx
      obtain ⟨y, hy, rfl⟩ := List.mem_map.1 hx
      rw [data_len]
      exact Nat.le_trans (cutL_size t y hy) (by omega)
    have hzl : ∀ t : List ByteArray, ((cutL t).map (fun x => x.data.toList)).length ≤ 1000000 := by
      intro t
      rw [List.length_map]
      exact Nat.le_trans (cutL_len t) (by omega)
    exact ser_of (f := Wi.rList Wi.rText) (ser := Wi.txts) (fun r => read_txts (hz t) (hzl t) r) (fun r => read_txts (hz t') (hzl t') r)
theorem Lst.i64 {w : World} {S : Nat → Prop} {a : Option Addr} {len : Nat} {l : List Int} (h : Lst Enc.int w S a len l) : ∀ x ∈ l, I64 x := by
  intro x hx
  obtain ⟨i, hi, e⟩ := List.getElem_of_mem hx
  obtain ⟨b, off, y, _, _, hy, hyi, _⟩ := lst_int h (k := i) (by have := h.1; omega)
  rw [List.getElem?_eq_getElem hi, e] at hy
  injection hy with hy
  rw [hy]
  exact hyi
set_option maxRecDepth 100000 in
set_option maxHeartbeats 4000000 in
theorem prefix_any (cs : Array Value) (k n : Int) (s : ByteArray) (l : List Int) (t : List ByteArray) (cs' : Array Value) (k' n' : Int) (s' : ByteArray) (l' : List Int) (t' : List ByteArray) (w : World) (hv : Val w cs k n s l t) (hv' : Val w cs' k' n' s' l' t') :
    Calls Try.prog 8 #[.agg cs, .agg cs'] w fun e w' => e = .returned (.bool true) ∧ Below w.heap.size w w' := by
  have hvv := hv
  have hvv' := hv'
  obtain ⟨hk, hn, hs, a1, n1, c1, a2, n2, c2, rfl, q1, q2, q3, q4, l1, l2⟩ := hv
  obtain ⟨hk', hn', hs', a1', n1', c1', a2', n2', c2', rfl, q1', q2', q3', q4', l1', l2'⟩ := hv'
  have hl := l1.i64
  have hl' := l1'.i64
  clear l1 l2 l1' l2' q1 q2 q3 q4 q1' q2' q3' q4' hs hs'
  obtain ⟨x1, x2, w0, e1, e2, e3, st⟩ := St.new2 w (Obj.cells #[.int .u8 k, .int .i64 n, .string s, .slice a1 n1 c1, .slice a2 n2 c2] 45) (Obj.cells #[.int .u8 k', .int .i64 n', .string s', .slice a1' n1' c1', .slice a2' n2' c2'] 45)
  replace e1 := hide e1; replace e2 := hide e2; replace e3 := hide e3
  obtain ⟨X, hX⟩ : ∃ X, serV k n s l t = X := ⟨_, rfl⟩
  obtain ⟨Y, hY⟩ : ∃ Y, serV k n' s' l' t' = Y := ⟨_, rfl⟩
  obtain ⟨B, hB⟩ : ∃ B, sameV k n s l t n' s' l' t' = B := ⟨_, rfl⟩
  have hXl : 1 ≤ X.length ∧ X.length ≤ 100000000 := by rw [← hX]; exact serV_len _ _ _ _ _
  have hYl : 1 ≤ Y.length ∧ Y.length ≤ 100000000 := by rw [← hY]; exact serV_len _ _ _ _ _
  have sX := ba_size X
  have sY := ba_size Y
  have m1 : (0 : Int) ≤ min (X.length : Int) (Y.length : Int) := by omega
  have m2 : min (X.length : Int) (Y.length : Int) ≤ (X.length : Int) := by omega
  have m3 : min (X.length : Int) (Y.length : Int) ≤ (Y.length : Int) := by omega
  obtain ⟨m, hm⟩ : ∃ m : Nat, min (X.length : Int) (Y.length : Int) = (m : Int) := ⟨min X.length Y.length, by omega⟩
  have hmm : m = min X.length Y.length := by omega
  have m4 : (m : Int) ≤ (X.length : Int) := by omega
  have m5 : (m : Int) ≤ (Y.length : Int) := by omega
  obtain ⟨B1, B2⟩ : ((((⟨X.toArray⟩ : ByteArray).extract 0 m).toList == ((⟨Y.toArray⟩ : ByteArray).extract 0 m).toList) = B) ∧ (((⟨X.toArray⟩ : ByteArray).toList == (⟨Y.toArray⟩ : ByteArray).toList) = B) := by
    rw [ba_dec, ba_dec, ba_take, ba_take, hmm, ← hX, ← hY, ← hB]
    exact ser_laws k n s l t n' s' l' t' hn hn' hl hl'
  have B3 : (X == Y) = B := by rw [← B2, ba_dec, Bool.eq_iff_iff]; simp
  replace hmm := hide hmm
  replace hXl := hide hXl; replace hYl := hide hYl
  go_enter Try.func8, Try.ntmps8
  go_wp2_with fail
  rw [unhide e3, unhide e2, unhide e1]
  clear e1 e2 e3
  refine (wsanity_any _).mono ?_
  rintro e wa ⟨rfl, hba⟩
  have hw0 := st.below
  replace st := st.call hba
  have cX : ∀ x : Ext wa, Calls Try.prog 36 #[.agg #[.int .u8 k, .int .i64 n, .string s, .slice a1 n1 c1, .slice a2 n2 c2], .int .u8 k] x.get fun e w' => e = .returned (.string ⟨X.toArray⟩) ∧ Below x.get.heap.size x.get w' := by
    intro x
    have := bytes_any _ k n s l t k x.get ((hvv.below st.below).below x.le) hk
    rwa [hX] at this
  have cY : ∀ x : Ext wa, Calls Try.prog 36 #[.agg #[.int .u8 k', .int .i64 n', .string s', .slice a1' n1' c1', .slice a2' n2' c2'], .int .u8 k] x.get fun e w' => e = .returned (.string ⟨Y.toArray⟩) ∧ Below x.get.heap.size x.get w' := by
    intro x
    have := bytes_any _ k' n' s' l' t' k x.get ((hvv'.below st.below).below x.le) hk
    rwa [hY] at this
  go_wp2_with fail
  have y0 := st.xcell 1 rfl 0 rfl
  have z0 := st.xcell 0 rfl 0 rfl
  have y1 := st.xcell 1 rfl 1 rfl
  have z1 := st.xcell 0 rfl 1 rfl
  have y2 := st.xcell 1 rfl 2 rfl
  have z2 := st.xcell 0 rfl 2 rfl
  have y3 := st.xcell 1 rfl 3 rfl
  have z3 := st.xcell 0 rfl 3 rfl
  have y4 := st.xcell 1 rfl 4 rfl
  have z4 := st.xcell 0 rfl 4 rfl
  refine wp_region_ext (by rfl) (by kernel_rfl) ?_
  repeat (quiet_step ((first | (go_at_call 36; with_reducible exact Ext.calls (cX _)) | (go_at_call 36; with_reducible exact Ext.calls (cY _)))))
  refine wpQuiet_nil ?_
  rintro w' ⟨x, rfl⟩
  go_wp2_with fail
  replace st := st.ext x
  obtain ⟨wb, hwb⟩ : ∃ wb, x.get = wb := ⟨_, rfl⟩
  rw [hwb] at st ⊢
  clear hwb cX cY y0 z0 y1 z1 y2 z2 y3 z3 y4 z4
  have y0 := st.xcell 1 rfl 0 rfl
  have z0 := st.xcell 0 rfl 0 rfl
  have y1 := st.xcell 1 rfl 1 rfl
  have z1 := st.xcell 0 rfl 1 rfl
  have y2 := st.xcell 1 rfl 2 rfl
  have z2 := st.xcell 0 rfl 2 rfl
  have y3 := st.xcell 1 rfl 3 rfl
  have z3 := st.xcell 0 rfl 3 rfl
  have y4 := st.xcell 1 rfl 4 rfl
  have z4 := st.xcell 0 rfl 4 rfl
  have cS : ∀ x : Ext wb, Calls Try.prog 39 #[.agg #[.int .u8 k, .int .i64 n, .string s, .slice a1 n1 c1, .slice a2 n2 c2], .agg #[.int .u8 k', .int .i64 n', .string s', .slice a1' n1' c1', .slice a2' n2' c2'], .int .u8 k] x.get fun e w' => e = .returned (.bool B) ∧ Below x.get.heap.size x.get w' := by
    intro x
    have := same_any _ _ k n s l t k' n' s' l' t' k x.get ((hvv.below st.below).below x.le) ((hvv'.below st.below).below x.le) hk
    rwa [hB] at this
  cases B
  all_goals
    refine wp_region_ext (by rfl) (by kernel_rfl) ?_
    repeat (quiet_step ((go_at_call 39; with_reducible exact Ext.calls (cS _))))
    refine wpQuiet_nil ?_
    rintro w' ⟨x, rfl⟩
    go_wp2_with fail
    have hbel := (st.ext x).below
    have hsz := (st.ext x).size
    refine (wint_any n _ hn).mono ?_
    rintro e wc ⟨rfl, hbc⟩
    have hfin : Below w.heap.size w wc := hbel.trans (hbc.mono hsz)
    have f1 := ((st.ext x).call hbc).cell 1 rfl 1 rfl
    have hs1 := int_len n
    obtain ⟨hs2, hs3⟩ := Wi.int_short hn
    have sI := ba_size (Wi.int n)
    obtain ⟨I, hI⟩ : ∃ I, Wi.int n = I := ⟨_, rfl⟩
    rw [hI] at hs1 hs2 hs3 sI ⊢
    clear hI hvv hvv' hl hl' hX hY hB B1 B2 B3 cS hbc hsz hbel
    have hparts : (I.length = 1 ∧ -64 ≤ n ∧ n ≤ 63) ∨ (2 ≤ I.length ∧ n < -64) ∨ (2 ≤ I.length ∧ -64 ≤ n ∧ 63 < n) := by
      by_cases h : I.length = 1
      · exact Or.inl ⟨h, hs3.1 h⟩
      · have : ¬ (-64 ≤ n ∧ n ≤ 63) := fun hh => h (hs3.2 hh)
        omega
    clear hs3
    rcases hparts with ⟨p1, p2, p3⟩ | ⟨p1, p2⟩ | ⟨p1, p2, p3⟩
    · have p1' : (I.length : Int) = 1 := by omega
      replace p1 := hide p1
      go_wp2_with fail
      go_ret
      exact ⟨rfl, hfin⟩
    · have p1' : ((I.length : Int) == 1) = false := by simp; omega
      have p1'' : (I.length == 1) = false := by simp; omega
      go_wp2_with fail
      go_ret
      exact ⟨rfl, hfin⟩
    · have p1' : ((I.length : Int) == 1) = false := by simp; omega
      have p1'' : (I.length == 1) = false := by simp; omega
      go_wp2_with fail
      go_ret
      exact ⟨ret_bool (by simp; omega), hfin⟩
theorem val_of {w : World} {cs : Array Value} {y : Int × Int × ByteArray × List Int × List ByteArray} (h : (Enc.pair (Enc.num .u8 0 255) (Enc.pair Enc.int (Enc.pair Enc.str (Enc.pair (Enc.list Enc.int) (Enc.list Enc.str))))).rep w (fun b => b < w.heap.size) cs.toList y) : Val w cs y.1 y.2.1 y.2.2.1 y.2.2.2.1 y.2.2.2.2 := by
  obtain ⟨p1, r1, e1, ⟨rfl, h1, h1'⟩, p2, r2, rfl, ⟨rfl, h2, h2'⟩, p3, r3, rfl, ⟨rfl, h3⟩, p4, r4, rfl, ⟨a1, n1, c1, rfl, q1, q2, l1⟩, ⟨a2, n2, c2, rfl, q3, q4, l2⟩⟩ := h
  refine ⟨⟨h1, h1'⟩, ⟨h2, h2'⟩, h3, a1, n1, c1, a2, n2, c2, ?_, q1, q2, q3, q4, l1, l2⟩
  cases cs
  simpa using e1
theorem prefix_law (cs : Array Value) (y : Int × Int × ByteArray × List Int × List ByteArray) (cs' : Array Value) (y' : Int × Int × ByteArray × List Int × List ByteArray) (w : World)
    (h : (Enc.pair (Enc.num .u8 0 255) (Enc.pair Enc.int (Enc.pair Enc.str (Enc.pair (Enc.list Enc.int) (Enc.list Enc.str))))).rep w (fun b => b < w.heap.size) cs.toList y)
    (h' : (Enc.pair (Enc.num .u8 0 255) (Enc.pair Enc.int (Enc.pair Enc.str (Enc.pair (Enc.list Enc.int) (Enc.list Enc.str))))).rep w (fun b => b < w.heap.size) cs'.toList y') :
    Calls Try.prog 8 #[.agg cs, .agg cs'] w fun e w' => e = .returned (.bool true) ∧ Below w.heap.size w w' :=
  prefix_any _ _ _ _ _ _ _ _ _ _ _ _ w (val_of h) (val_of h')
end Go.Proofs.Ytidbjccfkembeaa
