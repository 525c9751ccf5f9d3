/- JournalAgain: its walk. -/
import Derived.Test.YtcliegeooooonaaJnF
import Derived.Lib.AppendZeros
import Derived.ArgAppend
namespace Go.Proofs.Ytcliegeooooonaa
open Go.RowKit
theorem wpList_unguard {P : Program} {ops : Array Oper} {Q : Exit → Act → World → Prop} {a : Act} {w : World} {rest : List Oper} {o : Oper} (hw : Region.wanted o (yielded ops a.tmps) = true) (h : wpList P ops Q ({ o with guard := none } :: rest) a w) : wpList P ops Q (o :: rest) a w := by
  unfold wpList at h ⊢
  rw [if_pos hw]
  rw [if_pos (by simp [Region.wanted])] at h
  exact h
theorem tx_cells {w : World} {b off n c : Nat} {L : List (List UInt8)} (h : Tx w (.slice (some ⟨b, off, none⟩) n c) L) : ∀ (j : Nat) (u : Value), (L.map vl)[j]? = some u → w.cell? ((⟨b, off, none⟩ : Addr).add j) = some u := fun j u hj => by
  obtain ⟨a', c', e, _, h2⟩ := h
  injection e with e1 e2 e3
  rw [← bs_vba, List.getElem?_map] at hj
  cases hx : (bs L)[j]? with
  | none => rw [hx] at hj; cases hj
  | some x =>
    rw [hx] at hj
    injection hj with hj
    have hjl := (List.getElem?_eq_some_iff.1 hx).1
    rw [bs_len] at hjl
    obtain ⟨b', off', x', e4, _, h5, _, h6⟩ := lst_str h2 hjl
    rw [hx] at h5
    injection h5 with h5
    rw [e4] at e1
    injection e1 with e1
    injection e1 with e5 e6
    subst e5; subst e6; subst h5
    rw [← hj, Addr.add_lit]
    exact h6
theorem run_append_empty {P : Program} {w : World} (base : Nat) (t ty e : TypeId) (i : TypeInfo) (size c : Nat) (ht : P.underlying t = some (.slice e)) (hi : P.info? e = some i)
    (v : Value) (n : Nat) (xs : List Value) (hown : w.ownsRow base e size v n xs) :
    (Builtin.append_ #[t, t] ty #[v, .slice none 0 c]).run P w = .ok v w := by
  rcases hown.2 with ⟨rfl, rfl⟩ | ⟨g, cap, cur, rfl, _, _, hnc, _⟩
  · simp [Builtin.append_, run_underlying ht, sizeOf, typeInfo, hi, Builtin.lenOf, Builtin.firstCells]
  · simp [Builtin.append_, run_underlying ht, sizeOf, typeInfo, hi, Builtin.lenOf, Builtin.firstCells, hnc, storeCells]
theorem vl_one (L : List (List UInt8)) : ∀ u ∈ L.map vl, u.oneCell' = true := fun u hu => by
  obtain ⟨s, _, rfl⟩ := List.mem_map.1 hu
  rfl
/-- append of a list of strings to an own row -/
theorem wpList_append_txs {w : World} {ops : Array Oper} {rest : List Oper} {o : Oper} {a : Act} {Q : Exit → Act → World → Prop} (hgd : o.guard = none) (s x : Operand)
    (ho : o.op = .call { callee := .builtin .append, args := #[s, x], argTypes := #[40, 40] })
    (base : Nat) (v : Value) (k : Nat) (M : List (List UInt8)) (hs : a.eval s = v) (hown : w.ownsRow base 9 1 v k (M.map vl))
    (vx : Value) (L : List (List UInt8)) (hx : a.eval x = vx) (hl : Tx w vx L) (h63 : k + L.length ≤ 1000000000000) (hbase : base ≤ w.heap.size)
    (h : ∀ v' w', w'.ownsRow base 9 1 v' (k + L.length) ((M ++ L).map vl) → w.grownBy w' v.ownBlock → wpList Try.prog ops Q rest (a.put o.dst v') w') : wpList Try.prog ops Q (o :: rest) a w := by
  obtain ⟨i3, hi3, hiz3, his3, hiy3⟩ := info_parts info_str
  obtain ⟨ad, c, rfl, hc0, hlst⟩ := hl
  have go : ∀ g, ad = some g → (∀ (j : Nat) (u : Value), (L.map vl)[j]? = some u → w.cell? (g.add j) = some u) → wpList Try.prog ops Q (o :: rest) a w := fun g hg hc => by
    subst hg
    obtain ⟨v', w', hr, q1, q2, _⟩ := run_append_own (P := Try.prog) w base 40 o.type 9 i3 (.string ⟨#[]⟩) 1 16 Try.underlying40 hi3 hiz3 his3 hiy3 rfl (by decide) v k (M.map vl) hown g L.length c (L.map vl) (by rw [List.length_map, Nat.mul_one]) hc (vl_one L) (by unfold maxLen; omega) (by omega) hbase
    rw [← List.map_append] at q1
    exact Lib.wpList_append_run w hgd s x 40 40 ho v _ hs hx v' w' hr (h v' w' q1 q2)
  by_cases h0 : L.length = 0
  · have hnil : L = [] := List.eq_nil_of_length_eq_zero h0
    subst hnil
    cases ad with
    | none =>
      refine Lib.wpList_append_run w hgd s x 40 40 ho v _ hs hx v w (run_append_empty base _ _ _ i3 1 c Try.underlying40 hi3 v k (M.map vl) hown) (h v w ?_ (grown_of_below (Below.refl _ _) _))
      rw [List.append_nil]
      exact hown
    | some g => exact go g rfl (fun j u hu => by simp at hu)
  · obtain ⟨b, off, rfl, _⟩ := hlst.2 (by omega)
    exact go _ rfl (tx_cells ⟨_, c, rfl, hc0, hlst⟩)
/-! ### the plain law -/
theorem again {X Y : List UInt8} (hX : X.length ≤ 1000) (hY : Y.length ≤ 1000) (x : List UInt8) (hx : x.length ≤ 20) (F : List (List UInt8)) (hF : (Jn.good b0L (X ++ Y)).1 = F) (A B : List UInt8) (hA : (X ++ Y).take (opK X Y) = A) (hB : ((X ++ Y).drop (opK X Y)).take (opN (X ++ Y) - opK X Y) = B) :
    A ++ B = Jn.recs b0L F ∧ A.length ≤ 2000 ∧ B.length ≤ 2000 ∧ (Jn.good b0L (A ++ B)).1 = F ∧ (A ++ B).take (opK A B) = A ∧ ((A ++ B).drop (opK A B)).take (opN (A ++ B) - opK A B) = B ∧ (∃ R : List UInt8, R.length ≤ 100 ∧ apS A B x = (A, B ++ R, 0) ∧ (Jn.good b0L (A ++ (B ++ R))).1 = F ++ [x]) := by
  have hN : opN (X ++ Y) ≤ (X ++ Y).length := by unfold opN; omega
  have hK : opK X Y ≤ opN (X ++ Y) := by unfold opK; omega
  have hKs : opK X Y ≤ X.length := by unfold opK; omega
  have hAB : A ++ B = (X ++ Y).take (opN (X ++ Y)) := by
    rw [← hA, ← hB]
    conv => rhs; rw [← List.take_append_drop (opK X Y) ((X ++ Y).take (opN (X ++ Y)))]
    rw [List.take_take, Nat.min_eq_left hK, List.drop_take]
  have heq := Jn.good_eq b0L (X ++ Y)
  have hR : A ++ B = Jn.recs b0L F := by
    rw [hAB]
    rw [hF] at heq
    unfold opN
    obtain ⟨Z, hZ⟩ : ∃ Z, X ++ Y = Z := ⟨_, rfl⟩
    rw [hZ] at heq ⊢
    obtain ⟨T, hT⟩ : ∃ T, (Jn.good b0L Z).2.1 = T := ⟨_, rfl⟩
    rw [hT] at heq ⊢
    rw [heq, List.length_append, Nat.add_sub_cancel]
    exact List.take_left
  have hXY : (X ++ Y).length ≤ 2000 := by rw [List.length_append]; omega
  have hABl : (A ++ B).length ≤ 2000 := by rw [hAB, List.length_take]; omega
  have hAl : A.length = opK X Y := by rw [← hA, List.length_take]; omega
  have hFf : Jn.Fit F := fun s hs => by
    have := Jn.recs_mem b0L F s hs
    rw [← hR] at this
    omega
  have hg : Jn.good b0L (A ++ B) = (F, [], Jn.lastb b0L F) := by rw [hR]; exact Jn.good_all b0L F hFf
  have hN2 : opN (A ++ B) = (A ++ B).length := by unfold opN; rw [hg]; rfl
  have hK2 : opK A B = A.length := by unfold opK; rw [hN2, List.length_append]; omega
  have hx9 : x.length ≤ 9223372036854775807 := by omega
  rw [List.length_append] at hABl
  refine ⟨hR, by omega, by omega, by rw [hg], by rw [hK2, List.take_left], ?_, Jn.recd (Jn.lastb b0L F) x, ?_, ?_, ?_⟩
  · rw [hK2, hN2, List.drop_left, List.length_append, Nat.add_sub_cancel_left, List.take_length]
  · rw [Jn.recd_len]; have := txt_len x; omega
  · unfold apS
    rw [if_neg (by omega), hg, if_pos rfl]
  · rw [← List.append_assoc, hR, ← Jn.recs_snoc]
    rw [Jn.good_all b0L (F ++ [x]) (fun s hs => by
      rcases List.mem_append.1 hs with h | h
      · exact hFf s h
      · simp at h; rw [h]; exact hx9)]
set_option maxRecDepth 100000 in
set_option maxHeartbeats 4000000 in
theorem journalAgain_any (a : Option Addr) (len cap : Nat) (l : List (ByteArray × Bool)) (cs : Array Value) (y : Int × Int × Int) (t : ByteArray) (w : World) (hl : Lst (Enc.pair Enc.str Enc.bool) w (fun b => b < w.heap.size) a len l) (h1 : len ≤ cap) (h2 : cap ≤ maxLen) (hc : (Enc.pair (Enc.num .u16 0 65535) (Enc.pair (Enc.num .u8 0 255) (Enc.num .u8 0 255))).rep w (fun b => b < w.heap.size) cs.toList y) (ht : t.size ≤ maxLen) :
    Calls Try.prog 6 #[.slice a len cap, .agg cs, .string t] w fun e w' => e = .returned (.bool true) ∧ Below w.heap.size w w' := by
  obtain ⟨at_, cb, cd, ha1, ha2, ha3, rfl⟩ := ch_of hc
  obtain ⟨hst, hml⟩ := stl_lst hl
  obtain ⟨x4, w1, e1, ew, st⟩ := St.new1 w (Obj.cells #[.int .u16 (at_ : Int), .int .u8 (cb : Int), .int .u8 (cd : Int)] 25)
  have hz1 := st.below
  have hb4 : BoxC w1 x4 at_ cb cd := st.get 0 rfl
  have hfe := fun w' (hb : Below w.heap.size w w') => few_any a len cap (unstp l) w' (hst.call hb) h1 h2 hml
  obtain ⟨L, hL⟩ : ∃ L, fewS (unstp l) = L := ⟨_, rfl⟩
  have hL8 : L.length ≤ 8 := by rw [← hL]; exact fewS_len _
  have hL20 : ∀ x ∈ L, x.1.length ≤ 20 := by rw [← hL]; exact fewS_20 _
  unfold FewPost at hfe
  simp only [hL] at hfe
  have hdi := fun a c w h => disk_any a L.length c L w h hL8 hL20
  have hbd := wr_bd L hL8 hL20
  obtain ⟨s, hs⟩ : ∃ s, (wrS L).1 = s := ⟨_, rfl⟩
  obtain ⟨p, hp⟩ : ∃ s, (wrS L).2.1 = s := ⟨_, rfl⟩
  simp only [hs, hp] at hdi hbd
  have hsl := hbd.1
  have hpl := hbd.2.1
  have hof := fun s w (h : (s : List UInt8).length ≤ 1000000) => chof_any at_ cb cd s w ha1 ha2 ha3 h
  obtain ⟨os, hos⟩ : ∃ x, ofS at_ (UInt8.ofNat cb) cd s = x := ⟨_, rfl⟩
  obtain ⟨op, hop⟩ : ∃ x, ofS at_ (UInt8.ofNat cb) cd p = x := ⟨_, rfl⟩
  have hosl : os.length ≤ 1000 := by rw [← hos]; have := ofS_len at_ (UInt8.ofNat cb) cd s; omega
  have hopl : op.length ≤ 1000 := by rw [← hop]; have := ofS_len at_ (UInt8.ofNat cb) cd p; omega
  have hof1 := fun w => hof s w (by omega)
  have hof2 := fun w => hof p w (by omega)
  simp only [hos] at hof1
  simp only [hop] at hof2
  obtain ⟨tl, htl⟩ : ∃ tl, t.data.toList = tl := ⟨_, rfl⟩
  obtain rfl : t = ⟨tl.toArray⟩ := by rw [← htl]
  have zt : (⟨tl.toArray⟩ : ByteArray).size = tl.length := ba_size tl
  obtain ⟨tm, htm⟩ : ∃ m, min tl.length 20 = m := ⟨_, rfl⟩
  have htm' : min (tl.length : Int) 20 = (tm : Int) := by omega
  have i20 : (tm : Int) ≤ (tl.length : Int) := by omega
  obtain ⟨x, hx⟩ : ∃ x, tl.take tm = x := ⟨_, rfl⟩
  have hxl : x.length ≤ 20 := by rw [← hx, List.length_take]; omega
  have xe : (⟨tl.toArray⟩ : ByteArray).extract 0 tm = ⟨x.toArray⟩ := by rw [← hx]; exact ba_take tl tm
  rw [zt] at ht
  unfold maxLen at ht
  unfold dk at hdi
  unfold chV at hof1 hof2
  clear hL hml hst hl hs hp hbd hL20 hc hof hos hop st htl htm hx
  replace hfe := hide hfe; replace hdi := hide hdi; replace hof1 := hide hof1; replace hof2 := hide hof2; replace hz1 := hide hz1; replace hb4 := hide hb4; replace e1 := hide e1; replace ew := hide ew; replace htm' := hide htm'
  go_enter Try.func6, Try.ntmps6
  go_upto_region 1 with fail
  rw [unhide ew]
  try rw [unhide e1]
  clear ew e1
  go_wp2_with fail
  refine (sanity_any w1).mono ?_
  rintro e w2 ⟨rfl, hb⟩
  replace hb4 := hide ((unhide hb4).call hb)
  replace hz1 := hide ((unhide hz1).trans (hb.mono (unhide hz1).size))
  clear hb
  go_wp2_with fail
  refine (unhide hfe w2 (unhide hz1)).mono ?_
  rintro e w3 ⟨fa, fc, rfl, hfs, hb⟩
  replace hb4 := hide ((unhide hb4).call hb)
  replace hz1 := hide ((unhide hz1).trans (hb.mono (unhide hz1).size))
  have hw3 := hide (unhide hdi fa fc w3 hfs)
  clear hb hfs hfe hdi
  go_wp2_with fail
  refine (unhide hw3).mono ?_
  rintro e w4 ⟨rfl, hb⟩
  replace hb4 := hide ((unhide hb4).call hb)
  replace hz1 := hide ((unhide hz1).trans (hb.mono (unhide hz1).size))
  clear hb hw3
  obtain ⟨x8, V, ex, ev, st⟩ := (St.start w4).new (Obj.cells #[.string ⟨s.toArray⟩, .string ⟨p.toArray⟩] 27)
  have hb := st.below
  replace hb4 := hide ((unhide hb4).call hb)
  replace hz1 := hide ((unhide hz1).trans (hb.mono (unhide hz1).size))
  have hb8 : BoxD V x8 s p := st.get 0 rfl
  clear hb st
  replace ex := hide ex; replace ev := hide ev; replace hb8 := hide hb8
  go_upto_region 3 with fail
  rw [unhide ev]
  try rw [unhide ex]
  clear ev ex
  have htm2 := unhide htm'
  go_upto_region 4 with fail
  clear htm2
  refine wp_region_frontG 16 (fun _ _ w' => Below V.heap.size V w') (fun wa wb => Below wa.heap.size wa wb)
    (fun ix v w' => match ix with
      | 0 => v = .agg #[.int .u16 (at_ : Int), .int .u8 (cb : Int), .int .u8 (cd : Int)]
      | 1 => v = .pointer (some ⟨x8, 0, none⟩)
      | 2 => v = .string ⟨s.toArray⟩
      | 3 => v = .string ⟨os.toArray⟩
      | 4 => v = .pointer (some ⟨x8, 1, none⟩)
      | 5 => v = .string ⟨p.toArray⟩
      | 6 => v = .agg #[.string ⟨os.toArray⟩, .string ⟨p.toArray⟩]
      | 7 => v = .pointer (some ⟨x8, 0, none⟩)
      | 8 => v = .string ⟨s.toArray⟩
      | 9 => v = .agg #[.int .u16 (at_ : Int), .int .u8 (cb : Int), .int .u8 (cd : Int)]
      | 10 => v = .pointer (some ⟨x8, 1, none⟩)
      | 11 => v = .string ⟨p.toArray⟩
      | 12 => v = .string ⟨op.toArray⟩
      | 13 => v = .agg #[.string ⟨s.toArray⟩, .string ⟨op.toArray⟩]
      | 14 => v = .agg #[.string ⟨os.toArray⟩, .string ⟨p.toArray⟩, .string ⟨s.toArray⟩, .string ⟨op.toArray⟩]
      | 15 => v = .int .i64 0
      | _ => True) (by rfl) (by kernel_rfl) ?_ ?_ ?_ ?_
  · exact (Below.refl _ _).drew
  · intro wa wb hR ix v hv
    match ix, hv with
    | 0, h => exact h
    | 1, h => exact h
    | 2, h => exact h
    | 3, h => exact h
    | 4, h => exact h
    | 5, h => exact h
    | 6, h => exact h
    | 7, h => exact h
    | 8, h => exact h
    | 9, h => exact h
    | 10, h => exact h
    | 11, h => exact h
    | 12, h => exact h
    | 13, h => exact h
    | 14, h => exact h
    | 15, h => exact h
    | _ + 16, _ => trivial
  · intro ix hix
    obtain rfl | rfl | rfl | rfl | rfl | rfl | rfl | rfl | rfl | rfl | rfl | rfl | rfl | rfl | rfl | rfl : ix = 0 ∨ ix = 1 ∨ ix = 2 ∨ ix = 3 ∨ ix = 4 ∨ ix = 5 ∨ ix = 6 ∨ ix = 7 ∨ ix = 8 ∨ ix = 9 ∨ ix = 10 ∨ ix = 11 ∨ ix = 12 ∨ ix = 13 ∨ ix = 14 ∨ ix = 15 := by omega
    · refine FrontStep.of [] _ rfl (by kernel_rfl) ?_
      intro vs LL wq hLL hC hf
      simp only [putL, List.foldl_nil]
      obtain ⟨y0, y1, y2⟩ := ((unhide hb4).call hC).cs
      go_wp2_with fail
      first | exact Below.refl _ _ | exact ⟨Below.refl _ _, by omega⟩
    · refine FrontStep.of [] _ rfl (by kernel_rfl) ?_
      intro vs LL wq hLL hC hf
      simp only [putL, List.foldl_nil]
      go_wp2_with fail
      first | exact Below.refl _ _ | exact ⟨Below.refl _ _, by omega⟩
    · refine FrontStep.of [1] _ rfl (by kernel_rfl) ?_
      intro vs LL wq hLL hC hf
      simp only [putL, List.foldl_nil, List.foldl_cons, List.getElem?_cons_zero, List.getElem?_cons_succ]
      have e1 : vs 1 = _ := hf 1 (by simp)
      rw [e1]
      have y0 := ((unhide hb8).call hC).c0
      have y1 := ((unhide hb8).call hC).c1
      go_wp2_with fail
      first | exact Below.refl _ _ | exact ⟨Below.refl _ _, by omega⟩
    · refine FrontStep.of [0, 2] _ rfl (by kernel_rfl) ?_
      intro vs LL wq hLL hC hf
      simp only [putL, List.foldl_nil, List.foldl_cons, List.getElem?_cons_zero, List.getElem?_cons_succ]
      have e0 : vs 0 = _ := hf 0 (by simp)
      rw [e0]
      have e2 : vs 2 = _ := hf 2 (by simp)
      rw [e2]
      go_wp2_with fail
      refine (unhide hof1 _).mono ?_
      rintro e w2 ⟨rfl, hb2⟩
      have q1 := hide (hC.trans (hb2.mono hC.size))
      have q2 := hide hb2
      clear hC hb2
      go_wp2_with fail
      exact ⟨unhide q1, unhide q2⟩
    · refine FrontStep.of [] _ rfl (by kernel_rfl) ?_
      intro vs LL wq hLL hC hf
      simp only [putL, List.foldl_nil]
      go_wp2_with fail
      first | exact Below.refl _ _ | exact ⟨Below.refl _ _, by omega⟩
    · refine FrontStep.of [4] _ rfl (by kernel_rfl) ?_
      intro vs LL wq hLL hC hf
      simp only [putL, List.foldl_nil, List.foldl_cons, List.getElem?_cons_zero, List.getElem?_cons_succ]
      have e4 : vs 4 = _ := hf 4 (by simp)
      rw [e4]
      have y0 := ((unhide hb8).call hC).c0
      have y1 := ((unhide hb8).call hC).c1
      go_wp2_with fail
      first | exact Below.refl _ _ | exact ⟨Below.refl _ _, by omega⟩
    · refine FrontStep.of [3, 5] _ rfl (by kernel_rfl) ?_
      intro vs LL wq hLL hC hf
      simp only [putL, List.foldl_nil, List.foldl_cons, List.getElem?_cons_zero, List.getElem?_cons_succ]
      have e3 : vs 3 = _ := hf 3 (by simp)
      rw [e3]
      have e5 : vs 5 = _ := hf 5 (by simp)
      rw [e5]
      go_wp2_with fail
      first | exact Below.refl _ _ | exact ⟨Below.refl _ _, by omega⟩
    · refine FrontStep.of [] _ rfl (by kernel_rfl) ?_
      intro vs LL wq hLL hC hf
      simp only [putL, List.foldl_nil]
      go_wp2_with fail
      first | exact Below.refl _ _ | exact ⟨Below.refl _ _, by omega⟩
    · refine FrontStep.of [7] _ rfl (by kernel_rfl) ?_
      intro vs LL wq hLL hC hf
      simp only [putL, List.foldl_nil, List.foldl_cons, List.getElem?_cons_zero, List.getElem?_cons_succ]
      have e7 : vs 7 = _ := hf 7 (by simp)
      rw [e7]
      have y0 := ((unhide hb8).call hC).c0
      have y1 := ((unhide hb8).call hC).c1
      go_wp2_with fail
      first | exact Below.refl _ _ | exact ⟨Below.refl _ _, by omega⟩
    · refine FrontStep.of [] _ rfl (by kernel_rfl) ?_
      intro vs LL wq hLL hC hf
      simp only [putL, List.foldl_nil]
      obtain ⟨y0, y1, y2⟩ := ((unhide hb4).call hC).cs
      go_wp2_with fail
      first | exact Below.refl _ _ | exact ⟨Below.refl _ _, by omega⟩
    · refine FrontStep.of [] _ rfl (by kernel_rfl) ?_
      intro vs LL wq hLL hC hf
      simp only [putL, List.foldl_nil]
      go_wp2_with fail
      first | exact Below.refl _ _ | exact ⟨Below.refl _ _, by omega⟩
    · refine FrontStep.of [10] _ rfl (by kernel_rfl) ?_
      intro vs LL wq hLL hC hf
      simp only [putL, List.foldl_nil, List.foldl_cons, List.getElem?_cons_zero, List.getElem?_cons_succ]
      have e10 : vs 10 = _ := hf 10 (by simp)
      rw [e10]
      have y0 := ((unhide hb8).call hC).c0
      have y1 := ((unhide hb8).call hC).c1
      go_wp2_with fail
      first | exact Below.refl _ _ | exact ⟨Below.refl _ _, by omega⟩
    · refine FrontStep.of [3, 9, 11] _ rfl (by kernel_rfl) ?_
      intro vs LL wq hLL hC hf
      simp only [putL, List.foldl_nil, List.foldl_cons, List.getElem?_cons_zero, List.getElem?_cons_succ]
      have e3 : vs 3 = _ := hf 3 (by simp)
      rw [e3]
      have e9 : vs 9 = _ := hf 9 (by simp)
      rw [e9]
      have e11 : vs 11 = _ := hf 11 (by simp)
      rw [e11]
      go_wp2_with fail
      refine (unhide hof2 _).mono ?_
      rintro e w2 ⟨rfl, hb2⟩
      have q1 := hide (hC.trans (hb2.mono hC.size))
      have q2 := hide hb2
      clear hC hb2
      go_wp2_with fail
      exact ⟨unhide q1, unhide q2⟩
    · refine FrontStep.of [8, 12] _ rfl (by kernel_rfl) ?_
      intro vs LL wq hLL hC hf
      simp only [putL, List.foldl_nil, List.foldl_cons, List.getElem?_cons_zero, List.getElem?_cons_succ]
      have e8 : vs 8 = _ := hf 8 (by simp)
      rw [e8]
      have e12 : vs 12 = _ := hf 12 (by simp)
      rw [e12]
      go_wp2_with fail
      first | exact Below.refl _ _ | exact ⟨Below.refl _ _, by omega⟩
    · refine FrontStep.of [6, 13] _ rfl (by kernel_rfl) ?_
      intro vs LL wq hLL hC hf
      simp only [putL, List.foldl_nil, List.foldl_cons, List.getElem?_cons_zero, List.getElem?_cons_succ]
      have e6 : vs 6 = _ := hf 6 (by simp)
      rw [e6]
      have e13 : vs 13 = _ := hf 13 (by simp)
      rw [e13]
      go_wp2_with fail
      first | exact Below.refl _ _ | exact ⟨Below.refl _ _, by omega⟩
    · refine FrontStep.of [] _ rfl (by kernel_rfl) ?_
      intro vs LL wq hLL hC hf
      simp only [putL, List.foldl_nil]
      go_wp2_with fail
      first | exact Below.refl _ _ | exact ⟨Below.refl _ _, by omega⟩
  · intro vs LL wq hLL hC hf
    have e14 : vs 14 = _ := hf 14 (by decide)
    have e15 : vs 15 = _ := hf 15 (by decide)
    have hz2 := (unhide hz1).trans (hC.mono (unhide hz1).size)
    rw [putSome_all]
    simp only [putL, List.range, List.range.loop, List.foldl_nil, List.foldl_cons, List.getElem?_cons_zero, List.getElem?_cons_succ, List.drop_succ_cons, List.drop_zero]
    rw [e14, e15]
    obtain ⟨V2, rfl⟩ : ∃ W : World, W = wq := ⟨_, rfl⟩
    clear hf hLL hC e14 e15 hb8 hb4 hz1 hof1 hof2 htm' i20 xe
    replace hz2 := hide hz2
    go_simp
    obtain ⟨W0, hW0⟩ : ∃ n, w.heap.size = n := ⟨_, rfl⟩
    rw [hW0] at hz2
    replace hW0 := hide hW0
    go_wp2_with fail
    go_loopw [43] (fun v wr => ∃ k : Nat, k ≤ 2 ∧ v = .int .i64 (k : Int) ∧ Below W0 w wr) (fun v _ => 2 - (intOf v).toNat)
    case atStart => exact ⟨0, by omega, rfl, unhide hz2⟩
    case round =>
      clear hz2
      obtain ⟨k, hk, rfl, hz⟩ := hrel
      obtain ⟨wo, rfl⟩ : ∃ W : World, W = wr := ⟨_, rfl⟩
      have hWo : W0 ≤ wo.heap.size := by rw [← unhide hW0]; exact hz.size
      by_cases hlt : k < 2
      · have hix : ∃ X Y : List UInt8, X.length ≤ 1000 ∧ Y.length ≤ 1000 ∧ ∀ w, (Instr.index 49 (.agg #[.string ⟨os.toArray⟩, .string ⟨p.toArray⟩, .string ⟨s.toArray⟩, .string ⟨op.toArray⟩]) (.int .i64 (k : Int))).run Try.prog w = .ok (.agg #[.string ⟨X.toArray⟩, .string ⟨Y.toArray⟩]) w := by
          obtain rfl | rfl : k = 0 ∨ k = 1 := by omega
          · exact ⟨os, p, by omega, by omega, fun w => by kernel_rfl⟩
          · exact ⟨s, op, by omega, by omega, fun w => by kernel_rfl⟩
        obtain ⟨X, Y, hX, hY, hix⟩ := hix
        have i1 : (k : Int) < 2 := by omega
        replace hz := hide hz
        have ho := fun w => open_tx X Y w (by omega) (by omega)
        have hGn : (Jn.good b0L (X ++ Y)).1.length ≤ 3000 := by have := good_cnt b0L (X ++ Y); rw [List.length_append] at this; omega
        obtain ⟨G, hG⟩ : ∃ G, (Jn.good b0L (X ++ Y)).1 = G := ⟨_, rfl⟩
        obtain ⟨OX, hOX⟩ : ∃ G, (X ++ Y).take (opK X Y) = G := ⟨_, rfl⟩
        obtain ⟨OY, hOY⟩ : ∃ G, ((X ++ Y).drop (opK X Y)).take (opN (X ++ Y) - opK X Y) = G := ⟨_, rfl⟩
        obtain ⟨-, pa, pb, pc, pd, pe, R, pr, pf, pg⟩ := again hX hY x hxl G hG OX OY hOX hOY
        have hGs : Sml G := by rw [← hG]; exact good_sml _ _ (by rw [List.length_append]; omega)
        replace hGs := hide hGs
        simp only [hG, hOX, hOY] at ho hGn
        have ho2 := fun w => open_tx OX OY w (by omega) (by omega)
        simp only [pc, pd, pe] at ho2
        have hap := fun w => append_any OX OY x w (by omega) (by omega) (by omega)
        simp only [pf] at hap
        obtain ⟨OZ, hOZ⟩ : ∃ z, OY ++ R = z := ⟨_, rfl⟩
        have hOZl : OZ.length ≤ 3000 := by rw [← hOZ, List.length_append]; omega
        simp only [hOZ] at hap pg
        have ho3 := fun w => open_tx OX OZ w (by omega) (by omega)
        simp only [pg] at ho3
        obtain ⟨Z1, hZ1⟩ : ∃ z, (OX ++ OZ).take (opK OX OZ) = z := ⟨_, rfl⟩
        obtain ⟨Z2, hZ2⟩ : ∃ z, ((OX ++ OZ).drop (opK OX OZ)).take (opN (OX ++ OZ) - opK OX OZ) = z := ⟨_, rfl⟩
        simp only [hZ1, hZ2] at ho3
        unfold dk at ho ho2 ho3 hap
        clear hG hOX hOY hOZ hZ1 hZ2 pc pd pe pf pg pr pa pb
        replace ho := hide ho; replace ho2 := hide ho2; replace ho3 := hide ho3; replace hap := hide hap
        have t1 : (OX == OX) = true := beq_self_eq_true _
        have t2 : (OY == OY) = true := beq_self_eq_true _
        obtain ⟨x10, v1, ex, ev, st⟩ := (St.start wo).new (Obj.cells #[.string ⟨X.toArray⟩, .string ⟨Y.toArray⟩] 27)
        have d0 := st.cell 0 rfl 0 rfl
        have d1 := st.cell 0 rfl 1 rfl
        replace ex := hide ex; replace ev := hide ev; replace st := hide st
        go_upto_region 7 with fail
        rw [unhide ev]
        try rw [unhide ex]
        clear ex ev
        go_wp2_with fail
        refine (unhide ho v1).mono ?_
        rintro e v2 ⟨vf, rfl, htf, hb⟩
        have st2 := (unhide st).call hb
        obtain ⟨fa2, fc2, rfl, hfc2, hfl2⟩ := htf
        have htF : Tx v2 (.slice fa2 G.length fc2) G := ⟨fa2, fc2, rfl, hfc2, hfl2⟩
        obtain ⟨x12, v3, ex, ev, st3⟩ := st2.new (Obj.cells #[.string ⟨OX.toArray⟩, .string ⟨OY.toArray⟩] 27)
        have hb3 : Below v2.heap.size v2 v3 := by rw [← ev]; exact (Below.refl _ _).alloc (Nat.le_refl _) _
        replace htF := htF.call hb3
        clear st st2 hfl2 hb hb3 d0 d1 ho
        have d0 := st3.cell 0 rfl 0 rfl
        have d1 := st3.cell 0 rfl 1 rfl
        replace ex := hide ex; replace ev := hide ev; replace st3 := hide st3; replace htF := hide htF
        go_upto_region 8 with fail
        rw [unhide ev]
        try rw [unhide ex]
        clear ex ev
        go_wp2_with fail
        refine (unhide ho2 v3).mono ?_
        rintro e v4 ⟨vg, rfl, htg, hb⟩
        have st4 := (unhide st3).call hb
        replace htF := (unhide htF).call hb
        obtain ⟨ga2, gc2, rfl, hgc2, hgl2⟩ := htg
        have htG : Tx v4 (.slice ga2 G.length gc2) G := ⟨ga2, gc2, rfl, hgc2, hgl2⟩
        obtain ⟨x14, v5, ex, ev, st5⟩ := st4.new (Obj.cells #[.string ⟨OX.toArray⟩, .string ⟨OY.toArray⟩] 27)
        have hb5 : Below v4.heap.size v4 v5 := by rw [← ev]; exact (Below.refl _ _).alloc (Nat.le_refl _) _
        replace htF := htF.call hb5
        replace htG := htG.call hb5
        clear st3 st4 hgl2 hb hb5 d0 d1 ho2
        have d0 := st5.cell 1 rfl 0 rfl
        have d1 := st5.cell 1 rfl 1 rfl
        replace ex := hide ex; replace ev := hide ev; replace st5 := hide st5; replace htF := hide htF; replace htG := hide htG
        go_upto_region 9 with fail
        rw [unhide ev]
        try rw [unhide ex]
        clear ex ev
        go_wp2_with fail
        refine (unhide hap v5).mono ?_
        rintro e v6 ⟨rfl, hb⟩
        have st6 := (unhide st5).call hb
        replace htF := (unhide htF).call hb
        replace htG := (unhide htG).call hb
        obtain ⟨x15, v7, ex, ev, st7⟩ := st6.new (Obj.cells #[.string ⟨OX.toArray⟩, .string ⟨OZ.toArray⟩] 27)
        have hb7 : Below v6.heap.size v6 v7 := by rw [← ev]; exact (Below.refl _ _).alloc (Nat.le_refl _) _
        replace htF := htF.call hb7
        replace htG := htG.call hb7
        clear st5 st6 hb hb7 d0 d1 hap
        have d0 := st7.cell 0 rfl 0 rfl
        have d1 := st7.cell 0 rfl 1 rfl
        replace ex := hide ex; replace ev := hide ev; replace st7 := hide st7; replace htF := hide htF; replace htG := hide htG
        go_upto_region 10 with fail
        rw [unhide ev]
        try rw [unhide ex]
        clear ex ev
        go_wp2_with fail
        refine (unhide ho3 v7).mono ?_
        rintro e v8 ⟨vh, rfl, hth, hb⟩
        have st8 := (unhide st7).call hb
        replace htF := (unhide htF).call hb
        replace htG := (unhide htG).call hb
        obtain ⟨ha4, hc4, rfl, hhc, hhl⟩ := hth
        have htH : Tx v8 (.slice ha4 (G ++ [x]).length hc4) (G ++ [x]) := ⟨ha4, hc4, rfl, hhc, hhl⟩
        have hnl : (G ++ [x]).length = G.length + 1 := by rw [List.length_append]; rfl
        rw [hnl] at htH ⊢
        obtain ⟨x18, v9, ex, ev, st9⟩ := st8.new (Obj.cells #[.string ⟨Z1.toArray⟩, .string ⟨Z2.toArray⟩] 27)
        have hb9 : Below v8.heap.size v8 v9 := by rw [← ev]; exact (Below.refl _ _).alloc (Nat.le_refl _) _
        replace htF := htF.call hb9
        replace htG := htG.call hb9
        replace htH := htH.call hb9
        clear st7 st8 hb hb9 d0 d1 ho3 hhl hhc
        have d0 := st9.cell 2 rfl 0 rfl
        have d1 := st9.cell 2 rfl 1 rfl
        have d2 := st9.cell 3 rfl 0 rfl
        have d3 := st9.cell 3 rfl 1 rfl
        have hsm := same_any _ _ G G v9 htF htG (by omega) (by omega)
        rw [decide_eq_true rfl] at hsm
        replace ex := hide ex; replace ev := hide ev; replace st9 := hide st9; replace htF := hide htF; replace htH := hide htH; replace hsm := hide hsm; replace hnl := hide hnl
        clear htG
        go_upto_region 11 with fail
        rw [unhide ev]
        try rw [unhide ex]
        clear ex ev
        go_wp2_with fail
        refine (unhide hsm).mono ?_
        rintro e v10 ⟨rfl, hb⟩
        have st10 := (unhide st9).call hb
        replace htF := (unhide htF).call hb
        replace htH := (unhide htH).call hb
        have hba : Below v10.heap.size v10 (v10.alloc (Obj.cells #[] 9)) := (Below.refl _ _).alloc (Nat.le_refl _) _
        have hrow0 := own_lit (base := v10.heap.size) (s := 1) (n := 0) (heap_alloc_new v10 (Obj.cells #[] 9)) (Nat.le_refl _) (by decide) rfl
        have htFa := htF.call hba
        have hend := (unhide hz).trans (st10.below.mono hWo)
        have hW10 : W0 ≤ v10.heap.size := by rw [← unhide hW0]; exact hend.size
        clear hb hsm st9 st10 d0 d1 d2 d3 hz htF
        replace htFa := hide htFa; replace htH := hide htH; replace hend := hide hend; replace hrow0 := hide hrow0; replace hba := hide hba
        go_wp2_with (at_builtin; refine wpList_unguard (by first | rfl | simp [Region.wanted, yielded]) ?_; refine wpList_append_txs rfl _ _ rfl v10.heap.size _ 0 [] rfl (unhide hrow0) _ G rfl (unhide htFa) (by omega) (unhide hba).size ?_)
        intro va1 v11 hown1 hg1
        have hb11 : Below v10.heap.size v10 v11 := Below.grown (unhide hba) hg1 (unhide hba).size (fun g e => ((unhide hrow0).lt g e).1)
        obtain ⟨a11, c11, rfl⟩ := own_shape hown1
        have hbb : Below v11.heap.size v11 (v11.alloc (Obj.cells #[vl x] 9)) := (Below.refl _ _).alloc (Nat.le_refl _) _
        have hown1b := own_belowb hown1 hbb
        have htx : Tx (v11.alloc (Obj.cells #[vl x] 9)) (.slice (some ⟨v11.heap.size, 0, none⟩) 1 1) [x] := ⟨_, _, rfl, Nat.le_refl _, lst_strs (l := [⟨x.toArray⟩]) (heap_alloc_new _ _) (fun y hy => by simp at hy; subst hy; rw [ba_size]; unfold maxLen; omega) (by simp)⟩
        have hsz11 := hb11.size
        clear hown1 hg1 htFa hrow0 hba
        replace hown1b := hide hown1b; replace htx := hide htx; replace hb11 := hide hb11; replace hbb := hide hbb
        go_wp2_with (at_builtin; refine wpList_unguard (by first | rfl | simp [Region.wanted, yielded]) ?_; refine wpList_append_txs rfl _ _ rfl v10.heap.size _ G.length G rfl (unhide hown1b) _ [x] rfl (unhide htx) (by simp; omega) (Nat.le_trans hsz11 (unhide hbb).size) ?_)
        intro va2 v12 hown2 hg2
        have hb12 : Below v10.heap.size v10 v12 := Below.grown ((unhide hb11).trans ((unhide hbb).mono hsz11)) hg2 (Nat.le_trans hsz11 (unhide hbb).size) (fun g e => ((unhide hown1b).lt g e).1)
        have hSm : Sml (G ++ [x]) := fun q hq => by
          rcases List.mem_append.1 hq with h | h
          · exact unhide hGs q h
          · simp at h; rw [h]; omega
        have hown2c : v12.ownsRow v10.heap.size 9 1 va2 (G.length + 1) ((G ++ [x]).map vl) := by rw [List.map_append]; exact hown2
        have htN := tx_own hown2c hSm
        have hs2 := same_any _ _ (G ++ [x]) (G ++ [x]) v12 ((unhide htH).call hb12) htN (by rw [unhide hnl]; omega) (by rw [unhide hnl]; omega)
        rw [decide_eq_true rfl] at hs2
        have hend2 := (unhide hend).trans (hb12.mono hW10)
        obtain ⟨a12, c12, rfl⟩ := own_shape hown2
        clear htN hSm hown2 hown2c hg2 hb12 hb11 hbb htx hown1b htH hend
        replace hs2 := hide hs2; replace hend2 := hide hend2
        go_wp2_with fail
        refine (unhide hs2).mono ?_
        rintro e v13 ⟨rfl, hb⟩
        have hend3 := (unhide hend2).trans (hb.mono (by rw [← unhide hW0]; exact (unhide hend2).size))
        clear hb hs2 hend2
        replace hend3 := hide hend3
        go_wp2_with fail
        go_roundw
        case rel => exact ⟨k + 1, by omega, by go_num, unhide hend3⟩
        case measure => simp [intOf]; omega
      · obtain rfl : k = 2 := by omega
        rw [← unhide hW0] at hz
        replace hz := hide hz
        go_wp2_with fail
        go_ret
        exact ⟨rfl, unhide hz⟩
end Go.Proofs.Ytcliegeooooonaa
