/- Merged: XTrK0 XTrK1 -/
import Derived.Test.YtfbgbbbfpkpfkaaTrA
import Derived.Test.YtfbgbbbfpkpfkaaWi5
-- @@XTrK0
/- Streams: the reference's Same. -/
namespace Go.Proofs.Ytfbgbbbfpkpfkaa
open Go.RowKit
set_option maxRecDepth 100000 in
set_option maxHeartbeats 4000000 in
theorem same_any (sa : Option Addr) (sn sc : Nat) (s : List Stg) (ta : Option Addr) (tn tc : Nat) (t : List Stg) (w : World) (hs : Lst Enc.stg w (fun b => b < w.heap.size) sa sn s) (ht : Lst Enc.stg w (fun b => b < w.heap.size) ta tn t) (hbs : ∀ x ∈ s, x.1.length ≤ 300000 ∧ x.2.length ≤ 300000) (hbt : ∀ x ∈ t, x.1.length ≤ 300000 ∧ x.2.length ≤ 300000) (hn1 : sn ≤ 1000000) (hn2 : tn ≤ 1000000) :
    Calls Try.prog 22 #[.agg #[.slice sa sn sc], .agg #[.slice ta tn tc]] w fun e w' => e = .returned (.bool (decide (s = t))) ∧ Below w.heap.size w w' := by
  have hsl := hs.1
  have htl := ht.1
  obtain ⟨b2, V2, hb2, hV2, st⟩ := (St.start w).new (Obj.cells #[.slice sa sn sc] 29)
  obtain ⟨b3, V3, hb3, hV3, st⟩ := st.new (Obj.cells #[.slice ta tn tc] 29)
  have hc3 : b2 + 1 = b3 := by rw [← hb3, ← hV2, World.size_alloc, hb2]
  have k2 := st.get 1 rfl
  have k3 := st.get 0 rfl
  have hz := st.below
  have hs3 := hs.under hz
  have ht3 := ht.under hz
  clear st hs ht
  replace hsl := hide hsl; replace htl := hide htl; replace hb2 := hide hb2; replace hV2 := hide hV2; replace hb3 := hide hb3; replace hV3 := hide hV3; replace hc3 := hide hc3; replace k2 := hide k2; replace k3 := hide k3; replace hz := hide hz; replace hs3 := hide hs3; replace ht3 := hide ht3; replace hbs := hide hbs; replace hbt := hide hbt
  go_enter Try.func22, Try.ntmps22
  go_upto_region 1 with fail
  try rw [unhide hb2]
  try rw [unhide hc3]
  rw [unhide hV2, unhide hV3]
  clear hV2 hV3 hb2 hb3 hc3
  have d2 := blk_cell (unhide k2)
  have d3 := blk_cell (unhide k3)
  by_cases hne : sn = tn
  · subst hne
    have t1 : ((sn : Int) != (sn : Int)) = false := by simp
    go_wp2_with fail
    clear t1 d2 d3
    go_loopw [5] (fun v wr => ∃ k : Nat, k ≤ sn ∧ v = .int .i64 (k : Int) ∧ s.take k = t.take k ∧ Below V3.heap.size V3 wr) (fun v _ => sn - (intOf v).toNat)
    case atStart => exact ⟨0, by omega, rfl, rfl, Below.refl _ _⟩
    case round =>
      obtain ⟨k, hk, rfl, hpre, hbw⟩ := hrel
      obtain ⟨wo, rfl⟩ : ∃ W : World, W = wr := ⟨_, rfl⟩
      have d2 := blk_cell (kept' hbw (unhide k2))
      have d3 := blk_cell (kept' hbw (unhide k3))
      by_cases hlt : k < sn
      · obtain ⟨bS, oS, x, a1, n1, c1, a2, n2, c2, rfl, _, hx, ⟨_, _, p1⟩, ⟨_, _, p2⟩, e1, e2⟩ := lst_stg ((unhide hs3).under hbw) hlt
        obtain ⟨bT, oT, y, a3, n3, c3, a4, n4, c4, rfl, _, hy, ⟨_, _, p3⟩, ⟨_, _, p4⟩, e3, e4⟩ := lst_stg ((unhide ht3).under hbw) hlt
        obtain ⟨hx1, hx2⟩ := unhide hbs x (List.mem_of_getElem? hx)
        obtain ⟨hy1, hy2⟩ := unhide hbt y (List.mem_of_getElem? hy)
        have g1 := p1.1
        have g2 := p2.1
        have g3 := p3.1
        have g4 := p4.1
        have hq1 := fun n => Calls.quiet_of (sameInts_any a1 n1 c1 x.1 a3 n3 c3 y.1 (wo.drewN n) (p1.drewN n) (p3.drewN n) (by omega) (by omega))
        have hq2 := fun n => Calls.quiet_of (sameInts_any a2 n2 c2 x.2 a4 n4 c4 y.2 (wo.drewN n) (p2.drewN n) (p4.drewN n) (by omega) (by omega))
        have hze := hide ((unhide hz).trans (hbw.mono (unhide hz).size))
        have i1 : (0 : Int) ≤ (k : Int) := by omega
        have i2 : (k : Int) < (sn : Int) := by omega
        clear p1 p2 p3 p4 g1 g2 g3 g4 hx1 hx2 hy1 hy2
        by_cases h1 : x.1 = y.1
        · have hd1 : decide (x.1 = y.1) = true := decide_eq_true h1
          simp only [hd1] at hq1
          by_cases h2 : x.2 = y.2
          · have hd2 : decide (x.2 = y.2) = true := decide_eq_true h2
            simp only [hd2] at hq2
            have hxy : x = y := Prod.ext h1 h2
            have hpre2 : s.take (k + 1) = t.take (k + 1) := by rw [← take_snoc hx, ← take_snoc hy, hpre, hxy]
            clear hd1 hd2 h1 h2 hx hy hxy hpre
            replace hq1 := hide hq1; replace hq2 := hide hq2; replace hpre2 := hide hpre2; replace hbw := hide hbw
            go_wp2_with fail
            go_quiet ((go_at_call 15; first | with_reducible exact unhide hq1 _ | with_reducible exact unhide hq2 _))
            go_wp2_with fail
            go_roundw
            case rel => exact ⟨k + 1, by omega, by go_num, unhide hpre2, blw_drewN (unhide hbw) _⟩
            case measure => simp [intOf]; omega
          · have hd2 : decide (x.2 = y.2) = false := decide_eq_false h2
            simp only [hd2] at hq2
            have hst : decide (s = t) = false := decide_eq_false (fun e => h2 (by subst e; have := hx.symm.trans hy; injection this with e; rw [e]))
            clear hd1 hd2 h1 h2 hx hy hpre
            replace hq1 := hide hq1; replace hq2 := hide hq2; replace hst := hide hst
            go_wp2_with fail
            go_quiet ((go_at_call 15; first | with_reducible exact unhide hq1 _ | with_reducible exact unhide hq2 _))
            go_wp2_with fail
            go_ret
            exact ⟨by rw [unhide hst]; rfl, blw_drewN (unhide hze) _⟩
        · have hd1 : decide (x.1 = y.1) = false := decide_eq_false h1
          simp only [hd1] at hq1
          have hst : decide (s = t) = false := decide_eq_false (fun e => h1 (by subst e; have := hx.symm.trans hy; injection this with e; rw [e]))
          clear hd1 h1 hx hy hpre hq2
          replace hq1 := hide hq1; replace hst := hide hst
          go_wp2_with fail
          go_quiet ((go_at_call 15; with_reducible exact unhide hq1 _))
          go_wp2_with fail
          go_ret
          exact ⟨by rw [unhide hst]; rfl, blw_drewN (unhide hze) _⟩
      · have hst : decide (s = t) = true := decide_eq_true (by rw [List.take_of_length_le (by rw [unhide hsl]; omega), List.take_of_length_le (by rw [unhide htl]; omega)] at hpre; exact hpre)
        have hze := hide ((unhide hz).trans (hbw.mono (unhide hz).size))
        have t1 : decide ((k : Int) < (sn : Int)) = false := by simp; omega
        clear hpre hbw
        replace hst := hide hst
        go_wp2_with fail
        go_ret
        exact ⟨by rw [unhide hst]; rfl, unhide hze⟩
  · have hst : decide (s = t) = false := decide_eq_false (fun e => hne (by rw [← unhide hsl, ← unhide htl, e]))
    have t1 : ((sn : Int) != (tn : Int)) = true := by simp; omega
    replace hst := hide hst
    go_wp2_with fail
    go_ret
    exact ⟨by rw [unhide hst]; rfl, unhide hz⟩
end Go.Proofs.Ytfbgbbbfpkpfkaa
-- @@XTrK1
/- Streams: Key. -/
namespace Go.Proofs.Ytfbgbbbfpkpfkaa
open Go.RowKit
def stgB (x : Stg) : List UInt8 := Wi.ints x.1 ++ Wi.ints x.2
def keyB (s : List Stg) : List UInt8 := Wi.int s.length ++ s.flatMap stgB
theorem wints_len (l : List Int) : (Wi.ints l).length ≤ 11 * l.length + 11 := by
  unfold Wi.ints
  have := ints_len l
  have := int_len (l.length : Int)
  rw [List.length_append]
  omega
theorem stgs_len (s : List Stg) (h : ∀ x ∈ s, x.1.length ≤ 300000 ∧ x.2.length ≤ 300000) : (s.flatMap stgB).length ≤ 6600022 * s.length := by
  induction s with
  | nil => simp
  | cons x s ih =>
    have h1 := ih (fun y hy => h y (by simp [hy]))
    have h2 := h x (by simp)
    have h3 := wints_len x.1
    have h4 := wints_len x.2
    rw [List.flatMap_cons, List.length_append, List.length_cons]
    unfold stgB at *
    rw [List.length_append]
    omega
theorem blk_grown' {w w2 : World} {B T s n : Nat} {v : Value} {xs : List Value} {b : Nat} {cs : Array Value} {T' : TypeId} (h : w.ownsRow B T s v n xs) (hb : w.heap[b]? = some (.cells cs T' (0, 0))) (hne : T ≠ T') (hg : w.grownBy w2 v.ownBlock) : w2.heap[b]? = some (.cells cs T' (0, 0)) :=
  (hg.block b (Array.getElem?_eq_some_iff.1 hb).1 (fun e => own_ne_blk h hb hne e.symm)).trans hb
theorem copyCheck2_any (B b : Nat) (bs : List Value) (w : World) (h : IsBui B b bs w) :
    Calls Try.prog 58 #[.pointer (some ⟨b, 0, none⟩)] w fun e w' => e = .returned (.tuple #[]) ∧ BuiAt B b bs w' ∧ Below B w w' ∧ ∀ b', b' ≠ b → w'.heap[b']? = w.heap[b']? := by
  rcases h with h | h
  · refine (copyCheck_fresh b w h.cell0 h.shape h.frozen0).mono ?_
    rintro e w' ⟨rfl, rfl⟩
    exact ⟨rfl, h.used _, (Below.refl B w).setCell (p := ⟨b, 0, none⟩) h.1 _, fun b' hb' => Below.heap_setCell _ _ _ _ hb'⟩
  · refine (copyCheck_used b w h.cell0).mono ?_
    rintro e w' ⟨rfl, rfl⟩
    exact ⟨rfl, h, Below.refl B _, fun _ _ => rfl⟩
set_option maxHeartbeats 1000000 in
theorem bwrites2_any (B b : Nat) (bs : List Value) (s : ByteArray) (w : World) (h : IsBui B b bs w) (hlen : bs.length + s.size ≤ 140737488355328) (hBw : B ≤ w.heap.size) :
    Calls Try.prog 40 #[.pointer (some ⟨b, 0, none⟩), .string s] w fun e w' => e = .returned (.tuple #[.int .i64 s.size, .nilIface]) ∧ BuiAt B b (bs ++ Lib.strCells s) w' ∧ Below B w w' ∧ ∀ (b' : Nat) (cs : Array Value) (T : TypeId), w.heap[b']? = some (.cells cs T (0, 0)) → 5 ≠ T → b' ≠ b → w'.heap[b']? = some (.cells cs T (0, 0)) := by
  obtain ⟨i0, hi, hz0, hz1, hz2⟩ := info_parts byte_info
  go_enter Try.func40, Try.ntmps40
  go_wp2_with fail
  refine (copyCheck2_any B b bs _ h).mono ?_
  rintro e w1 ⟨rfl, h1, hb1, hfr⟩
  obtain ⟨hB, v, hbk, hown, hne⟩ := h1
  have c0 : w1.cell? ⟨b, 0, none⟩ = some (.pointer (some ⟨b, 0, none⟩)) := by rw [Lib.cell_of_heap hbk]; rfl
  have c1 : w1.cell? ⟨b, 1, none⟩ = some v := by rw [Lib.cell_of_heap hbk]; rfl
  go_wp2_with (at_builtin; refine Lib.wpList_append_own_string _ rfl _ _ 75 9 rfl B 5 i0 Try.underlying75 Try.underlying9 hi hz0 hz1 hz2 _ _ _ rfl hown s rfl ?c3 ?c4 ?c5 ?_)
  case c3 => unfold maxLen; omega
  case c4 => omega
  case c5 => have := hb1.size; omega
  intro v' w2 hown' hgrow _
  have hlt : b < w1.heap.size := by
    rcases Nat.lt_or_ge b w1.heap.size with h' | h'
    · exact h'
    · simp [Array.getElem?_eq_none h'] at hbk
  have hb2 : w2.heap[b]? = some (.cells #[.pointer (some ⟨b, 0, none⟩), v] 77 (0, 0)) := by
    rw [hgrow.block b hlt (fun e => hne e.symm)]
    exact hbk
  have d0 : w2.cell? ⟨b, 0, none⟩ = some (.pointer (some ⟨b, 0, none⟩)) := by rw [Lib.cell_of_heap hb2]; rfl
  have d1 : w2.cell? ⟨b, 1, none⟩ = some v := by rw [Lib.cell_of_heap hb2]; rfl
  have f1 : w2.frozen? ⟨b, 1, none⟩ = false := Lib.frozen_of_heap hb2 1
  obtain ⟨ao, n', cap, rfl⟩ : ∃ ao n' cap, v' = .slice ao n' cap := by
    rcases hown'.2 with ⟨hv, _⟩ | ⟨g, cap, cur, hv, _⟩
    · exact ⟨_, _, _, hv⟩
    · exact ⟨_, _, _, hv⟩
  go_wp2
  go_ret2
  refine ⟨rfl, ?_, ?_, ?_⟩
  · exact Lib.BuilderAt.put (T := 77) (e := 5) hB hb2 (bs' := bs ++ Lib.strCells s) (by simpa [Lib.strCells_length] using hown') (by decide)
  · exact (hb1.grown hgrow (by have := hb1.size; omega) (fun k hk => (hown.lt k hk).1)).setCell (p := ⟨b, 1, none⟩) hB _
  · intro b' cs T hq hT hbb
    have hq1 := (hfr b' hbb).trans hq
    rw [Below.heap_setCell _ _ _ _ hbb]
    exact blk_grown' hown hq1 hT hgrow
theorem bui_lt {B b : Nat} {bs : List Value} {w : World} (h : IsBui B b bs w) : b < w.heap.size := by
  rcases h with ⟨_, v, h2, _⟩ | ⟨_, v, h2, _⟩ <;> exact (Array.getElem?_eq_some_iff.1 h2).1
set_option maxRecDepth 100000 in
set_option maxHeartbeats 4000000 in
theorem key_any (sa : Option Addr) (sn sc : Nat) (s : List Stg) (w : World) (hs : Lst Enc.stg w (fun b => b < w.heap.size) sa sn s) (hbs : ∀ x ∈ s, x.1.length ≤ 300000 ∧ x.2.length ≤ 300000) (hn : sn ≤ 1000) :
    Calls Try.prog 23 #[.agg #[.slice sa sn sc]] w fun e w' => e = .returned (.string ⟨(keyB s).toArray⟩) ∧ Below w.heap.size w w' := by
  have hsl := hs.1
  have hI := int_len (sn : Int)
  have hF := stgs_len s hbs
  rw [hsl] at hF
  obtain ⟨b1, V1, hb1, hV1, st⟩ := (St.start w).new (Obj.cells #[.slice sa sn sc] 29)
  have k1 := st.get 0 rfl
  have hz1 := st.below
  have hB0 := Lib.fresh_isBuilder 77 5 V1
  obtain ⟨W0, hW0⟩ : ∃ W0, V1.heap.size = W0 := ⟨_, rfl⟩
  have hc3 : b1 + 1 = W0 := by rw [← hW0, ← hV1, World.size_alloc, hb1]
  have hbel : Below V1.heap.size V1 (V1.alloc (Obj.cells #[.pointer none, .slice none 0 0] 77)) := (Below.refl _ _).alloc (Nat.le_refl _) _
  obtain ⟨V3, hV3⟩ : ∃ V3, V1.alloc (Obj.cells #[.pointer none, .slice none 0 0] 77) = V3 := ⟨_, rfl⟩
  rw [hV3, hW0] at hB0
  rw [hV3, hW0] at hbel
  have hs1 := hs.under hz1
  rw [hW0] at hs1
  have hle : W0 ≤ V1.heap.size := Nat.le_of_eq hW0.symm
  clear st hs
  replace hsl := hide hsl; replace hb1 := hide hb1; replace hV1 := hide hV1; replace k1 := hide k1; replace hz1 := hide hz1; replace hB0 := hide hB0; replace hc3 := hide hc3; replace hV3 := hide hV3; replace hs1 := hide hs1; replace hbs := hide hbs; replace hW0 := hide hW0; replace hbel := hide hbel
  go_enter Try.func23, Try.ntmps23
  go_upto_region 2 with fail
  try rw [unhide hb1]
  try rw [unhide hc3]
  rw [unhide hV1, unhide hV3]
  clear hV1 hV3 hb1 hc3
  have hbel0 := unhide hbel
  have d1 := blk_cell ((hbel0.block b1 (by have := (Array.getElem?_eq_some_iff.1 (unhide k1)).1; have := unhide hW0; omega)).trans (unhide k1))
  clear hbel0
  go_wp2_with fail
  refine (wint_any _ _ (size_i64 _ (by omega))).mono ?_
  rintro e w1 ⟨rfl, hb1⟩
  have hle3 : W0 ≤ V3.heap.size := Nat.le_trans hle (unhide hbel).size
  have hB1 : IsBui W0 W0 (Lib.byteCells []) w1 := bui_below (unhide hB0) hb1
  have hbel1 := hide ((unhide hbel).trans (hb1.mono hle3))
  have hle1 : W0 ≤ w1.heap.size := Nat.le_trans hle3 hb1.size
  clear hb1 hB0 hbel
  replace hB1 := hide hB1
  go_wp2_with fail
  refine (bwrites_any W0 W0 _ _ _ (unhide hB1) (by rw [ba_size]; simp [Lib.byteCells]; omega) hle1).mono ?_
  rintro e w2 ⟨rfl, hB2, hb2⟩
  rw [strCells_mk, bytes_app, List.nil_append] at hB2
  have hbel2 := (unhide hbel1).trans hb2
  have d1 := blk_cell ((hbel2.block b1 (by have := (Array.getElem?_eq_some_iff.1 (unhide k1)).1; have := unhide hW0; omega)).trans (unhide k1))
  clear hb2 hB1 hbel1
  replace hbel2 := hide hbel2; replace hB2 := hide hB2
  go_wp2_with fail
  clear d1
  go_loopw [14] (fun v wr => ∃ k : Nat, k ≤ sn ∧ v = .int .i64 (k : Int) ∧ IsBui W0 W0 (Lib.byteCells (Wi.int (sn : Int) ++ (s.take k).flatMap stgB)) wr ∧ Below W0 V1 wr) (fun v _ => (sn - intOf v).toNat)
  case atStart => exact ⟨0, by omega, rfl, Or.inr (by simpa using unhide hB2), unhide hbel2⟩
  case round =>
    obtain ⟨k, hk, rfl, hb, hbw⟩ := hrel
    clear hB2 hbel2
    obtain ⟨wo, rfl⟩ : ∃ W : World, W = wr := ⟨_, rfl⟩
    have hleo : W0 ≤ wo.heap.size := Nat.le_trans hle hbw.size
    have d1 := blk_cell ((hbw.block b1 (by have := (Array.getElem?_eq_some_iff.1 (unhide k1)).1; have := unhide hW0; omega)).trans (unhide k1))
    by_cases hlt : k < sn
    · obtain ⟨bS, oS, x, a1, n1, c1, a2, n2, c2, rfl, _, hx, ⟨_, _, p1⟩, ⟨_, _, p2⟩, e1, e2⟩ := lst_stg ((unhide hs1).below hbw) hlt
      obtain ⟨hx1, hx2⟩ := unhide hbs x (List.mem_of_getElem? hx)
      have q1 := p1.1
      have q2 := p2.1
      have hcat := flat_step stgB s k x hx
      have hmono := flat_le stgB s (k + 1)
      rw [hcat] at hmono
      have hsb : (stgB x).length = (Wi.ints x.1).length + (Wi.ints x.2).length := by unfold stgB; rw [List.length_append]
      rw [List.length_append, hsb] at hmono
      obtain ⟨b5, V5, hb5, hV5, st⟩ := (St.start wo).new (Obj.cells #[.slice a1 n1 c1, .slice a2 n2 c2] 33)
      have hbb := st.below
      have hb5n : b5 ≠ W0 := by have := bui_lt hb; omega
      have k5 := st.get 0 rfl
      have hB5 := bui_below hb hbb
      have hbw5 := hbw.trans (hbb.mono hleo)
      have hle5 : W0 ≤ V5.heap.size := Nat.le_trans hleo hbb.size
      have p15 := (p1.below (hbb.mono hleo)).wide (S' := fun b => b < V5.heap.size) (fun b (hb : b < W0) => by omega)
      have p25 := p2.below (hbb.mono hleo)
      have hwc := hide (wints_any a1 n1 c1 x.1 V5 p15 (by omega))
      have hwd := hide (fun w h => wints_any a2 n2 c2 x.2 w h (by omega))
      clear st hb hbw hbb p1 p2 p15 q1 q2 hx
      replace hb5n := hide hb5n; replace hb5 := hide hb5; replace hV5 := hide hV5; replace k5 := hide k5; replace hB5 := hide hB5; replace hbw5 := hide hbw5; replace p25 := hide p25; replace hcat := hide hcat; replace hmono := hide hmono; replace hsb := hide hsb; replace hF := hide hF; replace hI := hide hI
      go_upto_region 6 with fail
      rw [unhide hV5]
      try rw [unhide hb5]
      clear hV5 hb5 e1 e2 d1
      have z1 := cell_of_row V5 b5 0 _ _ _ (unhide k5)
      go_wp2_with fail
      refine (unhide hwc).mono ?_
      rintro e w6 ⟨rfl, hb6⟩
      have hB6 := bui_below (unhide hB5) hb6
      have hbw6 := (unhide hbw5).trans (hb6.mono hle5)
      have hle6 : W0 ≤ w6.heap.size := Nat.le_trans hle5 hb6.size
      have k6 := kept' hb6 (unhide k5)
      have p26 := (unhide p25).below (hb6.mono hle5)
      clear hwc hB5 hbw5 z1 p25
      replace hB6 := hide hB6; replace hbw6 := hide hbw6; replace k6 := hide k6; replace p26 := hide p26
      have hbl := hb5n
      go_wp2_with fail
      refine (bwrites2_any W0 W0 _ _ _ (unhide hB6) (by rw [ba_size, Lib.byteCells_length, List.length_append]; have := unhide hmono; have := unhide hF; have := (unhide hI).2; omega) hle6).mono ?_
      rintro e w7 ⟨rfl, hB7, hb7, hfr⟩
      rw [strCells_mk, bytes_app] at hB7
      have k7 := hfr b5 _ _ (unhide k6) (by decide) (unhide hbl)
      have hbw7 := (unhide hbw6).trans hb7
      have hle7 : W0 ≤ w7.heap.size := Nat.le_trans hle hbw7.size
      have z2 := cell_of_row w7 b5 1 _ _ _ k7
      have p27 := ((unhide p26).below hb7)
      have hwe := hide (unhide hwd w7 (p27.wide (S' := fun b => b < w7.heap.size) (fun b (hb : b < W0) => by omega)))
      clear hB6 hbw6 k6 p26 hb7 hfr p27 k7 hwd hb5n
      replace hB7 := hide hB7; replace hbw7 := hide hbw7
      go_wp2_with fail
      refine (unhide hwe).mono ?_
      rintro e w8 ⟨rfl, hb8⟩
      have hB8 := bui_below (.inr (unhide hB7)) hb8
      have hbw8 := (unhide hbw7).trans (hb8.mono hle7)
      have hle8 : W0 ≤ w8.heap.size := Nat.le_trans hle7 hb8.size
      clear hwe hB7 hbw7 hb8 z2
      replace hB8 := hide hB8; replace hbw8 := hide hbw8
      go_wp2_with fail
      refine (bwrites_any W0 W0 _ _ _ (unhide hB8) (by rw [ba_size, Lib.byteCells_length, List.length_append, List.length_append]; have := unhide hmono; have := unhide hF; have := (unhide hI).2; omega) hle8).mono ?_
      rintro e w9 ⟨rfl, hB9, hb9⟩
      rw [strCells_mk, bytes_app, show (Wi.int (sn : Int) ++ (s.take k).flatMap stgB ++ Wi.ints x.1) ++ Wi.ints x.2 = Wi.int (sn : Int) ++ (s.take (k + 1)).flatMap stgB by rw [unhide hcat]; unfold stgB; simp only [List.append_assoc]] at hB9
      have hbw9 := (unhide hbw8).trans hb9
      clear hB8 hbw8 hb9
      replace hB9 := hide hB9; replace hbw9 := hide hbw9
      go_wp2_with fail
      go_roundw
      case rel => exact ⟨k + 1, by omega, by go_num, Or.inr (unhide hB9), unhide hbw9⟩
      case measure => simp [intOf]; omega
    · have hkk : (Wi.int (sn : Int) ++ (s.take k).flatMap stgB) = keyB s := by
        unfold keyB
        rw [List.take_of_length_le (by rw [unhide hsl]; omega), unhide hsl]
      rw [hkk] at hb
      have t1 : decide ((k : Int) < (sn : Int)) = false := by simp; omega
      clear hkk d1
      replace hb := hide hb; replace hbw := hide hbw
      go_wp2_with fail
      refine (Try.Builder_String_any W0 W0 _ _ (unhide hb) hleo).mono ?_
      rintro e w3 ⟨rfl, hb3⟩
      have hzz := (unhide hz1).trans (((unhide hbw).trans hb3).mono (by rw [← unhide hW0]; exact (unhide hz1).size))
      clear hbw hb hb3
      replace hzz := hide hzz
      go_wp2_with fail
      go_ret
      exact ⟨rfl, unhide hzz⟩
end Go.Proofs.Ytfbgbbbfpkpfkaa
