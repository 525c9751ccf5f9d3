/- Merged: XTrK0 XTrK1 XTrKP XTrK2 XTrK -/
import Derived.Test.YtfbgbbbfpkpfkaaTrH
import Derived.Test.YtfbgbbbfpkpfkaaWi5
import Derived.Test.YtfbgbbbfpkpfkaaWiV
import Derived.Test.YtfbgbbbfpkpfkaaTrH
-- @@XTrK0
/- Streams: the reference's Same. -/
namespace Go.Proofs.Ytfbgbbbfpkpfkaa
open Go.RowKit
set_option maxRecDepth 100000 in
set_option maxHeartbeats 4000000 in
theorem same_any (sa : Option Addr) (sn sc : Nat) (s : List Stg) (ta : Option Addr) (tn tc : Nat) (t : List Stg) (w : World) (hs : Lst Enc.stg w (fun b => b < w.heap.size) sa sn s) (ht : Lst Enc.stg w (fun b => b < w.heap.size) ta tn t) (hbs : ∀ x ∈ s, x.1.length ≤ 300000 ∧ x.2.length ≤ 300000) (hbt : ∀ x ∈ t, x.1.length ≤ 300000 ∧ x.2.length ≤ 300000) (hn1 : sn ≤ 1000000) (hn2 : tn ≤ 1000000) :
    Calls Try.prog 22 #[.agg #[.slice sa sn sc], .agg #[.slice ta tn tc]] w fun e w' => e = .returned (.bool (decide (s = t))) ∧ Below w.heap.size w w' := by
  have hsl := hs.1
  have htl := ht.1
  obtain ⟨b2, V2, hb2, hV2, st⟩ := (St.start w).new (Obj.cells #[.slice sa sn sc] 29)
  obtain ⟨b3, V3, hb3, hV3, st⟩ := st.new (Obj.cells #[.slice ta tn tc] 29)
  have hc3 : b2 + 1 = b3 := by rw [← hb3, ← hV2, World.size_alloc, hb2]
  have k2 := st.get 1 rfl
  have k3 := st.get 0 rfl
  have hz := st.below
  have hs3 := hs.under hz
  have ht3 := ht.under hz
  clear st hs ht
  replace hsl := hide hsl; replace htl := hide htl; replace hb2 := hide hb2; replace hV2 := hide hV2; replace hb3 := hide hb3; replace hV3 := hide hV3; replace hc3 := hide hc3; replace k2 := hide k2; replace k3 := hide k3; replace hz := hide hz; replace hs3 := hide hs3; replace ht3 := hide ht3; replace hbs := hide hbs; replace hbt := hide hbt
  go_enter Try.func22, Try.ntmps22
  go_upto_region 1 with fail
  try rw [unhide hb2]
  try rw [unhide hc3]
  rw [unhide hV2, unhide hV3]
  clear hV2 hV3 hb2 hb3 hc3
  have d2 := blk_cell (unhide k2)
  have d3 := blk_cell (unhide k3)
  by_cases hne : sn = tn
  · subst hne
    have t1 : ((sn : Int) != (sn : Int)) = false := by simp
    go_wp2_with fail
    clear t1 d2 d3
    go_loopw [5] (fun v wr => ∃ k : Nat, k ≤ sn ∧ v = .int .i64 (k : Int) ∧ s.take k = t.take k ∧ Below V3.heap.size V3 wr) (fun v _ => sn - (intOf v).toNat)
    case atStart => exact ⟨0, by omega, rfl, rfl, Below.refl _ _⟩
    case round =>
      obtain ⟨k, hk, rfl, hpre, hbw⟩ := hrel
      obtain ⟨wo, rfl⟩ : ∃ W : World, W = wr := ⟨_, rfl⟩
      have d2 := blk_cell (kept' hbw (unhide k2))
      have d3 := blk_cell (kept' hbw (unhide k3))
      by_cases hlt : k < sn
      · obtain ⟨bS, oS, x, a1, n1, c1, a2, n2, c2, rfl, _, hx, ⟨_, _, p1⟩, ⟨_, _, p2⟩, e1, e2⟩ := lst_stg ((unhide hs3).under hbw) hlt
        obtain ⟨bT, oT, y, a3, n3, c3, a4, n4, c4, rfl, _, hy, ⟨_, _, p3⟩, ⟨_, _, p4⟩, e3, e4⟩ := lst_stg ((unhide ht3).under hbw) hlt
        obtain ⟨hx1, hx2⟩ := unhide hbs x (List.mem_of_getElem? hx)
        obtain ⟨hy1, hy2⟩ := unhide hbt y (List.mem_of_getElem? hy)
        have g1 := p1.1
        have g2 := p2.1
        have g3 := p3.1
        have g4 := p4.1
        have hq1 := fun n => Calls.quiet_of (sameInts_any a1 n1 c1 x.1 a3 n3 c3 y.1 (wo.drewN n) (p1.drewN n) (p3.drewN n) (by omega) (by omega))
        have hq2 := fun n => Calls.quiet_of (sameInts_any a2 n2 c2 x.2 a4 n4 c4 y.2 (wo.drewN n) (p2.drewN n) (p4.drewN n) (by omega) (by omega))
        have hze := hide ((unhide hz).trans (hbw.mono (unhide hz).size))
        have i1 : (0 : Int) ≤ (k : Int) := by omega
        have i2 : (k : Int) < (sn : Int) := by omega
        clear p1 p2 p3 p4 g1 g2 g3 g4 hx1 hx2 hy1 hy2
        by_cases h1 : x.1 = y.1
        · have hd1 : decide (x.1 = y.1) = true := decide_eq_true h1
          simp only [hd1] at hq1
          by_cases h2 : x.2 = y.2
          · have hd2 : decide (x.2 = y.2) = true := decide_eq_true h2
            simp only [hd2] at hq2
            have hxy : x = y := Prod.ext h1 h2
            have hpre2 : s.take (k + 1) = t.take (k + 1) := by rw [← take_snoc hx, ← take_snoc hy, hpre, hxy]
            clear hd1 hd2 h1 h2 hx hy hxy hpre
            replace hq1 := hide hq1; replace hq2 := hide hq2; replace hpre2 := hide hpre2; replace hbw := hide hbw
            go_wp2_with fail
            go_quiet ((go_at_call 15; first | with_reducible exact unhide hq1 _ | with_reducible exact unhide hq2 _))
            go_wp2_with fail
            go_roundw
            case rel => exact ⟨k + 1, by omega, by go_num, unhide hpre2, blw_drewN (unhide hbw) _⟩
            case measure => simp [intOf]; omega
          · have hd2 : decide (x.2 = y.2) = false := decide_eq_false h2
            simp only [hd2] at hq2
            have hst : decide (s = t) = false := decide_eq_false (fun e => h2 (by subst e; have := hx.symm.trans hy; injection this with e; rw [e]))
            clear hd1 hd2 h1 h2 hx hy hpre
            replace hq1 := hide hq1; replace hq2 := hide hq2; replace hst := hide hst
            go_wp2_with fail
            go_quiet ((go_at_call 15; first | with_reducible exact unhide hq1 _ | with_reducible exact unhide hq2 _))
            go_wp2_with fail
            go_ret
            exact ⟨by rw [unhide hst]; rfl, blw_drewN (unhide hze) _⟩
        · have hd1 : decide (x.1 = y.1) = false := decide_eq_false h1
          simp only [hd1] at hq1
          have hst : decide (s = t) = false := decide_eq_false (fun e => h1 (by subst e; have := hx.symm.trans hy; injection this with e; rw [e]))
          clear hd1 h1 hx hy hpre hq2
          replace hq1 := hide hq1; replace hst := hide hst
          go_wp2_with fail
          go_quiet ((go_at_call 15; with_reducible exact unhide hq1 _))
          go_wp2_with fail
          go_ret
          exact ⟨by rw [unhide hst]; rfl, blw_drewN (unhide hze) _⟩
      · have hst : decide (s = t) = true := decide_eq_true (by rw [List.take_of_length_le (by rw [unhide hsl]; omega), List.take_of_length_le (by rw [unhide htl]; omega)] at hpre; exact hpre)
        have hze := hide ((unhide hz).trans (hbw.mono (unhide hz).size))
        have t1 : decide ((k : Int) < (sn : Int)) = false := by simp; omega
        clear hpre hbw
        replace hst := hide hst
        go_wp2_with fail
        go_ret
        exact ⟨by rw [unhide hst]; rfl, unhide hze⟩
  · have hst : decide (s = t) = false := decide_eq_false (fun e => hne (by rw [← unhide hsl, ← unhide htl, e]))
    have t1 : ((sn : Int) != (tn : Int)) = true := by simp; omega
    replace hst := hide hst
    go_wp2_with fail
    go_ret
    exact ⟨by rw [unhide hst]; rfl, unhide hz⟩
end Go.Proofs.Ytfbgbbbfpkpfkaa
-- @@XTrK1
/- Streams: Key. -/
namespace Go.Proofs.Ytfbgbbbfpkpfkaa
open Go.RowKit
def stgB (x : Stg) : List UInt8 := Wi.ints x.1 ++ Wi.ints x.2
def keyB (s : List Stg) : List UInt8 := Wi.int s.length ++ s.flatMap stgB
theorem wints_len (l : List Int) : (Wi.ints l).length ≤ 11 * l.length + 11 := by
  unfold Wi.ints
  have := ints_len l
  have := int_len (l.length : Int)
  rw [List.length_append]
  omega
theorem stgs_len (s : List Stg) (h : ∀ x ∈ s, x.1.length ≤ 300000 ∧ x.2.length ≤ 300000) : (s.flatMap stgB).length ≤ 6600022 * s.length := by
  induction s with
  | nil => simp
  | cons x s ih =>
    have h1 := ih (fun y hy => h y (by simp [hy]))
    have h2 := h x (by simp)
    have h3 := wints_len x.1
    have h4 := wints_len x.2
    rw [List.flatMap_cons, List.length_append, List.length_cons]
    unfold stgB at *
    rw [List.length_append]
    omega
theorem blk_grown' {w w2 : World} {B T s n : Nat} {v : Value} {xs : List Value} {b : Nat} {cs : Array Value} {T' : TypeId} (h : w.ownsRow B T s v n xs) (hb : w.heap[b]? = some (.cells cs T' (0, 0))) (hne : T ≠ T') (hg : w.grownBy w2 v.ownBlock) : w2.heap[b]? = some (.cells cs T' (0, 0)) :=
  (hg.block b (Array.getElem?_eq_some_iff.1 hb).1 (fun e => own_ne_blk h hb hne e.symm)).trans hb
theorem copyCheck2_any (B b : Nat) (bs : List Value) (w : World) (h : IsBui B b bs w) :
    Calls Try.prog 58 #[.pointer (some ⟨b, 0, none⟩)] w fun e w' => e = .returned (.tuple #[]) ∧ BuiAt B b bs w' ∧ Below B w w' ∧ ∀ b', b' ≠ b → w'.heap[b']? = w.heap[b']? := by
  rcases h with h | h
  · refine (copyCheck_fresh b w h.cell0 h.shape h.frozen0).mono ?_
    rintro e w' ⟨rfl, rfl⟩
    exact ⟨rfl, h.used _, (Below.refl B w).setCell (p := ⟨b, 0, none⟩) h.1 _, fun b' hb' => Below.heap_setCell _ _ _ _ hb'⟩
  · refine (copyCheck_used b w h.cell0).mono ?_
    rintro e w' ⟨rfl, rfl⟩
    exact ⟨rfl, h, Below.refl B _, fun _ _ => rfl⟩
set_option maxHeartbeats 1000000 in
theorem bwrites2_any (B b : Nat) (bs : List Value) (s : ByteArray) (w : World) (h : IsBui B b bs w) (hlen : bs.length + s.size ≤ 140737488355328) (hBw : B ≤ w.heap.size) :
    Calls Try.prog 40 #[.pointer (some ⟨b, 0, none⟩), .string s] w fun e w' => e = .returned (.tuple #[.int .i64 s.size, .nilIface]) ∧ BuiAt B b (bs ++ Lib.strCells s) w' ∧ Below B w w' ∧ ∀ (b' : Nat) (cs : Array Value) (T : TypeId), w.heap[b']? = some (.cells cs T (0, 0)) → 5 ≠ T → b' ≠ b → w'.heap[b']? = some (.cells cs T (0, 0)) := by
  obtain ⟨i0, hi, hz0, hz1, hz2⟩ := info_parts byte_info
  go_enter Try.func40, Try.ntmps40
  go_wp2_with fail
  refine (copyCheck2_any B b bs _ h).mono ?_
  rintro e w1 ⟨rfl, h1, hb1, hfr⟩
  obtain ⟨hB, v, hbk, hown, hne⟩ := h1
  have c0 : w1.cell? ⟨b, 0, none⟩ = some (.pointer (some ⟨b, 0, none⟩)) := by rw [Lib.cell_of_heap hbk]; rfl
  have c1 : w1.cell? ⟨b, 1, none⟩ = some v := by rw [Lib.cell_of_heap hbk]; rfl
  go_wp2_with (at_builtin; refine Lib.wpList_append_own_string _ rfl _ _ 75 9 rfl B 5 i0 Try.underlying75 Try.underlying9 hi hz0 hz1 hz2 _ _ _ rfl hown s rfl ?c3 ?c4 ?c5 ?_)
  case c3 => unfold maxLen; omega
  case c4 => omega
  case c5 => have := hb1.size; omega
  intro v' w2 hown' hgrow _
  have hlt : b < w1.heap.size := by
    rcases Nat.lt_or_ge b w1.heap.size with h' | h'
    · exact h'
    · simp [Array.getElem?_eq_none h'] at hbk
  have hb2 : w2.heap[b]? = some (.cells #[.pointer (some ⟨b, 0, none⟩), v] 77 (0, 0)) := by
    rw [hgrow.block b hlt (fun e => hne e.symm)]
    exact hbk
  have d0 : w2.cell? ⟨b, 0, none⟩ = some (.pointer (some ⟨b, 0, none⟩)) := by rw [Lib.cell_of_heap hb2]; rfl
  have d1 : w2.cell? ⟨b, 1, none⟩ = some v := by rw [Lib.cell_of_heap hb2]; rfl
  have f1 : w2.frozen? ⟨b, 1, none⟩ = false := Lib.frozen_of_heap hb2 1
  obtain ⟨ao, n', cap, rfl⟩ : ∃ ao n' cap, v' = .slice ao n' cap := by
    rcases hown'.2 with ⟨hv, _⟩ | ⟨g, cap, cur, hv, _⟩
    · exact ⟨_, _, _, hv⟩
    · exact ⟨_, _, _, hv⟩
  go_wp2
  go_ret2
  refine ⟨rfl, ?_, ?_, ?_⟩
  · exact Lib.BuilderAt.put (T := 77) (e := 5) hB hb2 (bs' := bs ++ Lib.strCells s) (by simpa [Lib.strCells_length] using hown') (by decide)
  · exact (hb1.grown hgrow (by have := hb1.size; omega) (fun k hk => (hown.lt k hk).1)).setCell (p := ⟨b, 1, none⟩) hB _
  · intro b' cs T hq hT hbb
    have hq1 := (hfr b' hbb).trans hq
    rw [Below.heap_setCell _ _ _ _ hbb]
    exact blk_grown' hown hq1 hT hgrow
theorem bui_lt {B b : Nat} {bs : List Value} {w : World} (h : IsBui B b bs w) : b < w.heap.size := by
  rcases h with ⟨_, v, h2, _⟩ | ⟨_, v, h2, _⟩ <;> exact (Array.getElem?_eq_some_iff.1 h2).1
set_option maxRecDepth 100000 in
set_option maxHeartbeats 4000000 in
theorem key_any (sa : Option Addr) (sn sc : Nat) (s : List Stg) (w : World) (hs : Lst Enc.stg w (fun b => b < w.heap.size) sa sn s) (hbs : ∀ x ∈ s, x.1.length ≤ 300000 ∧ x.2.length ≤ 300000) (hn : sn ≤ 1000) :
    Calls Try.prog 23 #[.agg #[.slice sa sn sc]] w fun e w' => e = .returned (.string ⟨(keyB s).toArray⟩) ∧ Below w.heap.size w w' := by
  have hsl := hs.1
  have hI := int_len (sn : Int)
  have hF := stgs_len s hbs
  rw [hsl] at hF
  obtain ⟨b1, V1, hb1, hV1, st⟩ := (St.start w).new (Obj.cells #[.slice sa sn sc] 29)
  have k1 := st.get 0 rfl
  have hz1 := st.below
  have hB0 := Lib.fresh_isBuilder 77 5 V1
  obtain ⟨W0, hW0⟩ : ∃ W0, V1.heap.size = W0 := ⟨_, rfl⟩
  have hc3 : b1 + 1 = W0 := by rw [← hW0, ← hV1, World.size_alloc, hb1]
  have hbel : Below V1.heap.size V1 (V1.alloc (Obj.cells #[.pointer none, .slice none 0 0] 77)) := (Below.refl _ _).alloc (Nat.le_refl _) _
  obtain ⟨V3, hV3⟩ : ∃ V3, V1.alloc (Obj.cells #[.pointer none, .slice none 0 0] 77) = V3 := ⟨_, rfl⟩
  rw [hV3, hW0] at hB0
  rw [hV3, hW0] at hbel
  have hs1 := hs.under hz1
  rw [hW0] at hs1
  have hle : W0 ≤ V1.heap.size := Nat.le_of_eq hW0.symm
  clear st hs
  replace hsl := hide hsl; replace hb1 := hide hb1; replace hV1 := hide hV1; replace k1 := hide k1; replace hz1 := hide hz1; replace hB0 := hide hB0; replace hc3 := hide hc3; replace hV3 := hide hV3; replace hs1 := hide hs1; replace hbs := hide hbs; replace hW0 := hide hW0; replace hbel := hide hbel
  go_enter Try.func23, Try.ntmps23
  go_upto_region 2 with fail
  try rw [unhide hb1]
  try rw [unhide hc3]
  rw [unhide hV1, unhide hV3]
  clear hV1 hV3 hb1 hc3
  have hbel0 := unhide hbel
  have d1 := blk_cell ((hbel0.block b1 (by have := (Array.getElem?_eq_some_iff.1 (unhide k1)).1; have := unhide hW0; omega)).trans (unhide k1))
  clear hbel0
  go_wp2_with fail
  refine (wint_any _ _ (size_i64 _ (by omega))).mono ?_
  rintro e w1 ⟨rfl, hb1⟩
  have hle3 : W0 ≤ V3.heap.size := Nat.le_trans hle (unhide hbel).size
  have hB1 : IsBui W0 W0 (Lib.byteCells []) w1 := bui_below (unhide hB0) hb1
  have hbel1 := hide ((unhide hbel).trans (hb1.mono hle3))
  have hle1 : W0 ≤ w1.heap.size := Nat.le_trans hle3 hb1.size
  clear hb1 hB0 hbel
  replace hB1 := hide hB1
  go_wp2_with fail
  refine (bwrites_any W0 W0 _ _ _ (unhide hB1) (by rw [ba_size]; simp [Lib.byteCells]; omega) hle1).mono ?_
  rintro e w2 ⟨rfl, hB2, hb2⟩
  rw [strCells_mk, bytes_app, List.nil_append] at hB2
  have hbel2 := (unhide hbel1).trans hb2
  have d1 := blk_cell ((hbel2.block b1 (by have := (Array.getElem?_eq_some_iff.1 (unhide k1)).1; have := unhide hW0; omega)).trans (unhide k1))
  clear hb2 hB1 hbel1
  replace hbel2 := hide hbel2; replace hB2 := hide hB2
  go_wp2_with fail
  clear d1
  go_loopw [14] (fun v wr => ∃ k : Nat, k ≤ sn ∧ v = .int .i64 (k : Int) ∧ IsBui W0 W0 (Lib.byteCells (Wi.int (sn : Int) ++ (s.take k).flatMap stgB)) wr ∧ Below W0 V1 wr) (fun v _ => (sn - intOf v).toNat)
  case atStart => exact ⟨0, by omega, rfl, Or.inr (by simpa using unhide hB2), unhide hbel2⟩
  case round =>
    obtain ⟨k, hk, rfl, hb, hbw⟩ := hrel
    clear hB2 hbel2
    obtain ⟨wo, rfl⟩ : ∃ W : World, W = wr := ⟨_, rfl⟩
    have hleo : W0 ≤ wo.heap.size := Nat.le_trans hle hbw.size
    have d1 := blk_cell ((hbw.block b1 (by have := (Array.getElem?_eq_some_iff.1 (unhide k1)).1; have := unhide hW0; omega)).trans (unhide k1))
    by_cases hlt : k < sn
    · obtain ⟨bS, oS, x, a1, n1, c1, a2, n2, c2, rfl, _, hx, ⟨_, _, p1⟩, ⟨_, _, p2⟩, e1, e2⟩ := lst_stg ((unhide hs1).below hbw) hlt
      obtain ⟨hx1, hx2⟩ := unhide hbs x (List.mem_of_getElem? hx)
      have q1 := p1.1
      have q2 := p2.1
      have hcat := flat_step stgB s k x hx
      have hmono := flat_le stgB s (k + 1)
      rw [hcat] at hmono
      have hsb : (stgB x).length = (Wi.ints x.1).length + (Wi.ints x.2).length := by unfold stgB; rw [List.length_append]
      rw [List.length_append, hsb] at hmono
      obtain ⟨b5, V5, hb5, hV5, st⟩ := (St.start wo).new (Obj.cells #[.slice a1 n1 c1, .slice a2 n2 c2] 33)
      have hbb := st.below
      have hb5n : b5 ≠ W0 := by have := bui_lt hb; omega
      have k5 := st.get 0 rfl
      have hB5 := bui_below hb hbb
      have hbw5 := hbw.trans (hbb.mono hleo)
      have hle5 : W0 ≤ V5.heap.size := Nat.le_trans hleo hbb.size
      have p15 := (p1.below (hbb.mono hleo)).wide (S' := fun b => b < V5.heap.size) (fun b (hb : b < W0) => by omega)
      have p25 := p2.below (hbb.mono hleo)
      have hwc := hide (wints_any a1 n1 c1 x.1 V5 p15 (by omega))
      have hwd := hide (fun w h => wints_any a2 n2 c2 x.2 w h (by omega))
      clear st hb hbw hbb p1 p2 p15 q1 q2 hx
      replace hb5n := hide hb5n; replace hb5 := hide hb5; replace hV5 := hide hV5; replace k5 := hide k5; replace hB5 := hide hB5; replace hbw5 := hide hbw5; replace p25 := hide p25; replace hcat := hide hcat; replace hmono := hide hmono; replace hsb := hide hsb; replace hF := hide hF; replace hI := hide hI
      go_upto_region 6 with fail
      rw [unhide hV5]
      try rw [unhide hb5]
      clear hV5 hb5 e1 e2 d1
      have z1 := cell_of_row V5 b5 0 _ _ _ (unhide k5)
      go_wp2_with fail
      refine (unhide hwc).mono ?_
      rintro e w6 ⟨rfl, hb6⟩
      have hB6 := bui_below (unhide hB5) hb6
      have hbw6 := (unhide hbw5).trans (hb6.mono hle5)
      have hle6 : W0 ≤ w6.heap.size := Nat.le_trans hle5 hb6.size
      have k6 := kept' hb6 (unhide k5)
      have p26 := (unhide p25).below (hb6.mono hle5)
      clear hwc hB5 hbw5 z1 p25
      replace hB6 := hide hB6; replace hbw6 := hide hbw6; replace k6 := hide k6; replace p26 := hide p26
      have hbl := hb5n
      go_wp2_with fail
      refine (bwrites2_any W0 W0 _ _ _ (unhide hB6) (by rw [ba_size, Lib.byteCells_length, List.length_append]; have := unhide hmono; have := unhide hF; have := (unhide hI).2; omega) hle6).mono ?_
      rintro e w7 ⟨rfl, hB7, hb7, hfr⟩
      rw [strCells_mk, bytes_app] at hB7
      have k7 := hfr b5 _ _ (unhide k6) (by decide) (unhide hbl)
      have hbw7 := (unhide hbw6).trans hb7
      have hle7 : W0 ≤ w7.heap.size := Nat.le_trans hle hbw7.size
      have z2 := cell_of_row w7 b5 1 _ _ _ k7
      have p27 := ((unhide p26).below hb7)
      have hwe := hide (unhide hwd w7 (p27.wide (S' := fun b => b < w7.heap.size) (fun b (hb : b < W0) => by omega)))
      clear hB6 hbw6 k6 p26 hb7 hfr p27 k7 hwd hb5n
      replace hB7 := hide hB7; replace hbw7 := hide hbw7
      go_wp2_with fail
      refine (unhide hwe).mono ?_
      rintro e w8 ⟨rfl, hb8⟩
      have hB8 := bui_below (.inr (unhide hB7)) hb8
      have hbw8 := (unhide hbw7).trans (hb8.mono hle7)
      have hle8 : W0 ≤ w8.heap.size := Nat.le_trans hle7 hb8.size
      clear hwe hB7 hbw7 hb8 z2
      replace hB8 := hide hB8; replace hbw8 := hide hbw8
      go_wp2_with fail
      refine (bwrites_any W0 W0 _ _ _ (unhide hB8) (by rw [ba_size, Lib.byteCells_length, List.length_append, List.length_append]; have := unhide hmono; have := unhide hF; have := (unhide hI).2; omega) hle8).mono ?_
      rintro e w9 ⟨rfl, hB9, hb9⟩
      rw [strCells_mk, bytes_app, show (Wi.int (sn : Int) ++ (s.take k).flatMap stgB ++ Wi.ints x.1) ++ Wi.ints x.2 = Wi.int (sn : Int) ++ (s.take (k + 1)).flatMap stgB by rw [unhide hcat]; unfold stgB; simp only [List.append_assoc]] at hB9
      have hbw9 := (unhide hbw8).trans hb9
      clear hB8 hbw8 hb9
      replace hB9 := hide hB9; replace hbw9 := hide hbw9
      go_wp2_with fail
      go_roundw
      case rel => exact ⟨k + 1, by omega, by go_num, Or.inr (unhide hB9), unhide hbw9⟩
      case measure => simp [intOf]; omega
    · have hkk : (Wi.int (sn : Int) ++ (s.take k).flatMap stgB) = keyB s := by
        unfold keyB
        rw [List.take_of_length_le (by rw [unhide hsl]; omega), unhide hsl]
      rw [hkk] at hb
      have t1 : decide ((k : Int) < (sn : Int)) = false := by simp; omega
      clear hkk d1
      replace hb := hide hb; replace hbw := hide hbw
      go_wp2_with fail
      refine (Try.Builder_String_any W0 W0 _ _ (unhide hb) hleo).mono ?_
      rintro e w3 ⟨rfl, hb3⟩
      have hzz := (unhide hz1).trans (((unhide hbw).trans hb3).mono (by rw [← unhide hW0]; exact (unhide hz1).size))
      clear hbw hb hb3
      replace hzz := hide hzz
      go_wp2_with fail
      go_ret
      exact ⟨rfl, unhide hzz⟩
end Go.Proofs.Ytfbgbbbfpkpfkaa
-- @@XTrKP
/- Streams: keys are the same for equal states alone; in plain Lean. -/
namespace Go.Proofs.Ytfbgbbbfpkpfkaa
open Go.RowKit
theorem int_inj {n m : Int} (hn : I64 n) (hm : I64 m) {r r' : List UInt8} (h : Wi.int n ++ r = Wi.int m ++ r') : n = m ∧ r = r' := by
  have h1 := Wi.rInt_of hn r
  rw [h, Wi.rInt_of hm] at h1
  injection h1 with e1 e2
  injection e2 with e2
  exact ⟨e1.symm, e2.symm⟩
theorem flat_inj : ∀ (l l' : List Int) (r r' : List UInt8), l.length = l'.length → AllI l → AllI l' → l.flatMap Wi.int ++ r = l'.flatMap Wi.int ++ r' → l = l' ∧ r = r' := by
  intro l
  induction l with
  | nil =>
    intro l' r r' hl _ _ h
    cases l' with
    | nil => exact ⟨rfl, h⟩
    | cons => simp at hl
  | cons x l ih =>
    intro l' r r' hl h1 h2 h
    cases l' with
    | nil => simp at hl
    | cons y l' =>
      rw [List.flatMap_cons, List.flatMap_cons, List.append_assoc, List.append_assoc] at h
      obtain ⟨e1, e2⟩ := int_inj (h1 x (by simp)) (h2 y (by simp)) h
      obtain ⟨e3, e4⟩ := ih l' r r' (by simpa using hl) (fun z hz => h1 z (by simp [hz])) (fun z hz => h2 z (by simp [hz])) e2
      exact ⟨by rw [e1, e3], e4⟩
theorem ints_inj {l l' : List Int} {r r' : List UInt8} (hl : l.length ≤ 1000000) (hl' : l'.length ≤ 1000000) (h1 : AllI l) (h2 : AllI l') (h : Wi.ints l ++ r = Wi.ints l' ++ r') : l = l' ∧ r = r' := by
  unfold Wi.ints at h
  rw [List.append_assoc, List.append_assoc] at h
  obtain ⟨e1, e2⟩ := int_inj ⟨by omega, by omega⟩ ⟨by omega, by omega⟩ h
  exact flat_inj l l' r r' (by omega) h1 h2 e2
/-- a state whose numbers and lengths fit -/
def FitS (s : List Stg) : Prop := ∀ x ∈ s, (x.1.length ≤ 300000 ∧ x.2.length ≤ 300000) ∧ AllI x.1 ∧ AllI x.2
theorem stgs_inj : ∀ (s t : List Stg), s.length = t.length → FitS s → FitS t → s.flatMap stgB = t.flatMap stgB → s = t := by
  intro s
  induction s with
  | nil =>
    intro t hl _ _ _
    cases t with
    | nil => rfl
    | cons => simp at hl
  | cons x s ih =>
    intro t hl h1 h2 h
    cases t with
    | nil => simp at hl
    | cons y t =>
      rw [List.flatMap_cons, List.flatMap_cons] at h
      unfold stgB at h
      simp only [List.append_assoc] at h
      obtain ⟨⟨a1, a2⟩, a3, a4⟩ := h1 x (by simp)
      obtain ⟨⟨b1, b2⟩, b3, b4⟩ := h2 y (by simp)
      obtain ⟨e1, e2⟩ := ints_inj (by omega) (by omega) a3 b3 h
      obtain ⟨e3, e4⟩ := ints_inj (by omega) (by omega) a4 b4 e2
      have e5 := ih t (by simpa using hl) (fun z hz => h1 z (by simp [hz])) (fun z hz => h2 z (by simp [hz])) e4
      rw [show x = y from Prod.ext e1 e3, e5]
theorem key_inj {s t : List Stg} (hs : s.length ≤ 1000) (ht : t.length ≤ 1000) (h1 : FitS s) (h2 : FitS t) : keyB s = keyB t ↔ s = t := by
  constructor
  · intro h
    unfold keyB at h
    obtain ⟨e1, e2⟩ := int_inj ⟨by omega, by omega⟩ ⟨by omega, by omega⟩ h
    exact stgs_inj s t (by omega) h1 h2 e2
  · intro h; rw [h]
/-- the results that the law gathers from a state on -/
def gath (l : List (List Sub)) : List Stg → List Int → List Int
  | _, [] => []
  | s, g :: gs => (feedS l s g).2 ++ endS l (feedS l s g).1 ++ gath l (feedS l s g).1 gs
end Go.Proofs.Ytfbgbbbfpkpfkaa
-- @@XTrK2
/- StreamKeys: the state of its loop. -/
namespace Go.Proofs.Ytfbgbbbfpkpfkaa
open Go.RowKit
theorem alli_app {a b : List Int} (ha : AllI a) (hb : AllI b) : AllI (a ++ b) := fun x hx => (List.mem_append.1 hx).elim (ha x) (hb x)
theorem gath_snoc (l : List (List Sub)) : ∀ (g : List Int) (s : List Stg) (y : Int), gath l s (g ++ [y]) = gath l s g ++ (feedS l (feedAll l s g).1 y).2 ++ endS l (feedS l (feedAll l s g).1 y).1 := by
  intro g
  induction g with
  | nil => intro s y; simp [gath, feedAll]
  | cons x g ih =>
    intro s y
    rw [List.cons_append, gath, ih, gath]
    simp only [List.append_assoc, feedAll]
theorem lst_own2 {w : World} {base n m c : Nat} {a : Option Addr} {l : List Int} (h : w.ownsRow base 3 1 (.slice a m c) n (vints l)) (hl : AllI l) : Lst Enc.int w (fun b => base ≤ b ∧ b < w.heap.size) a m l := by
  obtain ⟨h1, h2⟩ := (lst_own h hl).1
  refine ⟨h1, fun hp => ?_⟩
  obtain ⟨b, off, rfl, hb, hc⟩ := h2 hp
  exact ⟨b, off, rfl, ⟨(h.lt b rfl).1, hb⟩, hc⟩
theorem start_bounds (l : List (List Sub)) (X : List Int) (hX : X.length ≤ 20) : tot (feedAll l (startS l) X).1 [] ≤ 20 ∧ (∀ s ∈ (feedAll l (startS l) X).1, s.1.length ≤ 300000) ∧ (feedAll l (startS l) X).1.length = l.length := by
  have t := feedAll_tot l X (startS l) (startS_len l)
  rw [tot_start] at t
  refine ⟨?_, feedAll_back l 300000 (by omega) X (startS l) (startS_len l) (back_start l _), feedAll_len l X (startS l) (startS_len l)⟩
  unfold tot at *
  simp only [List.length_nil]
  omega
theorem step_bounds {l : List (List Sub)} {A : List Stg} (hl : A.length = l.length) (tA : tot A [] ≤ 20) (bA : ∀ s ∈ A, s.1.length ≤ 300000) (g : List Int) (hg : g.length ≤ 20) : tot (feedAll l A g).1 [] ≤ 40 ∧ (∀ s ∈ (feedAll l A g).1, s.1.length ≤ 300000) ∧ (feedAll l A g).1.length = l.length := by
  have t := feedAll_tot l g A hl
  refine ⟨?_, feedAll_back l 300000 (by omega) g A hl bA, feedAll_len l g A hl⟩
  unfold tot at *
  simp only [List.length_nil] at *
  omega
/-- blocks that neither the rows nor the boxes own -/
def FP (b18 b19 X : Nat) (o q : Value) (w : World) (b : Nat) : Prop := b ≠ b18 ∧ b ≠ b19 ∧ o.ownBlock ≠ some b ∧ q.ownBlock ≠ some b ∧ b < w.heap.size ∧ b ≠ X
structure KS (V : World) (B b18 b19 X : Nat) (ln : Nat) (ma : Option Addr) (mn : Nat) (M : List Int) (o q : Value) (n1 n2 : Nat) (G1 G2 : List Int) (ca : Option Addr) (cc : Nat) (C : List Stg) (da : Option Addr) (dc : Nat) (D : List Stg) (w : World) : Prop where
  bel : Below B V w
  hB : B ≤ w.heap.size
  g18 : B ≤ b18 ∧ B ≤ b19 ∧ b18 ≠ b19
  hX : X < w.heap.size
  r1 : w.ownsRow B 3 1 o n1 (vints G1)
  r2 : w.ownsRow B 3 1 q n2 (vints G2)
  ap : ∀ b, o.ownBlock = some b → q.ownBlock = some b → False
  x18 : w.heap[b18]? = some (.cells #[.slice ca ln cc] 29 (0, 0))
  x19 : w.heap[b19]? = some (.cells #[.slice da ln dc] 29 (0, 0))
  ml : Lst Enc.int w (FP b18 b19 X o q w) ma mn M
  cl : Lst Enc.stg w (FP b18 b19 X o q w) ca ln C
  dl : Lst Enc.stg w (FP b18 b19 X o q w) da ln D
section
variable {V : World} {B b18 b19 X ln : Nat} {ma : Option Addr} {mn : Nat} {M : List Int} {o q : Value} {n1 n2 : Nat} {G1 G2 : List Int} {ca : Option Addr} {cc : Nat} {C : List Stg} {da : Option Addr} {dc : Nat} {D : List Stg} {w w2 : World}
theorem FP.call {b : Nat} (h : FP b18 b19 X o q w b) (hb : Below w.heap.size w w2) : FP b18 b19 X o q w2 b := ⟨h.1, h.2.1, h.2.2.1, h.2.2.2.1, Nat.lt_of_lt_of_le h.2.2.2.2.1 hb.size, h.2.2.2.2.2⟩
theorem lst_call {α : Type} {E : Enc α} {a : Option Addr} {n : Nat} {l : List α} (h : Lst E w (FP b18 b19 X o q w) a n l) (hb : Below w.heap.size w w2) : Lst E w2 (FP b18 b19 X o q w2) a n l :=
  (Lst.same (w' := w2) (fun b hs => hb.block b hs.2.2.2.2.1) h).wide (fun _ hs => FP.call hs hb)
theorem KS.call (h : KS V B b18 b19 X ln ma mn M o q n1 n2 G1 G2 ca cc C da dc D w) (hb : Below w.heap.size w w2) : KS V B b18 b19 X ln ma mn M o q n1 n2 G1 G2 ca cc C da dc D w2 :=
  ⟨h.bel.trans (hb.mono h.hB), Nat.le_trans h.hB hb.size, h.g18, Nat.lt_of_lt_of_le h.hX hb.size, own_belowb h.r1 hb, own_belowb h.r2 hb, h.ap, kept' hb h.x18, kept' hb h.x19, lst_call h.ml hb, lst_call h.cl hb, lst_call h.dl hb⟩
theorem lst_app1 {α : Type} {E : Enc α} {v : Value} {a : Option Addr} {n : Nat} {l : List α} (h : Lst E w (FP b18 b19 X o q w) a n l) (hg : w.grownBy w2 o.ownBlock) (hv : v.ownBlock = o.ownBlock ∨ v.ownBlock = some w.heap.size) : Lst E w2 (FP b18 b19 X v q w2) a n l :=
  (Lst.same (w' := w2) (fun b hs => hg.block b hs.2.2.2.2.1 (fun e => hs.2.2.1 e.symm)) h).wide (fun b hs => ⟨hs.1, hs.2.1, fun e => by
    rcases hv with hv | hv
    · exact hs.2.2.1 (hv.symm.trans e)
    · exact absurd hs.2.2.2.2.1 (Nat.not_lt.2 (Nat.le_of_eq (Option.some.inj (hv.symm.trans e)))), hs.2.2.2.1, Nat.lt_of_lt_of_le hs.2.2.2.2.1 hg.size, hs.2.2.2.2.2⟩)
theorem KS.app1 (h : KS V B b18 b19 X ln ma mn M o q n1 n2 G1 G2 ca cc C da dc D w) {v : Value} {n : Nat} {G : List Int} (hr : w2.ownsRow B 3 1 v n (vints G)) (hg : w.grownBy w2 o.ownBlock) (hv : v.ownBlock = o.ownBlock ∨ v.ownBlock = some w.heap.size) : KS V B b18 b19 X ln ma mn M v q n n2 G G2 ca cc C da dc D w2 := by
  refine ⟨Below.grown h.bel hg h.hB (fun k e => (h.r1.lt k e).1), Nat.le_trans h.hB hg.size, h.g18, Nat.lt_of_lt_of_le h.hX hg.size, hr, h.r2.kept hg ?_, ?_, blk_grown h.r1 h.x18 (by decide) hg, blk_grown h.r1 h.x19 (by decide) hg, lst_app1 h.ml hg hv, lst_app1 h.cl hg hv, lst_app1 h.dl hg hv⟩
  · exact own_apart (fun b e1 e2 => h.ap b e2 e1)
  · intro b e1 e2
    rcases hv with hv | hv
    · exact h.ap b (hv.symm.trans e1) e2
    · exact absurd (h.r2.lt b e2).2 (Nat.not_lt.2 (Nat.le_of_eq (Option.some.inj (hv.symm.trans e1))))
theorem KS.flip (h : KS V B b18 b19 X ln ma mn M o q n1 n2 G1 G2 ca cc C da dc D w) : KS V B b19 b18 X ln ma mn M q o n2 n1 G2 G1 da dc D ca cc C w :=
  have f : ∀ b, FP b18 b19 X o q w b → FP b19 b18 X q o w b := fun _ hb => ⟨hb.2.1, hb.1, hb.2.2.2.1, hb.2.2.1, hb.2.2.2.2⟩
  ⟨h.bel, h.hB, ⟨h.g18.2.1, h.g18.1, fun e => h.g18.2.2 e.symm⟩, h.hX, h.r2, h.r1, fun b e1 e2 => h.ap b e2 e1, h.x19, h.x18, h.ml.wide f, h.dl.wide f, h.cl.wide f⟩
/-- the third box changes: a fresh one, or none -/
theorem KS.box (h : KS V B b18 b19 X ln ma mn M o q n1 n2 G1 G2 ca cc C da dc D w) {Y : Nat} (hY : Y < w2.heap.size) (hf : w.heap.size ≤ Y) (hb : Below w.heap.size w w2) : KS V B b18 b19 Y ln ma mn M o q n1 n2 G1 G2 ca cc C da dc D w2 :=
  have f : ∀ b, FP b18 b19 X o q w b → FP b18 b19 Y o q w2 b := fun _ hs => ⟨hs.1, hs.2.1, hs.2.2.1, hs.2.2.2.1, Nat.lt_of_lt_of_le hs.2.2.2.2.1 hb.size, Nat.ne_of_lt (Nat.lt_of_lt_of_le hs.2.2.2.2.1 hf)⟩
  have g := h.call hb
  ⟨g.bel, g.hB, g.g18, hY, g.r1, g.r2, g.ap, g.x18, g.x19, (Lst.same (w' := w2) (fun b hs => hb.block b hs.2.2.2.2.1) h.ml).wide f, (Lst.same (w' := w2) (fun b hs => hb.block b hs.2.2.2.2.1) h.cl).wide f, (Lst.same (w' := w2) (fun b hs => hb.block b hs.2.2.2.2.1) h.dl).wide f⟩
theorem lst_box {α : Type} {E : Enc α} {Y : Nat} {a : Option Addr} {n : Nat} {l : List α} (h : Lst E w (FP b18 b19 X o q w) a n l) (hf : w.heap.size ≤ Y) (hb : Below w.heap.size w w2) : Lst E w2 (FP b18 b19 Y o q w2) a n l :=
  (Lst.same (w' := w2) (fun b hs => hb.block b hs.2.2.2.2.1) h).wide (fun _ hs => ⟨hs.1, hs.2.1, hs.2.2.1, hs.2.2.2.1, Nat.lt_of_lt_of_le hs.2.2.2.2.1 hb.size, Nat.ne_of_lt (Nat.lt_of_lt_of_le hs.2.2.2.2.1 hf)⟩)
theorem KS.unbox (h : KS V B b18 b19 X ln ma mn M o q n1 n2 G1 G2 ca cc C da dc D w) : KS V B b18 b19 b18 ln ma mn M o q n1 n2 G1 G2 ca cc C da dc D w :=
  have f : ∀ b, FP b18 b19 X o q w b → FP b18 b19 b18 o q w b := fun _ hs => ⟨hs.1, hs.2.1, hs.2.2.1, hs.2.2.2.1, hs.2.2.2.2.1, hs.1⟩
  ⟨h.bel, h.hB, h.g18, (Array.getElem?_eq_some_iff.1 h.x18).1, h.r1, h.r2, h.ap, h.x18, h.x19, h.ml.wide f, h.cl.wide f, h.dl.wide f⟩
theorem lst_set {α : Type} {E : Enc α} {a : Option Addr} {n : Nat} {l : List α} (v : Value) (h : Lst E w (FP b18 b19 X o q w) a n l) : Lst E (w.setCell ⟨b18, 0, none⟩ v) (FP b18 b19 X o q (w.setCell ⟨b18, 0, none⟩ v)) a n l :=
  (Lst.same (w' := w.setCell ⟨b18, 0, none⟩ v) (fun _ hs => Below.heap_setCell _ _ _ _ hs.1) h).wide (fun _ hs => ⟨hs.1, hs.2.1, hs.2.2.1, hs.2.2.2.1, by simp [World.setCell]; exact hs.2.2.2.2.1, hs.2.2.2.2.2⟩)
theorem KS.set1 (h : KS V B b18 b19 X ln ma mn M o q n1 n2 G1 G2 ca cc C da dc D w) {ea : Option Addr} {ec : Nat} {C2 : List Stg} (hl : Lst Enc.stg w (FP b18 b19 X o q w) ea ln C2) : KS V B b18 b19 X ln ma mn M o q n1 n2 G1 G2 ea ec C2 da dc D (w.setCell ⟨b18, 0, none⟩ (.slice ea ln ec)) :=
  ⟨h.bel.setCell (p := ⟨b18, 0, none⟩) h.g18.1 _, by simp [World.setCell]; exact h.hB, h.g18, by simp [World.setCell]; exact h.hX, h.r1.kept (grown_set b18 0 _) (.inr (own_ne_blk h.r1 h.x18 (by decide))), h.r2.kept (grown_set b18 0 _) (.inr (own_ne_blk h.r2 h.x18 (by decide))), h.ap, heap_set (off := 0) h.x18 _, (Below.heap_setCell _ _ _ _ (fun e => h.g18.2.2 e.symm)).trans h.x19, lst_set _ h.ml, lst_set _ hl, lst_set _ h.dl⟩
theorem lst_set3 {α : Type} {E : Enc α} {a : Option Addr} {n : Nat} {l : List α} (v : Value) (h : Lst E w (FP b18 b19 X o q w) a n l) : Lst E (w.setCell ⟨X, 0, none⟩ v) (FP b18 b19 X o q (w.setCell ⟨X, 0, none⟩ v)) a n l :=
  (Lst.same (w' := w.setCell ⟨X, 0, none⟩ v) (fun _ hs => Below.heap_setCell _ _ _ _ hs.2.2.2.2.2) h).wide (fun _ hs => ⟨hs.1, hs.2.1, hs.2.2.1, hs.2.2.2.1, by simp [World.setCell]; exact hs.2.2.2.2.1, hs.2.2.2.2.2⟩)
theorem KS.set3 (h : KS V B b18 b19 X ln ma mn M o q n1 n2 G1 G2 ca cc C da dc D w) {f : Value} (hx : w.heap[X]? = some (.cells #[f] 29 (0, 0))) (hXB : B ≤ X) (h1 : X ≠ b18) (h2 : X ≠ b19) (v : Value) : KS V B b18 b19 X ln ma mn M o q n1 n2 G1 G2 ca cc C da dc D (w.setCell ⟨X, 0, none⟩ v) :=
  ⟨h.bel.setCell (p := ⟨X, 0, none⟩) hXB _, by simp [World.setCell]; exact h.hB, h.g18, by simp [World.setCell]; exact h.hX, h.r1.kept (grown_set X 0 _) (.inr (own_ne_blk h.r1 hx (by decide))), h.r2.kept (grown_set X 0 _) (.inr (own_ne_blk h.r2 hx (by decide))), h.ap, (Below.heap_setCell _ _ _ _ (fun e => h1 e.symm)).trans h.x18, (Below.heap_setCell _ _ _ _ (fun e => h2 e.symm)).trans h.x19, lst_set3 _ h.ml, lst_set3 _ h.cl, lst_set3 _ h.dl⟩
/-- what a callee made lies apart from the rows and the boxes -/
theorem KS.fresh {α : Type} {E : Enc α} {a : Option Addr} {n : Nat} {l : List α} (h : KS V B b18 b19 X ln ma mn M o q n1 n2 G1 G2 ca cc C da dc D w) (hl : Lst E w2 (fun b => w.heap.size ≤ b ∧ b < w2.heap.size) a n l) : Lst E w2 (FP b18 b19 X o q w2) a n l :=
  hl.wide (fun b hb => ⟨fun e => by have := (Array.getElem?_eq_some_iff.1 h.x18).1; omega, fun e => by have := (Array.getElem?_eq_some_iff.1 h.x19).1; omega, fun e => absurd (h.r1.lt b e).2 (Nat.not_lt.2 hb.1), fun e => absurd (h.r2.lt b e).2 (Nat.not_lt.2 hb.1), hb.2, fun e => by have := h.hX; omega⟩)
end
/-- three operations run one after the other; between them only reads -/
structure C3 (P : Nat → Value → Value → Value → World → Prop) (LL : Nat → Bool) (vs : Nat → Value) (w' : World) : Prop where
  un : ∀ j, LL j = false → vs j = undef
  st : ∃ k, (LL 2 = decide (0 < k) ∧ LL 5 = decide (1 < k) ∧ LL 6 = decide (2 < k)) ∧ P k (vs 2) (vs 5) (vs 6) w'
section
variable {P : Nat → Value → Value → Value → World → Prop} {LL : Nat → Bool} {vs : Nat → Value} {w w2 : World}
theorem C3.start (h : P 0 undef undef undef { w with drawn := w.drawn + 1 }) : C3 P (fun _ => false) (fun _ => undef) { w with drawn := w.drawn + 1 } := ⟨fun _ _ => rfl, 0, ⟨rfl, rfl, rfl⟩, h⟩
theorem C3.undo (h : C3 P LL vs w) (i : Nat) (v : Value) : ∀ j, (LL j || j == i) = false → (if j = i then v else vs j) = undef := fun j hj => by
  rw [Bool.or_eq_false_iff] at hj
  rw [if_neg (by simpa using hj.2)]
  exact h.un j hj.1
theorem C3.ran (h : C3 P LL vs w) {j : Nat} (hj : vs j ≠ undef) : LL j = true := by
  cases e : LL j with
  | true => rfl
  | false => exact absurd (h.un j e) hj
theorem C3.keep (h : C3 P LL vs w) (i : Nat) (v : Value) (hi : 2 ≠ i ∧ 5 ≠ i ∧ 6 ≠ i) : C3 P (fun j => LL j || j == i) (fun j => if j = i then v else vs j) w := by
  obtain ⟨k, hk, hp⟩ := h.st
  have e : ∀ j, j ≠ i → (LL j || j == i) = LL j := fun j hj => by rw [beq_eq_false_iff_ne.2 hj, Bool.or_false]
  refine ⟨h.undo i v, k, ⟨(e _ hi.1).trans hk.1, (e _ hi.2.1).trans hk.2.1, (e _ hi.2.2).trans hk.2.2⟩, ?_⟩
  rw [if_neg hi.1, if_neg hi.2.1, if_neg hi.2.2]
  exact hp
theorem C3.at0 (h : C3 P LL vs w) (h0 : LL 2 = false) : P 0 (vs 2) (vs 5) (vs 6) w := by
  obtain ⟨k, hk, hp⟩ := h.st
  simp only [h0] at hk
  have : k = 0 := by simp at hk; omega
  subst this; exact hp
theorem C3.at1 (h : C3 P LL vs w) (h5 : LL 2 = true) (h6 : LL 5 = false) : P 1 (vs 2) (vs 5) (vs 6) w := by
  obtain ⟨k, hk, hp⟩ := h.st
  simp only [h5, h6] at hk
  have : k = 1 := by simp at hk; omega
  subst this; exact hp
theorem C3.at2 (h : C3 P LL vs w) (h5 : LL 5 = true) (h6 : LL 6 = false) : P 2 (vs 2) (vs 5) (vs 6) w := by
  obtain ⟨k, hk, hp⟩ := h.st
  simp only [h5, h6] at hk
  have : k = 2 := by simp at hk; omega
  subst this; exact hp
theorem C3.run0 (h : C3 P LL vs w) (h0 : LL 2 = false) (v : Value) (hp : P 1 v (vs 5) (vs 6) w2) : C3 P (fun j => LL j || j == 2) (fun j => if j = 2 then v else vs j) w2 := by
  obtain ⟨k, hk, _⟩ := h.st
  have hk0 : k = 0 := by simp only [h0] at hk; simp at hk; omega
  subst hk0
  exact ⟨h.undo 2 v, 1, by simp [hk], by simpa using hp⟩
theorem C3.run1 (h : C3 P LL vs w) (h5 : LL 2 = true) (h6 : LL 5 = false) (v : Value) (hp : P 2 (vs 2) v (vs 6) w2) : C3 P (fun j => LL j || j == 5) (fun j => if j = 5 then v else vs j) w2 := by
  obtain ⟨k, hk, _⟩ := h.st
  have hk0 : k = 1 := by simp only [h5, h6] at hk; simp at hk; omega
  subst hk0
  exact ⟨h.undo 5 v, 2, by simp [hk], by simpa using hp⟩
theorem C3.run2 (h : C3 P LL vs w) (h5 : LL 5 = true) (h6 : LL 6 = false) (v : Value) (hp : P 3 (vs 2) (vs 5) v w2) : C3 P (fun j => LL j || j == 6) (fun j => if j = 6 then v else vs j) w2 := by
  obtain ⟨k, hk, _⟩ := h.st
  have hk0 : k = 2 := by simp only [h5, h6] at hk; simp at hk; omega
  subst hk0
  exact ⟨h.undo 6 v, 3, by simp [hk], by simpa using hp⟩
end
theorem C3.fin {P : Nat → Value → Value → Value → World → Prop} {LL : Nat → Bool} {vs : Nat → Value} {w : World} (h : C3 P LL vs w) (h6 : LL 6 = true) : ∃ k, P (k + 3) (vs 2) (vs 5) (vs 6) w := by
  obtain ⟨k, hk, hp⟩ := h.st
  simp only [h6] at hk
  have : 2 < k := by simp at hk; omega
  exact ⟨k - 3, by rw [show k - 3 + 3 = k by omega]; exact hp⟩
/-- two boxes in the making -/
def IsPt (v : Value) : Prop := ∃ b, v = .pointer (some ⟨b, 0, none⟩)
structure C9 (V : World) (f g : Value) (LL : Nat → Bool) (vs : Nat → Value) (w : World) : Prop where
  un : ∀ j, LL j = false → vs j = undef
  m4 : LL 4 = true → LL 2 = true
  m5 : LL 5 = true → LL 3 = true
  bel : Below V.heap.size V w
  p2 : LL 2 = true → ∃ b, vs 2 = .pointer (some ⟨b, 0, none⟩) ∧ V.heap.size ≤ b ∧ w.heap[b]? = some (.cells #[if LL 4 = true then f else .slice none 0 0] 29 (0, 0))
  p3 : LL 3 = true → ∃ b, vs 3 = .pointer (some ⟨b, 0, none⟩) ∧ V.heap.size ≤ b ∧ w.heap[b]? = some (.cells #[if LL 5 = true then g else .slice none 0 0] 29 (0, 0))
  dj : LL 2 = true → LL 3 = true → vs 2 ≠ vs 3
section
variable {V : World} {f g : Value} {LL : Nat → Bool} {vs : Nat → Value} {w : World}
theorem C9.start (V : World) (f g : Value) : C9 V f g (fun _ => false) (fun _ => undef) { V with drawn := V.drawn + 1 } :=
  ⟨fun _ _ => rfl, fun e => Bool.noConfusion e, fun e => Bool.noConfusion e, (Below.refl _ _).drew, fun e => Bool.noConfusion e, fun e => Bool.noConfusion e, fun e => Bool.noConfusion e⟩
theorem C9.ran (h : C9 V f g LL vs w) {j : Nat} (hj : vs j ≠ undef) : LL j = true := by
  cases e : LL j with
  | true => rfl
  | false => exact absurd (h.un j e) hj
theorem C9.undo (h : C9 V f g LL vs w) (i : Nat) (v : Value) : ∀ j, (LL j || j == i) = false → (if j = i then v else vs j) = undef := fun j hj => by
  rw [Bool.or_eq_false_iff] at hj
  rw [if_neg (by simpa using hj.2)]
  exact h.un j hj.1
theorem C9.keep (h : C9 V f g LL vs w) (i : Nat) (v : Value) (hi : 2 ≠ i ∧ 3 ≠ i ∧ 4 ≠ i ∧ 5 ≠ i) : C9 V f g (fun j => LL j || j == i) (fun j => if j = i then v else vs j) w := by
  have e : ∀ j, j ≠ i → (LL j || j == i) = LL j := fun j hj => by rw [beq_eq_false_iff_ne.2 hj, Bool.or_false]
  refine ⟨h.undo i v, ?_, ?_, h.bel, ?_, ?_, ?_⟩
  · rw [e _ hi.2.2.1, e _ hi.1]; exact h.m4
  · rw [e _ hi.2.2.2, e _ hi.2.1]; exact h.m5
  · rw [e _ hi.2.2.1, e _ hi.1, if_neg hi.1]; exact h.p2
  · rw [e _ hi.2.2.2, e _ hi.2.1, if_neg hi.2.1]; exact h.p3
  · rw [e _ hi.1, e _ hi.2.1, if_neg hi.1, if_neg hi.2.1]; exact h.dj
theorem C9.new2 (h : C9 V f g LL vs w) (h0 : LL 2 = false) : C9 V f g (fun j => LL j || j == 2) (fun j => if j = 2 then .pointer (some ⟨w.heap.size, 0, none⟩) else vs j) (w.alloc (Obj.cells #[.slice none 0 0] 29)) := by
  have h4 : LL 4 = false := by cases e : LL 4 with | false => rfl | true => have := h.m4 e; rw [h0] at this; cases this
  have hb : Below w.heap.size w (w.alloc (Obj.cells #[.slice none 0 0] 29)) := (Below.refl _ _).alloc (Nat.le_refl _) _
  refine ⟨h.undo 2 _, fun _ => by simp, by simpa using h.m5, h.bel.alloc h.bel.size _, fun _ => ⟨w.heap.size, by simp, h.bel.size, by simp only [h4]; exact heap_alloc_new w _⟩, fun e => ?_, fun _ e => ?_⟩
  · obtain ⟨b, q1, q2, q3⟩ := h.p3 (by simpa using e)
    exact ⟨b, by simpa using q1, q2, by simpa using kept' hb q3⟩
  · obtain ⟨b, q1, q2, q3⟩ := h.p3 (by simpa using e)
    have := (Array.getElem?_eq_some_iff.1 q3).1
    simp only [if_pos, Nat.reduceEqDiff, if_false, q1]
    intro e2
    injection e2 with e2
    injection e2 with e2
    injection e2 with e2
    omega
theorem C9.new3 (h : C9 V f g LL vs w) (h0 : LL 3 = false) : C9 V f g (fun j => LL j || j == 3) (fun j => if j = 3 then .pointer (some ⟨w.heap.size, 0, none⟩) else vs j) (w.alloc (Obj.cells #[.slice none 0 0] 29)) := by
  have h4 : LL 5 = false := by cases e : LL 5 with | false => rfl | true => have := h.m5 e; rw [h0] at this; cases this
  have hb : Below w.heap.size w (w.alloc (Obj.cells #[.slice none 0 0] 29)) := (Below.refl _ _).alloc (Nat.le_refl _) _
  refine ⟨h.undo 3 _, by simpa using h.m4, fun _ => by simp, h.bel.alloc h.bel.size _, fun e => ?_, fun _ => ⟨w.heap.size, by simp, h.bel.size, by simp only [h4]; exact heap_alloc_new w _⟩, fun e _ => ?_⟩
  · obtain ⟨b, q1, q2, q3⟩ := h.p2 (by simpa using e)
    exact ⟨b, by simpa using q1, q2, by simpa using kept' hb q3⟩
  · obtain ⟨b, q1, q2, q3⟩ := h.p2 (by simpa using e)
    have := (Array.getElem?_eq_some_iff.1 q3).1
    simp only [if_pos, Nat.reduceEqDiff, if_false, q1]
    intro e2
    injection e2 with e2
    injection e2 with e2
    injection e2 with e2
    omega
theorem C9.set4 (h : C9 V f g LL vs w) {b : Nat} (h2 : vs 2 = .pointer (some ⟨b, 0, none⟩)) (v : Value) : C9 V f g (fun j => LL j || j == 4) (fun j => if j = 4 then v else vs j) (w.setCell ⟨b, 0, none⟩ f) := by
  have l2 : LL 2 = true := h.ran (by rw [h2]; exact ptr_def _)
  obtain ⟨b', q1, q2, q3⟩ := h.p2 l2
  have hbb : b = b' := by
    rw [h2] at q1
    injection q1 with q1
    injection q1 with q1
    injection q1
  subst hbb
  refine ⟨h.undo 4 v, fun _ => by simp [l2], by simpa using h.m5, h.bel.setCell (p := ⟨b, 0, none⟩) q2 f, fun _ => ⟨b, by simpa using h2, q2, by simpa using heap_set (off := 0) q3 f⟩, fun e => ?_, fun _ e => ?_⟩
  · have e3 : LL 3 = true := by simpa using e
    obtain ⟨c, r1, r2, r3⟩ := h.p3 e3
    have hne : c ≠ b := fun e => h.dj l2 e3 (by rw [h2, r1, e])
    exact ⟨c, by simpa using r1, r2, by rw [Below.heap_setCell _ _ _ _ hne]; simpa using r3⟩
  · simpa using h.dj l2 (by simpa using e)
theorem C9.set5 (h : C9 V f g LL vs w) {b : Nat} (h2 : vs 3 = .pointer (some ⟨b, 0, none⟩)) (v : Value) : C9 V f g (fun j => LL j || j == 5) (fun j => if j = 5 then v else vs j) (w.setCell ⟨b, 0, none⟩ g) := by
  have l2 : LL 3 = true := h.ran (by rw [h2]; exact ptr_def _)
  obtain ⟨b', q1, q2, q3⟩ := h.p3 l2
  have hbb : b = b' := by
    rw [h2] at q1
    injection q1 with q1
    injection q1 with q1
    injection q1
  subst hbb
  refine ⟨h.undo 5 v, by simpa using h.m4, fun _ => by simp [l2], h.bel.setCell (p := ⟨b, 0, none⟩) q2 g, fun e => ?_, fun _ => ⟨b, by simpa using h2, q2, by simpa using heap_set (off := 0) q3 g⟩, fun e _ => ?_⟩
  · have e3 : LL 2 = true := by simpa using e
    obtain ⟨c, r1, r2, r3⟩ := h.p2 e3
    have hne : c ≠ b := fun e => h.dj e3 l2 (by rw [h2, r1, e])
    exact ⟨c, by simpa using r1, r2, by rw [Below.heap_setCell _ _ _ _ hne]; simpa using r3⟩
  · simpa using h.dj (by simpa using e) l2
end
/-- what stands at each of the three steps of regions 14 and 17; K: the state for a row, its length and its numbers; L: the new stages beside that row; F0: what Feed returned; EL: what End returned -/
def P14 (b22 : Nat) (f22 : Value) (K : Value → Nat → List Int → World → Prop) (L : Value → World → Prop) (F0 : World → Prop) (EL : Value → World → Prop) (o : Value) (n1 fo en : Nat) (G F E : List Int) (k : Nat) (v2 v5 v6 : Value) (w : World) : Prop :=
  w.heap[b22]? = some (.cells #[f22] 29 (0, 0)) ∧
  match k with
  | 0 => K o n1 G w ∧ L o w ∧ F0 w
  | 1 => K v2 (n1 + fo) (G ++ F) w ∧ L v2 w
  | 2 => K v2 (n1 + fo) (G ++ F) w ∧ L v2 w ∧ EL v5 w ∧ AllI E ∧ en ≤ 200000
  | _ => K v6 (n1 + fo + en) (G ++ F ++ E) w ∧ L v6 w ∧ AllI E ∧ en ≤ 200000
end Go.Proofs.Ytfbgbbbfpkpfkaa
-- @@XTrK
/- StreamKeys: its walk. -/
namespace Go.Proofs.Ytfbgbbbfpkpfkaa
open Go.RowKit
/-- what feeding leaves fits -/
theorem fit_all {l : List (List Sub)} (_ : ∀ x ∈ l, ToI x) {X : List Int} (_ : AllI X) (hn : X.length ≤ 100000) {w : World} {S : Nat → Prop} {a : Option Addr} {n : Nat} (hl : Lst Enc.stg w S a n (feedAll l (startS l) X).1) : FitS (feedAll l (startS l) X).1 := by
  have t := feedAll_tot l X (startS l) (startS_len l)
  rw [tot_start] at t
  have b := feedAll_back l 300000 (by omega) X (startS l) (startS_len l) (back_start l _)
  intro x hx
  have h1 := tot_mem hx (feedAll l (startS l) X).2
  exact ⟨⟨b x hx, by omega⟩, lst_stg_i64 hl x hx⟩
set_option maxRecDepth 100000 in
set_option maxHeartbeats 8000000 in
theorem streamKeys_any (na : Option Addr) (nn nc : Nat) (N : List Int) (ga : Option Addr) (gn gc : Nat) (g : List Int) (ja : Option Addr) (jn jc : Nat) (J : List Int) (ma : Option Addr) (mn mc : Nat) (M : List Int) (w : World) (hN : Lst Enc.int w (fun b => b < w.heap.size) na nn N) (hN1 : nn ≤ nc) (hN2 : nc ≤ maxLen) (hG : Lst Enc.int w (fun b => b < w.heap.size) ga gn g) (hG1 : gn ≤ gc) (hG2 : gc ≤ maxLen)
    (hH : Lst Enc.int w (fun b => b < w.heap.size) ja jn J) (hH1 : jn ≤ jc) (hH2 : jc ≤ maxLen) (hM : Lst Enc.int w (fun b => b < w.heap.size) ma mn M) (hM1 : mn ≤ mc) (hM2 : mc ≤ maxLen) :
    Calls Try.prog 7 #[.slice na nn nc, .slice ga gn gc, .slice ja jn jc, .slice ma mn mc] w fun e w' => e = .returned (.bool true) ∧ Below w.heap.size w w' := by
  obtain ⟨nm, enm⟩ : ∃ m : Nat, (min (nn : Int) 60).toNat = m := ⟨_, rfl⟩
  have mnm : nm ≤ nn := by omega
  have mnc : nm ≤ nc := by omega
  have hif : (if (60 : Int) < (nn : Int) then (60 : Int) else (nn : Int)) = (nm : Int) := by split <;> omega
  have i60 : (0 : Int) ≤ (nm : Int) := by omega
  have i61 : (nm : Int) ≤ (nc : Int) := by omega
  replace enm := hide enm; replace hN := hide hN; replace hG := hide hG; replace hM := hide hM; replace hH := hide hH
  go_enter Try.func7, Try.ntmps7
  go_wp2_with fail
  refine (sanity_any _).mono ?_
  rintro e w1 ⟨rfl, hz1⟩
  have hr := made_any na nm nc (N.take nm) 12 w1 (((unhide hN).under hz1).take mnm) (by omega) (by decide) (by decide)
  have hG' := hide ((unhide hG).under hz1)
  have hM' := hide ((unhide hM).under hz1)
  have hH' := hide ((unhide hH).under hz1)
  clear hN hG hM hH
  replace hr := hide hr; replace hz1 := hide hz1
  go_upto_region 3 with fail
  rw [unhide enm]
  refine (unhide hr).mono ?_
  rintro e w2 ⟨la, lc, l, rfl, hl, hgl, hb2⟩
  have hz2 := hide ((unhide hz1).trans (hb2.mono (unhide hz1).size))
  have hG2' := (unhide hG').under hb2
  have hM2' := (unhide hM').under hb2
  have hH2' := (unhide hH').under hb2
  obtain ⟨hsm, hto, hl3⟩ := goodL12 hgl
  obtain ⟨ln, hln⟩ : ∃ m, l.length = m := ⟨_, rfl⟩
  rw [hln] at hl hl3 ⊢
  have hcc := cut_any ga gn gc g w2 hG2' (by omega)
  have hcH := fun w h => cut_any ja jn jc J w h (by omega)
  have hcM := fun w h => cut_any ma mn mc M w h (by omega)
  have cgn := cutS_len g
  have cgi : AllI (cutS g) := cutS_i64 g
  have chn := cutS_len J
  have chi : AllI (cutS J) := cutS_i64 J
  have cmn := cutS_len M
  have cmi : AllI (cutS M) := cutS_i64 M
  obtain ⟨X, hX⟩ : ∃ X, cutS g = X := ⟨_, rfl⟩
  obtain ⟨Y, hY⟩ : ∃ X, cutS J = X := ⟨_, rfl⟩
  obtain ⟨Z, hZ⟩ : ∃ X, cutS M = X := ⟨_, rfl⟩
  simp only [hX] at hcc cgn cgi
  simp only [hY] at hcH chn chi
  simp only [hZ] at hcM cmn cmi
  obtain ⟨xn, hxn⟩ : ∃ m, X.length = m := ⟨_, rfl⟩
  obtain ⟨yn, hyn⟩ : ∃ m, Y.length = m := ⟨_, rfl⟩
  obtain ⟨zn, hzn⟩ : ∃ m, Z.length = m := ⟨_, rfl⟩
  rw [hxn] at cgn
  rw [hyn] at chn
  rw [hzn] at cmn
  clear hr hz1 hb2 hG' hG2' hM' hH' hgl hX hY hZ hif i60 i61 mnm mnc enm
  replace hcc := hide hcc; replace hcH := hide hcH; replace hcM := hide hcM; replace hl := hide hl; replace hsm := hide hsm; replace hto := hide hto; replace hln := hide hln; replace hM2' := hide hM2'; replace hH2' := hide hH2'; replace cgi := hide cgi; replace chi := hide chi; replace cmi := hide cmi; replace hxn := hide hxn; replace hyn := hide hyn; replace hzn := hide hzn
  go_wp2_with fail
  refine (unhide hcc).mono ?_
  rintro e w3 ⟨v, rfl, hown, hb⟩
  have hz3 := hide ((unhide hz2).trans (hb.mono (unhide hz2).size))
  have hl' := (unhide hl).under hb
  have hM3 := (unhide hM2').under hb
  have hH3 := (unhide hH2').under hb
  obtain ⟨ca, cc, rfl, -, hcl⟩ := own_lst hown (unhide cgi)
  rw [unhide hxn] at hcl ⊢
  have hfc := fed_any la ln lc l ca xn cc X w3 hl' (unhide hsm) (unhide hto) hcl (by omega) (by omega)
  clear hcc hz2 hl hown hb hM2' hH2' hcl
  replace hl' := hide hl'; replace hM3 := hide hM3; replace hH3 := hide hH3; replace hfc := hide hfc
  go_wp2_with fail
  refine (unhide hfc).mono ?_
  rintro e w4 ⟨fa, fc, v, rfl, hst, hown, hb⟩
  obtain ⟨oa, oc, hv⟩ := own_shape hown
  subst hv
  obtain ⟨on, hon⟩ : ∃ m, (feedAll l (startS l) X).2.length = m := ⟨_, rfl⟩
  rw [hon]
  have fitA := fit_all (unhide hto) (unhide cgi) (by rw [unhide hxn]; omega) hst
  have hAn := hst.1
  have hz4 := (unhide hz3).trans (hb.mono (unhide hz3).size)
  have hl4 := (unhide hl').under hb
  have hM4 := (unhide hM3).under hb
  have hH4 := (unhide hH3).under hb
  obtain ⟨b11x, V11, hb11, hV11, st⟩ := (St.start w4).new (Obj.cells #[.slice fa ln fc] 29)
  have hbb := st.below
  have k11 := st.get 0 rfl
  have hz5 := hz4.trans (hbb.mono hz4.size)
  have hl5 := hl4.under hbb
  have hM5 := hM4.under hbb
  have hH5 := hH4.under hbb
  have hst5 := hst.under hbb
  clear st hfc hz3 hl' hM3 hH3 hown hb hz4 hl4 hM4 hH4 hst hbb hon
  replace hb11 := hide hb11; replace hV11 := hide hV11; replace hz5 := hide hz5; replace hl5 := hide hl5; replace hM5 := hide hM5; replace hst5 := hide hst5; replace k11 := hide k11; replace fitA := hide fitA; replace hAn := hide hAn
  go_upto_region 4 with fail
  rw [unhide hV11]
  try rw [unhide hb11]
  clear hV11 hb11
  have hch := hide (unhide hcH V11 hH5)
  clear hH5 hcH
  go_wp2_with fail
  refine (unhide hch).mono ?_
  rintro e w6 ⟨v, rfl, hown, hb⟩
  obtain ⟨pa, pc, rfl, -, hP⟩ := own_lst hown (unhide chi)
  rw [unhide hyn] at hP ⊢
  have hz6 := (unhide hz5).trans (hb.mono (unhide hz5).size)
  have hl6 := (unhide hl5).under hb
  have hM6 := (unhide hM5).under hb
  have hst6 := (unhide hst5).under hb
  have k116 := kept' hb (unhide k11)
  have hfc := hide (fed_any la ln lc l pa yn pc Y w6 hl6 (unhide hsm) (unhide hto) hP (by omega) (by omega))
  clear hch hz5 hl5 hM5 hst5 k11 hown hb hP
  replace hz6 := hide hz6; replace hl6 := hide hl6; replace hM6 := hide hM6; replace hst6 := hide hst6; replace k116 := hide k116
  go_wp2_with fail
  refine (unhide hfc).mono ?_
  rintro e w7 ⟨ta, tc, v, rfl, hst, hown, hb⟩
  obtain ⟨oa2, oc2, hv⟩ := own_shape hown
  subst hv
  obtain ⟨on2, hon2⟩ : ∃ m, (feedAll l (startS l) Y).2.length = m := ⟨_, rfl⟩
  rw [hon2]
  have fitB := fit_all (unhide hto) (unhide chi) (by rw [unhide hyn]; omega) hst
  have hBn := hst.1
  have hz7 := (unhide hz6).trans (hb.mono (unhide hz6).size)
  have hl7 := (unhide hl6).under hb
  have hM7 := (unhide hM6).under hb
  have hst7 := (unhide hst6).under hb
  have k117 := kept' hb (unhide k116)
  obtain ⟨b13x, V13, hb13, hV13, st⟩ := (St.start w7).new (Obj.cells #[.slice ta ln tc] 29)
  have hbb := st.below
  have k13 := st.get 0 rfl
  have hz8 := hz7.trans (hbb.mono hz7.size)
  have hl8 := hl7.under hbb
  have hM8 := hM7.under hbb
  have hA8 := hst7.under hbb
  have hB8 := hst.under hbb
  have k118 := kept' hbb k117
  obtain ⟨A, hA⟩ : ∃ A, (feedAll l (startS l) X).1 = A := ⟨_, rfl⟩
  obtain ⟨B, hB⟩ : ∃ A, (feedAll l (startS l) Y).1 = A := ⟨_, rfl⟩
  rw [hA] at hA8 hAn fitA
  rw [hB] at hB8 hBn fitB
  have hkA := key_any fa ln fc A V13 hA8 (fun x hx => (unhide fitA x hx).1) (by omega)
  clear st hfc hz6 hl6 hM6 hst6 k116 hown hb hz7 hl7 hM7 hst7 k117 hst hbb hon2
  replace hb13 := hide hb13; replace hV13 := hide hV13; replace hz8 := hide hz8; replace hl8 := hide hl8; replace hM8 := hide hM8; replace hA8 := hide hA8; replace hB8 := hide hB8; replace k118 := hide k118; replace k13 := hide k13; replace fitB := hide fitB; replace hBn := hide hBn; replace hA := hide hA; replace hB := hide hB; replace hkA := hide hkA
  go_upto_region 5 with fail
  rw [unhide hV13]
  try rw [unhide hb13]
  clear hV13 hb13
  have d11 := blk_cell (unhide k118)
  go_wp2_with fail
  refine (unhide hkA).mono ?_
  rintro e w9 ⟨rfl, hb⟩
  obtain ⟨KA, hKA⟩ : ∃ K : ByteArray, (⟨(keyB A).toArray⟩ : ByteArray) = K := ⟨_, rfl⟩
  rw [hKA]
  obtain ⟨KB, hKB⟩ : ∃ K : ByteArray, (⟨(keyB B).toArray⟩ : ByteArray) = K := ⟨_, rfl⟩
  have hkk : KA = KB ↔ A = B := by
    rw [← key_inj (by rw [unhide hAn]; omega) (by rw [unhide hBn]; omega) (unhide fitA) (unhide fitB), ← hKA, ← hKB]
    constructor
    · intro h; injection h with h; simpa using h
    · intro h; rw [h]
  have hz9 := (unhide hz8).trans (hb.mono (unhide hz8).size)
  have hl9 := (unhide hl8).under hb
  have hM9 := (unhide hM8).under hb
  have hA9 := (unhide hA8).under hb
  have hB9 := (unhide hB8).under hb
  have k119 := kept' hb (unhide k118)
  have k139 := kept' hb (unhide k13)
  clear hkA hz8 hl8 hM8 hA8 hB8 k118 k13 hb d11
  have hkB := fun x : Ext w9 => key_any ta ln tc B x.get (hB9.under x.le) (fun x hx => (unhide fitB x hx).1) (by omega)
  have hsS := fun x : Ext w9 => same_any fa ln fc A ta ln tc B x.get (hA9.under x.le) (hB9.under x.le) (fun x hx => (unhide fitA x hx).1) (fun x hx => (unhide fitB x hx).1) (by omega) (by omega)
  simp only [hKB] at hkB
  have z1 := fun x : Ext w9 => x.cell (blk_cell k119)
  have z2 := fun x : Ext w9 => x.cell (blk_cell k139)
  obtain ⟨dab, hdab⟩ : ∃ d, decide (A = B) = d := ⟨_, rfl⟩
  simp only [hdab] at hsS
  have t1 : (KA.toList == KB.toList) = dab := by rw [ba_dec, ← hdab]; exact decide_eq_decide.2 hkk
  have t2 : (dab != dab) = false := bne_self_eq_false dab
  replace hkB := hide hkB; replace hsS := hide hsS; replace hz9 := hide hz9; replace hl9 := hide hl9; replace hM9 := hide hM9; replace hA9 := hide hA9; replace hB9 := hide hB9; replace k119 := hide k119; replace k139 := hide k139; replace hkk := hide hkk; replace hdab := hide hdab; replace hKA := hide hKA; replace hKB := hide hKB
  go_upto_region 6 with fail
  refine wp_region_ext (by rfl) (by kernel_rfl) ?_
  repeat (quiet_step (first | (go_at_call 23; with_reducible exact Ext.calls (unhide hkB _)) | (go_at_call 22; with_reducible exact Ext.calls (unhide hsS _))))
  refine wpQuiet_nil ?_
  rintro w' ⟨y, rfl⟩
  have hzA := (unhide hz9).trans (y.le.mono (unhide hz9).size)
  have hlA := (unhide hl9).under y.le
  have hMA := (unhide hM9).under y.le
  have hAA := (unhide hA9).under y.le
  have hBA := (unhide hB9).under y.le
  have k11A := kept' y.le (unhide k119)
  have k13A := kept' y.le (unhide k139)
  clear z1 z2 hkB hsS hz9 hl9 hM9 hA9 hB9 k119 k139
  obtain ⟨wz, hwz⟩ : ∃ wz, wz = y.get := ⟨_, rfl⟩
  rw [← hwz] at hzA hlA hMA hAA hBA k11A k13A ⊢
  clear hwz y
  replace hzA := hide hzA; replace hlA := hide hlA; replace hMA := hide hMA; replace hAA := hide hAA; replace hBA := hide hBA; replace k11A := hide k11A; replace k13A := hide k13A
  go_upto_region 9 with fail
  have d11 := blk_cell (unhide k11A)
  have d13 := blk_cell (unhide k13A)
  clear d11 d13
  refine wp_region_frontG 6 (fun LL vs w' => C9 wz (.slice fa ln fc) (.slice ta ln tc) LL vs w') (fun _ _ => True)
    (fun ix v w' => match ix with
    | 0 => v = .agg #[.slice fa ln fc]
    | 1 => v = .agg #[.slice ta ln tc]
    | 2 => IsPt v
    | 3 => IsPt v
    | 4 => True
    | 5 => True
    | _ => True) (by rfl) (by kernel_rfl) ?_ ?_ ?_ ?_
  · exact C9.start _ _ _
  · intro wa wb hR ix v hv
    match ix, hv with
    | 0, h => exact h
    | 1, h => exact h
    | 2, h => exact h
    | 3, h => exact h
    | 4, h => exact h
    | 5, h => exact h
    | _ + 6, _ => trivial
  · intro ix hix
    obtain rfl | rfl | rfl | rfl | rfl | rfl : ix = 0 ∨ ix = 1 ∨ ix = 2 ∨ ix = 3 ∨ ix = 4 ∨ ix = 5 := by omega
    · refine FrontStep.of [] _ rfl (by kernel_rfl) ?_
      intro vs LL wq hLL hC hf
      simp only [putL, List.foldl_nil]
      have dd := blk_cell (kept' hC.bel (unhide k11A))
      have hkp := fun v => hC.keep 0 v (by decide)
      replace hkp := hide hkp
      clear hC
      go_wp2_with fail
      first | exact unhide hkp _ | exact ⟨unhide hkp _, trivial⟩
    · refine FrontStep.of [] _ rfl (by kernel_rfl) ?_
      intro vs LL wq hLL hC hf
      simp only [putL, List.foldl_nil]
      have dd := blk_cell (kept' hC.bel (unhide k13A))
      have hkp := fun v => hC.keep 1 v (by decide)
      replace hkp := hide hkp
      clear hC
      go_wp2_with fail
      first | exact unhide hkp _ | exact ⟨unhide hkp _, trivial⟩
    · refine FrontStep.of [] _ rfl (by kernel_rfl) ?_
      intro vs LL wq hLL hC hf
      simp only [putL, List.foldl_nil]
      have hkp := hide (hC.new2 hLL)
      have hpt : IsPt (.pointer (some ⟨wq.heap.size, 0, none⟩)) := ⟨_, rfl⟩
      replace hpt := hide hpt
      clear hC
      go_wp2_with fail
      first | exact ⟨unhide hkp, unhide hpt⟩ | exact ⟨unhide hkp, trivial, unhide hpt⟩
    · refine FrontStep.of [] _ rfl (by kernel_rfl) ?_
      intro vs LL wq hLL hC hf
      simp only [putL, List.foldl_nil]
      have hkp := hide (hC.new3 hLL)
      have hpt : IsPt (.pointer (some ⟨wq.heap.size, 0, none⟩)) := ⟨_, rfl⟩
      replace hpt := hide hpt
      clear hC
      go_wp2_with fail
      first | exact ⟨unhide hkp, unhide hpt⟩ | exact ⟨unhide hkp, trivial, unhide hpt⟩
    · refine FrontStep.of [0, 2, 3] _ rfl (by kernel_rfl) ?_
      intro vs LL wq hLL hC hf
      simp only [putL, List.foldl_nil, List.foldl_cons, List.getElem?_cons_zero, List.getElem?_cons_succ]
      obtain ⟨bp, ep⟩ := hf 2 (by simp)
      have y0 : vs 0 = _ := hf 0 (by simp)
      rw [ep, y0]
      have l2 := hC.ran (j := 2) (by rw [ep]; exact ptr_def _)
      obtain ⟨bq, q1, q2, q3⟩ := hC.p2 l2
      have hbq : bp = bq := by
        rw [ep] at q1
        exact congrArg (fun v => match v with | Value.pointer (some p) => p.block | _ => 0) q1
      rw [← hbq] at q3
      have z0 := blk_cell q3
      have z1 : wq.frozen? ⟨bp, 0, none⟩ = false := by simp [World.frozen?, q3]
      have hkp := fun v => hC.set4 ep v
      replace hkp := hide hkp
      clear hC q1 q2 q3 hbq l2
      go_wp2_with fail
      first | exact ⟨undef, unhide hkp _⟩ | exact ⟨undef, unhide hkp _, trivial⟩
    · refine FrontStep.of [0, 1, 2, 3, 4] _ rfl (by kernel_rfl) ?_
      intro vs LL wq hLL hC hf
      simp only [putL, List.foldl_nil, List.foldl_cons, List.getElem?_cons_zero, List.getElem?_cons_succ]
      obtain ⟨bp, ep⟩ := hf 3 (by simp)
      have y0 : vs 1 = _ := hf 1 (by simp)
      rw [ep, y0]
      have l2 := hC.ran (j := 3) (by rw [ep]; exact ptr_def _)
      obtain ⟨bq, q1, q2, q3⟩ := hC.p3 l2
      have hbq : bp = bq := by
        rw [ep] at q1
        exact congrArg (fun v => match v with | Value.pointer (some p) => p.block | _ => 0) q1
      rw [← hbq] at q3
      have z0 := blk_cell q3
      have z1 : wq.frozen? ⟨bp, 0, none⟩ = false := by simp [World.frozen?, q3]
      have hkp := fun v => hC.set5 ep v
      replace hkp := hide hkp
      clear hC q1 q2 q3 hbq l2
      go_wp2_with fail
      first | exact ⟨undef, unhide hkp _⟩ | exact ⟨undef, unhide hkp _, trivial⟩
  · intro vs LL wq hLL hC hf
    obtain ⟨b18, y2⟩ := hf 2 (by decide)
    obtain ⟨b19, y3⟩ := hf 3 (by decide)
    rw [putSome_all]
    simp only [putL, List.range, List.range.loop, List.foldl_nil, List.foldl_cons, List.getElem?_cons_zero, List.getElem?_cons_succ, List.drop_succ_cons, List.drop_zero]
    rw [y2, y3]
    obtain ⟨V, rfl⟩ : ∃ W : World, W = wq := ⟨_, rfl⟩
    have l2 := hC.ran (j := 2) (by rw [y2]; exact ptr_def _)
    have l3 := hC.ran (j := 3) (by rw [y3]; exact ptr_def _)
    have l4 : LL 4 = true := hLL 4 (by decide)
    have l5 : LL 5 = true := hLL 5 (by decide)
    obtain ⟨b18', q1, q2, q3⟩ := hC.p2 l2
    obtain ⟨b19', r1, r2, r3⟩ := hC.p3 l3
    have e18 : b18 = b18' := by
      rw [y2] at q1
      exact congrArg (fun v => match v with | Value.pointer (some p) => p.block | _ => 0) q1
    have e19 : b19 = b19' := by
      rw [y3] at r1
      exact congrArg (fun v => match v with | Value.pointer (some p) => p.block | _ => 0) r1
    rw [← e18] at q2 q3
    rw [← e19] at r2 r3
    rw [if_pos l4] at q3
    rw [if_pos l5] at r3
    have hdj : b18 ≠ b19 := fun e => hC.dj l2 l3 (by rw [y2, y3, e])
    have hbV := hC.bel
    clear hC hf y2 y3 l2 l3 l4 l5 q1 r1 e18 e19 hLL
    have hcm := hide (unhide hcM V ((unhide hMA).under hbV))
    have hszV := hbV.size
    clear hMA hcM
    replace q3 := hide q3; replace r3 := hide r3; replace hbV := hide hbV; replace q2 := hide q2; replace r2 := hide r2
    go_simp
    go_wp2_with fail
    refine (unhide hcm).mono ?_
    rintro e wd ⟨v, rfl, hown, hb⟩
    obtain ⟨xa, xc, hve⟩ := own_shape hown
    subst hve
    have hZ := lst_own2 hown (unhide cmi)
    rw [unhide hzn] at hZ ⊢
    obtain ⟨W0, hW0⟩ : ∃ n, wz.heap.size = n := ⟨_, rfl⟩
    have hbD := (unhide hbV).trans (hb.mono hszV)
    have l18 := (Array.getElem?_eq_some_iff.1 (unhide q3)).1
    have l19 := (Array.getElem?_eq_some_iff.1 (unhide r3)).1
    have q2' := unhide q2
    have r2' := unhide r2
    have hsD := hb.size
    have fpO : ∀ b, b < W0 → FP b18 b19 b18 (.slice none 0 0) (.slice none 0 0) wd b := fun b h => ⟨by omega, by omega, by simp [Value.ownBlock], by simp [Value.ownBlock], by omega, by omega⟩
    have hks : KS wz W0 b18 b19 b18 ln xa zn Z (.slice none 0 0) (.slice none 0 0) 0 0 [] [] fa fc A ta tc B wd := by
      refine ⟨hW0 ▸ hbD, by omega, ⟨by omega, by omega, hdj⟩, by omega, World.ownsRow_nil _ _ _ _, World.ownsRow_nil _ _ _ _, fun b h => by simp [Value.ownBlock] at h, kept' hb (unhide q3), kept' hb (unhide r3), hZ.wide (fun b h => ⟨by omega, by omega, by simp [Value.ownBlock], by simp [Value.ownBlock], h.2, by omega⟩), ?_, ?_⟩
      · exact ((unhide hAA).below hbD).wide (fun b (h : b < wz.heap.size) => fpO b (by omega))
      · exact ((unhide hBA).below hbD).wide (fun b (h : b < wz.heap.size) => fpO b (by omega))
    clear hcm hown hZ hb hbD hsD fpO l18 l19 q2' r2' hbV q2 q3 r2 r3 hszV
    have sbA := start_bounds l X (by rw [unhide hxn]; omega)
    rw [unhide hA] at sbA
    have sbB := start_bounds l Y (by rw [unhide hyn]; omega)
    rw [unhide hB] at sbB
    replace sbA := hide sbA; replace sbB := hide sbB
    have hgl0 : ∀ s, AllI (gath l s (Z.take 0)) := fun s y hy => by simp [gath] at hy
    replace hks := hide hks; replace hW0 := hide hW0; replace hgl0 := hide hgl0
    go_wp2_with fail
    go_loopw [16, 17, 60] (fun o q i wr => ∃ (k n1 n2 : Nat) (ca : Option Addr) (cc : Nat) (da : Option Addr) (dc : Nat), k ≤ zn ∧ i = .int .i64 (k : Int) ∧ n1 ≤ k * 300000 ∧ n2 ≤ k * 300000 ∧ AllI (gath l A (Z.take k)) ∧ AllI (gath l B (Z.take k)) ∧ KS wz W0 b18 b19 b18 ln xa zn Z o q n1 n2 (gath l A (Z.take k)) (gath l B (Z.take k)) ca cc (feedAll l A (Z.take k)).1 da dc (feedAll l B (Z.take k)).1 wr) (fun _ _ i _ => zn - (intOf i).toNat)
    case atStart => exact ⟨0, 0, 0, fa, fc, ta, tc, by omega, rfl, by omega, by omega, unhide hgl0 A, unhide hgl0 B, unhide hks⟩
    case round =>
      clear hks
      obtain ⟨k, n1, n2, ca2, cc2, da, dc, hk, rfl, hn1, hn2, hi1, hi2, hks⟩ := hrel
      obtain ⟨wo, rfl⟩ : ∃ W : World, W = wr := ⟨_, rfl⟩
      by_cases hlt : k < zn
      · obtain ⟨bZ, oZ, y, rfl, hyf, hy, hyi, cZ⟩ := lst_int hks.ml hlt
        obtain ⟨p1, p2, p3⟩ := step_bounds (unhide sbA).2.2 (unhide sbA).1 (unhide sbA).2.1 (Z.take k) (by rw [List.length_take]; omega)
        have hbw : Below wz.heap.size wz wo := by rw [unhide hW0]; exact hks.bel
        have hlo := (unhide hlA).under hbw
        have hfc := feed_any la ln lc l ca2 cc2 (feedAll l A (Z.take k)).1 y wo hlo (unhide hsm) (unhide hto) (hks.cl.wide (fun b h => h.2.2.2.2.1)) (by omega) hyi p2 (by omega)
        have d18 := blk_cell hks.x18
        have i1 : (0 : Int) ≤ (k : Int) := by omega
        have i2 : (k : Int) < (zn : Int) := by omega
        have i3 : decide ((k : Int) < (zn : Int)) = true := by simp; omega
        clear hlo p1 p2 p3
        replace hfc := hide hfc; replace hks := hide hks; replace hbw := hide hbw; replace hi1 := hide hi1; replace hi2 := hide hi2; replace hy := hide hy; replace hyi := hide hyi; replace hyf := hide hyf
        go_wp2_with fail
        refine (unhide hfc).mono ?_
        rintro e w2 ⟨a2, a3, c3, rfl, hst2, hlo2, hb⟩
        have hks2 := (unhide hks).call hb
        have cl2 := (unhide hks).fresh hst2
        have ol2 := (unhide hks).fresh hlo2
        obtain ⟨FS, hFS⟩ : ∃ r, feedS l (feedAll l A (Z.take k)).1 y = r := ⟨_, rfl⟩
        rw [hFS] at cl2 ol2 ⊢
        obtain ⟨fo, hfo⟩ : ∃ m, FS.2.length = m := ⟨_, rfl⟩
        rw [hfo] at ol2 ⊢
        obtain ⟨b22, V22, hb22, hV22, st⟩ := (St.start w2).new (Obj.cells #[.slice a2 ln ln] 29)
        have hbb := st.below
        have k22 := st.get 0 rfl
        have h22 : b22 < V22.heap.size := (Array.getElem?_eq_some_iff.1 k22).1
        have hks3 := hks2.box (Y := b22) h22 (by omega) hbb
        have cl3 := lst_box (Y := b22) cl2 (by omega) hbb
        have ol3 := lst_box (Y := b22) ol2 (by omega) hbb
        have hbw3 := (unhide hbw).trans ((hb.trans (hbb.mono hb.size)).mono (unhide hbw).size)
        have g22 : W0 ≤ b22 ∧ b22 ≠ b18 ∧ b22 ≠ b19 := by
          have x1 := (Array.getElem?_eq_some_iff.1 hks2.x18).1
          have x2 := (Array.getElem?_eq_some_iff.1 hks2.x19).1
          have x3 := hks2.hB
          exact ⟨by omega, by omega, by omega⟩
        clear hfc hst2 hlo2 hks2 cl2 ol2 hks st hb hbb hbw d18 h22
        replace hb22 := hide hb22; replace hV22 := hide hV22; replace k22 := hide k22; replace hks3 := hide hks3; replace cl3 := hide cl3; replace ol3 := hide ol3; replace hbw3 := hide hbw3; replace hFS := hide hFS; replace hfo := hide hfo; replace g22 := hide g22
        go_upto_region 14 with fail
        rw [unhide hV22]
        try rw [unhide hb22]
        clear hV22 hb22
--R14
        have hz1 := step_bounds (unhide sbA).2.2 (unhide sbA).1 (unhide sbA).2.1 (Z.take (k + 1)) (by rw [List.length_take]; omega)
        have hz2 := step_bounds (unhide sbB).2.2 (unhide sbB).1 (unhide sbB).2.1 (Z.take (k + 1)) (by rw [List.length_take]; omega)
        obtain ⟨q1, q2, q3⟩ := step_bounds (unhide sbB).2.2 (unhide sbB).1 (unhide sbB).2.1 (Z.take k) (by rw [List.length_take]; omega)
        obtain ⟨r1, r2, r3⟩ := step_bounds (unhide sbA).2.2 (unhide sbA).1 (unhide sbA).2.1 (Z.take k) (by rw [List.length_take]; omega)
        have hgs1 := gath_snoc l (Z.take k) A y
        have hgs2 := gath_snoc l (Z.take k) B y
        have hf1 := congrArg Prod.fst (feedAll_snoc l A (Z.take k) y)
        have hf2 := congrArg Prod.fst (feedAll_snoc l B (Z.take k) y)
        rw [take_snoc (unhide hy)] at hgs1 hgs2 hf1 hf2
        simp only at hf1 hf2
        rw [unhide hFS] at hgs1 hf1
        obtain ⟨FT, hFT⟩ : ∃ r, feedS l (feedAll l B (Z.take k)).1 y = r := ⟨_, rfl⟩
        rw [hFT] at hgs2 hf2
        rw [hf1] at hz1
        rw [hf2] at hz2
        obtain ⟨go, hgo⟩ : ∃ m, FT.2.length = m := ⟨_, rfl⟩
        obtain ⟨E1, hE1⟩ : ∃ r, endS l FS.1 = r := ⟨_, rfl⟩
        obtain ⟨E2, hE2⟩ : ∃ r, endS l FT.1 = r := ⟨_, rfl⟩
        obtain ⟨en, hen⟩ : ∃ m, E1.length = m := ⟨_, rfl⟩
        obtain ⟨en2, hen2⟩ : ∃ m, E2.length = m := ⟨_, rfl⟩
        rw [hE1] at hgs1
        rw [hE2] at hgs2
        have hk20 : k ≤ 19 := by omega
        have hfo1 : fo ≤ 41 := by
          have := feedS_tot l (feedAll l A (Z.take k)).1 y r3
          rw [unhide hFS] at this
          rw [← unhide hfo]
          unfold tot at *
          simp only [List.length_nil] at *
          omega
        have hgo1 : go ≤ 41 := by
          have := feedS_tot l (feedAll l B (Z.take k)).1 y q3
          rw [hFT] at this
          rw [← hgo]
          unfold tot at *
          simp only [List.length_nil] at *
          omega
        have hiS : AllI FS.2 := (unhide ol3).i64
        have hiT : AllI FT.2 := by
          have := (feedS_i64 l (feedAll l B (Z.take k)).1 y (unhide hto) (lst_stg_i64 (unhide hks3).dl) (unhide hyi)).2
          rw [hFT] at this
          exact this
        have p1D : tot (feedAll l B (Z.take k)).1 [] + 1 ≤ 200000 := by omega
        obtain ⟨C1, hC1⟩ : ∃ r, (feedAll l A (Z.take k)).1 = r := ⟨_, rfl⟩
        obtain ⟨C2, hC2⟩ : ∃ r, (feedAll l B (Z.take k)).1 = r := ⟨_, rfl⟩
        obtain ⟨G1, hG1⟩ : ∃ r, gath l A (Z.take k) = r := ⟨_, rfl⟩
        obtain ⟨G2, hG2⟩ : ∃ r, gath l B (Z.take k) = r := ⟨_, rfl⟩
        rw [hC1, hC2, hG1, hG2] at hks3
        rw [hG1] at hi1 hgs1
        rw [hG2] at hi2 hgs2
        rw [hC2] at p1D q2 hFT
        have pS : tot FS.1 [] ≤ 40 ∧ (∀ s ∈ FS.1, s.1.length ≤ 300000) := ⟨hz1.1, hz1.2.1⟩
        have pT : tot FT.1 [] ≤ 40 ∧ (∀ s ∈ FT.1, s.1.length ≤ 300000) := ⟨hz2.1, hz2.2.1⟩
        clear hz1 hz2 r1 r2 r3 q1 q3 hC1 hC2 hG1 hG2 hbw3 hfo
        have p2D := hide q2
        clear q2
        have hg2 := hgs2
        clear hgs2
        replace hgs1 := hide hgs1; replace hg2 := hide hg2; replace hf1 := hide hf1; replace hf2 := hide hf2; replace hFT := hide hFT; replace hgo := hide hgo; replace hE1 := hide hE1; replace hE2 := hide hE2; replace hen := hide hen; replace hen2 := hide hen2; replace hiS := hide hiS; replace hiT := hide hiT; replace p1D := hide p1D; replace pS := hide pS; replace pT := hide pT
        refine wp_region_frontG 7 (fun LL vs w' => C3 (P14 b22 (.slice a2 ln ln) (fun o n G w => KS wz W0 b18 b19 b22 ln (some ⟨bZ, oZ, none⟩) zn Z o u17 n n2 G G2 ca2 cc2 C1 da dc C2 w) (fun o w => Lst Enc.stg w (FP b18 b19 b22 o u17 w) a2 ln FS.1) (fun w => Lst Enc.int w (FP b18 b19 b22 u16 u17 w) a3 fo FS.2) (fun v w => IsLi en E1 v w) u16 n1 fo en G1 FS.2 E1) LL vs w') (fun _ _ => True)
          (fun ix v w' => match ix with
            | 0 => v = u16
            | 1 => v = .slice a3 fo c3
            | 2 => IsSl (n1 + fo) v
            | 3 => v = .slice la ln lc
            | 4 => v = .agg #[.slice a2 ln ln]
            | 5 => IsSl en v
            | 6 => IsSl (n1 + fo + en) v
            | _ => True) (by rfl) (by kernel_rfl) ?_ ?_ ?_ ?_
        · exact C3.start (P := P14 b22 (.slice a2 ln ln) (fun o n G w => KS wz W0 b18 b19 b22 ln (some ⟨bZ, oZ, none⟩) zn Z o u17 n n2 G G2 ca2 cc2 C1 da dc C2 w) (fun o w => Lst Enc.stg w (FP b18 b19 b22 o u17 w) a2 ln FS.1) (fun w => Lst Enc.int w (FP b18 b19 b22 u16 u17 w) a3 fo FS.2) (fun v w => IsLi en E1 v w) u16 n1 fo en G1 FS.2 E1) ⟨kept' (Below.refl _ _).drew (unhide k22), (unhide hks3).call (Below.refl _ _).drew, lst_call (unhide cl3) (Below.refl _ _).drew, lst_call (unhide ol3) (Below.refl _ _).drew⟩
        · intro wa wb hR ix v hv
          match ix, hv with
          | 0, h => exact h
          | 1, h => exact h
          | 2, h => exact h
          | 3, h => exact h
          | 4, h => exact h
          | 5, h => exact h
          | 6, h => exact h
          | _ + 7, _ => trivial
        · intro ix hix
          obtain rfl | rfl | rfl | rfl | rfl | rfl | rfl : ix = 0 ∨ ix = 1 ∨ ix = 2 ∨ ix = 3 ∨ ix = 4 ∨ ix = 5 ∨ ix = 6 := by omega
          · refine FrontStep.of [] _ rfl (by kernel_rfl) ?_
            intro vs LL wq hLL hC hf
            simp only [putL, List.foldl_nil]
            have hkp := fun v => hC.keep 0 v (by decide)
            replace hkp := hide hkp
            clear hC
            go_wp2_with fail
            first | exact unhide hkp _ | exact ⟨unhide hkp _, trivial⟩
          · refine FrontStep.of [] _ rfl (by kernel_rfl) ?_
            intro vs LL wq hLL hC hf
            simp only [putL, List.foldl_nil]
            have hkp := fun v => hC.keep 1 v (by decide)
            replace hkp := hide hkp
            clear hC
            go_wp2_with fail
            first | exact unhide hkp _ | exact ⟨unhide hkp _, trivial⟩
          · refine FrontStep.of [0, 1] _ rfl (by kernel_rfl) ?_
            intro vs LL wq hLL hC hf
            simp only [putL, List.foldl_nil, List.foldl_cons, List.getElem?_cons_zero, List.getElem?_cons_succ]
            have e0 : vs 0 = _ := hf 0 (by simp)
            rw [e0]
            have e1 : vs 1 = _ := hf 1 (by simp)
            rw [e1]
            have hp := hC.at0 hLL
            have hkk : (fun o n G w => KS wz W0 b18 b19 b22 ln (some ⟨bZ, oZ, none⟩) zn Z o u17 n n2 G G2 ca2 cc2 C1 da dc C2 w) u16 n1 G1 wq := hp.2.1
            have hll : (fun o w => Lst Enc.stg w (FP b18 b19 b22 o u17 w) a2 ln FS.1) u16 wq := hp.2.2.1
            have hff : (fun w => Lst Enc.int w (FP b18 b19 b22 u16 u17 w) a3 fo FS.2) wq := hp.2.2.2
            have hr := hkk.r1
            have hB0 := hkk.hB
            have hkp := fun (v : Value) (w2 : World) (ho2 : w2.ownsRow W0 3 1 v (n1 + fo) (vints (G1 ++ FS.2))) (hg : wq.grownBy w2 u16.ownBlock) (hbk : v.ownBlock = u16.ownBlock ∨ v.ownBlock = some wq.heap.size) => hC.run0 hLL v (w2 := w2) ⟨blk_grown hr hp.1 (by decide) hg, hkk.app1 ho2 hg hbk, lst_app1 hll hg hbk⟩
            replace hkp := hide hkp; replace hr := hide hr; replace hff := hide hff
            clear hC hp hkk hll
            go_wp2_with (at_builtin; refine wpList_unguard (by first | rfl | simp [Region.wanted, yielded]) ?_; refine wpList_append_ints2 rfl _ _ rfl W0 _ _ G1 rfl (unhide hr) _ _ _ _ _ rfl (unhide hff) (by omega) hB0 ?_)
            intro v2 w2 q1 q2 q3
            have hfin := hide (unhide hkp v2 w2 q1 q2 q3)
            obtain ⟨ax, cx, hvx⟩ := own_shape q1
            subst hvx
            have hsl := hide (⟨ax, cx, rfl⟩ : IsSl (n1 + fo) (.slice ax (n1 + fo) cx))
            clear hkp q1 q2 q3
            go_wp2_with fail
            first | exact ⟨unhide hfin, unhide hsl⟩ | exact ⟨unhide hfin, trivial, unhide hsl⟩
          · refine FrontStep.of [] _ rfl (by kernel_rfl) ?_
            intro vs LL wq hLL hC hf
            simp only [putL, List.foldl_nil]
            have hkp := fun v => hC.keep 3 v (by decide)
            replace hkp := hide hkp
            clear hC
            go_wp2_with fail
            first | exact unhide hkp _ | exact ⟨unhide hkp _, trivial⟩
          · refine FrontStep.of [] _ rfl (by kernel_rfl) ?_
            intro vs LL wq hLL hC hf
            simp only [putL, List.foldl_nil]
            obtain ⟨kk, -, hpp⟩ := hC.st
            have hdd := blk_cell hpp.1
            clear hpp
            have hkp := fun v => hC.keep 4 v (by decide)
            replace hkp := hide hkp
            clear hC
            go_wp2_with fail
            first | exact unhide hkp _ | exact ⟨unhide hkp _, trivial⟩
          · refine FrontStep.of [2, 3, 4] _ rfl (by kernel_rfl) ?_
            intro vs LL wq hLL hC hf
            simp only [putL, List.foldl_nil, List.foldl_cons, List.getElem?_cons_zero, List.getElem?_cons_succ]
            obtain ⟨a73, c73, e73⟩ := hf 2 (by simp)
            rw [e73]
            have e3 : vs 3 = _ := hf 3 (by simp)
            rw [e3]
            have e4 : vs 4 = _ := hf 4 (by simp)
            rw [e4]
            have h2 := hC.ran (j := 2) (by rw [e73]; exact slice_def _ _ _)
            have hp := hC.at1 h2 hLL
            have hkk : (fun o n G w => KS wz W0 b18 b19 b22 ln (some ⟨bZ, oZ, none⟩) zn Z o u17 n n2 G G2 ca2 cc2 C1 da dc C2 w) (vs 2) (n1 + fo) (G1 ++ FS.2) wq := hp.2.1
            have hll : (fun o w => Lst Enc.stg w (FP b18 b19 b22 o u17 w) a2 ln FS.1) (vs 2) wq := hp.2.2
            have hbw : Below wz.heap.size wz wq := by rw [unhide hW0]; exact hkk.bel
            have hec := end_any la ln lc l a2 ln FS.1 wq ((unhide hlA).under hbw) (unhide hsm) (unhide hto) (hll.wide (fun b h => h.2.2.2.2.1)) (by omega) (unhide pS).2 (Nat.le_trans (unhide pS).1 (by decide))
            replace hec := hide hec
            have hkp := fun (v : Value) (w2 : World) (hb : Below wq.heap.size wq w2) (hi : IsLi en E1 v w2) (hj : AllI E1 ∧ en ≤ 200000) => hC.run1 h2 hLL v (w2 := w2) ⟨kept' hb hp.1, hkk.call hb, lst_call hll hb, hi, hj⟩
            replace hkp := hide hkp
            clear hC hp hkk hll hbw h2
            go_wp2_with fail
            refine (unhide hec).mono ?_
            rintro e w2 ⟨ax, cx, rfl, hE, hEn, hb⟩
            rw [unhide hE1] at hE hEn ⊢
            rw [unhide hen] at hE hEn ⊢
            have hfin := hide (unhide hkp (.slice ax en cx) w2 hb ⟨ax, cx, rfl, hE⟩ ⟨hE.i64, hEn⟩)
            have hsl := hide (⟨ax, cx, rfl⟩ : IsSl en (.slice ax en cx))
            clear hkp hec hE hb
            go_wp2_with fail
            first | exact ⟨unhide hfin, unhide hsl⟩ | exact ⟨unhide hfin, trivial, unhide hsl⟩
          · refine FrontStep.of [2, 5] _ rfl (by kernel_rfl) ?_
            intro vs LL wq hLL hC hf
            simp only [putL, List.foldl_nil, List.foldl_cons, List.getElem?_cons_zero, List.getElem?_cons_succ]
            obtain ⟨a73, c73, e73⟩ := hf 2 (by simp)
            rw [e73]
            obtain ⟨a76, c76, e76⟩ := hf 5 (by simp)
            rw [e76]
            have h5 := hC.ran (j := 5) (by rw [e76]; exact slice_def _ _ _)
            have hp := hC.at2 h5 hLL
            have hkk : (fun o n G w => KS wz W0 b18 b19 b22 ln (some ⟨bZ, oZ, none⟩) zn Z o u17 n n2 G G2 ca2 cc2 C1 da dc C2 w) (vs 2) (n1 + fo) (G1 ++ FS.2) wq := hp.2.1
            have hll : (fun o w => Lst Enc.stg w (FP b18 b19 b22 o u17 w) a2 ln FS.1) (vs 2) wq := hp.2.2.1
            have hi : IsLi en E1 (vs 5) wq := hp.2.2.2.1
            have hj : AllI E1 ∧ en ≤ 200000 := hp.2.2.2.2
            have hjn := hj.2
            replace hj := hide hj
            obtain ⟨ax, cx, ex, hLi⟩ := hi
            rw [e76] at ex
            have z1 := (Value.slice.inj ex).1
            rw [← z1] at hLi
            clear ex z1
            have hr := hkk.r1
            have hB0 := hkk.hB
            have hkp := fun (v : Value) (w2 : World) (ho2 : w2.ownsRow W0 3 1 v (n1 + fo + en) (vints (G1 ++ FS.2 ++ E1))) (hg : wq.grownBy w2 (vs 2).ownBlock) (hbk : v.ownBlock = (vs 2).ownBlock ∨ v.ownBlock = some wq.heap.size) => hC.run2 h5 hLL v (w2 := w2) ⟨blk_grown hr hp.1 (by decide) hg, hkk.app1 ho2 hg hbk, lst_app1 hll hg hbk, unhide hj⟩
            rw [e73] at hr hkp
            replace hkp := hide hkp; replace hr := hide hr; replace hLi := hide hLi
            clear hC hp hkk hll h5
            go_wp2_with (at_builtin; refine wpList_unguard (by first | rfl | simp [Region.wanted, yielded]) ?_; refine wpList_append_ints2 rfl _ _ rfl W0 _ _ (G1 ++ FS.2) rfl (unhide hr) _ _ _ _ _ rfl (unhide hLi) (by omega) hB0 ?_)
            intro v2 w2 q1 q2 q3
            try rw [← List.append_assoc] at q1
            have hfin := hide (unhide hkp v2 w2 q1 q2 q3)
            obtain ⟨ax, cx, hvx⟩ := own_shape q1
            subst hvx
            have hsl := hide (⟨ax, cx, rfl⟩ : IsSl (n1 + fo + en) (.slice ax (n1 + fo + en) cx))
            clear hkp q1 q2 q3
            go_wp2_with fail
            first | exact ⟨unhide hfin, unhide hsl⟩ | exact ⟨unhide hfin, trivial, unhide hsl⟩
        · intro vs LL wq hLL hC hf
          obtain ⟨kk, hpp⟩ := hC.fin (hLL 6 (by decide))
          obtain ⟨a77, c77, e77⟩ := hf 6 (by decide)
          rw [e77] at hpp
          have hks5 : (fun o n G w => KS wz W0 b18 b19 b22 ln (some ⟨bZ, oZ, none⟩) zn Z o u17 n n2 G G2 ca2 cc2 C1 da dc C2 w) (.slice a77 (n1 + fo + en) c77) (n1 + fo + en) (G1 ++ FS.2 ++ E1) wq := hpp.2.1
          have hl5 : (fun o w => Lst Enc.stg w (FP b18 b19 b22 o u17 w) a2 ln FS.1) (.slice a77 (n1 + fo + en) c77) wq := hpp.2.2.1
          have hk22 := hpp.1
          have hj1 := hpp.2.2.2
          rw [putSome_all]
          simp only [putL, List.range, List.range.loop, List.foldl_nil, List.foldl_cons, List.getElem?_cons_zero, List.getElem?_cons_succ, List.drop_succ_cons, List.drop_zero]
          rw [e77]
          clear hC hf hLL hpp e77
          obtain ⟨V5, rfl⟩ : ∃ W : World, W = wq := ⟨_, rfl⟩
          have d22 := blk_cell hk22
          have z18 : V5.frozen? ⟨b18, 0, none⟩ = false := by
            have hx := hks5.x18
            simp [World.frozen?, hx]
          have dst0 := blk_cell hks5.x18
          have hks6 := hks5.set1 (ec := ln) hl5
          obtain ⟨n1n, hn1n⟩ : ∃ m, n1 + fo + en = m := ⟨_, rfl⟩
          obtain ⟨G1n, hG1n⟩ : ∃ G, G1 ++ FS.2 ++ E1 = G := ⟨_, rfl⟩
          rw [hn1n] at hks6 ⊢
          rw [hG1n] at hks6
          have hk226 : (V5.setCell ⟨b18, 0, none⟩ (.slice a2 ln ln)).heap[b22]? = some (.cells #[.slice a2 ln ln] 29 (0, 0)) := (Below.heap_setCell _ _ _ _ (unhide g22).2.1).trans hk22
          have hn1l : n1n ≤ (k + 1) * 300000 := by
            have := hj1.2
            omega
          have hi1n : AllI G1n := by rw [← hG1n]; exact alli_app (alli_app (unhide hi1) (unhide hiS)) hj1.1
          have hg1 : gath l A (Z.take (k + 1)) = G1n := by rw [← hG1n, unhide hgs1]
          clear hks5 hl5 hk22 hG1n hn1n
          replace hks6 := hide hks6; replace hj1 := hide hj1; replace hk226 := hide hk226; replace hi1n := hide hi1n; replace hg1 := hide hg1
          go_simp
          go_upto_region 16 with fail
          obtain ⟨V6, hV6⟩ : ∃ W : World, W = V5.setCell ⟨b18, 0, none⟩ (.slice a2 ln ln) := ⟨_, rfl⟩
          rw [← hV6] at hks6 hk226 ⊢
          clear d22 z18 dst0 hV6
          have hksf := hide (unhide hks6).flip
          have hbw6 : Below wz.heap.size wz V6 := by rw [unhide hW0]; exact (unhide hks6).bel
          have d19 := blk_cell (unhide hks6).x19
          have hfc := feed_any la ln lc l da dc C2 y V6 ((unhide hlA).under hbw6) (unhide hsm) (unhide hto) ((unhide hks6).dl.wide (fun b h => h.2.2.2.2.1)) (by omega) (unhide hyi) (unhide p2D) (unhide p1D)
          clear hks6 hbw6
          replace hfc := hide hfc
          go_wp2_with fail
          refine (unhide hfc).mono ?_
          rintro e w7 ⟨a4, a5, c5, rfl, hst2, hlo2, hb⟩
          have hks7 := (unhide hksf).call hb
          have cl7 := (unhide hksf).fresh hst2
          have ol7 := (unhide hksf).fresh hlo2
          have hk227 := kept' hb (unhide hk226)
          rw [unhide hFT] at cl7 ol7 ⊢
          rw [unhide hgo] at ol7 ⊢
          have z22 : w7.frozen? ⟨b22, 0, none⟩ = false := by simp [World.frozen?, hk227]
          have d227 := blk_cell hk227
          have hks8 := hks7.set3 hk227 (unhide g22).1 (unhide g22).2.2 (unhide g22).2.1 (.slice a4 ln ln)
          have cl8 := lst_set3 (.slice a4 ln ln) cl7
          have ol8 := lst_set3 (.slice a4 ln ln) ol7
          have k28 := heap_set (off := 0) hk227 (.slice a4 ln ln)
          clear hfc hst2 hlo2 hks7 cl7 ol7 hk227 hb hksf hk226 d19
          replace hks8 := hide hks8; replace cl8 := hide cl8; replace ol8 := hide ol8; replace k28 := hide k28
          go_upto_region 17 with fail
          obtain ⟨V8, hV8⟩ : ∃ W : World, W = w7.setCell ⟨b22, 0, none⟩ (.slice a4 ln ln) := ⟨_, rfl⟩
          rw [← hV8] at hks8 cl8 ol8 k28 ⊢
          clear hV8 z22 d227
          refine wp_region_frontG 7 (fun LL vs w' => C3 (P14 b22 (.slice a4 ln ln) (fun o n G w => KS wz W0 b19 b18 b22 ln (some ⟨bZ, oZ, none⟩) zn Z o (.slice a77 n1n c77) n n1n G G1n da dc C2 a2 ln FS.1 w) (fun o w => Lst Enc.stg w (FP b19 b18 b22 o (.slice a77 n1n c77) w) a4 ln FT.1) (fun w => Lst Enc.int w (FP b19 b18 b22 u17 (.slice a77 n1n c77) w) a5 go FT.2) (fun v w => IsLi en2 E2 v w) u17 n2 go en2 G2 FT.2 E2) LL vs w') (fun _ _ => True)
            (fun ix v w' => match ix with
              | 0 => v = u17
              | 1 => v = .slice a5 go c5
              | 2 => IsSl (n2 + go) v
              | 3 => v = .slice la ln lc
              | 4 => v = .agg #[.slice a4 ln ln]
              | 5 => IsSl en2 v
              | 6 => IsSl (n2 + go + en2) v
              | _ => True) (by rfl) (by kernel_rfl) ?_ ?_ ?_ ?_
          · exact C3.start (P := P14 b22 (.slice a4 ln ln) (fun o n G w => KS wz W0 b19 b18 b22 ln (some ⟨bZ, oZ, none⟩) zn Z o (.slice a77 n1n c77) n n1n G G1n da dc C2 a2 ln FS.1 w) (fun o w => Lst Enc.stg w (FP b19 b18 b22 o (.slice a77 n1n c77) w) a4 ln FT.1) (fun w => Lst Enc.int w (FP b19 b18 b22 u17 (.slice a77 n1n c77) w) a5 go FT.2) (fun v w => IsLi en2 E2 v w) u17 n2 go en2 G2 FT.2 E2) ⟨kept' (Below.refl _ _).drew (unhide k28), (unhide hks8).call (Below.refl _ _).drew, lst_call (unhide cl8) (Below.refl _ _).drew, lst_call (unhide ol8) (Below.refl _ _).drew⟩
          · intro wa wb hR ix v hv
            match ix, hv with
            | 0, h => exact h
            | 1, h => exact h
            | 2, h => exact h
            | 3, h => exact h
            | 4, h => exact h
            | 5, h => exact h
            | 6, h => exact h
            | _ + 7, _ => trivial
          · intro ix hix
            obtain rfl | rfl | rfl | rfl | rfl | rfl | rfl : ix = 0 ∨ ix = 1 ∨ ix = 2 ∨ ix = 3 ∨ ix = 4 ∨ ix = 5 ∨ ix = 6 := by omega
            · refine FrontStep.of [] _ rfl (by kernel_rfl) ?_
              intro vs LL wq hLL hC hf
              simp only [putL, List.foldl_nil]
              have hkp := fun v => hC.keep 0 v (by decide)
              replace hkp := hide hkp
              clear hC
              go_wp2_with fail
              first | exact unhide hkp _ | exact ⟨unhide hkp _, trivial⟩
            · refine FrontStep.of [] _ rfl (by kernel_rfl) ?_
              intro vs LL wq hLL hC hf
              simp only [putL, List.foldl_nil]
              have hkp := fun v => hC.keep 1 v (by decide)
              replace hkp := hide hkp
              clear hC
              go_wp2_with fail
              first | exact unhide hkp _ | exact ⟨unhide hkp _, trivial⟩
            · refine FrontStep.of [0, 1] _ rfl (by kernel_rfl) ?_
              intro vs LL wq hLL hC hf
              simp only [putL, List.foldl_nil, List.foldl_cons, List.getElem?_cons_zero, List.getElem?_cons_succ]
              have e0 : vs 0 = _ := hf 0 (by simp)
              rw [e0]
              have e1 : vs 1 = _ := hf 1 (by simp)
              rw [e1]
              have hp := hC.at0 hLL
              have hkk : (fun o n G w => KS wz W0 b19 b18 b22 ln (some ⟨bZ, oZ, none⟩) zn Z o (.slice a77 n1n c77) n n1n G G1n da dc C2 a2 ln FS.1 w) u17 n2 G2 wq := hp.2.1
              have hll : (fun o w => Lst Enc.stg w (FP b19 b18 b22 o (.slice a77 n1n c77) w) a4 ln FT.1) u17 wq := hp.2.2.1
              have hff : (fun w => Lst Enc.int w (FP b19 b18 b22 u17 (.slice a77 n1n c77) w) a5 go FT.2) wq := hp.2.2.2
              have hr := hkk.r1
              have hB0 := hkk.hB
              have hkp := fun (v : Value) (w2 : World) (ho2 : w2.ownsRow W0 3 1 v (n2 + go) (vints (G2 ++ FT.2))) (hg : wq.grownBy w2 u17.ownBlock) (hbk : v.ownBlock = u17.ownBlock ∨ v.ownBlock = some wq.heap.size) => hC.run0 hLL v (w2 := w2) ⟨blk_grown hr hp.1 (by decide) hg, hkk.app1 ho2 hg hbk, lst_app1 hll hg hbk⟩
              replace hkp := hide hkp; replace hr := hide hr; replace hff := hide hff
              clear hC hp hkk hll
              go_wp2_with (at_builtin; refine wpList_unguard (by first | rfl | simp [Region.wanted, yielded]) ?_; refine wpList_append_ints2 rfl _ _ rfl W0 _ _ G2 rfl (unhide hr) _ _ _ _ _ rfl (unhide hff) (by omega) hB0 ?_)
              intro v2 w2 q1 q2 q3
              have hfin := hide (unhide hkp v2 w2 q1 q2 q3)
              obtain ⟨ax, cx, hvx⟩ := own_shape q1
              subst hvx
              have hsl := hide (⟨ax, cx, rfl⟩ : IsSl (n2 + go) (.slice ax (n2 + go) cx))
              clear hkp q1 q2 q3
              go_wp2_with fail
              first | exact ⟨unhide hfin, unhide hsl⟩ | exact ⟨unhide hfin, trivial, unhide hsl⟩
            · refine FrontStep.of [] _ rfl (by kernel_rfl) ?_
              intro vs LL wq hLL hC hf
              simp only [putL, List.foldl_nil]
              have hkp := fun v => hC.keep 3 v (by decide)
              replace hkp := hide hkp
              clear hC
              go_wp2_with fail
              first | exact unhide hkp _ | exact ⟨unhide hkp _, trivial⟩
            · refine FrontStep.of [] _ rfl (by kernel_rfl) ?_
              intro vs LL wq hLL hC hf
              simp only [putL, List.foldl_nil]
              obtain ⟨kk, -, hpp⟩ := hC.st
              have hdd := blk_cell hpp.1
              clear hpp
              have hkp := fun v => hC.keep 4 v (by decide)
              replace hkp := hide hkp
              clear hC
              go_wp2_with fail
              first | exact unhide hkp _ | exact ⟨unhide hkp _, trivial⟩
            · refine FrontStep.of [2, 3, 4] _ rfl (by kernel_rfl) ?_
              intro vs LL wq hLL hC hf
              simp only [putL, List.foldl_nil, List.foldl_cons, List.getElem?_cons_zero, List.getElem?_cons_succ]
              obtain ⟨a88, c88, e88⟩ := hf 2 (by simp)
              rw [e88]
              have e3 : vs 3 = _ := hf 3 (by simp)
              rw [e3]
              have e4 : vs 4 = _ := hf 4 (by simp)
              rw [e4]
              have h2 := hC.ran (j := 2) (by rw [e88]; exact slice_def _ _ _)
              have hp := hC.at1 h2 hLL
              have hkk : (fun o n G w => KS wz W0 b19 b18 b22 ln (some ⟨bZ, oZ, none⟩) zn Z o (.slice a77 n1n c77) n n1n G G1n da dc C2 a2 ln FS.1 w) (vs 2) (n2 + go) (G2 ++ FT.2) wq := hp.2.1
              have hll : (fun o w => Lst Enc.stg w (FP b19 b18 b22 o (.slice a77 n1n c77) w) a4 ln FT.1) (vs 2) wq := hp.2.2
              have hbw : Below wz.heap.size wz wq := by rw [unhide hW0]; exact hkk.bel
              have hec := end_any la ln lc l a4 ln FT.1 wq ((unhide hlA).under hbw) (unhide hsm) (unhide hto) (hll.wide (fun b h => h.2.2.2.2.1)) (by omega) (unhide pT).2 (Nat.le_trans (unhide pT).1 (by decide))
              replace hec := hide hec
              have hkp := fun (v : Value) (w2 : World) (hb : Below wq.heap.size wq w2) (hi : IsLi en2 E2 v w2) (hj : AllI E2 ∧ en2 ≤ 200000) => hC.run1 h2 hLL v (w2 := w2) ⟨kept' hb hp.1, hkk.call hb, lst_call hll hb, hi, hj⟩
              replace hkp := hide hkp
              clear hC hp hkk hll hbw h2
              go_wp2_with fail
              refine (unhide hec).mono ?_
              rintro e w2 ⟨ax, cx, rfl, hE, hEn, hb⟩
              rw [unhide hE2] at hE hEn ⊢
              rw [unhide hen2] at hE hEn ⊢
              have hfin := hide (unhide hkp (.slice ax en2 cx) w2 hb ⟨ax, cx, rfl, hE⟩ ⟨hE.i64, hEn⟩)
              have hsl := hide (⟨ax, cx, rfl⟩ : IsSl en2 (.slice ax en2 cx))
              clear hkp hec hE hb
              go_wp2_with fail
              first | exact ⟨unhide hfin, unhide hsl⟩ | exact ⟨unhide hfin, trivial, unhide hsl⟩
            · refine FrontStep.of [2, 5] _ rfl (by kernel_rfl) ?_
              intro vs LL wq hLL hC hf
              simp only [putL, List.foldl_nil, List.foldl_cons, List.getElem?_cons_zero, List.getElem?_cons_succ]
              obtain ⟨a88, c88, e88⟩ := hf 2 (by simp)
              rw [e88]
              obtain ⟨a91, c91, e91⟩ := hf 5 (by simp)
              rw [e91]
              have h5 := hC.ran (j := 5) (by rw [e91]; exact slice_def _ _ _)
              have hp := hC.at2 h5 hLL
              have hkk : (fun o n G w => KS wz W0 b19 b18 b22 ln (some ⟨bZ, oZ, none⟩) zn Z o (.slice a77 n1n c77) n n1n G G1n da dc C2 a2 ln FS.1 w) (vs 2) (n2 + go) (G2 ++ FT.2) wq := hp.2.1
              have hll : (fun o w => Lst Enc.stg w (FP b19 b18 b22 o (.slice a77 n1n c77) w) a4 ln FT.1) (vs 2) wq := hp.2.2.1
              have hi : IsLi en2 E2 (vs 5) wq := hp.2.2.2.1
              have hj : AllI E2 ∧ en2 ≤ 200000 := hp.2.2.2.2
              have hjn := hj.2
              replace hj := hide hj
              obtain ⟨ax, cx, ex, hLi⟩ := hi
              rw [e91] at ex
              have z1 := (Value.slice.inj ex).1
              rw [← z1] at hLi
              clear ex z1
              have hr := hkk.r1
              have hB0 := hkk.hB
              have hkp := fun (v : Value) (w2 : World) (ho2 : w2.ownsRow W0 3 1 v (n2 + go + en2) (vints (G2 ++ FT.2 ++ E2))) (hg : wq.grownBy w2 (vs 2).ownBlock) (hbk : v.ownBlock = (vs 2).ownBlock ∨ v.ownBlock = some wq.heap.size) => hC.run2 h5 hLL v (w2 := w2) ⟨blk_grown hr hp.1 (by decide) hg, hkk.app1 ho2 hg hbk, lst_app1 hll hg hbk, unhide hj⟩
              rw [e88] at hr hkp
              replace hkp := hide hkp; replace hr := hide hr; replace hLi := hide hLi
              clear hC hp hkk hll h5
              go_wp2_with (at_builtin; refine wpList_unguard (by first | rfl | simp [Region.wanted, yielded]) ?_; refine wpList_append_ints2 rfl _ _ rfl W0 _ _ (G2 ++ FT.2) rfl (unhide hr) _ _ _ _ _ rfl (unhide hLi) (by omega) hB0 ?_)
              intro v2 w2 q1 q2 q3
              try rw [← List.append_assoc] at q1
              have hfin := hide (unhide hkp v2 w2 q1 q2 q3)
              obtain ⟨ax, cx, hvx⟩ := own_shape q1
              subst hvx
              have hsl := hide (⟨ax, cx, rfl⟩ : IsSl (n2 + go + en2) (.slice ax (n2 + go + en2) cx))
              clear hkp q1 q2 q3
              go_wp2_with fail
              first | exact ⟨unhide hfin, unhide hsl⟩ | exact ⟨unhide hfin, trivial, unhide hsl⟩
          · intro vs LL wq hLL hC hf
            obtain ⟨kk, hpp⟩ := hC.fin (hLL 6 (by decide))
            obtain ⟨a92, c92, e92⟩ := hf 6 (by decide)
            rw [e92] at hpp
            have hks5 : (fun o n G w => KS wz W0 b19 b18 b22 ln (some ⟨bZ, oZ, none⟩) zn Z o (.slice a77 n1n c77) n n1n G G1n da dc C2 a2 ln FS.1 w) (.slice a92 (n2 + go + en2) c92) (n2 + go + en2) (G2 ++ FT.2 ++ E2) wq := hpp.2.1
            have hl5 : (fun o w => Lst Enc.stg w (FP b19 b18 b22 o (.slice a77 n1n c77) w) a4 ln FT.1) (.slice a92 (n2 + go + en2) c92) wq := hpp.2.2.1
            have hk22 := hpp.1
            have hj2 := hpp.2.2.2
            rw [putSome_all]
            simp only [putL, List.range, List.range.loop, List.foldl_nil, List.foldl_cons, List.getElem?_cons_zero, List.getElem?_cons_succ, List.drop_succ_cons, List.drop_zero]
            rw [e92]
            clear hC hf hLL hpp e92
            obtain ⟨V9, rfl⟩ : ∃ W : World, W = wq := ⟨_, rfl⟩
            have d22 := blk_cell hk22
            have z19 : V9.frozen? ⟨b19, 0, none⟩ = false := by
              have hx := hks5.x18
              simp [World.frozen?, hx]
            have dst0 := blk_cell hks5.x18
            have hks9 := ((hks5.set1 (ec := ln) hl5).flip).unbox
            clear hks5 hl5 hk22
            replace hks9 := hide hks9; replace hj2 := hide hj2
            go_simp
            go_wp2_with fail
            go_roundw
            case rel =>
              have hfo1 := (unhide hj1).2
              have hfo2 := (unhide hj2).2
              have hst1 : gath l A (Z.take (k + 1)) = G1n := unhide hg1
              have hst2 : gath l B (Z.take (k + 1)) = G2 ++ FT.2 ++ E2 := unhide hg2
              have hs1 : (feedAll l A (Z.take (k + 1))).1 = FS.1 := unhide hf1
              have hs2 : (feedAll l B (Z.take (k + 1))).1 = FT.1 := unhide hf2
              refine ⟨k + 1, n1n, n2 + go + en2, a2, ln, a4, ln, by omega, by go_num, by omega, by omega, ?_, ?_, ?_⟩
              · rw [hst1]; exact unhide hi1n
              · rw [hst2]; exact alli_app (alli_app (unhide hi2) (unhide hiT)) (unhide hj2).1
              · rw [hst1, hst2, hs1, hs2]; exact unhide hks9
            case measure => simp [intOf]; omega
--R14end
      · have hzk : Z.take k = Z := List.take_of_length_le (by rw [unhide hzn]; omega)
        rw [hzk] at hks hi1 hi2
        have hbw : Below wz.heap.size wz wo := by rw [unhide hW0]; exact hks.bel
        have hBo := (unhide hBA).under hbw
        have d13 := blk_cell (kept' hbw (unhide k13A))
        have hkB := key_any ta ln tc B wo hBo (fun x hx => (unhide fitB x hx).1) (by omega)
        rw [unhide hKB] at hkB
        have t3 : decide ((k : Int) < (zn : Int)) = false := by simp; omega
        clear hBo
        replace hkB := hide hkB; replace hks := hide hks; replace hbw := hide hbw; replace hi1 := hide hi1; replace hi2 := hide hi2; replace hzk := hide hzk
        go_wp2_with fail
        refine (unhide hkB).mono ?_
        rintro e wa ⟨rfl, hb⟩
        have hksa := (unhide hks).call hb
        have hba := (unhide hbw).trans (hb.mono (unhide hbw).size)
        clear hkB hks hbw hb d13
        have hend : ∀ wb : World, Below wz.heap.size wz wb → Calls Try.prog 23 #[.agg #[.slice fa ln fc]] wb fun e w' => e = .returned (.string KA) ∧ Below wb.heap.size wb w' := fun wb hbb => by
          have := key_any fa ln fc A wb ((unhide hAA).under hbb) (fun x hx => (unhide fitA x hx).1) (by omega)
          rw [unhide hKA] at this
          exact this
        have hd11 : ∀ wb : World, Below wz.heap.size wz wb → wb.cell? ⟨_, 0, none⟩ = some _ := fun wb hbb => blk_cell (kept' hbb (unhide k11A))
        replace hend := hide hend; replace hd11 := hide hd11
        have t4 : (KA.toList == KA.toList) = true := beq_self_eq_true _
        cases dab with
        | false =>
          have d11 := unhide hd11 wa hba
          have hke := hide (unhide hend wa hba)
          have hzz := hide ((unhide hzA).trans (hba.mono (unhide hzA).size))
          clear hksa hba hend hd11
          go_wp2_with fail
          refine (unhide hke).mono ?_
          rintro e wb ⟨rfl, hb⟩
          have hzf := hide ((unhide hzz).trans (hb.mono (unhide hzz).size))
          clear hke hzz hb d11
          go_wp2_with fail
          go_ret
          exact ⟨rfl, unhide hzf⟩
        | true =>
          have hAB : A = B := of_decide_eq_true (unhide hdab)
          obtain ⟨a1, c1, z1, e1, p1⟩ := own_lst hksa.r1 (unhide hi1)
          obtain ⟨a2, c2, z2, e2, p2⟩ := own_lst hksa.r2 (unhide hi2)
          have hgl : gath l B Z = gath l A Z := by rw [hAB]
          rw [hgl] at p2 z2
          obtain ⟨G, hG⟩ : ∃ G, gath l A Z = G := ⟨_, rfl⟩
          rw [hG] at p1 p2 z1 z2 e1
          obtain ⟨m, hm⟩ : ∃ m, G.length = m := ⟨_, rfl⟩
          rw [hm] at p1 p2 z1 z2 e1
          have hs := sameInts_blw a1 m c1 G a2 m c2 G wa p1 p2 (by omega) (by omega)
          rw [decide_eq_true rfl] at hs
          rw [z1, z2]
          clear hksa hi1 hi2 p1 p2 z1 z2 hgl hG hm hAB e1 e2
          replace hs := hide hs; replace hba := hide hba
          go_wp2_with fail
          refine (unhide hs).mono ?_
          rintro e wb ⟨rfl, hb⟩
          have hbb := (unhide hba).trans (hb.mono (unhide hba).size)
          have d11 := unhide hd11 wb hbb
          have hke := hide (unhide hend wb hbb)
          have hzz := hide ((unhide hzA).trans (hbb.mono (unhide hzA).size))
          clear hs hba hend hd11 hb hbb
          go_wp2_with fail
          refine (unhide hke).mono ?_
          rintro e wc ⟨rfl, hb⟩
          have hzf := hide ((unhide hzz).trans (hb.mono (unhide hzz).size))
          clear hke hzz hb d11
          go_wp2_with fail
          go_ret
          exact ⟨rfl, unhide hzf⟩
end Go.Proofs.Ytfbgbbbfpkpfkaa
