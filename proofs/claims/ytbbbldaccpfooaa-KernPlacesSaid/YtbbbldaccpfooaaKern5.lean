/- kern.Place and the reference's Place. -/
import Derived.Test.YtbbbldaccpfooaaKern4
namespace Go.Proofs.Ytbbbldaccpfooaa
open Go.RowKit Go.Maps
/-- one step of the pen -/
def penStep (av : List Int) (ks : List (Int × Int × Int)) (g sp : List Int) (size : Int) (k : Nat) (pen : Int) : Int :=
  let p1 := wrap64 (pen + wrap64 (size * advS av (g.getD k 0)))
  let p2 := if k + 1 < g.length then wrap64 (p1 + wrap64 (size * findBy ks (g.getD k 0) (g.getD (k + 1) 0))) else p1
  if k < sp.length then wrap64 (p2 + wrap64 (64 * sp.getD k 0)) else p2
def penS (av : List Int) (ks : List (Int × Int × Int)) (g sp : List Int) (size : Int) : Nat → Int
  | 0 => 0
  | k + 1 => penStep av ks g sp size k (penS av ks g sp size k)
/-- the positions after k rounds, and noughts -/
def rowsAt (P : Nat → Int) (n k : Nat) : List Value := ((List.range k).map fun i => Value.int .i64 (roundI (P i) 64)) ++ List.replicate (n - k) (Value.int .i64 0)
theorem rowsAt_zero (P : Nat → Int) (n : Nat) : rowsAt P n 0 = List.replicate n (Value.int .i64 0) := rfl
theorem rowsAt_full (P : Nat → Int) (n : Nat) : rowsAt P n n = ((List.range n).map fun i => roundI (P i) 64).map (Value.int .i64) := by
  unfold rowsAt
  simp
theorem rowsAt_len (P : Nat → Int) (n k : Nat) (h : k ≤ n) : (rowsAt P n k).length = n := by
  unfold rowsAt
  simp
  omega
theorem rowsAt_set (P : Nat → Int) (n k : Nat) (h : k < n) : (rowsAt P n k).set k (.int .i64 (roundI (P k) 64)) = rowsAt P n (k + 1) := by
  unfold rowsAt
  rw [List.set_append_right _ _ (by simp), List.range_succ, show n - k = (n - (k + 1)) + 1 by omega, List.replicate_succ]
  simp
theorem i64_wrap (n : Int) : I64 (wrap64 n) := by unfold I64 wrap64; constructor <;> omega
theorem penS_i64 (av : List Int) (ks : List (Int × Int × Int)) (g sp : List Int) (size : Int) (k : Nat) : I64 (penS av ks g sp size k) := by
  cases k with
  | zero =>
    show I64 0
    unfold I64
    omega
  | succ k =>
    rw [penS]
    unfold penStep
    simp only []
    split
    · exact i64_wrap _
    · split <;> exact i64_wrap _
theorem make24 (n : Nat) (hn : n ≤ 1000) (w : World) : (Instr.makeSlice 24 (.int .i64 (n : Int)) (.int .i64 (n : Int))).run Try.prog w = .ok (.slice (some ⟨w.heap.size, 0, none⟩) n n) (w.alloc (.cells (madeCells #[Value.int .i64 0] n) 3)) := by
  obtain ⟨i0, hi, hz0, hz1, hz2⟩ := info_parts info_int
  have := run_make (P := Try.prog) w 24 3 i0 (.int .i64 0) Try.underlying24 hi hz0 .i64 .i64 (n : Int) (n : Int) (by omega) (by omega) (by rw [hz2]; omega) (by omega)
  have h2 : (Instr.makeSlice 24 (.int .i64 (n : Int)) (.int .i64 (n : Int))).run Try.prog w = .ok (.slice (some ⟨w.heap.size, 0, none⟩) n n) (w.alloc (.cells (madeCells (Value.int .i64 0).cells (n * 1)) 3)) := by simpa [hz1] using this
  rw [Nat.mul_one] at h2
  exact h2
theorem penS_next (av : List Int) (ks : List (Int × Int × Int)) (g sp : List Int) (size : Int) (k : Nat) : penS av ks g sp size (k + 1) =
    (if k < sp.length then wrap64 ((if k + 1 < g.length then wrap64 (wrap64 (penS av ks g sp size k + wrap64 (size * advS av (g.getD k 0))) + wrap64 (size * findBy ks (g.getD k 0) (g.getD (k + 1) 0))) else wrap64 (penS av ks g sp size k + wrap64 (size * advS av (g.getD k 0)))) + wrap64 (64 * sp.getD k 0))
      else (if k + 1 < g.length then wrap64 (wrap64 (penS av ks g sp size k + wrap64 (size * advS av (g.getD k 0))) + wrap64 (size * findBy ks (g.getD k 0) (g.getD (k + 1) 0))) else wrap64 (penS av ks g sp size k + wrap64 (size * advS av (g.getD k 0))))) := rfl
theorem pen_zero (pen size : Int) (h : I64 pen) : wrap64 (pen + wrap64 (size * 0)) = pen := by
  unfold I64 at h
  rw [Int.mul_zero]
  unfold wrap64
  omega
set_option maxHeartbeats 2000000 in
set_option maxRecDepth 100000 in
theorem kplace_any (S : Nat → Prop) (f : Value) (av : List Int) (ks : List (Int × Int × Int)) (ga : Option Addr) (gn gc : Nat) (g : List Int) (sa : Option Addr) (sn sc : Nat) (sp : List Int) (size : Int) (w : World)
    (hf : FontAt S w f av ks) (hg : Lst Enc.int w S ga gn g) (hs : Lst Enc.int w S sa sn sp) (hS : ∀ c, S c → c < w.heap.size) (hgn : gn ≤ 1000) (_ : sn ≤ 1000) (_ : I64 size) :
    Calls Try.prog 13 #[f, .slice ga gn gc, .slice sa sn sc, .int .i64 size] w fun e w' => ∃ M, e = .returned (.tuple #[.slice (some ⟨M, 0, none⟩) gn gn, .int .i64 (roundI (penS av ks g sp size gn) 64)]) ∧
      w'.ownsRow w.heap.size 3 1 (.slice (some ⟨M, 0, none⟩) gn gn) gn (rowsAt (penS av ks g sp size) gn gn) ∧ Below w.heap.size w w' := by
  obtain ⟨s, n, va, vn, vc, b, fc, qa, qn, qc, ta, tn, tc, ka, kc, rfl, hb, hl9, hx, hks, hk13, hkb⟩ := hf
  obtain ⟨V, hV⟩ : ∃ V : World, w.alloc (.cells #[.string s, .int .i64 n, .slice va vn vc, .slice (some ⟨b, 0, none⟩) av.length fc, .slice qa qn qc, .slice ta tn tc, .slice ka ks.length kc] 33) = V := ⟨_, rfl⟩
  have hVs : V.heap.size = w.heap.size + 1 := by rw [← hV]; simp
  have hb0 : Below w.heap.size w V := by rw [← hV]; exact (Below.refl _ _).alloc (Nat.le_refl _) _
  have hVb : V.heap[w.heap.size]? = some (.cells #[.string s, .int .i64 n, .slice va vn vc, .slice (some ⟨b, 0, none⟩) av.length fc, .slice qa qn qc, .slice ta tn tc, .slice ka ks.length kc] 33 (0, 0)) := by rw [← hV]; exact heap_alloc_new w _
  have hl' := (hks.wide hS).under hb0
  have hlg := hg.1
  have hls := hs.1
  have hmk := make24 gn hgn
  replace hVb := hide hVb
  replace hVs := hide hVs
  replace hV := hide hV
  go_enter Try.func13, Try.ntmps13
  go_wp2_with fail
  rw [unhide hV]
  refine (pairs_any _ _ _ _ _ _ ka ks.length kc ks _ _ hl' (fun _ h => h) (by omega)).mono ?_
  rintro e w1 ⟨B, D, rfl, hB, hown, hD, hb1⟩
  clear hl'
  have hBl := hown.lt
  obtain ⟨M, hM⟩ : ∃ M, w1.heap.size = M := ⟨_, rfl⟩
  have hrow0 : (w1.alloc (.cells (madeCells #[Value.int .i64 0] gn) 3)).ownsRow V.heap.size 3 1 (.slice (some ⟨M, 0, none⟩) gn gn) gn (rowsAt (penS av ks g sp size) gn 0) := by
    have := World.ownsRow_lit (base := V.heap.size) (e := 3) (size := 1) w1 (madeCells #[Value.int .i64 0] gn) gn hb1.size (by unfold maxLen; omega) (by rw [size_madeCells]; omega)
    rw [hM, toList_madeCells_one] at this
    exact this
  go_wp2_with fail
  go_loopw [12, 22] (fun p i wr => ∃ k : Nat, k ≤ gn ∧ i = .int .i64 k ∧ p = .int .i64 (penS av ks g sp size k) ∧ wr.ownsRow V.heap.size 3 1 (.slice (some ⟨M, 0, none⟩) gn gn) gn (rowsAt (penS av ks g sp size) gn k) ∧
      wr.ownsMap Try.prog 57 (plainElem Try.prog 3) B ks.length D ∧ Below V.heap.size V wr) (fun _ i _ => gn - (intOf i).toNat)
  case atStart => exact ⟨0, Nat.zero_le _, rfl, rfl, hrow0, hown.alloc _, hb1.alloc hb1.size _⟩
  case round =>
    obtain ⟨k, hk, rfl, rfl, hrow, hmap, hbw⟩ := hrel
    by_cases hlt : k < gn
    · obtain ⟨b1, off1, x, rfl, hSb, hgx, hxi, hc1⟩ := lst_int hg hlt
      have hc1' : wr.cell? ⟨b1, off1 + k, none⟩ = some (.int .i64 x) := (hbw.cell (p := ⟨b1, off1 + k, none⟩) (Nat.lt_of_lt_of_le (hS _ hSb) hb0.size)).trans ((hb0.cell (p := ⟨b1, off1 + k, none⟩) (hS _ hSb)).trans hc1)
      have hf0 := hrow.frozenAt k
      obtain ⟨v0, hcM⟩ : ∃ v0, wr.cell? ⟨M, k, none⟩ = some v0 := ⟨_, (hrow.cellAt k (by omega)).trans (List.getElem?_eq_getElem (by rw [rowsAt_len _ _ _ hk]; omega))⟩
      have hgk : g.getD k 0 = x := by rw [List.getD_eq_getElem?_getD, hgx]; rfl
      replace hgx := hide hgx
      obtain ⟨pen, hpen⟩ : ∃ pen, penS av ks g sp size k = pen := ⟨_, rfl⟩
      have hpi : I64 pen := by rw [← hpen]; exact penS_i64 _ _ _ _ _ _
      obtain ⟨ww, hww⟩ : ∃ ww, wr.setCell ⟨M, k, none⟩ (.int .i64 (roundI pen 64)) = ww := ⟨_, rfl⟩
      obtain ⟨hrow1, hgr1⟩ := hrow.stored k (.int .i64 (roundI (penS av ks g sp size k) 64))
      rw [rowsAt_set _ _ _ hlt] at hrow1
      rw [hpen, hww] at hrow1 hgr1
      have hmap1 := hmap.kept hgr1 (by simp; omega)
      have hbw1 := hbw.grown hgr1 hbw.size (fun j hj => by cases hj; rw [← hM]; exact hb1.size)
      have hVle := hb0.size
      have hold : ∀ c o, c < w.heap.size → ww.cell? ⟨c, o, none⟩ = w.cell? ⟨c, o, none⟩ := fun c o hc => (hbw1.cell (p := ⟨c, o, none⟩) (Nat.lt_of_lt_of_le hc hVle)).trans (hb0.cell (p := ⟨c, o, none⟩) hc)
      have hbox : ww.cell? ⟨w.heap.size, 3, none⟩ = some (.slice (some ⟨b, 0, none⟩) av.length fc) := by
        rw [hbw1.cell (p := ⟨w.heap.size, 3, none⟩) (by rw [unhide hVs]; exact Nat.lt_succ_self _), cell_of_row V _ 3 _ _ _ (unhide hVb)]
        rfl
      have hc1w := (hold b1 (off1 + k) (hS _ hSb)).trans hc1
      rw [hpen]
      have hnext := penS_next av ks g sp size k
      rw [hpen] at hnext
      replace hpen := hide hpen
      replace hold := hide hold
      replace hnext := hide hnext
      replace hgk := hide hgk
      replace hrow1 := hide hrow1; replace hmap1w := hide hmap1; replace hbw1 := hide hbw1; replace hgr1 := hide hgr1
      replace hbw := hide hbw; replace hrow := hide hrow
      by_cases hx0 : x < 0
      · have hadv : advS av x = 0 := if_pos (.inl hx0)
        replace hadv := hide hadv
        by_cases hk1 : k + 1 < gn
        · obtain ⟨b2, off2, y, hbe, hSb2, hgy0, hyi, hc2⟩ := lst_int hg hk1
          cases hbe
          have hc2w := ((unhide hold) b1 (off1 + (k + 1)) (hS _ hSb)).trans hc2
          have hgy : g.getD (k + 1) 0 = y := by rw [List.getD_eq_getElem?_getD, hgy0]; rfl
          replace hgy0 := hide hgy0; replace hgy := hide hgy
          have hkey := keyOf_pair hxi hyi
          have hat0 := hD.at_ _ _ hxi hyi
          by_cases hks1 : k < sn
          · obtain ⟨b3, off3, z, rfl, hSb3, hsz0, hzi, hc3⟩ := lst_int hs hks1
            have hc3w := ((unhide hold) b3 (off3 + k) (hS _ hSb3)).trans hc3
            have hsz : sp.getD k 0 = z := by rw [List.getD_eq_getElem?_getD, hsz0]; rfl
            replace hsz0 := hide hsz0; replace hsz := hide hsz
            go_wp2_with fail
            refine (kdots_any pen wr hpi).mono ?_
            rintro e wq ⟨rfl, rfl⟩
            go_wp2_with (first | (at_lookup; refine wpList_lookup_own_int _ rfl _ _ 54 rfl 57 3 .i64 law57 Try.underlying54 Try.underlying3 (zero3 _) B ks.length _ rfl hmap1 _ _ rfl hkey ?_; intro c hat hwc; rw [hat0] at hat; have hc := lit_i64 hat; rw [hc]) | go_in)
            go_roundw
            case rel =>
              refine ⟨k + 1, by omega, by go_num, ?_, unhide hrow1, hmap1, unhide hbw1⟩
              rw [unhide hnext, unhide hgk, unhide hadv, if_pos (by omega : k + 1 < g.length), unhide hgy, if_pos (by omega : k < sp.length), unhide hsz]
              rw [pen_zero pen size hpi]
            case measure => simp [intOf]; omega
          go_wp2_with fail
          refine (kdots_any pen wr hpi).mono ?_
          rintro e wq ⟨rfl, rfl⟩
          go_wp2_with (first | (at_lookup; refine wpList_lookup_own_int _ rfl _ _ 54 rfl 57 3 .i64 law57 Try.underlying54 Try.underlying3 (zero3 _) B ks.length _ rfl hmap1 _ _ rfl hkey ?_; intro c hat hwc; rw [hat0] at hat; have hc := lit_i64 hat; rw [hc]) | go_in)
          go_roundw
          case rel =>
            refine ⟨k + 1, by omega, by go_num, ?_, unhide hrow1, hmap1, unhide hbw1⟩
            rw [unhide hnext, unhide hgk, unhide hadv, if_pos (by omega : k + 1 < g.length), unhide hgy, if_neg (by omega : ¬ k < sp.length)]
            rw [pen_zero pen size hpi]
          case measure => simp [intOf]; omega
        by_cases hks1 : k < sn
        · obtain ⟨b3, off3, z, rfl, hSb3, hsz0, hzi, hc3⟩ := lst_int hs hks1
          have hc3w := ((unhide hold) b3 (off3 + k) (hS _ hSb3)).trans hc3
          have hsz : sp.getD k 0 = z := by rw [List.getD_eq_getElem?_getD, hsz0]; rfl
          replace hsz0 := hide hsz0; replace hsz := hide hsz
          go_wp2_with fail
          refine (kdots_any pen wr hpi).mono ?_
          rintro e wq ⟨rfl, rfl⟩
          go_wp2_with fail
          go_roundw
          case rel =>
            refine ⟨k + 1, by omega, by go_num, ?_, unhide hrow1, hmap1, unhide hbw1⟩
            rw [unhide hnext, unhide hgk, unhide hadv, if_neg (by omega : ¬ k + 1 < g.length), if_pos (by omega : k < sp.length), unhide hsz]
            rw [pen_zero pen size hpi]
          case measure => simp [intOf]; omega
        go_wp2_with fail
        refine (kdots_any pen wr hpi).mono ?_
        rintro e wq ⟨rfl, rfl⟩
        go_wp2_with fail
        go_roundw
        case rel =>
          refine ⟨k + 1, by omega, by go_num, ?_, unhide hrow1, hmap1, unhide hbw1⟩
          rw [unhide hnext, unhide hgk, unhide hadv, if_neg (by omega : ¬ k + 1 < g.length), if_neg (by omega : ¬ k < sp.length)]
          rw [pen_zero pen size hpi]
        case measure => simp [intOf]; omega
      by_cases hx1 : (av.length : Int) ≤ x
      · have hadv : advS av x = 0 := if_pos (.inr hx1)
        replace hadv := hide hadv
        by_cases hk1 : k + 1 < gn
        · obtain ⟨b2, off2, y, hbe, hSb2, hgy0, hyi, hc2⟩ := lst_int hg hk1
          cases hbe
          have hc2w := ((unhide hold) b1 (off1 + (k + 1)) (hS _ hSb)).trans hc2
          have hgy : g.getD (k + 1) 0 = y := by rw [List.getD_eq_getElem?_getD, hgy0]; rfl
          replace hgy0 := hide hgy0; replace hgy := hide hgy
          have hkey := keyOf_pair hxi hyi
          have hat0 := hD.at_ _ _ hxi hyi
          by_cases hks1 : k < sn
          · obtain ⟨b3, off3, z, rfl, hSb3, hsz0, hzi, hc3⟩ := lst_int hs hks1
            have hc3w := ((unhide hold) b3 (off3 + k) (hS _ hSb3)).trans hc3
            have hsz : sp.getD k 0 = z := by rw [List.getD_eq_getElem?_getD, hsz0]; rfl
            replace hsz0 := hide hsz0; replace hsz := hide hsz
            go_wp2_with fail
            refine (kdots_any pen wr hpi).mono ?_
            rintro e wq ⟨rfl, rfl⟩
            go_wp2_with (first | (at_lookup; refine wpList_lookup_own_int _ rfl _ _ 54 rfl 57 3 .i64 law57 Try.underlying54 Try.underlying3 (zero3 _) B ks.length _ rfl hmap1 _ _ rfl hkey ?_; intro c hat hwc; rw [hat0] at hat; have hc := lit_i64 hat; rw [hc]) | go_in)
            go_roundw
            case rel =>
              refine ⟨k + 1, by omega, by go_num, ?_, unhide hrow1, hmap1, unhide hbw1⟩
              rw [unhide hnext, unhide hgk, unhide hadv, if_pos (by omega : k + 1 < g.length), unhide hgy, if_pos (by omega : k < sp.length), unhide hsz]
              rw [pen_zero pen size hpi]
            case measure => simp [intOf]; omega
          go_wp2_with fail
          refine (kdots_any pen wr hpi).mono ?_
          rintro e wq ⟨rfl, rfl⟩
          go_wp2_with (first | (at_lookup; refine wpList_lookup_own_int _ rfl _ _ 54 rfl 57 3 .i64 law57 Try.underlying54 Try.underlying3 (zero3 _) B ks.length _ rfl hmap1 _ _ rfl hkey ?_; intro c hat hwc; rw [hat0] at hat; have hc := lit_i64 hat; rw [hc]) | go_in)
          go_roundw
          case rel =>
            refine ⟨k + 1, by omega, by go_num, ?_, unhide hrow1, hmap1, unhide hbw1⟩
            rw [unhide hnext, unhide hgk, unhide hadv, if_pos (by omega : k + 1 < g.length), unhide hgy, if_neg (by omega : ¬ k < sp.length)]
            rw [pen_zero pen size hpi]
          case measure => simp [intOf]; omega
        by_cases hks1 : k < sn
        · obtain ⟨b3, off3, z, rfl, hSb3, hsz0, hzi, hc3⟩ := lst_int hs hks1
          have hc3w := ((unhide hold) b3 (off3 + k) (hS _ hSb3)).trans hc3
          have hsz : sp.getD k 0 = z := by rw [List.getD_eq_getElem?_getD, hsz0]; rfl
          replace hsz0 := hide hsz0; replace hsz := hide hsz
          go_wp2_with fail
          refine (kdots_any pen wr hpi).mono ?_
          rintro e wq ⟨rfl, rfl⟩
          go_wp2_with fail
          go_roundw
          case rel =>
            refine ⟨k + 1, by omega, by go_num, ?_, unhide hrow1, hmap1, unhide hbw1⟩
            rw [unhide hnext, unhide hgk, unhide hadv, if_neg (by omega : ¬ k + 1 < g.length), if_pos (by omega : k < sp.length), unhide hsz]
            rw [pen_zero pen size hpi]
          case measure => simp [intOf]; omega
        go_wp2_with fail
        refine (kdots_any pen wr hpi).mono ?_
        rintro e wq ⟨rfl, rfl⟩
        go_wp2_with fail
        go_roundw
        case rel =>
          refine ⟨k + 1, by omega, by go_num, ?_, unhide hrow1, hmap1, unhide hbw1⟩
          rw [unhide hnext, unhide hgk, unhide hadv, if_neg (by omega : ¬ k + 1 < g.length), if_neg (by omega : ¬ k < sp.length)]
          rw [pen_zero pen size hpi]
        case measure => simp [intOf]; omega
      obtain ⟨q, rfl⟩ := Int.eq_ofNat_of_zero_le (by omega : 0 ≤ x)
      have hq : q < av.length := by omega
      obtain ⟨a, haq⟩ : ∃ a, av[q]? = some a := ⟨_, List.getElem?_eq_getElem hq⟩
      have hadv : advS av (q : Int) = a := by
        unfold advS
        rw [if_neg (by omega), Int.toNat_natCast, List.getD_eq_getElem?_getD, haq]
        rfl
      have hca := ((unhide hold) b (q * 7 + 1) (hS _ hb)).trans (hx q a haq).1
      replace haq := hide haq
      replace hadv := hide hadv
      by_cases hk1 : k + 1 < gn
      · obtain ⟨b2, off2, y, hbe, hSb2, hgy0, hyi, hc2⟩ := lst_int hg hk1
        cases hbe
        have hc2w := ((unhide hold) b1 (off1 + (k + 1)) (hS _ hSb)).trans hc2
        have hgy : g.getD (k + 1) 0 = y := by rw [List.getD_eq_getElem?_getD, hgy0]; rfl
        replace hgy0 := hide hgy0; replace hgy := hide hgy
        have hkey := keyOf_pair hxi hyi
        have hat0 := hD.at_ _ _ hxi hyi
        by_cases hks1 : k < sn
        · obtain ⟨b3, off3, z, rfl, hSb3, hsz0, hzi, hc3⟩ := lst_int hs hks1
          have hc3w := ((unhide hold) b3 (off3 + k) (hS _ hSb3)).trans hc3
          have hsz : sp.getD k 0 = z := by rw [List.getD_eq_getElem?_getD, hsz0]; rfl
          replace hsz0 := hide hsz0; replace hsz := hide hsz
          go_wp2_with fail
          refine (kdots_any pen wr hpi).mono ?_
          rintro e wq ⟨rfl, rfl⟩
          go_wp2_with (first | (at_lookup; refine wpList_lookup_own_int _ rfl _ _ 54 rfl 57 3 .i64 law57 Try.underlying54 Try.underlying3 (zero3 _) B ks.length _ rfl hmap1 _ _ rfl hkey ?_; intro c hat hwc; rw [hat0] at hat; have hc := lit_i64 hat; rw [hc]) | go_in)
          go_roundw
          case rel =>
            refine ⟨k + 1, by omega, by go_num, ?_, unhide hrow1, hmap1, unhide hbw1⟩
            rw [unhide hnext, unhide hgk, unhide hadv, if_pos (by omega : k + 1 < g.length), unhide hgy, if_pos (by omega : k < sp.length), unhide hsz]
          case measure => simp [intOf]; omega
        go_wp2_with fail
        refine (kdots_any pen wr hpi).mono ?_
        rintro e wq ⟨rfl, rfl⟩
        go_wp2_with (first | (at_lookup; refine wpList_lookup_own_int _ rfl _ _ 54 rfl 57 3 .i64 law57 Try.underlying54 Try.underlying3 (zero3 _) B ks.length _ rfl hmap1 _ _ rfl hkey ?_; intro c hat hwc; rw [hat0] at hat; have hc := lit_i64 hat; rw [hc]) | go_in)
        go_roundw
        case rel =>
          refine ⟨k + 1, by omega, by go_num, ?_, unhide hrow1, hmap1, unhide hbw1⟩
          rw [unhide hnext, unhide hgk, unhide hadv, if_pos (by omega : k + 1 < g.length), unhide hgy, if_neg (by omega : ¬ k < sp.length)]
        case measure => simp [intOf]; omega
      by_cases hks1 : k < sn
      · obtain ⟨b3, off3, z, rfl, hSb3, hsz0, hzi, hc3⟩ := lst_int hs hks1
        have hc3w := ((unhide hold) b3 (off3 + k) (hS _ hSb3)).trans hc3
        have hsz : sp.getD k 0 = z := by rw [List.getD_eq_getElem?_getD, hsz0]; rfl
        replace hsz0 := hide hsz0; replace hsz := hide hsz
        go_wp2_with fail
        refine (kdots_any pen wr hpi).mono ?_
        rintro e wq ⟨rfl, rfl⟩
        go_wp2_with fail
        go_roundw
        case rel =>
          refine ⟨k + 1, by omega, by go_num, ?_, unhide hrow1, hmap1, unhide hbw1⟩
          rw [unhide hnext, unhide hgk, unhide hadv, if_neg (by omega : ¬ k + 1 < g.length), if_pos (by omega : k < sp.length), unhide hsz]
        case measure => simp [intOf]; omega
      go_wp2_with fail
      refine (kdots_any pen wr hpi).mono ?_
      rintro e wq ⟨rfl, rfl⟩
      go_wp2_with fail
      go_roundw
      case rel =>
        refine ⟨k + 1, by omega, by go_num, ?_, unhide hrow1, hmap1, unhide hbw1⟩
        rw [unhide hnext, unhide hgk, unhide hadv, if_neg (by omega : ¬ k + 1 < g.length), if_neg (by omega : ¬ k < sp.length)]
      case measure => simp [intOf]; omega
    · have : k = gn := by omega
      subst this
      go_wp2_with fail
      refine (kdots_any _ wr (penS_i64 _ _ _ _ _ _)).mono ?_
      rintro e wq ⟨rfl, rfl⟩
      go_wp2_with fail
      exact bodyPost_ret (v := .tuple #[.slice (some ⟨M, 0, none⟩) k k, .int .i64 (roundI (penS av ks g sp size k) 64)]) (by simp [results, Try.results13, go_sem]) rfl ⟨M, rfl, own_base hrow hb0.size, hb0.trans (hbw.mono hb0.size)⟩
end Go.Proofs.Ytbbbldaccpfooaa
