/- Deltas; the closure of Instance. -/
import Derived.Test.YtbodidhggdggmaaOlQ
import Derived.Test.YtbodidhggdggmaaOlB
namespace Go.Proofs.Ytbodidhggdggmaa
open Go.RowKit
abbrev Mv := Int × Int
abbrev Enc.mv : Enc Mv := Enc.pair Enc.int Enc.int
abbrev Dl := List Tent × List Mv
abbrev Enc.dl : Enc Dl := Enc.pair (Enc.list Enc.tent) (Enc.list Enc.mv)
theorem lst_dl {w : World} {S : Nat → Prop} {a : Option Addr} {len : Nat} {l : List Dl} (h : Lst Enc.dl w S a len l) {k : Nat} (hk : k < len) :
    ∃ b off d ta tn tc ma mn mc, a = some ⟨b, off, none⟩ ∧ S b ∧ l[k]? = some d ∧ tn ≤ tc ∧ tc ≤ maxLen ∧ mn ≤ mc ∧ mc ≤ maxLen ∧ Lst Enc.tent w S ta tn d.1 ∧ Lst Enc.mv w S ma mn d.2 ∧ w.cell? ⟨b, off + k * 2, none⟩ = some (.slice ta tn tc) ∧ w.cell? ⟨b, off + k * 2 + 1, none⟩ = some (.slice ma mn mc) := by
  obtain ⟨h1, h2⟩ := h
  obtain ⟨b, off, rfl, hb, hc⟩ := h2 (by omega)
  have hx : l[k]? = some (l[k]'(by omega)) := List.getElem?_eq_getElem _
  obtain ⟨us, ⟨u1, v1, rfl, ⟨ta, tn, tc, rfl, t1, t2, t3⟩, ma, mn, mc, rfl, m1, m2, m3⟩, hu⟩ := hc k _ hx
  exact ⟨b, off, _, ta, tn, tc, ma, mn, mc, rfl, hb, hx, t1, t2, m1, m2, t3, m3, hu 0 _ rfl, hu 1 _ rfl⟩
theorem lst_mv {w : World} {S : Nat → Prop} {a : Option Addr} {len : Nat} {l : List Mv} (h : Lst Enc.mv w S a len l) {k : Nat} (hk : k < len) :
    ∃ b off x y, a = some ⟨b, off, none⟩ ∧ S b ∧ l[k]? = some (x, y) ∧ I64 x ∧ I64 y ∧ w.cell? ⟨b, off + k * 2, none⟩ = some (.int .i64 x) ∧ w.cell? ⟨b, off + k * 2 + 1, none⟩ = some (.int .i64 y) := by
  obtain ⟨h1, h2⟩ := h
  obtain ⟨b, off, rfl, hb, hc⟩ := h2 (by omega)
  have hx : l[k]? = some (l[k]'(by omega)) := List.getElem?_eq_getElem _
  obtain ⟨us, ⟨u1, v1, rfl, ⟨rfl, i1⟩, rfl, i2⟩, hu⟩ := hc k _ hx
  exact ⟨b, off, _, _, rfl, hb, hx, i1, i2, hu 0 _ rfl, hu 1 _ rfl⟩
def mvAt (d : Dl) (n : Nat) : Mv := d.2[n]?.getD (0, 0)
theorem mvAt_some {d : Dl} {n : Nat} {m : Mv} (h : d.2[n]? = some m) : mvAt d n = m := by unfold mvAt; rw [h]; rfl
def accStep (u : List Int) (n : Nat) (s : Int × Int) (d : Dl) : Int × Int := (wrap64 (s.1 + wrap64 (weightS d.1 u * (mvAt d n).1)), wrap64 (s.2 + wrap64 (weightS d.1 u * (mvAt d n).2)))
def accS (l : List Dl) (u : List Int) (n : Nat) : Int × Int := l.foldl (accStep u n) (0, 0)
def instP (l : List Dl) (u : List Int) (n : Nat) (p : Pt) : Pt := (wrap64 (p.1 + roundI (accS l u n).1 4096), wrap64 (p.2.1 + roundI (accS l u n).2 4096), p.2.2)
def fitD (o : Ot) (u : List Int) (d : Dl) : Bool := fitsS d.1 u.length && decide ((d.2.length : Int) = countS o)
def instS (o : Ot) (l : List Dl) (u : List Int) : Ot × Int := if 8 < l.length then ([], 2) else if l.all (fitD o u) then (imgO (instP l u) 0 o, 0) else ([], 12)
theorem acc_next {l : List Dl} {k : Nat} {d : Dl} (u : List Int) (n : Nat) (h : l[k]? = some d) : accS (l.take (k + 1)) u n = accStep u n (accS (l.take k) u n) d := by
  unfold accS
  rw [List.take_add_one, h, List.foldl_append]
  rfl
theorem acc_i64 (l : List Dl) (u : List Int) (n : Nat) : I64 (accS l u n).1 ∧ I64 (accS l u n).2 := by
  unfold accS
  have key : ∀ (l : List Dl) (s : Int × Int), I64 s.1 ∧ I64 s.2 → I64 (l.foldl (accStep u n) s).1 ∧ I64 (l.foldl (accStep u n) s).2 := by
    intro l
    induction l with
    | nil => intro s h; exact h
    | cons d l ih => intro s _; exact ih _ ⟨wrap_i64 _, wrap_i64 _⟩
  exact key l (0, 0) ⟨⟨by decide, by decide⟩, ⟨by decide, by decide⟩⟩
set_option maxHeartbeats 4000000 in
set_option maxRecDepth 100000 in
theorem inst1_any (n : Nat) (px py : Int) (pz : Bool) (cl cw : Nat) (la : Option Addr) (m lc : Nat) (wa : Option Addr) (wc : Nat) (l : List Dl) (u : List Int) (w : World) (hcl : w.cell? ⟨cl, 0, none⟩ = some (.slice la m lc)) (hcw : w.cell? ⟨cw, 0, none⟩ = some (.slice wa m wc))
    (hl : Lst Enc.dl w (· < w.heap.size) la m l) (hw : Lst Enc.int w (· < w.heap.size) wa m (l.map fun d => weightS d.1 u)) (hm : m ≤ 8) (hn : ∀ d ∈ l, n < d.2.length) :
    Calls Try.prog 47 #[.int .i64 (n : Int), .agg #[.int .i64 px, .int .i64 py, .bool pz], .pointer (some ⟨cl, 0, none⟩), .pointer (some ⟨cw, 0, none⟩)] w fun e w' => e = .returned (.agg #[.int .i64 (instP l u n (px, py, pz)).1, .int .i64 (instP l u n (px, py, pz)).2.1, .bool pz]) ∧ Below w.heap.size w w' := by
  have hlm : l.length = m := hl.1
  obtain ⟨b4, b5, V, e4, e5, eV, st⟩ := St.new2 w (Obj.cells #[.int .i64 px, .int .i64 py, .bool pz] 56) (Obj.cells #[.int .i64 0, .int .i64 0, .bool false] 56)
  have hb0 := st.below
  have hclV := cell_under hcl hb0
  have hai := acc_i64 l u n
  have hr1 := fun w => eround_pos (accS l u n).1 4096 w hai.1 (by omega) (by omega)
  have hr2 := fun w => eround_pos (accS l u n).2 4096 w hai.2 (by omega) (by omega)
  show Calls _ _ _ w fun e w' => e = .returned (.agg #[.int .i64 (wrap64 (px + roundI (accS l u n).1 4096)), .int .i64 (wrap64 (py + roundI (accS l u n).2 4096)), .bool pz]) ∧ Below w.heap.size w w'
  replace hl := hide hl; replace hw := hide hw; replace hn := hide hn; replace hlm := hide hlm; replace st := hide st; replace hb0 := hide hb0; replace hcl := hide hcl; replace hcw := hide hcw; replace e5 := hide e5; replace hai := hide hai; replace hr1 := hide hr1; replace hr2 := hide hr2
  go_enter Try.func47, Try.ntmps47
  go_wp2_with fail
  clear eV hclV
  have e45 := hide (show b4 + 1 = b5 by have := unhide e5; omega)
  clear e4
  go_loopw [7, 8, 17] (fun v7 v8 v17 wr => ∃ k : Nat, k ≤ m ∧ v17 = .int .i64 (k : Int) ∧ v7 = .int .i64 (accS (l.take k) u n).1 ∧ v8 = .int .i64 (accS (l.take k) u n).2 ∧ Below V.heap.size V wr) (fun _ _ v _ => (m - intOf v).toNat)
  case atStart => exact ⟨0, by omega, rfl, rfl, rfl, Below.refl _ _⟩
  case round =>
    obtain ⟨k, hk, rfl, rfl, rfl, hbV⟩ := hrel
    obtain ⟨wo, rfl⟩ : ∃ wo : World, wo = wr := ⟨_, rfl⟩
    have hbw := (unhide hb0).trans (hbV.mono (unhide hb0).size)
    by_cases hlt : k < m
    · obtain ⟨bl, ol, ⟨ts, ms⟩, ta, tn, tc, ma, mn, mc, rfl, _, hd, _, _, _, _, _, hms, g0, g1⟩ := lst_dl ((unhide hl).under hbw) hlt
      have hnm : n < ms.length := unhide hn _ (List.mem_of_getElem? hd)
      obtain ⟨bm, om, mx, my, rfl, _, hmm, _, _, y0, y1⟩ := lst_mv hms (show n < mn by have := hms.1; simp only at this; omega)
      obtain ⟨bw, ow, q, rfl, _, hq, _, z0⟩ := lst_int ((unhide hw).under hbw) hlt
      have hmn : n < mn := by have := hms.1; simp only at this; omega
      have hqe : q = weightS ts u := by rw [List.getElem?_map, hd] at hq; injection hq with hq; exact hq.symm
      obtain ⟨⟨sx, sy⟩, hsx⟩ : ∃ s, accS (l.take k) u n = s := ⟨_, rfl⟩
      have hnx := acc_next u n hd
      rw [hsx] at hnx
      unfold accStep at hnx
      rw [mvAt_some hmm, ← hqe] at hnx
      rw [hsx]
      simp only at hnx ⊢
      obtain ⟨bd, hbd⟩ : ∃ b, wo.heap.size = b := ⟨_, rfl⟩
      obtain ⟨V3, hV3⟩ : ∃ V, wo.alloc (.cells #[.slice ta tn tc, .slice (some ⟨bm, om, none⟩) mn mc] 48) = V := ⟨_, rfl⟩
      have n3 := heap_alloc_new wo (.cells #[.slice ta tn tc, .slice (some ⟨bm, om, none⟩) mn mc] 48)
      have k3 := (Below.refl wo.heap.size wo).alloc (Nat.le_refl _) (.cells #[.slice ta tn tc, .slice (some ⟨bm, om, none⟩) mn mc] 48)
      rw [hV3] at n3 k3
      rw [hbd] at n3
      have d1 : V3.cell? ⟨bd, 1, none⟩ = some (.slice (some ⟨bm, om, none⟩) mn mc) := (cell_of_row _ _ 1 _ _ _ n3).trans rfl
      have cwV := cell_under (cell_under (unhide hcw) hbw) k3
      have z0V := cell_under z0 k3
      have y0V := cell_under y0 k3
      have y1V := cell_under y1 k3
      have hbz := hbV.trans (k3.mono hbV.size)
      have t1 : (k : Int) < (m : Int) := by omega
      have t2 : ¬ (m : Int) ≤ (k : Int) := by omega
      clear n3 k3 hbV hbw hd hmm hq hms hqe hsx
      replace hnx := hide hnx; replace hbz := hide hbz
      go_wp2_with fail
      clear z0 y0 y1 g0 g1 hV3 hbd
      go_quiet (fail)
      go_wp2_with fail
      go_quiet (fail)
      go_wp2_with fail
      go_roundw
      case rel => exact ⟨k + 1, by omega, by go_num, by rw [unhide hnx], by rw [unhide hnx], by first | exact unhide hbz | exact blw_drewN (unhide hbz) _ | exact blw_drewN (blw_drewN (unhide hbz) _) _⟩
      case measure => simp [intOf]; omega
    · have hke : k = m := by omega
      subst hke
      rw [List.take_of_length_le (by rw [unhide hlm]; exact Nat.le_refl _)]
      obtain ⟨⟨sx, sy⟩, hsx⟩ : ∃ s, accS l u n = s := ⟨_, rfl⟩
      rw [hsx] at hr1 hr2 ⊢
      obtain ⟨dx, hdx⟩ : ∃ x, roundI sx 4096 = x := ⟨_, rfl⟩
      obtain ⟨dy, hdy⟩ : ∃ x, roundI sy 4096 = x := ⟨_, rfl⟩
      simp only at hr1 hr2
      rw [hdx] at hr1
      rw [hdy] at hr2
      obtain ⟨X, hX⟩ : ∃ X, wrap64 (px + dx) = X := ⟨_, rfl⟩
      obtain ⟨Y, hY⟩ : ∃ Y, wrap64 (py + dy) = Y := ⟨_, rfl⟩
      have st0 := (unhide st).call hbV
      have st1 := st0.set 1 rfl 0 (.int .i64 X)
      have st2 := st1.set 1 rfl 1 (.int .i64 Y)
      have st3 := ((st2.set 0 rfl 0 (.int .i64 X)).set 0 rfl 1 (.int .i64 Y)).set 0 rfl 2 (.bool pz)
      have r4 := three_at (st0.get 1 rfl)
      have r41 := three_at (st1.get 1 rfl)
      have r42 := three_at (st2.get 1 rfl)
      have r5 := three_at (st2.get 0 rfl)
      have r53 := three_at (st3.get 0 rfl)
      have hbz := st3.below
      replace e45 := unhide e45
      replace hsx := hide hsx
      clear st st0 st1 st2 st3 hl hw hbw hcl hcw hai
      obtain ⟨V3, hV3⟩ : ∃ V3, wo.setCell ⟨b4, 0, none⟩ (.int .i64 X) = V3 := ⟨_, rfl⟩
      rw [hV3] at r41 r42 r5 r53 hbz
      obtain ⟨V4, hV4⟩ : ∃ V4, V3.setCell ⟨b4, 1, none⟩ (.int .i64 Y) = V4 := ⟨_, rfl⟩
      rw [hV4] at r42 r5 r53 hbz
      obtain ⟨V5, hV5⟩ : ∃ V5, ((V4.setCell ⟨b5, 0, none⟩ (.int .i64 X)).setCell ⟨b5, 1, none⟩ (.int .i64 Y)).setCell ⟨b5, 2, none⟩ (.bool pz) = V5 := ⟨_, rfl⟩
      rw [hV5] at r53 hbz
      obtain ⟨⟨a0, a1, a2⟩, a3, a4, a5⟩ := r4
      obtain ⟨⟨b0, b1, b2⟩, b3, b6, b7⟩ := r41
      obtain ⟨⟨d0, d1, d2⟩, d3, d4, d5⟩ := r42
      obtain ⟨⟨f0, f1, f2⟩, f3, f4, f5⟩ := r5
      obtain ⟨⟨g0, g1, g2⟩, _⟩ := r53
      replace hbz := hide hbz; replace hdx := hide hdx; replace hdy := hide hdy
      go_wp2_with fail
      refine (unhide hr1 _).mono ?_
      rintro e w4 ⟨rfl, rfl⟩
      clear hr1
      go_wp2_with fail
      refine (unhide hr2 _).mono ?_
      rintro e w4 ⟨rfl, rfl⟩
      clear hr2
      go_wp2_with fail
      refine bodyPost_ret (v := .agg #[.int .i64 X, .int .i64 Y, .bool pz]) (by simp [results, Try.results47, go_sem, g0, g1, g2]) rfl ⟨by rw [unhide hsx]; simp only; rw [unhide hdx, unhide hdy, hX, hY], unhide hbz⟩
end Go.Proofs.Ytbodidhggdggmaa
