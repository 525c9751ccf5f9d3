/- OutlineShifts, walked. -/
import Derived.Test.YtbodidhggdggmaaOlX
import Derived.Test.YtbodidhggdggmaaOlZ
import Derived.Test.YtbodidhggdggmaaOq2
import Derived.Test.YtbodidhggdggmaaOq3
namespace Go.Proofs.Ytbodidhggdggmaa
open Go.RowKit
/-- what a function hands back reads as an outline -/
def SoQ (F : Nat) (args : Array Value) (w : World) (N : Nat) (X : Ot) : Prop := Calls Try.prog F args w fun e w' => ∃ a c, e = .returned (.slice a N c) ∧ Lst Enc.ct w' (· < w'.heap.size) a N X ∧ Below w.heap.size w w'
theorem SoQ.of {F : Nat} {args : Array Value} {w : World} {X : Ot} {N : Nat} (hN : X.length = N) (h : Calls Try.prog F args w fun e w' => ∃ v, e = .returned v ∧ OO w' w.heap.size v X ∧ Below w.heap.size w w') : SoQ F args w N X := by
  refine h.mono ?_
  rintro e w' ⟨v, rfl, hoo, hb⟩
  obtain ⟨a, c, rfl, _, _, hl⟩ := hoo.lst
  rw [hN] at hl ⊢
  exact ⟨a, c, rfl, hl.wide (fun b hb => hb.2), hb⟩
theorem sml_map {o : Ot} {f : Pt → Pt} (h : Sml o) : Sml (o.map (List.map f)) := ⟨by rw [List.length_map]; exact h.1, fun c hc => by obtain ⟨d, hd, rfl⟩ := List.mem_map.1 hc; rw [List.length_map]; exact h.2 d hd⟩
theorem le250_map {o : Ot} {f : Pt → Pt} (h : ∀ c ∈ o, c.length ≤ 250) : ∀ c ∈ o.map (List.map f), c.length ≤ 250 := fun c hc => by obtain ⟨d, hd, rfl⟩ := List.mem_map.1 hc; rw [List.length_map]; exact h d hd
theorem flat_map_len (o : Ot) (f : Pt → Pt) : (o.map (List.map f)).flatten.length = o.flatten.length := by
  induction o with
  | nil => rfl
  | cons c o ih => rw [List.map_cons, List.flatten_cons, List.flatten_cons, List.length_append, List.length_append, ih, List.length_map]
theorem inst_good {o : Ot} {l : List Dl} {u : List Int} {cnt : Nat} (hc : o.flatten.length = cnt) (h3 : l.length ≤ 3) (hg : ∀ d ∈ l, GoodD cnt u.length d) : instS o l u = (imgO (instP l u) 0 o, 0) := by
  refine inst_ok (by omega) ?_
  rw [List.all_eq_true]
  intro d hd
  obtain ⟨q1, q2, q3, q4⟩ := hg d hd
  unfold fitD fitsS countS
  rw [tentL_valid q2, q1, q3, hc]
  simp
theorem good_small {l : List Dl} {cnt axes : Nat} (hc : cnt ≤ 1000) (ha : axes ≤ 100) (hg : ∀ d ∈ l, GoodD cnt axes d) : ∀ d ∈ l, d.1.length ≤ 1000 ∧ d.2.length ≤ 1000000 := fun d hd => by
  obtain ⟨q1, q2, q3, q4⟩ := hg d hd
  omega
set_option maxHeartbeats 16000000 in
set_option maxRecDepth 100000 in
theorem outlineShifts_any (ra : Option Addr) (rn rc : Nat) (raw : Ot) (cs : Array Value) (cy : List (List Int) × (List (List Int) × List Int)) (mv : Array Value) (y : Int × Int) (m : Int) (w : World)
    (hraw : Lst Enc.ct w (fun b => b < w.heap.size) ra rn raw) (hr1 : rn ≤ rc) (hr2 : rc ≤ maxLen) (hcs : (Enc.pair (Enc.list (Enc.list Enc.int)) (Enc.pair (Enc.list (Enc.list Enc.int)) (Enc.list Enc.int))).rep w (fun b => b < w.heap.size) cs.toList cy) (hmv : (Enc.pair Enc.int Enc.int).rep w (fun b => b < w.heap.size) mv.toList y) (_ : -9223372036854775808 ≤ m ∧ m ≤ 9223372036854775807) :
    Calls Try.prog 8 #[.slice ra rn rc, .agg cs, .agg mv, .int .i64 m] w fun e w' => e = .returned (.bool true) ∧ Below w.heap.size w w' := by
  obtain ⟨vx, vy⟩ := y
  obtain ⟨u1, v1, hmvl, ⟨rfl, ix⟩, rfl, iy⟩ := hmv
  obtain ⟨mv⟩ := mv
  simp only at hmvl ix iy
  subst hmvl
  obtain ⟨L, D, A⟩ := cy
  obtain ⟨x1, x2, hcl, ⟨la, ln, lc, rfl, hl1, hl2, hL⟩, x3, x4, rfl, ⟨ea, en, ec, rfl, he1, he2, hD⟩, ta, tn, tc, rfl, ht1, ht2, hA⟩ := hcs
  obtain ⟨cs⟩ := cs
  simp only at hcl hL hD hA
  subst hcl
  have hlm : ln ≤ maxLen := by omega
  have hem : en ≤ maxLen := by omega
  have htm : tn ≤ maxLen := by omega
  have hrm : rn ≤ maxLen := by omega
  obtain ⟨b5, V0, hb5, hV0, n5, k5', s5⟩ := al1 w (.cells #[.slice la ln lc, .slice ea en ec, .slice ta tn tc] 40)
  obtain ⟨b6, V1, hb6, hV1, n6, k6', s6⟩ := al1 V0 (.cells #[.int .i64 vx, .int .i64 vy] 65)
  have kk1 := k5'.trans (k6'.mono k5'.size)
  have n51 := (k6'.block b5 (by omega)).trans n5
  have hsan := sanity6_any V1
  clear s5 s6 n5 k5' k6' ix iy
  replace hraw := hide hraw; replace hL := hide hL; replace hD := hide hD; replace hA := hide hA; replace n51 := hide n51; replace n6 := hide n6; replace kk1 := hide kk1; replace hsan := hide hsan
  go_enter Try.func8, Try.ntmps8
  go_wp2_with fail
  refine (unhide hsan).mono ?_
  rintro e w2 ⟨rfl, hb2⟩
  clear hsan hV0 hV1 hb5 hb6
  have kk2 := (unhide kk1).trans (hb2.mono (unhide kk1).size)
  have n52 := (hb2.block b5 (Array.getElem?_eq_some_iff.1 (unhide n51)).1).trans (unhide n51)
  have n62 := (hb2.block b6 (Array.getElem?_eq_some_iff.1 (unhide n6)).1).trans (unhide n6)
  have q0 : w2.cell? ⟨b5, 0, none⟩ = some (.slice la ln lc) := (cell_of_row _ _ 0 _ _ _ n52).trans rfl
  have q1 : w2.cell? ⟨b5, 1, none⟩ = some (.slice ea en ec) := (cell_of_row _ _ 1 _ _ _ n52).trans rfl
  have q2 : w2.cell? ⟨b5, 2, none⟩ = some (.slice ta tn tc) := (cell_of_row _ _ 2 _ _ _ n52).trans rfl
  have hcm := cmade6_any la ln lc L ea en ec D ta tn tc A w2 ((unhide hL).under kk2) hlm ((unhide hD).under kk2) hem ((unhide hA).under kk2) htm
  clear hb2 n51 n6 kk1 n52
  replace kk2 := hide kk2; replace n62 := hide n62; replace hcm := hide hcm
  go_wp2_with fail
  refine (unhide hcm).mono ?_
  rintro e w3 ⟨oa, on, oc, o, da, dn, dc, dl, pa, pn, pc, u, rfl, hol, hgo, hdl, hdn, hgd, hul, hpn, _, _, _, _, _, hb3⟩
  have kk3 := (unhide kk2).trans (hb3.mono (unhide kk2).size)
  have n63 := (hb3.block b6 (Array.getElem?_eq_some_iff.1 (unhide n62)).1).trans (unhide n62)
  have hfew := few6_any ra rn rc raw w3 ((unhide hraw).under kk3) hrm
  clear hcm hb3 n62 kk2 q0 q1 q2
  replace kk3 := hide kk3; replace n63 := hide n63; replace hfew := hide hfew; replace hol := hide hol; replace hgo := hide hgo; replace hdl := hide hdl; replace hgd := hide hgd; replace hul := hide hul
  go_wp2_with fail
  refine (unhide hfew).mono ?_
  rintro e w4 ⟨fa, fc, rfl, _, _, hfl, hb4⟩
  obtain ⟨fn, hfn⟩ : ∃ fn, (fewO raw).length = fn := ⟨_, rfl⟩
  rw [hfn] at hfl ⊢
  obtain ⟨b13, V5, hb13, hV5, n13, k13, s13⟩ := al1 w4 (.cells #[.slice fa fn fc, .slice oa on oc] 67)
  have k35 := hb4.trans (k13.mono hb4.size)
  have kk5 := (unhide kk3).trans (k35.mono (unhide kk3).size)
  have n65 := (k35.block b6 (Array.getElem?_eq_some_iff.1 (unhide n63)).1).trans (unhide n63)
  have hol5 := (unhide hol).under k35
  have hdl5 := (unhide hdl).under k35
  have hul5 := (unhide hul).under k35
  have hsel : ∀ k, k < 2 → ∃ a n c o, V5.cell? ⟨b13, k, none⟩ = some (.slice a n c) ∧ Lst Enc.ct V5 (· < V5.heap.size) a n o ∧ Sml o ∧ ∀ c ∈ o, c.length ≤ 250 := fun k hk => by
    have : k = 0 ∨ k = 1 := by omega
    rcases this with rfl | rfl
    · obtain ⟨q1, q2⟩ := few_sml raw
      exact ⟨fa, fn, fc, fewO raw, (cell_of_row _ _ 0 _ _ _ n13).trans rfl, hfl.under k13, q1, q2⟩
    · obtain ⟨q1, q2⟩ := (unhide hgo).sml
      exact ⟨oa, on, oc, o, (cell_of_row _ _ 1 _ _ _ n13).trans rfl, hol5, q1, q2⟩
  clear hfew hb4 hfl hfn n13 k13 s13 k35 kk3 n63 hol hdl hul
  replace kk5 := hide kk5; replace n65 := hide n65; replace hsel := hide hsel; replace hol5 := hide hol5; replace hdl5 := hide hdl5; replace hul5 := hide hul5
  go_wp2_with fail
  clear hb13 hV5
  go_loopw [14] (fun v wr => ∃ k : Nat, k ≤ 2 ∧ v = .int .i64 (k : Int) ∧ Below V5.heap.size V5 wr) (fun v _ => (2 - intOf v).toNat)
  case atStart => exact ⟨0, by omega, rfl, Below.refl _ _⟩
  case round =>
    obtain ⟨k, hk, rfl, hbw⟩ := hrel
    obtain ⟨V, rfl⟩ : ∃ V : World, V = wr := ⟨_, rfl⟩
    have n6V := (hbw.block b6 (Array.getElem?_eq_some_iff.1 (unhide n65)).1).trans (unhide n65)
    have d0 : V.cell? ⟨b6, 0, none⟩ = some (.int .i64 vx) := (cell_of_row _ _ 0 _ _ _ n6V).trans rfl
    have d1 : V.cell? ⟨b6, 1, none⟩ = some (.int .i64 vy) := (cell_of_row _ _ 1 _ _ _ n6V).trans rfl
    by_cases hlt : k < 2
    · obtain ⟨a1, n1, c1, o1, hc1, hl1', hs1, h250⟩ := unhide hsel k hlt
      have hcV := cell_under hc1 hbw
      have hlV := hl1'.under hbw
      have hon1 : o1.length = n1 := hlV.1
      have hn1 : n1 ≤ 1000 := by have := hs1.1; omega
      obtain ⟨X1, hX1⟩ : ∃ X, o1.map (List.map (shP vx vy)) = X := ⟨_, rfl⟩
      obtain ⟨X2, hX2⟩ : ∃ X, o1.map (List.map (scP m)) = X := ⟨_, rfl⟩
      obtain ⟨F1, hF1⟩ : ∃ X, flatS o1 = X := ⟨_, rfl⟩
      obtain ⟨XA, hXA⟩ : ∃ X, flatS X1 = X := ⟨_, rfl⟩
      obtain ⟨XB, hXB⟩ : ∃ X, flatS X2 = X := ⟨_, rfl⟩
      have eA : F1.map (List.map (shP (wrap64 (32 * vx)) (wrap64 (32 * vy)))) = XA := by rw [← hF1, ← flat_shift, hX1, hXA]
      have eB : F1.map (List.map (scP m)) = XB := by rw [← hF1, ← flat_scale, hX2, hXB]
      have hsF : Sml F1 := by rw [← hF1]; exact sml_flat hs1 h250
      have hs2 : Sml X1 := by rw [← hX1]; exact sml_map hs1
      have hs3 : Sml X2 := by rw [← hX2]; exact sml_map hs1
      have h2 : ∀ c ∈ X1, c.length ≤ 250 := by rw [← hX1]; exact le250_map h250
      have h3 : ∀ c ∈ X2, c.length ≤ 250 := by rw [← hX2]; exact le250_map h250
      have l1 : X1.length = n1 := by rw [← hX1, List.length_map, hon1]
      have l2 : X2.length = n1 := by rw [← hX2, List.length_map, hon1]
      have lF : F1.length = n1 := by rw [← hF1]; unfold flatS; rw [List.length_map, hon1]
      have lA : XA.length = n1 := by rw [← hXA]; unfold flatS; rw [List.length_map, l1]
      have lB : XB.length = n1 := by rw [← hXB]; unfold flatS; rw [List.length_map, l2]
      have k1 : ∀ wq, Below V.heap.size V wq → SoQ 30 #[.slice a1 n1 c1, .int .i64 vx, .int .i64 vy] wq n1 X1 := fun wq hb => SoQ.of l1 (by rw [← hX1]; exact shift_any a1 n1 c1 o1 vx vy wq (hlV.under hb) hs1)
      have k2 : ∀ a c wq, Lst Enc.ct wq (· < wq.heap.size) a n1 X1 → SoQ 25 #[.slice a n1 c] wq n1 XA := fun a c wq h => SoQ.of lA (by rw [← hXA]; exact flat_any a n1 c X1 wq h hs2 h2)
      have k3 : ∀ wq, Below V.heap.size V wq → SoQ 25 #[.slice a1 n1 c1] wq n1 F1 := fun wq hb => SoQ.of lF (by rw [← hF1]; exact flat_any a1 n1 c1 o1 wq (hlV.under hb) hs1 h250)
      have k4 : ∀ a c wq, Lst Enc.ct wq (· < wq.heap.size) a n1 F1 → SoQ 30 #[.slice a n1 c, .int .i64 (wrap64 (32 * vx)), .int .i64 (wrap64 (32 * vy))] wq n1 XA := fun a c wq h => SoQ.of lA (by rw [← eA]; exact shift_any a n1 c F1 _ _ wq h hsF)
      have k5 : ∀ wq, Below V.heap.size V wq → SoQ 28 #[.slice a1 n1 c1, .int .i64 m] wq n1 X2 := fun wq hb => SoQ.of l2 (by rw [← hX2]; exact scale_any a1 n1 c1 o1 m wq (hlV.under hb) hs1)
      have k6 : ∀ a c wq, Lst Enc.ct wq (· < wq.heap.size) a n1 X2 → SoQ 25 #[.slice a n1 c] wq n1 XB := fun a c wq h => SoQ.of lB (by rw [← hXB]; exact flat_any a n1 c X2 wq h hs3 h3)
      have k7 : ∀ a c wq, Lst Enc.ct wq (· < wq.heap.size) a n1 F1 → SoQ 28 #[.slice a n1 c, .int .i64 m] wq n1 XB := fun a c wq h => SoQ.of lB (by rw [← eB]; exact scale_any a n1 c F1 m wq h hsF)
      have t1 : (k : Int) < 2 := by omega
      clear hc1 hl1' hs1 h250 hlV n6V hon1 hX1 hX2 hF1 hXA hXB eA eB hsF hs2 hs3 h2 h3 l1 l2 lF lA lB
      replace hbw := hide hbw; replace k1 := hide k1; replace k2 := hide k2; replace k3 := hide k3; replace k4 := hide k4; replace k5 := hide k5; replace k6 := hide k6; replace k7 := hide k7
      go_wp2_with fail
      refine wp_region_frontG 30 (fun _ _ w' => Below V.heap.size V w') (fun wa wb => Below wa.heap.size wa wb)
        (fun ix v w' => match ix with
          | 0 => v = .slice a1 n1 c1
          | 1 => v = .pointer (some ⟨b6, 0, none⟩)
          | 2 => v = .int .i64 vx
          | 3 => v = .pointer (some ⟨b6, 1, none⟩)
          | 4 => v = .int .i64 vy
          | 5 => ∃ a c, v = .slice a n1 c ∧ Lst Enc.ct w' (· < w'.heap.size) a n1 X1
          | 6 => ∃ a c, v = .slice a n1 c ∧ Lst Enc.ct w' (· < w'.heap.size) a n1 XA
          | 7 => v = .slice a1 n1 c1
          | 8 => ∃ a c, v = .slice a n1 c ∧ Lst Enc.ct w' (· < w'.heap.size) a n1 F1
          | 9 => v = .pointer (some ⟨b6, 0, none⟩)
          | 10 => v = .int .i64 vx
          | 11 => v = .int .i64 (wrap64 (32 * vx))
          | 12 => v = .pointer (some ⟨b6, 1, none⟩)
          | 13 => v = .int .i64 vy
          | 14 => v = .int .i64 (wrap64 (32 * vy))
          | 15 => ∃ a c, v = .slice a n1 c ∧ Lst Enc.ct w' (· < w'.heap.size) a n1 XA
          | 16 => v = .bool true
          | 17 => v = .bool false
          | 18 => v = .bool false
          | 19 => v = .slice a1 n1 c1
          | 20 => v = .int .i64 m
          | 21 => ∃ a c, v = .slice a n1 c ∧ Lst Enc.ct w' (· < w'.heap.size) a n1 X2
          | 22 => ∃ a c, v = .slice a n1 c ∧ Lst Enc.ct w' (· < w'.heap.size) a n1 XB
          | 23 => v = .slice a1 n1 c1
          | 24 => ∃ a c, v = .slice a n1 c ∧ Lst Enc.ct w' (· < w'.heap.size) a n1 F1
          | 25 => v = .int .i64 m
          | 26 => ∃ a c, v = .slice a n1 c ∧ Lst Enc.ct w' (· < w'.heap.size) a n1 XB
          | 27 => v = .bool true
          | 28 => v = .bool false
          | 29 => v = .bool false
          | _ => True) (by rfl) (by kernel_rfl) ?_ ?_ ?_ ?_
      · exact (Below.refl _ _).drew
      · intro wa wb hR ix v hv
        match ix, hv with
        | 0, h => exact h
        | 1, h => exact h
        | 2, h => exact h
        | 3, h => exact h
        | 4, h => exact h
        | 5, h => obtain ⟨a, c, h1, h2⟩ := h; exact ⟨a, c, h1, h2.under hR⟩
        | 6, h => obtain ⟨a, c, h1, h2⟩ := h; exact ⟨a, c, h1, h2.under hR⟩
        | 7, h => exact h
        | 8, h => obtain ⟨a, c, h1, h2⟩ := h; exact ⟨a, c, h1, h2.under hR⟩
        | 9, h => exact h
        | 10, h => exact h
        | 11, h => exact h
        | 12, h => exact h
        | 13, h => exact h
        | 14, h => exact h
        | 15, h => obtain ⟨a, c, h1, h2⟩ := h; exact ⟨a, c, h1, h2.under hR⟩
        | 16, h => exact h
        | 17, h => exact h
        | 18, h => exact h
        | 19, h => exact h
        | 20, h => exact h
        | 21, h => obtain ⟨a, c, h1, h2⟩ := h; exact ⟨a, c, h1, h2.under hR⟩
        | 22, h => obtain ⟨a, c, h1, h2⟩ := h; exact ⟨a, c, h1, h2.under hR⟩
        | 23, h => exact h
        | 24, h => obtain ⟨a, c, h1, h2⟩ := h; exact ⟨a, c, h1, h2.under hR⟩
        | 25, h => exact h
        | 26, h => obtain ⟨a, c, h1, h2⟩ := h; exact ⟨a, c, h1, h2.under hR⟩
        | 27, h => exact h
        | 28, h => exact h
        | 29, h => exact h
        | _ + 30, _ => trivial
      --BEGIN1
      · intro ix hix
        obtain rfl | rfl | rfl | rfl | rfl | rfl | rfl | rfl | rfl | rfl | rfl | rfl | rfl | rfl | rfl | rfl | rfl | rfl | rfl | rfl | rfl | rfl | rfl | rfl | rfl | rfl | rfl | rfl | rfl | rfl : ix = 0 ∨ ix = 1 ∨ ix = 2 ∨ ix = 3 ∨ ix = 4 ∨ ix = 5 ∨ ix = 6 ∨ ix = 7 ∨ ix = 8 ∨ ix = 9 ∨ ix = 10 ∨ ix = 11 ∨ ix = 12 ∨ ix = 13 ∨ ix = 14 ∨ ix = 15 ∨ ix = 16 ∨ ix = 17 ∨ ix = 18 ∨ ix = 19 ∨ ix = 20 ∨ ix = 21 ∨ ix = 22 ∨ ix = 23 ∨ ix = 24 ∨ ix = 25 ∨ ix = 26 ∨ ix = 27 ∨ ix = 28 ∨ ix = 29 := by omega
        · refine FrontStep.of [] _ rfl (by kernel_rfl) ?_
          intro vs LL wq hLL hC hf
          simp only [putL, List.foldl_nil]
          go_wp2_with fail
          first | exact Below.refl _ _ | exact ⟨Below.refl _ _, by omega⟩
        · refine FrontStep.of [] _ rfl (by kernel_rfl) ?_
          intro vs LL wq hLL hC hf
          simp only [putL, List.foldl_nil]
          go_wp2_with fail
          first | exact Below.refl _ _ | exact ⟨Below.refl _ _, by omega⟩
        · refine FrontStep.of [1] _ rfl (by kernel_rfl) ?_
          intro vs LL wq hLL hC hf
          simp only [putL, List.foldl_nil, List.foldl_cons, List.getElem?_cons_zero, List.getElem?_cons_succ]
          have e1 : vs 1 = _ := hf 1 (by simp)
          rw [e1]
          have hcq := cell_under d0 hC
          go_wp2_with fail
          first | exact Below.refl _ _ | exact ⟨Below.refl _ _, by omega⟩
        · refine FrontStep.of [] _ rfl (by kernel_rfl) ?_
          intro vs LL wq hLL hC hf
          simp only [putL, List.foldl_nil]
          go_wp2_with fail
          first | exact Below.refl _ _ | exact ⟨Below.refl _ _, by omega⟩
        · refine FrontStep.of [3] _ rfl (by kernel_rfl) ?_
          intro vs LL wq hLL hC hf
          simp only [putL, List.foldl_nil, List.foldl_cons, List.getElem?_cons_zero, List.getElem?_cons_succ]
          have e3 : vs 3 = _ := hf 3 (by simp)
          rw [e3]
          have hcq := cell_under d1 hC
          go_wp2_with fail
          first | exact Below.refl _ _ | exact ⟨Below.refl _ _, by omega⟩
        · refine FrontStep.of [0, 2, 4] _ rfl (by kernel_rfl) ?_
          intro vs LL wq hLL hC hf
          simp only [putL, List.foldl_nil, List.foldl_cons, List.getElem?_cons_zero, List.getElem?_cons_succ]
          have e0 : vs 0 = _ := hf 0 (by simp)
          rw [e0]
          have e2 : vs 2 = _ := hf 2 (by simp)
          rw [e2]
          have e4 : vs 4 = _ := hf 4 (by simp)
          rw [e4]
          have hcq := unhide k1 wq hC
          replace hcq := hide hcq
          go_wp2_with fail
          refine (unhide hcq).mono ?_
          rintro e wz ⟨a0, c0, rfl, hla, hbz⟩
          clear hcq
          go_wp2_with fail
          first | exact hC.trans (hbz.mono hC.size) | exact ⟨hC.trans (hbz.mono hC.size), hbz, a0, c0, ⟨rfl, rfl, rfl⟩, hla⟩ | exact ⟨hC.trans (hbz.mono hC.size), hbz, a0, c0, rfl, hla⟩ | (trace_state; fail)
        · refine FrontStep.of [5] _ rfl (by kernel_rfl) ?_
          intro vs LL wq hLL hC hf
          simp only [putL, List.foldl_nil, List.foldl_cons, List.getElem?_cons_zero, List.getElem?_cons_succ]
          obtain ⟨a43, c43, e43, h43⟩ := hf 5 (by simp)
          rw [e43]
          have hcq := unhide k2 a43 c43 wq h43
          replace hcq := hide hcq
          go_wp2_with fail
          refine (unhide hcq).mono ?_
          rintro e wz ⟨a0, c0, rfl, hla, hbz⟩
          clear hcq
          go_wp2_with fail
          first | exact hC.trans (hbz.mono hC.size) | exact ⟨hC.trans (hbz.mono hC.size), hbz, a0, c0, ⟨rfl, rfl, rfl⟩, hla⟩ | exact ⟨hC.trans (hbz.mono hC.size), hbz, a0, c0, rfl, hla⟩ | (trace_state; fail)
        · refine FrontStep.of [] _ rfl (by kernel_rfl) ?_
          intro vs LL wq hLL hC hf
          simp only [putL, List.foldl_nil]
          go_wp2_with fail
          first | exact Below.refl _ _ | exact ⟨Below.refl _ _, by omega⟩
        · refine FrontStep.of [6, 7] _ rfl (by kernel_rfl) ?_
          intro vs LL wq hLL hC hf
          simp only [putL, List.foldl_nil, List.foldl_cons, List.getElem?_cons_zero, List.getElem?_cons_succ]
          obtain ⟨a44, c44, e44, h44⟩ := hf 6 (by simp)
          rw [e44]
          have e7 : vs 7 = _ := hf 7 (by simp)
          rw [e7]
          have hcq := unhide k3 wq hC
          replace hcq := hide hcq
          go_wp2_with fail
          refine (unhide hcq).mono ?_
          rintro e wz ⟨a0, c0, rfl, hla, hbz⟩
          clear hcq
          go_wp2_with fail
          first | exact hC.trans (hbz.mono hC.size) | exact ⟨hC.trans (hbz.mono hC.size), hbz, a0, c0, ⟨rfl, rfl, rfl⟩, hla⟩ | exact ⟨hC.trans (hbz.mono hC.size), hbz, a0, c0, rfl, hla⟩ | (trace_state; fail)
        · refine FrontStep.of [] _ rfl (by kernel_rfl) ?_
          intro vs LL wq hLL hC hf
          simp only [putL, List.foldl_nil]
          go_wp2_with fail
          first | exact Below.refl _ _ | exact ⟨Below.refl _ _, by omega⟩
        · refine FrontStep.of [9] _ rfl (by kernel_rfl) ?_
          intro vs LL wq hLL hC hf
          simp only [putL, List.foldl_nil, List.foldl_cons, List.getElem?_cons_zero, List.getElem?_cons_succ]
          have e9 : vs 9 = _ := hf 9 (by simp)
          rw [e9]
          have hcq := cell_under d0 hC
          go_wp2_with fail
          first | exact Below.refl _ _ | exact ⟨Below.refl _ _, by omega⟩
        · refine FrontStep.of [10] _ rfl (by kernel_rfl) ?_
          intro vs LL wq hLL hC hf
          simp only [putL, List.foldl_nil, List.foldl_cons, List.getElem?_cons_zero, List.getElem?_cons_succ]
          have e10 : vs 10 = _ := hf 10 (by simp)
          rw [e10]
          go_wp2_with fail
          first | exact Below.refl _ _ | exact ⟨Below.refl _ _, by omega⟩
        · refine FrontStep.of [] _ rfl (by kernel_rfl) ?_
          intro vs LL wq hLL hC hf
          simp only [putL, List.foldl_nil]
          go_wp2_with fail
          first | exact Below.refl _ _ | exact ⟨Below.refl _ _, by omega⟩
        · refine FrontStep.of [12] _ rfl (by kernel_rfl) ?_
          intro vs LL wq hLL hC hf
          simp only [putL, List.foldl_nil, List.foldl_cons, List.getElem?_cons_zero, List.getElem?_cons_succ]
          have e12 : vs 12 = _ := hf 12 (by simp)
          rw [e12]
          have hcq := cell_under d1 hC
          go_wp2_with fail
          first | exact Below.refl _ _ | exact ⟨Below.refl _ _, by omega⟩
        · refine FrontStep.of [13] _ rfl (by kernel_rfl) ?_
          intro vs LL wq hLL hC hf
          simp only [putL, List.foldl_nil, List.foldl_cons, List.getElem?_cons_zero, List.getElem?_cons_succ]
          have e13 : vs 13 = _ := hf 13 (by simp)
          rw [e13]
          go_wp2_with fail
          first | exact Below.refl _ _ | exact ⟨Below.refl _ _, by omega⟩
        · refine FrontStep.of [8, 11, 14] _ rfl (by kernel_rfl) ?_
          intro vs LL wq hLL hC hf
          simp only [putL, List.foldl_nil, List.foldl_cons, List.getElem?_cons_zero, List.getElem?_cons_succ]
          obtain ⟨a46, c46, e46, h46⟩ := hf 8 (by simp)
          rw [e46]
          have e11 : vs 11 = _ := hf 11 (by simp)
          rw [e11]
          have e14 : vs 14 = _ := hf 14 (by simp)
          rw [e14]
          have hcq := unhide k4 a46 c46 wq h46
          replace hcq := hide hcq
          go_wp2_with fail
          refine (unhide hcq).mono ?_
          rintro e wz ⟨a0, c0, rfl, hla, hbz⟩
          clear hcq
          go_wp2_with fail
          first | exact hC.trans (hbz.mono hC.size) | exact ⟨hC.trans (hbz.mono hC.size), hbz, a0, c0, ⟨rfl, rfl, rfl⟩, hla⟩ | exact ⟨hC.trans (hbz.mono hC.size), hbz, a0, c0, rfl, hla⟩ | (trace_state; fail)
        · refine FrontStep.of [6, 15] _ rfl (by kernel_rfl) ?_
          intro vs LL wq hLL hC hf
          simp only [putL, List.foldl_nil, List.foldl_cons, List.getElem?_cons_zero, List.getElem?_cons_succ]
          obtain ⟨a44, c44, e44, h44⟩ := hf 6 (by simp)
          rw [e44]
          obtain ⟨a53, c53, e53, h53⟩ := hf 15 (by simp)
          rw [e53]
          have hcq := rsame_any a44 n1 c44 XA a53 n1 c53 XA wq h44 h53 (by omega) (by omega)
          rw [decide_eq_true rfl] at hcq
          clear h44 h53
          replace hcq := hide hcq
          go_wp2_with fail
          refine (unhide hcq).mono ?_
          rintro e wz ⟨rfl, q, hq⟩
          have hbz : Below wq.heap.size wq wz := by rw [hq]; exact blw_drewN (Below.refl _ _) _
          clear hcq hq
          go_wp2_with fail
          first | exact hC.trans (hbz.mono hC.size) | exact ⟨hC.trans (hbz.mono hC.size), hbz⟩ | (trace_state; fail)
        · refine FrontStep.of [16] _ rfl (by kernel_rfl) ?_
          intro vs LL wq hLL hC hf
          simp only [putL, List.foldl_nil, List.foldl_cons, List.getElem?_cons_zero, List.getElem?_cons_succ]
          have e16 : vs 16 = _ := hf 16 (by simp)
          rw [e16]
          go_wp2_with fail
          first | exact Below.refl _ _ | exact ⟨Below.refl _ _, by omega⟩
        · refine FrontStep.of [16, 17] _ rfl (by kernel_rfl) ?_
          intro vs LL wq hLL hC hf
          simp only [putL, List.foldl_nil, List.foldl_cons, List.getElem?_cons_zero, List.getElem?_cons_succ]
          have e16 : vs 16 = _ := hf 16 (by simp)
          rw [e16]
          have e17 : vs 17 = _ := hf 17 (by simp)
          rw [e17]
          go_wp2_with fail
          first | exact Below.refl _ _ | exact ⟨Below.refl _ _, by omega⟩
        · refine FrontStep.of [18] _ rfl (by kernel_rfl) ?_
          intro vs LL wq hLL hC hf
          simp only [putL, List.foldl_nil, List.foldl_cons, List.getElem?_cons_zero, List.getElem?_cons_succ]
          have e18 : vs 18 = _ := hf 18 (by simp)
          rw [e18]
          go_wp2_with fail
          first | exact Below.refl _ _ | exact ⟨Below.refl _ _, by omega⟩
        · refine FrontStep.of [18] _ rfl (by kernel_rfl) ?_
          intro vs LL wq hLL hC hf
          simp only [putL, List.foldl_nil, List.foldl_cons, List.getElem?_cons_zero, List.getElem?_cons_succ]
          have e18 : vs 18 = _ := hf 18 (by simp)
          rw [e18]
          go_wp2_with fail
          first | exact Below.refl _ _ | exact ⟨Below.refl _ _, by omega⟩
        · refine FrontStep.of [18, 19, 20] _ rfl (by kernel_rfl) ?_
          intro vs LL wq hLL hC hf
          simp only [putL, List.foldl_nil, List.foldl_cons, List.getElem?_cons_zero, List.getElem?_cons_succ]
          have e18 : vs 18 = _ := hf 18 (by simp)
          rw [e18]
          have e19 : vs 19 = _ := hf 19 (by simp)
          rw [e19]
          have e20 : vs 20 = _ := hf 20 (by simp)
          rw [e20]
          have hcq := unhide k5 wq hC
          replace hcq := hide hcq
          go_wp2_with fail
          refine (unhide hcq).mono ?_
          rintro e wz ⟨a0, c0, rfl, hla, hbz⟩
          clear hcq
          go_wp2_with fail
          first | exact hC.trans (hbz.mono hC.size) | exact ⟨hC.trans (hbz.mono hC.size), hbz, a0, c0, ⟨rfl, rfl, rfl⟩, hla⟩ | exact ⟨hC.trans (hbz.mono hC.size), hbz, a0, c0, rfl, hla⟩ | (trace_state; fail)
        · refine FrontStep.of [18, 21] _ rfl (by kernel_rfl) ?_
          intro vs LL wq hLL hC hf
          simp only [putL, List.foldl_nil, List.foldl_cons, List.getElem?_cons_zero, List.getElem?_cons_succ]
          have e18 : vs 18 = _ := hf 18 (by simp)
          rw [e18]
          obtain ⟨a59, c59, e59, h59⟩ := hf 21 (by simp)
          rw [e59]
          have hcq := unhide k6 a59 c59 wq h59
          replace hcq := hide hcq
          go_wp2_with fail
          refine (unhide hcq).mono ?_
          rintro e wz ⟨a0, c0, rfl, hla, hbz⟩
          clear hcq
          go_wp2_with fail
          first | exact hC.trans (hbz.mono hC.size) | exact ⟨hC.trans (hbz.mono hC.size), hbz, a0, c0, ⟨rfl, rfl, rfl⟩, hla⟩ | exact ⟨hC.trans (hbz.mono hC.size), hbz, a0, c0, rfl, hla⟩ | (trace_state; fail)
        · refine FrontStep.of [18] _ rfl (by kernel_rfl) ?_
          intro vs LL wq hLL hC hf
          simp only [putL, List.foldl_nil, List.foldl_cons, List.getElem?_cons_zero, List.getElem?_cons_succ]
          have e18 : vs 18 = _ := hf 18 (by simp)
          rw [e18]
          go_wp2_with fail
          first | exact Below.refl _ _ | exact ⟨Below.refl _ _, by omega⟩
        · refine FrontStep.of [18, 22, 23] _ rfl (by kernel_rfl) ?_
          intro vs LL wq hLL hC hf
          simp only [putL, List.foldl_nil, List.foldl_cons, List.getElem?_cons_zero, List.getElem?_cons_succ]
          have e18 : vs 18 = _ := hf 18 (by simp)
          rw [e18]
          obtain ⟨a60, c60, e60, h60⟩ := hf 22 (by simp)
          rw [e60]
          have e23 : vs 23 = _ := hf 23 (by simp)
          rw [e23]
          have hcq := unhide k3 wq hC
          replace hcq := hide hcq
          go_wp2_with fail
          refine (unhide hcq).mono ?_
          rintro e wz ⟨a0, c0, rfl, hla, hbz⟩
          clear hcq
          go_wp2_with fail
          first | exact hC.trans (hbz.mono hC.size) | exact ⟨hC.trans (hbz.mono hC.size), hbz, a0, c0, ⟨rfl, rfl, rfl⟩, hla⟩ | exact ⟨hC.trans (hbz.mono hC.size), hbz, a0, c0, rfl, hla⟩ | (trace_state; fail)
        · refine FrontStep.of [18] _ rfl (by kernel_rfl) ?_
          intro vs LL wq hLL hC hf
          simp only [putL, List.foldl_nil, List.foldl_cons, List.getElem?_cons_zero, List.getElem?_cons_succ]
          have e18 : vs 18 = _ := hf 18 (by simp)
          rw [e18]
          go_wp2_with fail
          first | exact Below.refl _ _ | exact ⟨Below.refl _ _, by omega⟩
        · refine FrontStep.of [18, 24, 25] _ rfl (by kernel_rfl) ?_
          intro vs LL wq hLL hC hf
          simp only [putL, List.foldl_nil, List.foldl_cons, List.getElem?_cons_zero, List.getElem?_cons_succ]
          have e18 : vs 18 = _ := hf 18 (by simp)
          rw [e18]
          obtain ⟨a62, c62, e62, h62⟩ := hf 24 (by simp)
          rw [e62]
          have e25 : vs 25 = _ := hf 25 (by simp)
          rw [e25]
          have hcq := unhide k7 a62 c62 wq h62
          replace hcq := hide hcq
          go_wp2_with fail
          refine (unhide hcq).mono ?_
          rintro e wz ⟨a0, c0, rfl, hla, hbz⟩
          clear hcq
          go_wp2_with fail
          first | exact hC.trans (hbz.mono hC.size) | exact ⟨hC.trans (hbz.mono hC.size), hbz, a0, c0, ⟨rfl, rfl, rfl⟩, hla⟩ | exact ⟨hC.trans (hbz.mono hC.size), hbz, a0, c0, rfl, hla⟩ | (trace_state; fail)
        · refine FrontStep.of [18, 22, 26] _ rfl (by kernel_rfl) ?_
          intro vs LL wq hLL hC hf
          simp only [putL, List.foldl_nil, List.foldl_cons, List.getElem?_cons_zero, List.getElem?_cons_succ]
          have e18 : vs 18 = _ := hf 18 (by simp)
          rw [e18]
          obtain ⟨a60, c60, e60, h60⟩ := hf 22 (by simp)
          rw [e60]
          obtain ⟨a64, c64, e64, h64⟩ := hf 26 (by simp)
          rw [e64]
          have hcq := rsame_any a60 n1 c60 XB a64 n1 c64 XB wq h60 h64 (by omega) (by omega)
          rw [decide_eq_true rfl] at hcq
          clear h60 h64
          replace hcq := hide hcq
          go_wp2_with fail
          refine (unhide hcq).mono ?_
          rintro e wz ⟨rfl, q, hq⟩
          have hbz : Below wq.heap.size wq wz := by rw [hq]; exact blw_drewN (Below.refl _ _) _
          clear hcq hq
          go_wp2_with fail
          first | exact hC.trans (hbz.mono hC.size) | exact ⟨hC.trans (hbz.mono hC.size), hbz⟩ | (trace_state; fail)
        · refine FrontStep.of [18, 27] _ rfl (by kernel_rfl) ?_
          intro vs LL wq hLL hC hf
          simp only [putL, List.foldl_nil, List.foldl_cons, List.getElem?_cons_zero, List.getElem?_cons_succ]
          have e18 : vs 18 = _ := hf 18 (by simp)
          rw [e18]
          have e27 : vs 27 = _ := hf 27 (by simp)
          rw [e27]
          go_wp2_with fail
          first | exact Below.refl _ _ | exact ⟨Below.refl _ _, by omega⟩
        · refine FrontStep.of [18, 28] _ rfl (by kernel_rfl) ?_
          intro vs LL wq hLL hC hf
          simp only [putL, List.foldl_nil, List.foldl_cons, List.getElem?_cons_zero, List.getElem?_cons_succ]
          have e18 : vs 18 = _ := hf 18 (by simp)
          rw [e18]
          have e28 : vs 28 = _ := hf 28 (by simp)
          rw [e28]
          go_wp2_with fail
          first | exact Below.refl _ _ | exact ⟨Below.refl _ _, by omega⟩
      --END1
      · intro vs LL wq hLL hC hf
        have e29 : vs 29 = _ := hf 29 (by omega)
        rw [putSome_all]
        simp only [putL, List.range, List.range.loop, List.foldl_nil, List.foldl_cons, List.getElem?_cons_zero, List.getElem?_cons_succ, List.drop_succ_cons, List.drop_zero]
        rw [e29]
        clear e29 hf hLL
        have hbz := hide ((unhide hbw).trans (hC.mono (unhide hbw).size))
        clear hC
        go_simp
        go_wp2_with fail
        go_roundw
        case rel => exact ⟨k + 1, by omega, by go_num, unhide hbz⟩
        case measure => simp [intOf]; omega
    · have hke : k = 2 := by omega
      have t1 : ¬ (k : Int) < 2 := by omega
      have hbV := (unhide kk5).trans (hbw.mono (unhide kk5).size)
      have holV := (unhide hol5).under hbw
      have hdlV := (unhide hdl5).under hbw
      have hulV := (unhide hul5).under hbw
      have hon : o.length = on := holV.1
      have hulen : u.length = pn := hulV.1
      have hdlen : dl.length = dn := hdlV.1
      have hcnt := good_count (unhide hgo)
      have hsm := (unhide hgo).sml.1
      obtain ⟨X1, hX1⟩ : ∃ X, o.map (List.map (shP vx vy)) = X := ⟨_, rfl⟩
      have l1 : X1.length = on := by rw [← hX1, List.length_map, hon]
      have hs1 : Sml X1 := by rw [← hX1]; exact sml_map hsm
      have hgd2 : ∀ d ∈ dl, GoodD o.flatten.length u.length d := by rw [hulen]; exact unhide hgd
      have hsmall := good_small (by omega) (by omega) hgd2
      have e1 : instS o dl u = (imgO (instP dl u) 0 o, 0) := inst_good rfl (by omega) hgd2
      have e2 : instS X1 dl u = (imgO (instP dl u) 0 X1, 0) := by
        refine inst_good (cnt := o.flatten.length) ?_ (by omega) hgd2
        rw [← hX1]
        exact flat_map_len o _
      obtain ⟨I1, hI1⟩ : ∃ X, imgO (instP dl u) 0 o = X := ⟨_, rfl⟩
      obtain ⟨I2, hI2⟩ : ∃ X, imgO (instP dl u) 0 X1 = X := ⟨_, rfl⟩
      have e3 : I1.map (List.map (shP vx vy)) = I2 := by rw [← hI1, ← img_shift, hX1, hI2]
      rw [hI1] at e1
      rw [hI2] at e2
      have hsI : Sml I1 := by rw [← hI1]; exact imgO_sml hsm
      have lI1 : I1.length = on := by rw [← hI1, imgO_len, hon]
      have lI2 : I2.length = on := by rw [← hI2, imgO_len, l1]
      have hon2 : on ≤ 1000 := by have := hsm.1; omega
      have hc1 : SoQ 30 #[.slice oa on oc, .int .i64 vx, .int .i64 vy] V on X1 := SoQ.of l1 (by rw [← hX1]; exact shift_any oa on oc o vx vy V holV hsm)
      have kI1 : ∀ wq, Below V.heap.size V wq → Calls Try.prog 23 #[.slice oa on oc, .slice da dn dc, .slice pa pn pc] wq fun e w' => ∃ a c, e = .returned (.tuple #[.slice a on c, .int .i64 0]) ∧ Lst Enc.ct w' (· < w'.heap.size) a on I1 ∧ Below wq.heap.size wq w' := fun wq hb => by
        refine (inst_any oa on oc o da dn dc dl pa pn pc u wq (holV.under hb) hsm (hdlV.under hb) (hulV.under hb) (by omega) hsmall).mono ?_
        rintro e w' ⟨v, rfl, hoo, hb'⟩
        rw [e1] at hoo ⊢
        obtain ⟨a, c, rfl, _, _, hl⟩ := hoo.lst
        simp only at hl ⊢
        rw [lI1] at hl ⊢
        exact ⟨a, c, rfl, hl.wide (fun b hb => hb.2), hb'⟩
      have kI2 : ∀ a0 c0 wq, Below V.heap.size V wq → Lst Enc.ct wq (· < wq.heap.size) a0 on X1 → Calls Try.prog 23 #[.slice a0 on c0, .slice da dn dc, .slice pa pn pc] wq fun e w' => ∃ a c, e = .returned (.tuple #[.slice a on c, .int .i64 0]) ∧ Lst Enc.ct w' (· < w'.heap.size) a on I2 ∧ Below wq.heap.size wq w' := fun a0 c0 wq hb hx => by
        refine (inst_any a0 on c0 X1 da dn dc dl pa pn pc u wq hx hs1 (hdlV.under hb) (hulV.under hb) (by omega) hsmall).mono ?_
        rintro e w' ⟨v, rfl, hoo, hb'⟩
        rw [e2] at hoo ⊢
        obtain ⟨a, c, rfl, _, _, hl⟩ := hoo.lst
        simp only at hl ⊢
        rw [lI2] at hl ⊢
        exact ⟨a, c, rfl, hl.wide (fun b hb => hb.2), hb'⟩
      have kS : ∀ a0 c0 wq, Lst Enc.ct wq (· < wq.heap.size) a0 on I1 → SoQ 30 #[.slice a0 on c0, .int .i64 vx, .int .i64 vy] wq on I2 := fun a0 c0 wq h => SoQ.of lI2 (by rw [← e3]; exact shift_any a0 on c0 I1 vx vy wq h hsI)
      clear e1 e2 e3 hX1 hI1 hI2 l1 lI1 lI2 hsI hs1 hgd2 hsmall hulV hdlV holV hon hulen hdlen hsm n6V
      replace hbV := hide hbV; replace kI1 := hide kI1; replace kI2 := hide kI2; replace kS := hide kS; replace hc1 := hide hc1
      clear hbw
      go_wp2_with fail
      refine (unhide hc1).mono ?_
      rintro e w6 ⟨a1, c1, rfl, hx1, hb6⟩
      clear hc1
      have hc := unhide kI2 a1 c1 w6 hb6 hx1
      have d06 := cell_under d0 hb6
      have d16 := cell_under d1 hb6
      replace hc := hide hc; replace hb6 := hide hb6
      clear hx1
      go_wp2_with fail
      refine (unhide hc).mono ?_
      rintro e w7 ⟨a2, c2, rfl, hx2, hb7⟩
      clear hc
      have hb67 := (unhide hb6).trans (hb7.mono (unhide hb6).size)
      have hc := unhide kI1 w7 hb67
      replace hc := hide hc; replace hb67 := hide hb67; replace hx2 := hide hx2
      clear hb7
      go_wp2_with fail
      refine (unhide hc).mono ?_
      rintro e w8 ⟨a3, c3, rfl, hx3, hb8⟩
      clear hc
      have hb68 := (unhide hb67).trans (hb8.mono (unhide hb67).size)
      have hx28 := (unhide hx2).under hb8
      have d08 := cell_under d0 hb68
      have d18 := cell_under d1 hb68
      have hc := unhide kS a3 c3 w8 hx3
      replace hc := hide hc; replace hb68 := hide hb68; replace hx28 := hide hx28
      clear hb8 hx3 hx2 d06 d16
      go_wp2_with fail
      refine (unhide hc).mono ?_
      rintro e w9 ⟨a4, c4, rfl, hx4, hb9⟩
      clear hc
      have hc := rsame_any a2 on c2 I2 a4 on c4 I2 w9 ((unhide hx28).under hb9) hx4 (by omega) (by omega)
      rw [decide_eq_true rfl] at hc
      have hb69 := hide ((unhide hb68).trans (hb9.mono (unhide hb68).size))
      replace hc := hide hc
      clear hb9 hx4 hx28
      go_wp2_with fail
      refine (unhide hc).mono ?_
      rintro e wz ⟨rfl, q, hq⟩
      have hbz := hide ((unhide hbV).trans (((unhide hb69).trans ((show Below w9.heap.size w9 wz by rw [hq]; exact blw_drewN (Below.refl _ _) _).mono (unhide hb69).size)).mono (unhide hbV).size))
      clear hc hq
      go_wp2_with fail
      go_ret
      exact ⟨rfl, unhide hbz⟩
end Go.Proofs.Ytbodidhggdggmaa
