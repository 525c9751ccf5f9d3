/- digest.Root. -/
import Derived.Test.YtlmaofibdjmkeaaDg5
import Derived.Deep.Onto
namespace Go.Proofs.Ytlmaofibdjmkeaa
open Go.RowKit
attribute [local go_sem ↓] Go.wp_at_zero Go.wp_at_succ

theorem levels_in (n : Nat) (a : Option Addr) (len cap : Nat) (w : World) :
    CallsIn Fence.wide n Try.prog 36 #[.slice a len cap] w fun e w' => e = .returned (.func (.func 41) #[] #[.pointer (some ⟨w.heap.size, 0, none⟩)]) ∧ w' = w.alloc (.cells #[.slice a len cap] 28) := by
  refine callsIn_of_wp Try.func36 rfl trivial ?_
  simp only [Try.ntmps36, List.size_toArray, List.length_cons, List.length_nil, Nat.reduceAdd, Nat.reduceSub, Array.replicate_succ, Array.replicate_zero, List.push_toArray, List.append_toArray, List.nil_append, List.cons_append]
  refine wpIn_wide.2 ?_
  go_wp2_with fail
  exact bodyPost_ret (v := .func (.func 41) #[] #[.pointer (some ⟨w.heap.size, 0, none⟩)]) (by simp [results, Try.results36, go_sem]) rfl ⟨rfl, rfl⟩
theorem below_put {B l : Nat} {w W : World} {o : Obj} (h : Below B w W) (hl : B ≤ l) : Below B w (W.putObj l o) :=
  ⟨h.os, h.tape, h.output, by have := h.size; simp [World.putObj]; omega, fun k hk => (World.putObj_heap_other (by omega)).trans (h.block k hk)⟩
theorem lev_cell {W : World} {B g c : Nat} {l : List (List UInt8)} (hown : W.ownsRow B 52 8 (.slice (some ⟨g, 0, none⟩) l.length c) l.length (digCs l)) (hall : ∀ d ∈ l, d.length = 8) (i t : Nat) (d : List UInt8) (hd : l[i]? = some d) (ht : t < 8) :
    W.cell? ⟨g, i * 8 + t, none⟩ = some (.int .u8 (d[t]?.getD 0).toNat) := by
  obtain ⟨hl, ⟨hv, _⟩ | ⟨g', cap, cur, hv, _, hg, hn, _, hcs, htk⟩⟩ := hown
  · cases hv
  · injection hv with e1 e2 e3
    injection e1 with e1
    injection e1 with e1
    subst e1
    have hi := (List.getElem?_eq_some_iff.1 hd).1
    have hd8 := hall d (List.mem_of_getElem? hd)
    have hget := digCs_get l hall i t d d[t] hd (List.getElem?_eq_getElem (by omega))
    rw [← htk, List.getElem?_take_of_lt (by omega)] at hget
    rw [cell_of_row _ _ _ _ _ _ hg, ← Array.getElem?_toList, hget, List.getElem?_eq_getElem (by omega : t < d.length)]
    rfl
theorem own_base {W : World} {B g c n T : Nat} {xs : List Value} (hown : W.ownsRow B T 8 (.slice (some ⟨g, 0, none⟩) n c) n xs) : B ≤ g ∧ g < W.heap.size := by
  obtain ⟨hl, ⟨hv, _⟩ | ⟨g', cap, cur, hv, hb, hg, hn, _, hcs, htk⟩⟩ := hown
  · cases hv
  · injection hv with e1 e2 e3
    injection e1 with e1
    injection e1 with e1
    subst e1
    exact ⟨hb, (Array.getElem?_eq_some_iff.1 hg).1⟩
theorem keeps8 {w : World} (v0 v1 v2 v3 v4 v5 v6 v7 : Value) (g : Nat) :
    KeepsOthers w ((((((((w.setCell ⟨g, 0, none⟩ v0).setCell ⟨g, 1, none⟩ v1).setCell ⟨g, 2, none⟩ v2).setCell ⟨g, 3, none⟩ v3).setCell ⟨g, 4, none⟩ v4).setCell ⟨g, 5, none⟩ v5).setCell ⟨g, 6, none⟩ v6).setCell ⟨g, 7, none⟩ v7) :=
  (((((((KeepsOthers.setCell w _ _).trans (KeepsOthers.setCell _ _ _)).trans (KeepsOthers.setCell _ _ _)).trans (KeepsOthers.setCell _ _ _)).trans (KeepsOthers.setCell _ _ _)).trans (KeepsOthers.setCell _ _ _)).trans (KeepsOthers.setCell _ _ _)).trans (KeepsOthers.setCell _ _ _)
theorem below8 {w w0 : World} (v0 v1 v2 v3 v4 v5 v6 v7 : Value) (g B : Nat) (h : B ≤ g) (hb : Below B w0 w) :
    Below B w0 ((((((((w.setCell ⟨g, 0, none⟩ v0).setCell ⟨g, 1, none⟩ v1).setCell ⟨g, 2, none⟩ v2).setCell ⟨g, 3, none⟩ v3).setCell ⟨g, 4, none⟩ v4).setCell ⟨g, 5, none⟩ v5).setCell ⟨g, 6, none⟩ v6).setCell ⟨g, 7, none⟩ v7) :=
  (((((((hb.setCell (p := ⟨g, 0, none⟩) h _).setCell (p := ⟨g, 1, none⟩) h _).setCell (p := ⟨g, 2, none⟩) h _).setCell (p := ⟨g, 3, none⟩) h _).setCell (p := ⟨g, 4, none⟩) h _).setCell (p := ⟨g, 5, none⟩) h _).setCell (p := ⟨g, 6, none⟩) h _).setCell (p := ⟨g, 7, none⟩) h _
theorem size8 {w : World} (v0 v1 v2 v3 v4 v5 v6 v7 : Value) (g : Nat) :
    ((((((((w.setCell ⟨g, 0, none⟩ v0).setCell ⟨g, 1, none⟩ v1).setCell ⟨g, 2, none⟩ v2).setCell ⟨g, 3, none⟩ v3).setCell ⟨g, 4, none⟩ v4).setCell ⟨g, 5, none⟩ v5).setCell ⟨g, 6, none⟩ v6).setCell ⟨g, 7, none⟩ v7).heap.size = w.heap.size := by simp [World.setCell]
theorem other8 {w : World} (v0 v1 v2 v3 v4 v5 v6 v7 : Value) (g b : Nat) (hne : g ≠ b) :
    ((((((((w.setCell ⟨g, 0, none⟩ v0).setCell ⟨g, 1, none⟩ v1).setCell ⟨g, 2, none⟩ v2).setCell ⟨g, 3, none⟩ v3).setCell ⟨g, 4, none⟩ v4).setCell ⟨g, 5, none⟩ v5).setCell ⟨g, 6, none⟩ v6).setCell ⟨g, 7, none⟩ v7).heap[b]? = w.heap[b]? := by simp [World.setCell, Array.getElem?_modify, hne]
/-- a block lies as it lay -/
def SameAt (b : Nat) (A B : World) : Prop := B.heap[b]? = A.heap[b]?
/-- for level := range levels(l) { .. } of a body that always goes on. -/
theorem range_levels {n : Nat} {g : Operand} {ps : Array Tmp} {assign body : Code} {Q : Exit → Act → World → Prop} {a : Act} {w : World} (bx : Nat) (al : Option Addr) (len cap : Nat) (L : List ByteArray)
    (h1 : 3 ≤ n) (hg : a.eval g = .func (.func 41) #[] #[.pointer (some ⟨bx, 0, none⟩)]) (hx : w.cell? ⟨bx, 0, none⟩ = some (.slice al len cap)) (hL : Lst Enc.str w (fun b => b < w.heap.size) al len L) (hlen : len ≤ 32) (hps : 1 = ps.size)
    (J : Nat → World → Prop) (hJ : ∀ k A B, w.heap.size ≤ A.heap.size → J k A → Below A.heap.size A B → J k B) (hJp : ∀ k A l o o', A.heap[l]? = some o' → o'.isCells = false → w.heap.size ≤ l → J k A → J k (A.putObj l o)) (h0 : J 0 w)
    (hround : ∀ k W l b c, J k W → w.heap.size + 2 ≤ b → w.heap.size + 2 ≤ W.heap.size → w.heap.size ≤ l → 1 ≤ (Dg.lev (L.map fun s => s.data.toList) k).length →
      W.ownsRow (w.heap.size + 2) 52 8 (.slice (some ⟨b, 0, none⟩) (Dg.lev (L.map fun s => s.data.toList) k).length c) (Dg.lev (L.map fun s => s.data.toList) k).length (digCs (Dg.lev (L.map fun s => s.data.toList) k)) →
      ∃ a₁, (∀ (K : Act → World → Prop), K a₁ W → assign.wpIn (Fence.wide.inRound l) (n - 1 - 1) Try.prog (Exit.then K (fun _ _ _ => False)) { tmps := (ps.zip #[.slice (some ⟨b, 0, none⟩) (Dg.lev (L.map fun s => s.data.toList) k).length c]).foldl (fun t (p, v) => t.setIfInBounds p v) a.tmps, defers := [] } W) ∧
        ∀ Wb, J k Wb → w.heap.size + 2 ≤ Wb.heap.size → Wb.ownsRow (w.heap.size + 2) 52 8 (.slice (some ⟨b, 0, none⟩) (Dg.lev (L.map fun s => s.data.toList) k).length c) (Dg.lev (L.map fun s => s.data.toList) k).length (digCs (Dg.lev (L.map fun s => s.data.toList) k)) →
          body.wpIn (Fence.wide.inRound l) (n - 1 - 1) Try.prog (fun e _ W3 => e = .normal ∧ KeepsOthers Wb W3 ∧ J (k + 1) W3 ∧ SameAt b Wb W3) a₁ Wb)
    (hdone : ∀ k W' D, (Dg.lev (L.map fun s => s.data.toList) k).length = 1 → J (k + 1) W' → W'.heap[D]? = some (.deferred (some [])) → w.heap.size ≤ D → Q .normal { a with defers := { target := .collected D, args := #[] } :: a.defers } W') :
    (Code.rangeFunc g ps assign body).wpIn Fence.wide n Try.prog Q a w := by
  refine range_on rfl (by omega) (gf := 41) (lb := #[.pointer (some ⟨bx, 0, none⟩)]) hg trivial (enters_of Try.func41 (by kernel_rfl) rfl)
    (fun W => ∃ k, (Dg.lev (L.map fun s => s.data.toList) k).length = 1 ∧ J (k + 1) W) ?call ?done
  case call =>
    intro fn W1 _ hL1 hb1 hs1
    obtain ⟨D, hD⟩ : ∃ D, w.heap.size = D := ⟨_, rfl⟩
    rw [hD] at hL1 hs1 ⊢
    have hx1 : W1.cell? ⟨bx, 0, none⟩ = some (.slice al len cap) := cell_under hx hb1
    refine (levels1_any (D + 1) bx (n - 1) al len cap L W1 hx1 (hL.under hb1) hlen (fun k W => LoopAt fn a.tmps ps assign body D (D + 1) W ∧ J k W ∧ D + 2 ≤ W.heap.size) ?_ ?_ ?_).mono ?_
    · rintro k A B ⟨q1, q2, q3⟩ hAB
      exact ⟨q1.kept (keeps_below hAB), hJ k A B (by omega) q2 hAB, Nat.le_trans q3 hAB.size⟩
    · exact ⟨hL1, hJ 0 w W1 (Nat.le_refl _) h0 hb1, hs1⟩
    · rintro k W3 b c ⟨q1, q2, q3⟩ hown hsz hpos
      have hown' := World.ownsRow.mono hown (by omega : D + 2 ≤ W1.heap.size)
      have hgb := own_base hown'
      obtain ⟨a₁, hasg, hbd⟩ := hround k W3 (D + 1) b c q2 (by omega) (by omega) (by omega) hpos (by rw [hD]; exact hown')
      refine (yield_on trivial q1 (by omega) (by exact hps) a₁ (fun W' => J (k + 1) W' ∧ W'.heap[b]? = W3.heap[b]? ∧ W3.heap.size ≤ W'.heap.size) hasg ?bd).mono ?_
      case bd =>
        intro Wb o hWb ho
        have hJb : J k Wb := by rw [hWb]; exact hJp k W3 (D + 1) o _ q1.1 rfl (by omega) q2
        have hsb : Wb.heap.size = W3.heap.size := by rw [hWb]; simp
        have hob : Wb.ownsRow (w.heap.size + 2) 52 8 (.slice (some ⟨b, 0, none⟩) (Dg.lev (L.map fun s => s.data.toList) k).length c) (Dg.lev (L.map fun s => s.data.toList) k).length (digCs (Dg.lev (L.map fun s => s.data.toList) k)) := by
          rw [hWb, hD]
          exact ownsRow_putObj hown' _ q1.1 rfl
        have hneb : b ≠ D + 1 := fun e => by
          obtain ⟨_, ⟨hv, _⟩ | ⟨g', cap', cur, hv, _, hgc, _⟩⟩ := hown'
          · cases hv
          · injection hv with e1
            injection e1 with e1
            injection e1 with e1
            rw [← e1, e, q1.1] at hgc
            cases hgc
        refine wpIn_mono (hbd Wb hJb (by omega) hob) ?_
        rintro e a3 W4 ⟨rfl, hk, hJ4, hb4⟩
        have h4l := hk.same (D + 1) o (by rw [hWb]; exact World.putObj_heap_same (Array.getElem?_eq_some_iff.1 q1.1).1) ho
        refine ⟨rfl, hk, fun o3 => ⟨hJp (k + 1) W4 (D + 1) _ _ h4l ho (by omega) hJ4, ?_, ?_⟩⟩
        · rw [World.putObj_heap_other hneb, show W4.heap[b]? = Wb.heap[b]? from hb4, hWb, World.putObj_heap_other hneb]
        · rw [World.putObj_size, ← hsb]; exact hk.size
      rintro e W' ⟨rfl, ⟨p1, p2, p3⟩, p4⟩
      exact ⟨rfl, ⟨p4, p1, by omega⟩, p2, p3⟩
    · rintro e W' ⟨hv, k, hk1, p1, p2, p3⟩
      exact ⟨hv, p1, k, hk1, p2⟩
  case done =>
    rintro W' o ⟨k, hk, hJk⟩ hdef hsz ⟨o', ho'⟩
    have hne : w.heap.size ≠ w.heap.size + 1 := by omega
    exact hdone k _ _ hk (hJp (k + 1) W' _ _ _ ho' rfl (by omega) hJk) ((World.putObj_heap_other hne).trans hdef) (Nat.le_refl _)
section
attribute [local go_sem] Oper.semAt_some
set_option maxRecDepth 100000 in
set_option maxHeartbeats 2000000 in
theorem dRoot_any (a : Option Addr) (len cap : Nat) (L : List ByteArray) (w : World) (hL : Lst Enc.str w (fun b => b < w.heap.size) a len L) (hlen : len ≤ 32) :
    Calls Try.prog 21 #[.slice a len cap] w fun e w' => (∃ k d, (Dg.lev (L.map fun s => s.data.toList) k) = [d] ∧ e = .returned (.string ⟨d.toArray⟩)) ∧ Below w.heap.size w w' := by
  refine (callsIn_wide (n := 8)).1 ?_
  obtain ⟨Lb, hLb⟩ : ∃ Lb, (L.map fun s => s.data.toList) = Lb := ⟨_, rfl⟩
  rw [hLb]
  replace hLb := hide hLb
  refine callsIn_of_wp_marks Try.func21 rfl trivial ?_ rfl
  simp only [Try.ntmps21, List.size_toArray, List.length_cons, List.length_nil, Nat.reduceAdd, Nat.reduceSub, Array.replicate_succ, Array.replicate_zero, List.push_toArray, List.append_toArray, List.nil_append, List.cons_append]
  have hlev : ∀ w, CallsIn Fence.wide 7 Try.prog 36 #[.slice a len cap] w _ := fun w => levels_in 7 a len cap w
  replace hlev := hide hlev
  replace hL := hide hL
  gi_wp2
  refine ⟨trivial, (unhide hlev _).mono ?_⟩
  rintro e w2 ⟨rfl, hw2⟩
  have hb2 : Below w.heap.size w w2 := by rw [hw2]; exact ((Below.refl _ w).alloc (Nat.le_refl _) _).alloc (by simp) _
  have hr2 : w2.heap[w.heap.size]? = some (.cells (digC []) 52 (0, 0)) := by
    rw [hw2]
    exact (Below.heap_alloc _ _ _ (by simp)).trans (heap_alloc_new w _)
  have hx2 : w2.cell? ⟨w.heap.size + 1, 0, none⟩ = some (.slice a len cap) := by
    rw [hw2]
    have := heap_alloc_new (w.alloc (Obj.cells (digC []) 52)) (Obj.cells #[Value.slice a len cap] 28)
    rw [World.size_alloc] at this
    exact (cell_of_row _ _ 0 _ _ _ this).trans rfl
  have hs2 : w2.heap.size = w.heap.size + 2 := by rw [hw2]; simp
  simp only [World.size_alloc]
  clear hw2 hlev
  replace hr2 := hide hr2; replace hx2 := hide hx2; replace hs2 := hide hs2; replace hb2 := hide hb2
  gi_wp2
  have hL2 := (unhide hL).under (unhide hb2)
  refine range_levels (w.heap.size + 1) a len cap L (by omega) rfl (unhide hx2) hL2 hlen rfl
    (fun k W => Below w.heap.size w W ∧ ∃ d, W.heap[w.heap.size]? = some (.cells (digC d) 52 (0, 0)) ∧ ∀ j, k = j + 1 → d = (Dg.lev Lb j)[0]?.getD []) ?_ ?_ ?_ ?_ ?_
  · rintro k A B hA ⟨h2, d, h4, h5⟩ hAB
    exact ⟨h2.trans (hAB.mono h2.size), d, (hAB.block _ (Array.getElem?_eq_some_iff.1 h4).1).trans h4, h5⟩
  · rintro k A l o o' hl ho hs ⟨h2, d, h4, h5⟩
    have hs2' := unhide hs2
    exact ⟨below_put h2 (by omega), d, (World.putObj_heap_other (by omega)).trans h4, h5⟩
  · exact ⟨unhide hb2, [], unhide hr2, fun j hj => by omega⟩
  · rw [unhide hLb]
    rintro k W3 l g c - hg hW3 hlD hpos hown
    refine ⟨{ tmps := #[.slice a len cap, undef, .string ⟨#[]⟩, .pointer (some ⟨w.heap.size, 0, none⟩), .slice (some ⟨g, 0, none⟩) (Dg.lev Lb k).length c, .slice a len cap, .func (.func 41) #[] #[.pointer (some ⟨w.heap.size + 1, 0, none⟩)], .slice (some ⟨g, 0, none⟩) (Dg.lev Lb k).length c, undef, undef, undef, undef, undef], defers := [] }, ?asg, ?bdy⟩
    case asg =>
      intro K hK
      gi_wp2
      exact hK
    rintro Wb ⟨hbb, d, hrb, -⟩ hWb hown
    have hs2' := unhide hs2
    have hgb := own_base hown
    have hLall := Dg.lev_all Lb k
    obtain ⟨d', hd0⟩ : ∃ d', (Dg.lev Lb k)[0]? = some d' := ⟨_, List.getElem?_eq_getElem hpos⟩
    have hgc : ∀ t, t < 8 → Wb.cell? ⟨g, t, none⟩ = some (.int .u8 (d'[t]?.getD 0).toNat) := fun t ht => by
      have := lev_cell hown hLall 0 t d' hd0 ht
      rwa [Nat.zero_mul, Nat.zero_add] at this
    have q0 := hgc 0 (by omega)
    have q1 := hgc 1 (by omega)
    have q2 := hgc 2 (by omega)
    have q3 := hgc 3 (by omega)
    have q4 := hgc 4 (by omega)
    have q5 := hgc 5 (by omega)
    have q6 := hgc 6 (by omega)
    have q7 := hgc 7 (by omega)
    obtain ⟨⟨c0, c1, c2, c3, c4, c5, c6, c7⟩, f0, f1, f2, f3, f4, f5, f6, f7⟩ := row8 hrb
    obtain ⟨lv, hlv⟩ : ∃ lv, (Dg.lev Lb k).length = lv := ⟨_, rfl⟩
    rw [hlv] at hpos ⊢
    replace hlv := hide hlv; replace hbb := hide hbb; replace hrb := hide hrb; replace hd0 := hide hd0; replace hs2' := hide hs2'
    clear hgc hLall hown
    gi_wp2
    have hrow := eight_sets (.int .u8 (d'[0]?.getD 0).toNat) (.int .u8 (d'[1]?.getD 0).toNat) (.int .u8 (d'[2]?.getD 0).toNat) (.int .u8 (d'[3]?.getD 0).toNat) (.int .u8 (d'[4]?.getD 0).toNat) (.int .u8 (d'[5]?.getD 0).toNat) (.int .u8 (d'[6]?.getD 0).toNat) (.int .u8 (d'[7]?.getD 0).toNat) (unhide hrb)
    have hne : w.heap.size ≠ g := by have := unhide hs2'; omega
    refine ⟨keeps8 _ _ _ _ _ _ _ _ _, ⟨below8 _ _ _ _ _ _ _ _ _ _ (Nat.le_refl _) (unhide hbb), ?_⟩, ?_⟩
    · rw [unhide hd0]
      exact hrow
    · exact other8 _ _ _ _ _ _ _ _ _ _ hne
  · rw [unhide hLb]
    rintro k W' D hk ⟨hbe, d, hrow, hd⟩ hdef hD
    have hd' := hd k rfl
    have hone : Dg.lev Lb k = [d] := by
      match hl : Dg.lev Lb k, hk with
      | [x], _ => rw [hl] at hd'; simp at hd'; rw [hd']
    have hd8 : d.length = 8 := Dg.lev_all Lb k d (by rw [hone]; simp)
    obtain ⟨⟨c0, c1, c2, c3, c4, c5, c6, c7⟩, _⟩ := row8 hrow
    have htx := fun w => text_any d w hd8
    replace htx := hide htx; replace hone := hide hone; replace hd8 := hide hd8; replace hdef := hide hdef; replace hbe := hide hbe; replace hk := hide hk; replace hd := hide hd; replace hd' := hide hd'
    gi_wp2
    refine ⟨trivial, (callsIn_wide.2 (unhide htx _)).mono ?_⟩
    rintro e w3 ⟨rfl, hb3⟩
    gi_wp2
    have hdef3 := (hb3.block D (Array.getElem?_eq_some_iff.1 (unhide hdef)).1).trans (unhide hdef)
    have hs2' := unhide hs2
    refine ⟨by simp, .inl ⟨_, _, rfl, run_takeDeferred hdef3, ?_⟩⟩
    exact ⟨_, results_tmp rfl _ _ _, ⟨k, d, unhide hone, rfl⟩, below_put ((unhide hbe).trans (hb3.mono (unhide hbe).size)) (by omega)⟩
end
end Go.Proofs.Ytlmaofibdjmkeaa
