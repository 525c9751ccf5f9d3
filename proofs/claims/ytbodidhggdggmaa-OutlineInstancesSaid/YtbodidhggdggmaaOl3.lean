/- The reference's Box. -/
import Derived.Test.YtbodidhggdggmaaOl2
import Derived.Test.YtbodidhggdggmaaAxM
namespace Go.Proofs.Ytbodidhggdggmaa
open Go.RowKit
abbrev rcell (r : Rct) : Array Value := #[.int .i64 r.1, .int .i64 r.2.1, .int .i64 r.2.2.1, .int .i64 r.2.2.2]
def firstR (l : List Pt) (p : Pt) : Rct := if l.isEmpty then (p.1, p.2.1, p.1, p.2.1) else boxS l
theorem boxS_next (l : List Pt) (p : Pt) : boxS (l ++ [p]) = boxUp (firstR l p) p := by
  cases l with
  | nil => exact boxS_one p
  | cons q t => rw [boxS_snoc (by simp)]; rfl
theorem set4 {w : World} {b T : Nat} {cs : Array Value} (h : w.heap[b]? = some (.cells cs T (0, 0))) (hs : cs.size = 4) (v0 v1 v2 v3 : Value) (w' : World) (hw : w' = (((w.setCell ⟨b, 0, none⟩ v0).setCell ⟨b, 1, none⟩ v1).setCell ⟨b, 2, none⟩ v2).setCell ⟨b, 3, none⟩ v3) :
    w'.heap[b]? = some (.cells #[v0, v1, v2, v3] T (0, 0)) ∧ (∀ c, c ≠ b → w'.heap[c]? = w.heap[c]?) ∧ ∀ B, B ≤ b → Below B w w' := by
  subst hw
  refine ⟨?_, fun c hc => ?_, fun B hB => (((Below.refl _ _).setCell hB v0).setCell hB v1).setCell hB v2 |>.setCell hB v3⟩
  · simp only [World.setCell, Array.getElem?_modify]
    simp [h]
    obtain ⟨c0, c1, c2, c3, rfl⟩ : ∃ c0 c1 c2 c3, cs = #[c0, c1, c2, c3] := by
      obtain ⟨l⟩ := cs
      match l, hs with
      | [c0, c1, c2, c3], _ => exact ⟨c0, c1, c2, c3, rfl⟩
    rfl
  · simp only [World.setCell, Array.getElem?_modify]
    simp [Ne.symm hc]
theorem four_at {w : World} {b T : Nat} {v0 v1 v2 v3 : Value} (h : w.heap[b]? = some (.cells #[v0, v1, v2, v3] T (0, 0))) :
    (w.cell? ⟨b, 0, none⟩ = some v0 ∧ w.cell? ⟨b, 1, none⟩ = some v1 ∧ w.cell? ⟨b, 2, none⟩ = some v2 ∧ w.cell? ⟨b, 3, none⟩ = some v3) ∧ (w.frozen? ⟨b, 0, none⟩ = false ∧ w.frozen? ⟨b, 1, none⟩ = false ∧ w.frozen? ⟨b, 2, none⟩ = false ∧ w.frozen? ⟨b, 3, none⟩ = false) :=
  ⟨⟨(cell_of_row _ _ 0 _ _ _ h).trans rfl, (cell_of_row _ _ 1 _ _ _ h).trans rfl, (cell_of_row _ _ 2 _ _ _ h).trans rfl, (cell_of_row _ _ 3 _ _ _ h).trans rfl⟩, by simp [World.frozen?, h], by simp [World.frozen?, h], by simp [World.frozen?, h], by simp [World.frozen?, h]⟩
set_option maxHeartbeats 4000000 in
theorem rbox_any (a : Option Addr) (n c : Nat) (o : Ot) (w : World) (hl : Lst Enc.ct w (· < w.heap.size) a n o) (hs : Sml o) :
    Calls Try.prog 18 #[.slice a n c] w fun e w' => e = .returned (.agg (rcell (boxS o.flatten))) ∧ Below w.heap.size w w' := by
  have h1 := hl.1
  have hn : n ≤ 1000 := by have := hs.1; omega
  obtain ⟨b2, b3, V, hb2, hb3, hV, st⟩ := St.new2 w (Obj.cells (rcell (0, 0, 0, 0)) 34) (Obj.cells (rcell (0, 0, 0, 0)) 34)
  have k3 := st.get 0 rfl
  have k2 := st.get 1 rfl
  have hbV := st.below
  have hlt3 : w.heap.size ≤ b3 := by omega
  have hlt2 : w.heap.size ≤ b2 := by omega
  have hne : b2 ≠ b3 := by omega
  have hb23 : b2 + 1 = b3 := by omega
  obtain ⟨⟨R0, R1, R2, R3⟩, hR⟩ : ∃ r, boxS o.flatten = r := ⟨_, rfl⟩
  rw [hR]
  replace hR := hide hR; replace hb23 := hide hb23
  clear st
  replace h1 := hide h1; replace hl := hide hl; replace hs := hide hs; replace k2 := hide k2; replace k3 := hide k3; replace hbV := hide hbV; replace hV := hide hV; replace hb2 := hide hb2; replace hb3 := hide hb3
  go_enter Try.func18, Try.ntmps18
  go_wp2_with fail
  simp only [unhide hb2, unhide hb23]
  rw [show ((w.alloc (Obj.cells #[.int .i64 0, .int .i64 0, .int .i64 0, .int .i64 0] 34)).alloc (Obj.cells #[.int .i64 0, .int .i64 0, .int .i64 0, .int .i64 0] 34)) = V from unhide hV]
  go_loopw [4, 5] (fun v4 v wr => ∃ k : Nat, k ≤ n ∧ v = .int .i64 (k : Int) ∧ v4 = .bool (!(o.take k).flatten.isEmpty) ∧ wr.heap[b3]? = some (.cells (rcell (boxS (o.take k).flatten)) 34 (0, 0)) ∧ wr.heap[b2]? = some (.cells (rcell (0, 0, 0, 0)) 34 (0, 0)) ∧ Below w.heap.size w wr) (fun _ v _ => (n - intOf v).toNat)
  case atStart => exact ⟨0, by omega, rfl, rfl, unhide k3, unhide k2, unhide hbV⟩
  case round =>
    clear k3 k2 hbV
    obtain ⟨k, hk, rfl, rfl, k3, k2, hbw⟩ := hrel
    obtain ⟨wo, rfl⟩ : ∃ wo : World, wo = wr := ⟨_, rfl⟩
    by_cases hlt : k < n
    · obtain ⟨b, off, x, ax, nx, cx, rfl, hb, hx, hnc, hcm, hlx, hc⟩ := lst_list (unhide hl) hlt
      have mx : nx ≤ 1000 := by have := (unhide hs).ct hx; have := hlx.1; omega
      have x1 := hlx.1
      have hfl := take_flat hx
      obtain ⟨pre, hpre⟩ : ∃ pre, (o.take k).flatten = pre := ⟨_, rfl⟩
      rw [hpre] at hfl k3
      simp only [hpre]
      have t1 : (k : Int) < (n : Int) := by omega
      replace x1 := hide x1; replace hfl := hide hfl
      replace k2 := hide k2; replace k3 := hide k3
      have f1 : wo.cell? ⟨b, off + k, none⟩ = some (.slice ax nx cx) := cell_under hc hbw
      replace hbw := hide hbw
      clear hb hnc hcm hx hpre
      go_wp2_with fail
      clear f1
      go_loopw [4, 6] (fun v4 v wr => ∃ i : Nat, i ≤ nx ∧ v = .int .i64 (i : Int) ∧ v4 = .bool (!(pre ++ x.take i).isEmpty) ∧ wr.heap[b3]? = some (.cells (rcell (boxS (pre ++ x.take i))) 34 (0, 0)) ∧ wr.heap[b2]? = some (.cells (rcell (0, 0, 0, 0)) 34 (0, 0)) ∧ Below w.heap.size w wr) (fun _ v _ => (nx - intOf v).toNat)
      case atStart => exact ⟨0, by omega, rfl, by simp, by simpa using unhide k3, unhide k2, unhide hbw⟩
      case round =>
        clear k3 k2 hbw
        obtain ⟨i, hi', rfl, rfl, k3, k2, hbv⟩ := hrel
        obtain ⟨wi, rfl⟩ : ∃ wo : World, wo = wr := ⟨_, rfl⟩
        have f1 : wi.cell? ⟨b, off + k, none⟩ = some (.slice ax nx cx) := cell_under hc hbv
        by_cases hlt2 : i < nx
        · obtain ⟨g', og', px, py, pz, rfl, _, hp, _, _, g0, g1, g2⟩ := lst_pt (hlx.under hbv) hlt2
          have hnx : pre ++ x.take (i + 1) = (pre ++ x.take i) ++ [(px, py, pz)] := by rw [List.take_add_one, hp]; simp
          obtain ⟨cur, hcur⟩ : ∃ cur, pre ++ x.take i = cur := ⟨_, rfl⟩
          simp only [hcur]
          rw [hcur] at hnx k3
          have hbn := boxS_next cur (px, py, pz)
          have hrx : firstR cur (px, py, pz) = if cur.isEmpty then (px, py, px, py) else boxS cur := rfl
          rw [← hnx] at hbn
          have hem : (pre ++ x.take (i + 1)).isEmpty = false := by rw [hnx]; simp
          obtain ⟨⟨R0, R1, R2, R3⟩, hRc⟩ : ∃ r, firstR cur (px, py, pz) = r := ⟨_, rfl⟩
          rw [hRc] at hbn hrx
          have u1 : (i : Int) < (nx : Int) := by omega
          obtain ⟨bx, hbx⟩ : ∃ bx, bx = wi.heap.size := ⟨_, rfl⟩
          obtain ⟨V1, hV1⟩ : ∃ V1, V1 = wi.alloc (Obj.cells #[.int .i64 px, .int .i64 py, .bool pz] 56) := ⟨_, rfl⟩
          obtain ⟨hbo, hcx, d0, d1, d2⟩ := box_pt hbx hV1
          have hb3l := (Array.getElem?_eq_some_iff.1 k3).1
          have hb2l := (Array.getElem?_eq_some_iff.1 k2).1
          have k3v := (hbo.block b3 hb3l).trans k3
          have k2v := (hbo.block b2 hb2l).trans k2
          have hn3 : bx ≠ b3 := by omega
          have hn2 : bx ≠ b2 := by omega
          have hbz := hbv.trans (hbo.mono hbv.size)
          obtain ⟨V2, hV2⟩ : ∃ V2, V2 = (((V1.setCell ⟨b3, 0, none⟩ (.int .i64 px)).setCell ⟨b3, 1, none⟩ (.int .i64 py)).setCell ⟨b3, 2, none⟩ (.int .i64 px)).setCell ⟨b3, 3, none⟩ (.int .i64 py) := ⟨_, rfl⟩
          obtain ⟨m3, mo, mb⟩ := set4 k3v rfl _ _ _ _ V2 hV2
          have hcx2 := (mo bx hn3).trans hcx
          have e0 : V2.cell? ⟨bx, 0, none⟩ = some (.int .i64 px) := (cell_of_row _ _ 0 _ _ _ hcx2).trans rfl
          have e1 : V2.cell? ⟨bx, 1, none⟩ = some (.int .i64 py) := (cell_of_row _ _ 1 _ _ _ hcx2).trans rfl
          obtain ⟨⟨r0, r1, r2, r3⟩, q0, q1, q2, q3⟩ := four_at k3v
          obtain ⟨⟨s0, s1, s2, s3⟩, z0, z1, z2, z3⟩ := four_at m3
          have hbz2 := hbz.trans (mb w.heap.size hlt3)
          have m2 := (mo b2 (fun h => hne h)).trans k2v
          clear hbo hcx d2 hcx2 hb3l hb2l
          replace hbv := hide hbv; replace hbx := hide hbx; replace hV1 := hide hV1; replace hV2 := hide hV2; replace hbz := hide hbz; replace hbz2 := hide hbz2; replace m2 := hide m2; replace m3 := hide m3; replace k3v := hide k3v; replace k2v := hide k2v
          replace hnx := hide hnx; replace hbn := hide hbn; replace hem := hide hem; replace hRc := hide hRc; replace hcur := hide hcur; replace mo := hide mo; replace mb := hide mb
          clear k3 k2 hc hlx hp
          cases hcu : cur.isEmpty with
          | true =>
            rw [hcu, if_pos rfl] at hrx
            injection hrx with y0 hrx
            injection hrx with y1 hrx
            injection hrx with y2 y3
            subst y0 y1 y2 y3
            replace hcu := hide hcu
            have hV1' := (unhide hV1).symm
            have hbx' := (unhide hbx).symm
            have hV2' := (unhide hV2).symm
            clear hV1 hbx hV2
            go_wp2_with fail
            obtain ⟨V3, hV3⟩ : ∃ V3, V3 = (((V2.setCell ⟨b3, 0, none⟩ (.int .i64 R2)).setCell ⟨b3, 1, none⟩ (.int .i64 R3)).setCell ⟨b3, 2, none⟩ (.int .i64 R2)).setCell ⟨b3, 3, none⟩ (.int .i64 R3) := ⟨_, rfl⟩
            obtain ⟨n3, no, nb⟩ := set4 (unhide m3) rfl _ _ _ _ V3 hV3
            rw [← hV3]
            go_roundw
            case rel => exact ⟨i + 1, by omega, by go_num, by rw [unhide hem]; rfl, by rw [unhide hbn]; simpa [boxUp, rcell] using n3, (no b2 hne).trans (unhide m2), (unhide hbz2).trans (nb _ hlt3)⟩
            case measure => simp [intOf]; omega
          | false =>
            rw [hcu] at hrx
            simp only [Bool.false_eq_true, if_false] at hrx
            rw [← hrx] at r0 r1 r2 r3
            simp only at r0 r1 r2 r3
            replace hrx := hide hrx
            clear s0 s1 s2 s3 z0 z1 z2 z3 e0 e1 hbz2 m2 m3
            replace hcu := hide hcu
            have hV1' := (unhide hV1).symm
            have hbx' := (unhide hbx).symm
            clear hV1 hbx hV2
            go_wp2_with fail
            obtain ⟨V3, hV3⟩ : ∃ V3, V3 = (((V1.setCell ⟨b3, 0, none⟩ (.int .i64 (min R0 px))).setCell ⟨b3, 1, none⟩ (.int .i64 (min R1 py))).setCell ⟨b3, 2, none⟩ (.int .i64 (max R2 px))).setCell ⟨b3, 3, none⟩ (.int .i64 (max R3 py)) := ⟨_, rfl⟩
            obtain ⟨n3, no, nb⟩ := set4 (unhide k3v) rfl _ _ _ _ V3 hV3
            rw [← hV3]
            go_roundw
            case rel => exact ⟨i + 1, by omega, by go_num, by rw [unhide hem], by rw [unhide hbn]; exact n3, (no b2 hne).trans (unhide k2v), (unhide hbz).trans (nb _ hlt3)⟩
            case measure => simp [intOf]; omega
        · have hxe : x.take i = x := List.take_of_length_le (by rw [unhide x1]; omega)
          simp only [hxe, ← unhide hfl]
          rw [hxe, ← unhide hfl] at k3
          replace k3 := hide k3; replace k2 := hide k2; replace hbv := hide hbv
          clear hxe hlx hc
          go_wp2_with fail
          go_roundw
          case rel => exact ⟨k + 1, by omega, by go_num, rfl, unhide k3, unhide k2, unhide hbv⟩
          case measure => simp [intOf]; omega
    · have hoe : o.take k = o := List.take_of_length_le (by have := unhide h1; omega)
      simp only [hoe]
      rw [hoe] at k3
      obtain ⟨⟨r0, r1, r2, r3⟩, _⟩ := four_at k3
      obtain ⟨_, q0, q1, q2, q3⟩ := four_at k2
      rw [unhide hR] at r0 r1 r2 r3
      simp only at r0 r1 r2 r3
      obtain ⟨V3, hV3⟩ : ∃ V3, V3 = (((wo.setCell ⟨b2, 0, none⟩ (.int .i64 R0)).setCell ⟨b2, 1, none⟩ (.int .i64 R1)).setCell ⟨b2, 2, none⟩ (.int .i64 R2)).setCell ⟨b2, 3, none⟩ (.int .i64 R3) := ⟨_, rfl⟩
      obtain ⟨n3, no, nb⟩ := set4 k2 rfl _ _ _ _ V3 hV3
      obtain ⟨⟨f0, f1, f2, f3⟩, _⟩ := four_at n3
      have hbz := hide (hbw.trans (nb _ hlt2))
      clear k3 k2 hoe hl hbw n3 no nb
      replace hV3 := hide hV3
      go_wp2_with fail
      rw [← unhide hV3]
      refine bodyPost_ret (v := .agg #[.int .i64 R0, .int .i64 R1, .int .i64 R2, .int .i64 R3]) (by simp [results, Try.results18, go_sem, f0, f1, f2, f3]) rfl ⟨rfl, unhide hbz⟩
end Go.Proofs.Ytbodidhggdggmaa
