/- OutlineFlats: curve. -/
import Derived.Test.YtbodidhggdggmaaOpG
namespace Go.Proofs.Ytbodidhggdggmaa
open Go.RowKit
theorem own_set3 {w : World} {base g n cap e i : Nat} {c : List Pt} {p : Pt} (h : w.ownsRow base e 3 (.slice (some ⟨g, 0, none⟩) n cap) n (pcells c)) (q : Pt) (hp : c[i]? = some p) :
    (((w.setCell ⟨g, i * 3, none⟩ (.int .i64 q.1)).setCell ⟨g, i * 3 + 1, none⟩ (.int .i64 q.2.1)).setCell ⟨g, i * 3 + 2, none⟩ (.bool q.2.2)).ownsRow base e 3 (.slice (some ⟨g, 0, none⟩) n cap) n (pcells (c.set i q)) := by
  have hi := (List.getElem?_eq_some_iff.1 hp).1
  have a1 := (h.stored (i * 3 + 0) (.int .i64 q.1)).1
  rw [pcells_set c i p (q.1, p.2) 0 (.int .i64 q.1) hp (by decide) rfl] at a1
  have b1 := (a1.stored (i * 3 + 1) (.int .i64 q.2.1)).1
  rw [pcells_set (c.set i (q.1, p.2)) i (q.1, p.2) (q.1, q.2.1, p.2.2) 1 (.int .i64 q.2.1) (List.getElem?_set_self hi) (by decide) rfl] at b1
  have c1 := (b1.stored (i * 3 + 2) (.bool q.2.2)).1
  rw [pcells_set ((c.set i (q.1, p.2)).set i (q.1, q.2.1, p.2.2)) i (q.1, q.2.1, p.2.2) q 2 (.bool q.2.2) (List.getElem?_set_self (by simpa using hi)) (by decide) rfl, List.set_set, List.set_set] at c1
  exact c1
theorem own_at3 {w : World} {base g n cap e i : Nat} {c : List Pt} {p : Pt} (h : w.ownsRow base e 3 (.slice (some ⟨g, 0, none⟩) n cap) n (pcells c)) (hp : c[i]? = some p) (hn : c.length = n) :
    (w.cell? ⟨g, i * 3, none⟩ = some (.int .i64 p.1) ∧ w.cell? ⟨g, i * 3 + 1, none⟩ = some (.int .i64 p.2.1) ∧ w.cell? ⟨g, i * 3 + 2, none⟩ = some (.bool p.2.2)) ∧ (w.frozen? ⟨g, i * 3, none⟩ = false ∧ w.frozen? ⟨g, i * 3 + 1, none⟩ = false ∧ w.frozen? ⟨g, i * 3 + 2, none⟩ = false) := by
  have hi := (List.getElem?_eq_some_iff.1 hp).1
  have hat : ∀ j, j < 3 → w.cell? ⟨g, i * 3 + j, none⟩ = (pcell p)[j]? := fun j hj => by rw [h.cellAt _ (by omega), pcells_get c i p j hp hj]
  exact ⟨⟨hat 0 (by omega), hat 1 (by omega), hat 2 (by omega)⟩, h.frozenAt _, h.frozenAt _, h.frozenAt _⟩
set_option maxHeartbeats 8000000 in
set_option maxRecDepth 100000 in
theorem curve_any (a : Option Addr) (n c : Nat) (l : List Pt) (at0 : Nat) (bx by_ : Int) (bz : Bool) (w : World) (P : Nat → Pt) (hl : Lst Enc.pt w (· < w.heap.size) a n l) (hn : 1 ≤ n) (hn2 : n ≤ 1000) (hat : at0 ≤ 1000) (hP : ∀ t, t < 5 → l[(at0 + t) % n]? = some (P t))
    (hb : ∀ t, t < 5 → 0 ≤ (P t).1 ∧ (P t).1 ≤ 10000 ∧ 0 ≤ (P t).2.1 ∧ (P t).2.1 ≤ 10000) (hbb : 0 ≤ bx ∧ bx ≤ 48 ∧ 0 ≤ by_ ∧ by_ ≤ 48)
    (dx : ∀ t, t < 2 → (P t).1 - 2 * (P (t + 1)).1 + (P (t + 2)).1 = (P (t + 1)).1 - 2 * (P (t + 2)).1 + (P (t + 3)).1) (dy : ∀ t, t < 2 → (P t).2.1 - 2 * (P (t + 1)).2.1 + (P (t + 2)).2.1 = (P (t + 1)).2.1 - 2 * (P (t + 2)).2.1 + (P (t + 3)).2.1)
    (mx : 4 * (P 2).1 = (P 0).1 + 64 * bx + (P 4).1) (my : 4 * (P 2).2.1 = (P 0).2.1 + 64 * by_ + (P 4).2.1) :
    Calls Try.prog 26 #[.slice a n c, .int .i64 (at0 : Int), .agg #[.int .i64 bx, .int .i64 by_, .bool bz]] w fun e w' => e = .returned (.bool true) ∧ Below w.heap.size w w' := by
  obtain ⟨b5, V1, hb5, hV1, n5, k1, s1⟩ := al1 w (.cells #[.int .i64 bx, .int .i64 by_, .bool bz] 56)
  obtain ⟨b7, V2, hb7, hV2, n7, k2, s2⟩ := al1 V1 (.cells #[.int .i64 0, .int .i64 0, .bool false, .int .i64 0, .int .i64 0, .bool false, .int .i64 0, .int .i64 0, .bool false, .int .i64 0, .int .i64 0, .bool false, .int .i64 0, .int .i64 0, .bool false] 95)
  have k12 := k1.trans (k2.mono k1.size)
  have n52 := (k2.block b5 (by omega)).trans n5
  have hrow : V2.ownsRow b7 95 3 (.slice (some ⟨b7, 0, none⟩) 5 5) 5 (pcells (List.replicate 5 zP)) := ⟨by rw [pcells_len]; rfl, .inr ⟨b7, 5, _, rfl, Nat.le_refl _, n7, Nat.le_refl _, by decide, rfl, rfl⟩⟩
  have hPL : ((List.range 5).map P).length = (List.replicate 5 zP).length := by simp
  have hPt : ∀ t, t < 5 → ((List.range 5).map P)[t]? = some (P t) := fun t ht => by rw [List.getElem?_map, List.getElem?_range ht]; rfl
  have hwb : w.heap.size ≤ b7 := by omega
  have hb57 : b5 < b7 := by omega
  clear n7 k1 k2 s1 s2 n5
  replace hl := hide hl; replace hP := hide hP; replace hb := hide hb; replace dx := hide dx; replace dy := hide dy; replace mx := hide mx; replace my := hide my; replace k12 := hide k12; replace n52 := hide n52; replace hrow := hide hrow; replace hPL := hide hPL; replace hPt := hide hPt
  go_enter Try.func26, Try.ntmps26
  go_wp2_with fail
  clear hV1 hV2 hb5 hb7
  go_loopw [8] (fun v wr => ∃ t : Nat, t ≤ 5 ∧ v = .int .i64 (t : Int) ∧ wr.ownsRow b7 95 3 (.slice (some ⟨b7, 0, none⟩) 5 5) 5 (pcells (mix ((List.range 5).map P) (List.replicate 5 zP) t)) ∧ Below b7 V2 wr) (fun v _ => (5 - intOf v).toNat)
  case atStart => exact ⟨0, by omega, rfl, by rw [mix_zero]; exact unhide hrow, Below.refl _ _⟩
  case round =>
    clear hrow
    obtain ⟨t, ht, rfl, hrow, hbw⟩ := hrel
    obtain ⟨wo, rfl⟩ : ∃ V : World, V = wr := ⟨_, rfl⟩
    have hbW := (unhide k12).trans (hbw.mono hwb)
    by_cases hlt : t < 5
    · obtain ⟨m, hm⟩ : ∃ m, (at0 + t) % n = m := ⟨_, rfl⟩
      have hmn : m < n := by rw [← hm]; exact Nat.mod_lt _ (by omega)
      have htm : Int.tmod ((at0 : Int) + (t : Int)) (n : Int) = (m : Int) := by
        rw [Int.tmod_eq_emod_of_nonneg (by omega), ← hm, Int.natCast_emod]
        rfl
      obtain ⟨g, og, x, y, z, rfl, _, hp, _, _, p0, p1, p2⟩ := lst_pt ((unhide hl).under hbW) hmn
      have hpt := unhide hP t hlt
      rw [hm, hp] at hpt
      injection hpt with hpt
      have hq := unhide hPt t hlt
      rw [← hpt] at hq
      have hgz : (mix ((List.range 5).map P) (List.replicate 5 zP) t)[t]? = some zP := by rw [mix_get (unhide hPL), List.getElem?_replicate, if_pos hlt]
      obtain ⟨⟨c0, c1, c2⟩, f0, f1, f2⟩ := own_at3 hrow hgz (by rw [mix_len (unhide hPL)]; rfl)
      have hr2 := own_set3 hrow (x, y, z) hgz
      rw [mix_step (unhide hPL) hq] at hr2
      have hbz := ((hbw.setCell (p := ⟨b7, t * 3, none⟩) (Nat.le_refl _) (.int .i64 x)).setCell (p := ⟨b7, t * 3 + 1, none⟩) (Nat.le_refl _) (.int .i64 y)).setCell (p := ⟨b7, t * 3 + 2, none⟩) (Nat.le_refl _) (.bool z)
      obtain ⟨V9, hV9⟩ : ∃ V9, ((wo.setCell ⟨b7, t * 3, none⟩ (.int .i64 x)).setCell ⟨b7, t * 3 + 1, none⟩ (.int .i64 y)).setCell ⟨b7, t * 3 + 2, none⟩ (.bool z) = V9 := ⟨_, rfl⟩
      simp only at hr2
      rw [hV9] at hr2 hbz
      have t1 : (t : Int) < 5 := by omega
      have t2 : (m : Int) < (n : Int) := by omega
      clear hrow hbw hbW hp hpt hq hgz
      replace hr2 := hide hr2; replace hbz := hide hbz; replace hm := hide hm
      go_wp2_with fail
      go_roundw
      case rel => exact ⟨t + 1, by omega, by go_num, unhide hr2, unhide hbz⟩
      case measure => simp [intOf]; omega
    · have hte : t = 5 := by omega
      subst hte
      rw [mix_all (by rw [List.length_map, List.length_range]; exact Nat.le_refl _) (by rw [List.length_replicate]; exact Nat.le_refl _)] at hrow
      have hlen5 : ((List.range 5).map P).length = 5 := by rw [List.length_map, List.length_range]
      obtain ⟨⟨x0, y0, z0⟩, e0⟩ : ∃ p, P 0 = p := ⟨_, rfl⟩
      obtain ⟨⟨x1, y1, z1⟩, e1⟩ : ∃ p, P 1 = p := ⟨_, rfl⟩
      obtain ⟨⟨x2, y2, z2⟩, e2⟩ : ∃ p, P 2 = p := ⟨_, rfl⟩
      obtain ⟨⟨x3, y3, z3⟩, e3⟩ : ∃ p, P 3 = p := ⟨_, rfl⟩
      obtain ⟨⟨x4, y4, z4⟩, e4⟩ : ∃ p, P 4 = p := ⟨_, rfl⟩
      obtain ⟨⟨a0, a1, a2⟩, _⟩ := own_at3 hrow (unhide hPt 0 (by omega)) hlen5
      obtain ⟨⟨c0, c1, c2⟩, _⟩ := own_at3 hrow (unhide hPt 1 (by omega)) hlen5
      obtain ⟨⟨f0, f1, f2⟩, _⟩ := own_at3 hrow (unhide hPt 2 (by omega)) hlen5
      obtain ⟨⟨g0, g1, g2⟩, _⟩ := own_at3 hrow (unhide hPt 3 (by omega)) hlen5
      obtain ⟨⟨h0, h1, h2⟩, _⟩ := own_at3 hrow (unhide hPt 4 (by omega)) hlen5
      have n5w := (hbw.block b5 hb57).trans (unhide n52)
      have q0 : wo.cell? ⟨b5, 0, none⟩ = some (.int .i64 bx) := (cell_of_row _ _ 0 _ _ _ n5w).trans rfl
      have q1 : wo.cell? ⟨b5, 1, none⟩ = some (.int .i64 by_) := (cell_of_row _ _ 1 _ _ _ n5w).trans rfl
      have b0 := unhide hb 0 (by omega)
      have b1 := unhide hb 1 (by omega)
      have b2 := unhide hb 2 (by omega)
      have b3 := unhide hb 3 (by omega)
      have b4 := unhide hb 4 (by omega)
      have dx0 := unhide dx 0 (by omega)
      have dx1 := unhide dx 1 (by omega)
      have dy0 := unhide dy 0 (by omega)
      have dy1 := unhide dy 1 (by omega)
      have mx' := unhide mx
      have my' := unhide my
      simp only [Nat.zero_add, Nat.reduceAdd, Nat.reduceMul, Nat.zero_mul] at dx0 dx1 dy0 dy1 a0 a1 a2 c0 c1 c2 f0 f1 f2 g0 g1 g2 h0 h1 h2
      rw [e0] at a0 a1 b0 dx0 dy0 mx' my'
      rw [e1] at c0 c1 b1 dx0 dy0 dx1 dy1
      rw [e2] at f0 f1 b2 dx0 dy0 dx1 dy1 mx' my'
      rw [e3] at g0 g1 b3 dx0 dy0 dx1 dy1
      rw [e4] at h0 h1 b4 dx1 dy1 mx' my'
      simp only at a0 a1 c0 c1 f0 f1 g0 g1 h0 h1 b0 b1 b2 b3 b4 dx0 dy0 dx1 dy1 mx' my'
      have w0 : ((x0 - 2 * x1 + x2) != (x1 - 2 * x2 + x3)) = false := by rw [dx0]; exact bne_self_eq_false _
      have w1 : ((y0 - 2 * y1 + y2) != (y1 - 2 * y2 + y3)) = false := by rw [dy0]; exact bne_self_eq_false _
      have w2 : ((x1 - 2 * x2 + x3) != (x2 - 2 * x3 + x4)) = false := by rw [dx1]; exact bne_self_eq_false _
      have w3 : ((y1 - 2 * y2 + y3) != (y2 - 2 * y3 + y4)) = false := by rw [dy1]; exact bne_self_eq_false _
      have w4 : ((4 * x2) == (x0 + 64 * bx + x4)) = true := by rw [mx']; exact beq_self_eq_true _
      have w5 : ((4 * y2) == (y0 + 64 * by_ + y4)) = true := by rw [my']; exact beq_self_eq_true _
      have hbz := hide ((unhide k12).trans (hbw.mono hwb))
      clear hrow hbw n5w e0 e1 e2 e3 e4 a2 c2 f2 g2 h2 hl hP hb dx dy mx my
      replace dx0 := hide dx0; replace dx1 := hide dx1; replace dy0 := hide dy0; replace dy1 := hide dy1; replace mx' := hide mx'; replace my' := hide my'; replace hlen5 := hide hlen5
      go_wp2_with fail
      go_loopw [9] (fun v wi => ∃ (t : Nat) (q : Nat), t ≤ 2 ∧ v = .int .i64 (t : Int) ∧ wi = wo.drewN q) (fun v _ => (2 - intOf v).toNat)
      case atStart => exact ⟨0, 0, by omega, rfl, rfl⟩
      case round =>
        obtain ⟨t, q, ht2, rfl, rfl⟩ := hrel
        by_cases hlt : t < 2
        · have : t = 0 ∨ t = 1 := by omega
          rcases this with rfl | rfl
          · go_wp2_with fail
            simp only [List.append]
            go_quiet (fail)
            go_wp2_with fail
            go_roundw
            case rel => exact ⟨1, _, by omega, rfl, by first | rfl | exact World.drewN_drewN _ _ _⟩
            case measure => simp [intOf]
          · go_wp2_with fail
            simp only [List.append]
            go_quiet (fail)
            go_wp2_with fail
            go_roundw
            case rel => exact ⟨2, _, by omega, rfl, by first | rfl | exact World.drewN_drewN _ _ _⟩
            case measure => simp [intOf]
        · have hte : t = 2 := by omega
          subst hte
          go_wp2_with fail
          go_ret
          exact ⟨rfl, blw_drewN (unhide hbz) _⟩
end Go.Proofs.Ytbodidhggdggmaa
