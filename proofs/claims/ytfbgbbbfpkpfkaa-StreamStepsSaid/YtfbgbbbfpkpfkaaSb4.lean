/- Lookups: the program's Match. -/
import Derived.Test.YtfbgbbbfpkpfkaaSb3
import Derived.Deep.LoopGhost
namespace Go.Proofs.Ytfbgbbbfpkpfkaa
open Go.RowKit

/-- the three lists of a substitution, one after the other -/
def allOf (s : Sub) : List Int := s.1 ++ (s.2.1 ++ s.2.2.1)
theorem allOf_len (s : Sub) : (allOf s).length = s.1.length + s.2.1.length + s.2.2.1.length := by unfold allOf; simp [Nat.add_assoc]
theorem getElem?_app3 (a b c : List Int) : (∀ k, k < b.length → (a ++ (b ++ c))[a.length + k]? = b[k]?) ∧ (∀ k, k < c.length → (a ++ (b ++ c))[a.length + b.length + k]? = c[k]?) := by
  refine ⟨fun k hk => ?_, fun k hk => ?_⟩
  · rw [List.getElem?_append_right (by omega), Nat.add_sub_cancel_left, List.getElem?_append_left hk]
  · rw [List.getElem?_append_right (by omega), show a.length + b.length + k - a.length = b.length + k by omega, List.getElem?_append_right (by omega), Nat.add_sub_cancel_left]
/-- a substitution stands where its three lists stand -/
theorem subAt_iff (s : Sub) (g : List Int) (i : Nat) : subAt s g (i : Int) = true ↔ 0 < s.2.1.length ∧ s.1.length ≤ i ∧ i + s.2.1.length + s.2.2.1.length ≤ g.length ∧ ∀ k, k < (allOf s).length → g[i - s.1.length + k]? = (allOf s)[k]? := by
  unfold subAt standsS
  rw [Bool.and_eq_true, Bool.and_eq_true, Bool.and_eq_true, decide_eq_true_iff, decide_eq_true_iff, decide_eq_true_iff, decide_eq_true_iff]
  obtain ⟨q1, q2⟩ := getElem?_app3 s.1 s.2.1 s.2.2.1
  constructor
  · rintro ⟨⟨⟨h1, -, h2, h3⟩, h4, h5, h6⟩, h7, h8, h9⟩
    refine ⟨h1, by omega, by omega, fun k hk => ?_⟩
    rw [allOf_len] at hk
    unfold allOf
    by_cases k1 : k < s.1.length
    · rw [List.getElem?_append_left k1, ← h6 k k1]
      congr 1
      omega
    · by_cases k2 : k < s.1.length + s.2.1.length
      · have := q1 (k - s.1.length) (by omega)
        rw [show s.1.length + (k - s.1.length) = k by omega] at this
        rw [this, ← h3 (k - s.1.length) (by omega)]
        congr 1
        omega
      · have := q2 (k - s.1.length - s.2.1.length) (by omega)
        rw [show s.1.length + s.2.1.length + (k - s.1.length - s.2.1.length) = k by omega] at this
        rw [this, ← h9 (k - s.1.length - s.2.1.length) (by omega)]
        congr 1
        omega
  · rintro ⟨h1, h2, h3, h4⟩
    rw [allOf_len] at h4
    unfold allOf at h4
    refine ⟨⟨⟨h1, by omega, by omega, fun k hk => ?_⟩, by omega, by omega, fun k hk => ?_⟩, by omega, by omega, fun k hk => ?_⟩
    · rw [← q1 k hk, ← h4 (s.1.length + k) (by omega)]
      congr 1
      omega
    · have := h4 k (by omega)
      rw [List.getElem?_append_left hk] at this
      rw [← this]
      congr 1
      omega
    · rw [← q2 k hk, ← h4 (s.1.length + s.2.1.length + k) (by omega)]
      congr 1
      omega
theorem subAt_no {s : Sub} {g : List Int} {i : Nat} (h : ¬ (0 < s.2.1.length ∧ s.1.length ≤ i ∧ i + s.2.1.length + s.2.2.1.length ≤ g.length)) : subAt s g (i : Int) = false := by
  cases hb : subAt s g (i : Int) with
  | false => rfl
  | true =>
    have := (subAt_iff s g i).1 hb
    exact absurd ⟨this.1, this.2.1, this.2.2.1⟩ h
theorem subAt_bad {s : Sub} {g : List Int} {i k : Nat} {x y : Int} (hx : g[i - s.1.length + k]? = some x) (hy : (allOf s)[k]? = some y) (hne : x ≠ y) : subAt s g (i : Int) = false := by
  cases hb : subAt s g (i : Int) with
  | false => rfl
  | true =>
    have := ((subAt_iff s g i).1 hb).2.2.2 k (List.getElem?_eq_some_iff.1 hy).1
    rw [hx, hy] at this
    exact absurd (Option.some.inj this) hne
set_option maxRecDepth 100000 in
set_option maxHeartbeats 4000000 in
theorem match_any (xa : Option Addr) (xn xc : Nat) (x : List Sub) (ga : Option Addr) (gn gc : Nat) (g : List Int) (i : Int) (w : World) (hx : Lst Enc.sub w (· < w.heap.size) xa xn x) (hg : Lst Enc.int w (· < w.heap.size) ga gn g)
    (hsm : Small x) (hgn : gn ≤ 1000000000) :
    Calls Try.prog 55 #[.agg #[.slice xa xn xc], .slice ga gn gc, .int .i64 i] w fun e w' => e = .returned (.int .i64 (matchS x g i)) ∧ Below w.heap.size w w' := by
  have hxl := hx.1
  have hgl := hg.1
  have hxn : xn ≤ 1000 := by rw [← hxl]; exact hsm.1
  by_cases hi0 : 0 ≤ i
  rotate_left
  · have hfin := matchS_out (x := x) (g := g) (i := i) (fun h => hi0 h.1)
    rw [hfin]
    have t1 : i < 0 := by omega
    clear hfin hx hg
    go_enter Try.func55, Try.ntmps55
    go_wp2_with fail
    go_step3
    go_wp2_with fail
    rw [Exit.noGoto_ret]
    go_ret
    exact ⟨rfl, (Below.refl _ _).alloc (Nat.le_refl _) _⟩
  obtain ⟨p, rfl⟩ := Int.eq_ofNat_of_zero_le hi0
  clear hi0
  by_cases hpn : p < gn
  rotate_left
  · have hfin := matchS_out (x := x) (g := g) (i := (p : Int)) (fun h => hpn (by omega))
    rw [hfin]
    have t1 : (gn : Int) ≤ (p : Int) := by omega
    clear hfin hx hg
    go_enter Try.func55, Try.ntmps55
    go_wp2_with fail
    go_step3
    go_wp2_with fail
    rw [Exit.noGoto_ret]
    go_ret
    exact ⟨rfl, (Below.refl _ _).alloc (Nat.le_refl _) _⟩
  have t1 : ¬ (gn : Int) ≤ (p : Int) := by omega
  obtain ⟨bx, hbx⟩ : ∃ bx, bx = w.heap.size := ⟨_, rfl⟩
  obtain ⟨V, hV⟩ : ∃ V, V = w.alloc (Obj.cells #[.slice xa xn xc] 37) := ⟨_, rfl⟩
  have hr0 : V.heap[bx]? = some (.cells #[.slice xa xn xc] 37 (0, 0)) := by rw [hV, hbx]; exact heap_alloc_new w _
  have hb0 : Below w.heap.size w V := by rw [hV]; exact (Below.refl _ _).alloc (Nat.le_refl _) _
  have hxV := hx.under hb0
  have hgV := hg.under hb0
  have hc0 : V.cell? ⟨bx, 0, none⟩ = some (.slice xa xn xc) := (cell_of_row _ _ 0 _ _ _ hr0).trans rfl
  clear hx hg hr0
  replace hV := hide hV; replace hbx := hide hbx; replace hb0 := hide hb0; replace hxV := hide hxV; replace hgV := hide hgV; replace hxl := hide hxl; replace hgl := hide hgl
  go_enter Try.func55, Try.ntmps55
  go_wp2_with fail
  go_step3
  go_wp2_with fail
  rw [← unhide hV, ← unhide hbx]
  go_wp2_with fail
  go_step3
  go_wp2_with fail
  have ta : decide ((p : Int) < 0) = false := decide_eq_false (by omega)
  have tb : decide (gn ≤ p) = false := decide_eq_false (by omega)
  simp only [ta, tb, Bool.or_false]
  clear ta tb
  go_loopg [24] xn (fun q v wr => ∃ k : Nat, k + q = xn ∧ v = .int .i64 (k : Int) ∧ (∀ m s, m < k → x[m]? = some s → subAt s g (p : Int) = false) ∧ Below V.heap.size V wr)
  case atStart => exact ⟨0, by omega, rfl, fun m s hm => by omega, Below.refl _ _⟩
  case round =>
    obtain ⟨k, hk, rfl, hno, hbw⟩ := hrel
    obtain ⟨wo, rfl⟩ : ∃ wo : World, wo = wr := ⟨_, rfl⟩
    replace hno := hide hno
    by_cases hlt : k < xn
    · obtain ⟨gq, rfl⟩ : ∃ q, gk = q + 1 := ⟨gk - 1, by omega⟩
      obtain ⟨b, off, s, a1, n1, c1, a2, n2, c2, a3, n3, c3, rfl, hSb, hs, ⟨_, _, hl1⟩, ⟨_, _, hl2⟩, ⟨_, _, hl3⟩, hto, h1, h2, h3, h4⟩ := lst_sub ((unhide hxV).under hbw) hlt
      have hsmall := hsm.2 s (List.mem_of_getElem? hs)
      rw [hl1.1, hl2.1, hl3.1] at hsmall
      obtain ⟨hn1, hn2, hn3⟩ := hsmall
      replace hs := hide hs
      replace hl1 := hide hl1; replace hl2 := hide hl2; replace hl3 := hide hl3
      obtain ⟨bs, hbs⟩ : ∃ bs, bs = wo.heap.size := ⟨_, rfl⟩
      obtain ⟨w1, hw1⟩ : ∃ w1, w1 = wo.alloc (Obj.cells #[.slice a1 n1 c1, .slice a2 n2 c2, .slice a3 n3 c3, .int .i64 s.2.2.2] 56) := ⟨_, rfl⟩
      have hr1 : w1.heap[bs]? = some (.cells #[.slice a1 n1 c1, .slice a2 n2 c2, .slice a3 n3 c3, .int .i64 s.2.2.2] 56 (0, 0)) := by rw [hw1, hbs]; exact heap_alloc_new wo _
      have hb1 : Below wo.heap.size wo w1 := by rw [hw1]; exact (Below.refl _ _).alloc (Nat.le_refl _) _
      have d0 : w1.cell? ⟨bs, 0, none⟩ = some (.slice a1 n1 c1) := (cell_of_row _ _ 0 _ _ _ hr1).trans rfl
      have d1 : w1.cell? ⟨bs, 1, none⟩ = some (.slice a2 n2 c2) := (cell_of_row _ _ 1 _ _ _ hr1).trans rfl
      have d2 : w1.cell? ⟨bs, 2, none⟩ = some (.slice a3 n3 c3) := (cell_of_row _ _ 2 _ _ _ hr1).trans rfl
      have hbw1 := hbw.trans (hb1.mono hbw.size)
      replace hbs := hide hbs; replace hw1 := hide hw1; replace hr1 := hide hr1; replace hb1 := hide hb1; replace hbw := hide hbw; replace hbw1 := hide hbw1
      go_wp2_with fail
      rw [← unhide hw1, ← unhide hbs]
      go_wp2_with fail
      have t2 : IntKind.i64.wrap ((p : Int) - (n1 : Int)) = (p : Int) - (n1 : Int) := IntWalk.i64_in _ (by omega)
      have t3 : IntKind.i64.wrap ((p : Int) + (n2 : Int)) = (p : Int) + (n2 : Int) := IntWalk.i64_in _ (by omega)
      have t4 : IntKind.i64.wrap ((p : Int) + (n2 : Int) + (n3 : Int)) = (p : Int) + (n2 : Int) + (n3 : Int) := IntWalk.i64_in _ (by omega)
      have hnext : subAt s g (p : Int) = false → ∀ m s, m < k + 1 → x[m]? = some s → subAt s g (p : Int) = false := fun h m s' hm hs' => by
        rcases Nat.lt_succ_iff_lt_or_eq.1 hm with h1 | rfl
        · exact unhide hno m s' h1 hs'
        · rw [unhide hs] at hs'
          cases hs'
          exact h
      have hl1l := (unhide hl1).1
      have hl2l := (unhide hl2).1
      have hl3l := (unhide hl3).1
      replace hnext := hide hnext; replace hl1l := hide hl1l; replace hl2l := hide hl2l; replace hl3l := hide hl3l
      go_quiet (fail)
      have f0 : (w1.drewN nq).cell? ⟨bs, 0, none⟩ = some (.slice a1 n1 c1) := d0
      have f1 : (w1.drewN nq).cell? ⟨bs, 1, none⟩ = some (.slice a2 n2 c2) := d1
      have f2 : (w1.drewN nq).cell? ⟨bs, 2, none⟩ = some (.slice a3 n3 c3) := d2
      have hbw2 : Below V.heap.size V (w1.drewN nq) := blw_drewN (unhide hbw1) nq
      have hwq : Below wo.heap.size wo (w1.drewN nq) := blw_drewN (unhide hb1) nq
      obtain ⟨w2, hw2⟩ : ∃ w2, w1.drewN nq = w2 := ⟨_, rfl⟩
      rw [hw2] at f0 f1 f2 hbw2 hwq ⊢
      clear d0 d1 d2 hw2 hbw1 hb1 hr1 hw1 t2 t3 t4
      replace hbw2 := hide hbw2; replace hwq := hide hwq
      by_cases hv : 0 < n2 ∧ n1 ≤ p ∧ p + n2 + n3 ≤ gn
      · obtain ⟨v1, v2, v3⟩ := hv
        obtain ⟨e, he⟩ : ∃ e, p - n1 = e := ⟨_, rfl⟩
        have u1 : ¬ (n2 : Int) = 0 := by omega
        have u2 : (p : Int) - (n1 : Int) = (e : Int) := by omega
        have u3 : ¬ (e : Int) < 0 := by omega
        have u4 : ¬ (gn : Int) < (p : Int) + (n2 : Int) + (n3 : Int) := by omega
        have heg : e + (n1 + n2 + n3) ≤ gn := by omega
        rw [u2]
        obtain ⟨b3, hb3⟩ : ∃ b3, b3 = w2.heap.size := ⟨_, rfl⟩
        obtain ⟨w3, hw3⟩ : ∃ w3, w3 = w2.alloc (Obj.cells #[.slice a1 n1 c1, .slice a2 n2 c2, .slice a3 n3 c3] 22) := ⟨_, rfl⟩
        have hr3 : w3.heap[b3]? = some (.cells #[.slice a1 n1 c1, .slice a2 n2 c2, .slice a3 n3 c3] 22 (0, 0)) := by rw [hw3, hb3]; exact heap_alloc_new w2 _
        have hbb : Below w2.heap.size w2 w3 := by rw [hw3]; exact (Below.refl _ _).alloc (Nat.le_refl _) _
        have hwz := (unhide hwq).trans (hbb.mono (unhide hwq).size)
        have hbw3 := (unhide hbw2).trans (hbb.mono (unhide hbw2).size)
        have hcc := concat_any b3 a1 n1 c1 s.1 a2 n2 c2 s.2.1 a3 n3 c3 s.2.2.1 w3 ((cell_of_row _ _ 0 _ _ _ hr3).trans rfl) ((cell_of_row _ _ 1 _ _ _ hr3).trans rfl) ((cell_of_row _ _ 2 _ _ _ hr3).trans rfl) ((unhide hl1).under hwz) ((unhide hl2).under hwz) ((unhide hl3).under hwz) hn1 hn2 hn3
        clear hwz hbb hr3
        replace hcc := hide hcc; replace hw3 := hide hw3; replace hb3 := hide hb3; replace hbw3 := hide hbw3; replace he := hide he
        go_wp2_with fail
        rw [← unhide hw3, ← unhide hb3]
        refine (unhide hcc).mono ?_
        rintro er w4 ⟨v, rfl, hown, hb4⟩
        obtain ⟨ra, rc, rfl⟩ := own_shape hown
        have hbw4 := (unhide hbw3).trans (hb4.mono (unhide hbw3).size)
        have hrow := lst_own hown (fun y hy => by
          rcases List.mem_append.1 hy with h | h
          · exact (unhide hl1).i64 y h
          · rcases List.mem_append.1 h with h | h
            · exact (unhide hl2).i64 y h
            · exact (unhide hl3).i64 y h)
        have hrl := hrow.1
        have hgw := (unhide hgV).under hbw4
        obtain ⟨A, hA⟩ : ∃ A, s.1 ++ (s.2.1 ++ s.2.2.1) = A := ⟨_, rfl⟩
        have hAs : allOf s = A := hA
        have hAl : A.length = n1 + n2 + n3 := by rw [← hAs, allOf_len, unhide hl1l, unhide hl2l, unhide hl3l]
        rw [hA] at hrl ⊢
        clear hown hrow hA hcc hb4
        obtain ⟨L, hL⟩ : ∃ L, A.length = L := ⟨_, rfl⟩
        rw [hL] at hrl hAl ⊢
        replace hrl := hide hrl; replace hgw := hide hgw; replace hbw4 := hide hbw4; replace hAs := hide hAs; replace hL := hide hL
        go_wp2_with fail
        go_loopg [66] L (fun q v wr => ∃ j : Nat, j + q = L ∧ v = .int .i64 (j : Int) ∧ (∀ m, m < j → g[e + m]? = A[m]?) ∧ wr = w4)
        case atStart => exact ⟨0, by omega, rfl, fun m hm => by omega, rfl⟩
        case round =>
          obtain ⟨j, hj, rfl, heq, ew⟩ := hrel
          subst ew
          replace heq := hide heq
          by_cases hjl : j < L
          · obtain ⟨gr, rfl⟩ : ∃ q, gk = q + 1 := ⟨gk - 1, by omega⟩
            obtain ⟨ba, oa, y, rfl, _, hy, _, hcy⟩ := lst_int (unhide hrl) hjl
            obtain ⟨bg, og, z, rfl, _, hz, _, hcz⟩ := lst_int (unhide hgw) (show e + j < gn by omega)
            have q3 : IntKind.i64.wrap ((e : Int) + (j : Int)) = ((e + j : Nat) : Int) := by rw [IntWalk.i64_in _ (by omega)]; omega
            have q4 : (((e + j : Nat) : Int)) < (gn : Int) := by omega
            replace hy := hide hy; replace hz := hide hz
            by_cases hyz : z = y
            · subst hyz
              go_wp2_with fail
              go_roundg gr
              case rel =>
                refine ⟨j + 1, by omega, by go_num, fun m hm => ?_, rfl⟩
                rcases Nat.lt_succ_iff_lt_or_eq.1 hm with h1 | rfl
                · exact unhide heq m h1
                · exact (unhide hz).trans (unhide hy).symm
              case measure => omega
            · have hno' := unhide hnext (subAt_bad (k := j) (by rw [unhide hl1l, unhide he]; exact unhide hz) (by rw [unhide hAs]; exact unhide hy) hyz)
              replace hno' := hide hno'
              have q5 : (z != y) = true := by simpa using hyz
              replace hyz := hide hyz
              go_wp2_with fail
              go_roundg gq
              case rel => exact ⟨k + 1, by omega, by go_num, unhide hno', unhide hbw4⟩
              case measure => omega
          · have hjL : j = L := by omega
            subst hjL
            have hyes : subAt s g (p : Int) = true := (subAt_iff s g p).2 ⟨by rw [unhide hl2l]; exact v1, by rw [unhide hl1l]; exact v2, by rw [unhide hl2l, unhide hl3l, unhide hgl]; exact v3, fun m hm => by
              rw [unhide hAs] at hm ⊢
              rw [unhide hl1l, unhide he]
              exact unhide heq m (by rw [unhide hL] at hm; exact hm)⟩
            have hfin := matchS_some (x := x) (g := g) (i := (p : Int)) (k := k) (s := s) ⟨by omega, by rw [unhide hgl]; omega⟩ (unhide hs) (unhide hno) hyes
            replace hfin := hide hfin; replace hyes := hide hyes
            go_wp2_with fail
            (try rw [Exit.noGoto_ret])
            go_ret
            rw [unhide hfin]
            exact ⟨rfl, (unhide hb0).trans ((unhide hbw4).mono (unhide hb0).size)⟩
      · have hno' := unhide hnext (subAt_no (by rw [unhide hl1l, unhide hl2l, unhide hl3l, unhide hgl]; exact hv))
        replace hno' := hide hno'
        by_cases v1 : n2 = 0
        · subst v1
          go_wp2_with fail
          go_roundg gq
          case rel => exact ⟨k + 1, by omega, by go_num, unhide hno', unhide hbw2⟩
          case measure => omega
        · have u1 : ¬ (n2 : Int) = 0 := by omega
          by_cases v2 : n1 ≤ p
          · have u3 : ¬ (p : Int) - (n1 : Int) < 0 := by omega
            have u4 : (gn : Int) < (p : Int) + (n2 : Int) + (n3 : Int) := by omega
            replace hv := hide hv
            go_wp2_with fail
            go_roundg gq
            case rel => exact ⟨k + 1, by omega, by go_num, unhide hno', unhide hbw2⟩
            case measure => omega
          · have u3 : (p : Int) - (n1 : Int) < 0 := by omega
            replace hv := hide hv
            go_wp2_with fail
            go_roundg gq
            case rel => exact ⟨k + 1, by omega, by go_num, unhide hno', unhide hbw2⟩
            case measure => omega
    · have hfin : matchS x g (p : Int) = -1 := matchS_none (fun m s hm hs => unhide hno m s (by rw [unhide hxl] at hm; omega) hs)
      have hz := (unhide hb0).trans (hbw.mono (unhide hb0).size)
      replace hfin := hide hfin; replace hbw := hide hbw
      go_wp2_with fail
      (try rw [Exit.noGoto_ret])
      go_ret
      rw [unhide hfin]
      exact ⟨rfl, hz⟩
end Go.Proofs.Ytfbgbbbfpkpfkaa
