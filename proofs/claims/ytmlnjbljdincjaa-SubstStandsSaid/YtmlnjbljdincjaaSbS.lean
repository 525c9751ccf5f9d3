/- SubstStands. -/
import Derived.Test.YtmlnjbljdincjaaSbS0
namespace Go.Proofs.Ytmlnjbljdincjaa
open Go.RowKit
def tosX (v : Int) (x : List Sub) : Bool := x.any fun s => decide (s.2.2.2 = v)
def tosL (v : Int) (l : List (List Sub)) : Bool := l.any (tosX v)
theorem tosX_succ {v : Int} {x : List Sub} {j : Nat} {s : Sub} (h : x[j]? = some s) : tosX v (x.take (j + 1)) = (tosX v (x.take j) || decide (s.2.2.2 = v)) := by
  unfold tosX
  rw [List.take_add_one, h, List.any_append]
  simp
theorem tosL_succ {v : Int} {l : List (List Sub)} {i : Nat} {x : List Sub} (h : l[i]? = some x) : tosL v (l.take (i + 1)) = (tosL v (l.take i) || tosX v x) := by
  unfold tosL
  rw [List.take_add_one, h, List.any_append]
  simp
theorem tosL_of {v : Int} {l : List (List Sub)} (h : ∃ x ∈ l, ∃ s ∈ x, s.2.2.2 = v) : tosL v l = true := by
  obtain ⟨x, hx, s, hs, he⟩ := h
  unfold tosL
  rw [List.any_eq_true]
  refine ⟨x, hx, ?_⟩
  unfold tosX
  rw [List.any_eq_true]
  exact ⟨s, hs, decide_eq_true he⟩
theorem Two.set {w : World} {B b o : Nat} {x v1 v2 : Value} {l1 l2 : List Int} (h : Two w B v1 l1 v2 l2) (hb : b < B) : Two (w.setCell ⟨b, o, none⟩ x) B v1 l1 v2 l2 := by
  have hk : ∀ v c, w.ownsRow B 3 1 v c.length (vints c) → ∀ g, v.ownBlock = some g → (w.setCell ⟨b, o, none⟩ x).heap[g]? = w.heap[g]? := fun v c hr g hg => (grown_set (w := w) b o x).block g (hr.lt g hg).2 (fun e => by injection e; have := (hr.lt g hg).1; omega)
  exact ⟨own_same h.r1 (hk _ _ h.r1), own_same h.r2 (hk _ _ h.r2), h.ap⟩
theorem Lst.set {α : Type} {E : Enc α} {w : World} {B b o n : Nat} {a : Option Addr} {x : Value} {l : List α} (h : Lst E w (· < B) a n l) (hb : B ≤ b) (hB : B ≤ w.heap.size) : Lst E (w.setCell ⟨b, o, none⟩ x) (· < B) a n l :=
  h.same (fun g hg => (grown_set (w := w) b o x).block g (by omega) (fun e => by injection e; omega))
set_option maxRecDepth 100000 in
set_option maxHeartbeats 8000000 in
theorem substStands_any (na : Option Addr) (nn nc : Nat) (N : List Int) (ga : Option Addr) (gn gc : Nat) (g : List Int) (w : World) (hN : Lst Enc.int w (fun b => b < w.heap.size) na nn N) (hN1 : nn ≤ nc) (hN2 : nc ≤ maxLen) (hG : Lst Enc.int w (fun b => b < w.heap.size) ga gn g) (hG1 : gn ≤ gc) (hG2 : gc ≤ maxLen) :
    Calls Try.prog 5 #[.slice na nn nc, .slice ga gn gc] w fun e w' => e = .returned (.bool true) ∧ Below w.heap.size w w' := by
  have hG0 := hide hG
  replace hN := hide hN; replace hG := hide hG
  go_enter Try.func5, Try.ntmps5
  go_wp2_with fail
  refine (sanity_any _).mono ?_
  rintro e w1 ⟨rfl, hb1⟩
  have hN' := (unhide hN).under hb1
  have hG' := (unhide hG).under hb1
  have hz := hb1
  clear hN hG hb1
  have hc := made_any na nn nc N 4 w1 hN' (by omega) (by omega) (by omega)
  clear hN'
  replace hc := hide hc; replace hG' := hide hG'; replace hz := hide hz
  go_wp2_with fail
  refine (unhide hc).mono ?_
  rintro e w3 ⟨la, lc, l, rfl, hl, hlg, hb⟩
  have hG := (unhide hG').under hb
  have hz' := (unhide hz).trans (hb.mono (unhide hz).size)
  clear hc hG' hz hb
  have hc := glyphs_any ga gn gc g 4 w3 hG (by omega) (by omega) (by omega)
  obtain ⟨ln, hln⟩ : ∃ ln, l.length = ln := ⟨_, rfl⟩
  rw [hln] at hl ⊢
  replace hc := hide hc; replace hz' := hide hz'; replace hl := hide hl; replace hlg := hide hlg; replace hln := hide hln; replace hG := hide hG
  go_wp2_with fail
  refine (unhide hc).mono ?_
  rintro e w4 ⟨v, rfl, hown, hb⟩
  have hxb := glyphsS_mem g 4 (by decide)
  have hxl := glyphsS_len g 4
  obtain ⟨X, hX⟩ : ∃ X, glyphsS g 4 = X := ⟨_, rfl⟩
  rw [hX] at hown hxb hxl
  have hXi : AllI X := fun y hy => by have := hxb y hy; exact ⟨by omega, by omega⟩
  obtain ⟨xa, xc, rfl, -, hx⟩ := own_lst hown hXi
  obtain ⟨xn, hxn⟩ : ∃ xn, X.length = xn := ⟨_, rfl⟩
  rw [hxn] at hx hxl ⊢
  have hl4 := (unhide hl).under hb
  have hG4 := (unhide hG).under hb
  have hz4 := (unhide hz').trans (hb.mono (unhide hz').size)
  clear hc hown hz' hb hl hG hxb
  have hll := (unhide hlg).1
  rw [unhide hln] at hll
  have hc := apply_any la ln lc l xa xn xc X w4 hl4 hx (by omega) (goodL_small (unhide hlg)) (goodL_to (by decide) (unhide hlg)) (by omega)
  have hi := applyS_i64 (goodL_to (by decide) (unhide hlg)) hXi (by omega)
  have hinv := sinv_all l X
  obtain ⟨st, hst⟩ : ∃ st, applyS l X = st := ⟨_, rfl⟩
  rw [hst] at hc hi hinv
  obtain ⟨Al, Bl⟩ := st
  simp only at hc hi
  clear hst
  replace hc := hide hc; replace hi := hide hi; replace hinv := hide hinv; replace hl4 := hide hl4; replace hx := hide hx; replace hG4 := hide hG4; replace hz4 := hide hz4; replace hX := hide hX; replace hxn := hide hxn; replace hXi := hide hXi
  go_wp2_with fail
  refine (unhide hc).mono ?_
  rintro e w5 ⟨q1, q2, rfl, ht, hb⟩
  obtain ⟨a1, c1, a2, c2, rfl, rfl, hA, hB⟩ := ht.lst (unhide hi).1 (unhide hi).2
  have hrow := ht.r1
  have hABl := (unhide hinv).len
  have hAle := (unhide hinv).le
  have hne := (unhide hinv).ne
  simp only at hABl hAle hne
  obtain ⟨an, han⟩ : ∃ an, Al.length = an := ⟨_, rfl⟩
  rw [← hABl, han] at hB
  rw [han] at hA hrow
  simp only [← hABl, han]
  rw [unhide hxn] at hAle hne
  rw [han] at hAle hne hABl
  have hx5 := (unhide hx).under hb
  have hl5 := (unhide hl4).under hb
  have hG5 := (unhide hG4).under hb
  have hz5 := (unhide hz4).trans (hb.mono (unhide hz4).size)
  have hxlow := unhide hx
  have hwW := (unhide hz4).size
  obtain ⟨W4, hW4⟩ : ∃ W, w4.heap.size = W := ⟨_, rfl⟩
  rw [hW4] at hwW
  rw [hW4] at hrow hxlow hb
  have hxl5 := hxlow.below hb
  clear hc hx hl4 hG4 hz4 ht hxlow hi
  replace hrow := hide hrow; replace hA := hide hA; replace hB := hide hB; replace hx5 := hide hx5; replace hl5 := hide hl5; replace hG5 := hide hG5; replace hz5 := hide hz5; replace hxl5 := hide hxl5; replace hW4 := hide hW4; replace hb := hide hb; replace hABl := hide hABl; replace han := hide han
  have t0 : ¬ (xn : Int) < (an : Int) := by omega
  have t1 : ((an : Int) == 0) = ((xn : Int) == 0) := by
    by_cases h : an = 0
    · have := hne.1 h
      subst h
      subst this
      rfl
    · have h2 : ¬ xn = 0 := fun e => h (hne.2 e)
      rw [beq_eq_false_iff_ne.2 (by omega), beq_eq_false_iff_ne.2 (by omega)]
  replace hne := hide hne
  go_wp2_with fail
  go_loopw [50] (fun v wr => ∃ k q : Nat, k ≤ an ∧ v = .int .i64 (k : Int) ∧ wr = w5.drewN q) (fun v _ => an - (intOf v).toNat)
  case atStart => exact ⟨0, 0, by omega, rfl, rfl⟩
  case round =>
    obtain ⟨k, q, hk, rfl, rfl⟩ := hrel
    by_cases hlt : k < an
    · obtain ⟨bA, oA, gk, rfl, _, hgk, hgi, cA⟩ := lst_int (unhide hA) hlt
      obtain ⟨bB, oB, fk, rfl, _, hfk, _, cB⟩ := lst_int (unhide hB) hlt
      have hr := (unhide hinv).rng fk (List.mem_of_getElem? hfk)
      have hel := (unhide hinv).el k gk fk hgk hfk
      have hpa := (unhide hinv).at_ hfk
      obtain ⟨f, rfl⟩ := Int.eq_ofNat_of_zero_le hr.1
      rw [Int.toNat_natCast] at hel
      have hfx : f < xn := by have := hr.2; rw [unhide hxn] at this; omega
      obtain ⟨bX, oX, z, rfl, _, hzX, _, cX⟩ := lst_int (unhide hx5) hfx
      have hfin : (gk == z || tosL gk l) = true := by
        rcases hel with h | h
        · have := Option.some.inj (hzX.symm.trans h)
          subst this
          rw [beq_self_eq_true]
          rfl
        · rw [tosL_of h, Bool.or_true]
      have i1 : (f : Int) < (xn : Int) := by omega
      have i2 : ¬ (xn : Int) ≤ (f : Int) := by omega
      have i3 : ¬ (f : Int) < 0 := by omega
      have d1 : decide ((f : Int) < 0) = false := decide_eq_false (by omega)
      have d2 : decide ((xn : Int) ≤ (f : Int)) = false := decide_eq_false (by omega)
      have d2' : decide (xn ≤ f) = false := decide_eq_false (by omega)
      replace hfin := hide hfin
      clear hr hel hzX hgk
      have h0 : (k = 0 ∧ f = 0) ∨ ∃ (r : Nat) (y' : Int), 0 < k ∧ IntKind.i64.wrap ((k : Int) - 1) = (r : Int) ∧ r < an ∧ ¬ (f : Int) ≤ y' ∧ w5.cell? ⟨bB, oB + r, none⟩ = some (.int .i64 y') := by
        rcases hpa with ⟨hk0, hf0⟩ | ⟨r, y, hkr, hy, hyf⟩
        · exact .inl ⟨hk0, by omega⟩
        · obtain ⟨bB', oB', y', hbe, _, hy', _, cB'⟩ := lst_int (unhide hB) (show r < an by omega)
          cases hbe
          have hyy := Option.some.inj (hy'.symm.trans hy)
          subst hyy
          exact .inr ⟨r, y', by omega, by rw [IntWalk.i64_in _ (by omega)]; omega, by omega, by omega, cB'⟩
      clear hpa hfk
      rcases h0 with ⟨hk0, hf0⟩ | ⟨r, y', t3, t1, t5, t4, cB'⟩
      · have t2 : ((k : Int) == 0) = true := by rw [beq_iff_eq]; omega
        have t3 : ¬ 0 < k := by omega
        have t3' : ¬ (0 : Int) < (k : Int) := by omega
        have t4 : ((f : Int) != 0) = false := by rw [bne_eq_false_iff_eq]; omega
        have t5 : (f : Int) = 0 := by omega
        have t6 : (k : Int) = 0 := by omega
        have t7 : ((f : Int) == 0) = true := by rw [beq_iff_eq]; omega
        have d3 : decide ((0 : Int) < (k : Int)) = false := decide_eq_false (by omega)
        have d3' : decide (0 < k) = false := decide_eq_false (by omega)
        replace hk0 := hide hk0; replace hf0 := hide hf0; replace t5 := hide t5; replace t6 := hide t6
        go_wp2_with fail
        go_quiet (fail)
        go_wp2_with fail
        try rw [World.drewN_drewN]
        obtain ⟨q2, hq2⟩ : ∃ q2, q2 = q + nq := ⟨_, rfl⟩
        rw [← hq2]
        clear hq2
        go_quiet (fail)
        go_wp2_with fail
        try rw [World.drewN_drewN]
        obtain ⟨q3, hq3⟩ : ∃ q3, q3 = q2 + nq := ⟨_, rfl⟩
        rw [← hq3]
        clear hq3
        go_loopw [11, 108] (fun u v wr => ∃ i qi : Nat, i ≤ ln ∧ u = .bool (gk == z || tosL gk (l.take i)) ∧ v = .int .i64 (i : Int) ∧ wr = w5.drewN qi) (fun _ v _ => ln - (intOf v).toNat)
        case atStart => exact ⟨0, q3, by omega, by simp [tosL], rfl, rfl⟩
        case round =>
          obtain ⟨i, qi, hi, rfl, rfl, rfl⟩ := hrel
          by_cases hlt2 : i < ln
          · obtain ⟨bL, oL, x, xa', xn', xc', rfl, _, hx', hxc1, hxc2, hX', cL⟩ := lst_list (unhide hl5) hlt2
            have hxn' := hX'.1
            have hsm := (goodL_small (unhide hlg) x (List.mem_of_getElem? hx')).1
            have hsucc := tosL_succ (v := gk) hx'
            obtain ⟨b0, hb0⟩ : ∃ b0, (gk == z || tosL gk (l.take i)) = b0 := ⟨_, rfl⟩
            have hsucc2 : (gk == z || tosL gk (l.take (i + 1))) = (b0 || tosX gk x) := by rw [hsucc, ← Bool.or_assoc, hb0]
            rw [hb0]
            rw [hxn'] at hsm
            clear hsucc hb0
            replace hX' := hide hX'; replace hx' := hide hx'; replace hxn' := hide hxn'; replace hsucc2 := hide hsucc2
            go_wp2_with fail
            go_loopw [11, 117] (fun u v wr => ∃ j qj : Nat, j ≤ xn' ∧ u = .bool (b0 || tosX gk (x.take j)) ∧ v = .int .i64 (j : Int) ∧ wr = w5.drewN qj) (fun _ v _ => xn' - (intOf v).toNat)
            case atStart => exact ⟨0, qi, by omega, by simp [tosX], rfl, rfl⟩
            case round =>
              obtain ⟨j, qj, hj, rfl, rfl, rfl⟩ := hrel
              by_cases hlt3 : j < xn'
              · obtain ⟨bS, oS, s, a1', n1, c1', a2', n2, c2', a3', n3, c3', rfl, _, hs', _, _, _, _, _, _, _, cS⟩ := lst_sub (unhide hX') hlt3
                have hsuccj := tosX_succ (v := gk) hs'
                obtain ⟨b1, hb1⟩ : ∃ b1, (b0 || tosX gk (x.take j)) = b1 := ⟨_, rfl⟩
                have hsuccj2 : (b0 || tosX gk (x.take (j + 1))) = (b1 || decide (s.2.2.2 = gk)) := by rw [hsuccj, ← Bool.or_assoc, hb1]
                rw [hb1]
                clear hsuccj hb1 hs'
                replace hsuccj2 := hide hsuccj2
                cases b1 with
                | true =>
                  go_wp2_with fail
                  go_quiet (fail)
                  go_wp2_with fail
                  go_roundw
                  case rel => exact ⟨j + 1, qj + nq, by omega, by rw [unhide hsuccj2]; rfl, by go_num, rfl⟩
                  case measure => simp [intOf]; omega
                | false =>
                  obtain ⟨st, hst⟩ : ∃ st, s.2.2.2 = st := ⟨_, rfl⟩
                  rw [hst] at cS
                  replace hst := hide hst
                  go_wp2_with fail
                  go_quiet (fail)
                  go_wp2_with fail
                  go_roundw
                  case rel => exact ⟨j + 1, qj + nq, by omega, by rw [unhide hsuccj2, unhide hst]; rfl, by go_num, rfl⟩
                  case measure => simp [intOf]; omega
              · have hje : j = xn' := by omega
                have htk : tosX gk (x.take j) = tosX gk x := by rw [List.take_of_length_le (by rw [unhide hxn', hje]; exact Nat.le_refl _)]
                rw [htk]
                clear htk
                replace hje := hide hje
                go_wp2_with fail
                go_roundw
                case rel => exact ⟨i + 1, qj, by omega, by rw [unhide hsucc2], by go_num, rfl⟩
                case measure => simp [intOf]; omega
          · have hie : i = ln := by omega
            have htk : (gk == z || tosL gk (l.take i)) = true := by rw [List.take_of_length_le (by rw [unhide hln, hie]; exact Nat.le_refl _)]; exact unhide hfin
            rw [htk]
            clear htk
            replace hie := hide hie
            go_wp2_with fail
            go_roundw
            case rel => exact ⟨k + 1, qi, by omega, by go_num, rfl⟩
            case measure => simp [intOf]; omega
      · have t2 : ((k : Int) == 0) = false := by rw [beq_eq_false_iff_ne]; omega
        have t3' : (0 : Int) < (k : Int) := by omega
        have t6 : ¬ (k : Int) = 0 := by omega
        have d3 : decide ((0 : Int) < (k : Int)) = true := decide_eq_true (by omega)
        have d3' : decide (0 < k) = true := decide_eq_true (by omega)
        have d4 : decide ((f : Int) ≤ y') = false := decide_eq_false (by omega)
        go_wp2_with fail
        go_quiet (fail)
        go_wp2_with fail
        try rw [World.drewN_drewN]
        obtain ⟨q2, hq2⟩ : ∃ q2, q2 = q + nq := ⟨_, rfl⟩
        rw [← hq2]
        clear hq2
        go_quiet (fail)
        go_wp2_with fail
        try rw [World.drewN_drewN]
        obtain ⟨q3, hq3⟩ : ∃ q3, q3 = q2 + nq := ⟨_, rfl⟩
        rw [← hq3]
        clear hq3
        go_loopw [11, 108] (fun u v wr => ∃ i qi : Nat, i ≤ ln ∧ u = .bool (gk == z || tosL gk (l.take i)) ∧ v = .int .i64 (i : Int) ∧ wr = w5.drewN qi) (fun _ v _ => ln - (intOf v).toNat)
        case atStart => exact ⟨0, q3, by omega, by simp [tosL], rfl, rfl⟩
        case round =>
          obtain ⟨i, qi, hi, rfl, rfl, rfl⟩ := hrel
          by_cases hlt2 : i < ln
          · obtain ⟨bL, oL, x, xa', xn', xc', rfl, _, hx', hxc1, hxc2, hX', cL⟩ := lst_list (unhide hl5) hlt2
            have hxn' := hX'.1
            have hsm := (goodL_small (unhide hlg) x (List.mem_of_getElem? hx')).1
            have hsucc := tosL_succ (v := gk) hx'
            obtain ⟨b0, hb0⟩ : ∃ b0, (gk == z || tosL gk (l.take i)) = b0 := ⟨_, rfl⟩
            have hsucc2 : (gk == z || tosL gk (l.take (i + 1))) = (b0 || tosX gk x) := by rw [hsucc, ← Bool.or_assoc, hb0]
            rw [hb0]
            rw [hxn'] at hsm
            clear hsucc hb0
            replace hX' := hide hX'; replace hx' := hide hx'; replace hxn' := hide hxn'; replace hsucc2 := hide hsucc2
            go_wp2_with fail
            go_loopw [11, 117] (fun u v wr => ∃ j qj : Nat, j ≤ xn' ∧ u = .bool (b0 || tosX gk (x.take j)) ∧ v = .int .i64 (j : Int) ∧ wr = w5.drewN qj) (fun _ v _ => xn' - (intOf v).toNat)
            case atStart => exact ⟨0, qi, by omega, by simp [tosX], rfl, rfl⟩
            case round =>
              obtain ⟨j, qj, hj, rfl, rfl, rfl⟩ := hrel
              by_cases hlt3 : j < xn'
              · obtain ⟨bS, oS, s, a1', n1, c1', a2', n2, c2', a3', n3, c3', rfl, _, hs', _, _, _, _, _, _, _, cS⟩ := lst_sub (unhide hX') hlt3
                have hsuccj := tosX_succ (v := gk) hs'
                obtain ⟨b1, hb1⟩ : ∃ b1, (b0 || tosX gk (x.take j)) = b1 := ⟨_, rfl⟩
                have hsuccj2 : (b0 || tosX gk (x.take (j + 1))) = (b1 || decide (s.2.2.2 = gk)) := by rw [hsuccj, ← Bool.or_assoc, hb1]
                rw [hb1]
                clear hsuccj hb1 hs'
                replace hsuccj2 := hide hsuccj2
                cases b1 with
                | true =>
                  go_wp2_with fail
                  go_quiet (fail)
                  go_wp2_with fail
                  go_roundw
                  case rel => exact ⟨j + 1, qj + nq, by omega, by rw [unhide hsuccj2]; rfl, by go_num, rfl⟩
                  case measure => simp [intOf]; omega
                | false =>
                  obtain ⟨st, hst⟩ : ∃ st, s.2.2.2 = st := ⟨_, rfl⟩
                  rw [hst] at cS
                  replace hst := hide hst
                  go_wp2_with fail
                  go_quiet (fail)
                  go_wp2_with fail
                  go_roundw
                  case rel => exact ⟨j + 1, qj + nq, by omega, by rw [unhide hsuccj2, unhide hst]; rfl, by go_num, rfl⟩
                  case measure => simp [intOf]; omega
              · have hje : j = xn' := by omega
                have htk : tosX gk (x.take j) = tosX gk x := by rw [List.take_of_length_le (by rw [unhide hxn', hje]; exact Nat.le_refl _)]
                rw [htk]
                clear htk
                replace hje := hide hje
                go_wp2_with fail
                go_roundw
                case rel => exact ⟨i + 1, qj, by omega, by rw [unhide hsucc2], by go_num, rfl⟩
                case measure => simp [intOf]; omega
          · have hie : i = ln := by omega
            have htk : (gk == z || tosL gk (l.take i)) = true := by rw [List.take_of_length_le (by rw [unhide hln, hie]; exact Nat.le_refl _)]; exact unhide hfin
            rw [htk]
            clear htk
            replace hie := hide hie
            go_wp2_with fail
            go_roundw
            case rel => exact ⟨k + 1, qi, by omega, by go_num, rfl⟩
            case measure => simp [intOf]; omega
    · have hke : k = an := by omega
      obtain ⟨W5, hW5⟩ : ∃ W5, w5.drewN q = W5 := ⟨_, rfl⟩
      have hx6 := (unhide hx5).drewN q
      have hxl6 := Lst.same (w := w5) (w' := w5.drewN q) (fun _ _ => rfl) (unhide hxl5)
      have hGl6 := Lst.same (w := w5) (w' := w5.drewN q) (fun _ _ => rfl) ((unhide hG0).below (unhide hz5))
      have hz6 := blw_drewN (unhide hz5) q
      have hrow6 := own_same (w := w5) (w' := w5.drewN q) (unhide hrow) (fun _ _ => rfl)
      have hW6 : W4 ≤ (w5.drewN q).heap.size := by have := (unhide hb).size; rw [unhide hW4] at this; exact this
      rw [hW5] at hx6 hxl6 hGl6 hz6 hrow6 hW6 ⊢
      have hc := apply_any none 0 0 [] xa xn xc X W5 (Lst.nil _ _ _ _) hx6 (by omega) (fun x hx => by cases hx) (fun x hx => by cases hx) (by omega)
      have happ : applyS [] X = (X, iota X.length) := rfl
      rw [happ] at hc
      clear hl5 hA hB hG5 hx5 hz5 hxl5 hrow hinv hW5 happ hx6 hb
      replace hc := hide hc; replace hxl6 := hide hxl6; replace hGl6 := hide hGl6; replace hz6 := hide hz6; replace hrow6 := hide hrow6; replace hke := hide hke
      go_wp2_with fail
      refine (unhide hc).mono ?_
      rintro e w6 ⟨q1, q2, rfl, ht, hb6⟩
      have hx7 := (unhide hxl6).below (hb6.mono hW6)
      have hG7 := (unhide hGl6).below (hb6.mono (Nat.le_trans hwW hW6))
      have hz7 := (unhide hz6).trans (hb6.mono (Nat.le_trans hwW hW6))
      have hr7 := own_belowb (unhide hrow6) hb6
      have hr6 := unhide hrow6
      have hW7 := Nat.le_trans hW6 hb6.size
      have hT7 := ht
      obtain ⟨a3', c3', a4', c4', hq1, hq2, _, _⟩ := hT7.lst (unhide hXi) (iota_i64 _ (by rw [unhide hxn]; omega))
      clear hc hxl6 hGl6 hz6 hrow6 ht
      by_cases han0 : an = 0
      · subst han0
        obtain ⟨w7, rfl⟩ : ∃ w7, w7 = w6 := ⟨_, rfl⟩
        clear hr7 hr6 hq1 hq2
        obtain ⟨a3, c3, a4, c4, rfl, rfl, hC, hD⟩ := hT7.lst (unhide hXi) (iota_i64 _ (by rw [unhide hxn]; omega))
        rw [unhide hxn] at hC
        rw [iota_len, unhide hxn] at hD
        simp only [iota_len, unhide hxn]
        have hs := sameInts_blw a3 xn c3 X xa xn xc X w7 hC (hx7.wide (fun b hb => by omega)) (by omega) (by omega)
        rw [decide_eq_true rfl] at hs
        clear hC hD hT7
        replace hs := hide hs; replace hx7 := hide hx7; replace hG7 := hide hG7; replace hz7 := hide hz7
        go_wp2_with fail
        refine (unhide hs).mono ?_
        rintro e w8 ⟨rfl, hb⟩
        have hx8 := (unhide hx7).below (hb.mono hW7)
        have hG8 := (unhide hG7).below (hb.mono (Nat.le_trans hwW hW7))
        have hz8 := (unhide hz7).trans (hb.mono (Nat.le_trans hwW hW7))
        have hW8 := Nat.le_trans hW7 hb.size
        clear hs hx7 hG7 hz7 hb hW7
        have hc := glyphs_any ga gn gc g 4 w8 (hG8.wide (fun b hb => by omega)) (by omega) (by omega) (by omega)
        clear hG8
        replace hc := hide hc; replace hx8 := hide hx8; replace hz8 := hide hz8
        go_wp2_with fail
        refine (unhide hc).mono ?_
        rintro e w9 ⟨v, rfl, hown, hb⟩
        rw [unhide hX] at hown
        obtain ⟨ya, yc, rfl, -, hy⟩ := own_lst hown (unhide hXi)
        rw [unhide hxn] at hy
        simp only [unhide hxn]
        have hx9 := (unhide hx8).below (hb.mono hW8)
        have hz9 := (unhide hz8).trans (hb.mono (Nat.le_trans hwW hW8))
        have hW9 := Nat.le_trans hW8 hb.size
        have hs := sameInts_blw xa xn xc X ya xn yc X w9 (hx9.wide (fun b hb => by omega)) hy (by omega) (by omega)
        rw [decide_eq_true rfl] at hs
        clear hc hx8 hz8 hown hy hb hx9 hW8
        replace hs := hide hs; replace hz9 := hide hz9
        go_wp2_with fail
        refine (unhide hs).mono ?_
        rintro e wa ⟨rfl, hb⟩
        have hza := (unhide hz9).trans (hb.mono (Nat.le_trans hwW hW9))
        clear hs hz9 hb
        replace hza := hide hza
        go_wp2_with fail
        go_ret
        exact ⟨rfl, unhide hza⟩
      · obtain ⟨bA, hbA, hlo, hhi, cA, fA⟩ : ∃ bA, a1 = some ⟨bA, 0, none⟩ ∧ W4 ≤ bA ∧ bA < W5.heap.size ∧ (∃ v, w6.cell? ⟨bA, 0, none⟩ = some (.int .i64 v)) ∧ w6.frozen? ⟨bA, 0, none⟩ = false := by
          rcases hr7.2 with ⟨h, h0⟩ | ⟨g', cap, cur, hval, hbg, hg, hn, hc', hcs, htl⟩
          · exact absurd h0 han0
          · injection hval with h1 h2 h3
            have hcl : Al[0]? = some (Al[0]'(by have := unhide han; omega)) := List.getElem?_eq_getElem _
            have hcell := hr7.cells (g := g') (by rw [h1]; rfl) 0 (.int .i64 (Al[0]'(by have := unhide han; omega))) (by unfold vints; rw [List.getElem?_map, hcl]; rfl)
            exact ⟨g', h1, hbg, (hr6.lt g' (by rw [h1]; simp [Value.ownBlock])).2, ⟨_, hcell⟩, by simp [World.frozen?, hg]⟩
        obtain ⟨vA, cA⟩ := cA
        subst hbA
        have t8 : (0 : Int) < (an : Int) := by omega
        have t9 : ¬ (an : Int) ≤ 0 := by omega
        obtain ⟨w7, hw7⟩ : ∃ w7, w6.setCell ⟨bA, 0, none⟩ (.int .i64 (-5)) = w7 := ⟨_, rfl⟩
        replace hx7 := hx7.set (o := 0) (x := .int .i64 (-5)) hlo hW7
        replace hG7 := hG7.set (o := 0) (x := .int .i64 (-5)) (Nat.le_trans hwW hlo) (Nat.le_trans hwW hW7)
        have hgs := grown_set (w := w6) bA 0 (.int .i64 (-5))
        replace hz7 := hz7.trans (⟨hgs.os, hgs.tape, hgs.output, hgs.size, fun b hb => hgs.block b (by omega) (fun e => by injection e; omega)⟩ : Below w.heap.size w6 (w6.setCell ⟨bA, 0, none⟩ (.int .i64 (-5))))
        replace hW7 := Nat.le_trans hW7 hgs.size
        have hT8 := hT7.set (o := 0) (x := .int .i64 (-5)) hhi
        clear hq1 hq2
        rw [hw7] at hx7 hG7 hz7 hW7 hT8
        clear hT7 hr7 hr6 hgs hhi
        replace hx7 := hide hx7; replace hG7 := hide hG7; replace hz7 := hide hz7; replace hT8 := hide hT8; replace hw7 := hide hw7
        go_wp2_with fail
        rw [unhide hw7]
        replace hx7 := unhide hx7; replace hG7 := unhide hG7; replace hz7 := unhide hz7
        have hT7 := unhide hT8
        clear hT8 hw7 t8 t9
        obtain ⟨a3, c3, a4, c4, rfl, rfl, hC, hD⟩ := hT7.lst (unhide hXi) (iota_i64 _ (by rw [unhide hxn]; omega))
        rw [unhide hxn] at hC
        rw [iota_len, unhide hxn] at hD
        simp only [iota_len, unhide hxn]
        have hs := sameInts_blw a3 xn c3 X xa xn xc X w7 hC (hx7.wide (fun b hb => by omega)) (by omega) (by omega)
        rw [decide_eq_true rfl] at hs
        clear hC hD hT7
        replace hs := hide hs; replace hx7 := hide hx7; replace hG7 := hide hG7; replace hz7 := hide hz7
        go_wp2_with fail
        refine (unhide hs).mono ?_
        rintro e w8 ⟨rfl, hb⟩
        have hx8 := (unhide hx7).below (hb.mono hW7)
        have hG8 := (unhide hG7).below (hb.mono (Nat.le_trans hwW hW7))
        have hz8 := (unhide hz7).trans (hb.mono (Nat.le_trans hwW hW7))
        have hW8 := Nat.le_trans hW7 hb.size
        clear hs hx7 hG7 hz7 hb hW7
        have hc := glyphs_any ga gn gc g 4 w8 (hG8.wide (fun b hb => by omega)) (by omega) (by omega) (by omega)
        clear hG8
        replace hc := hide hc; replace hx8 := hide hx8; replace hz8 := hide hz8
        go_wp2_with fail
        refine (unhide hc).mono ?_
        rintro e w9 ⟨v, rfl, hown, hb⟩
        rw [unhide hX] at hown
        obtain ⟨ya, yc, rfl, -, hy⟩ := own_lst hown (unhide hXi)
        rw [unhide hxn] at hy
        simp only [unhide hxn]
        have hx9 := (unhide hx8).below (hb.mono hW8)
        have hz9 := (unhide hz8).trans (hb.mono (Nat.le_trans hwW hW8))
        have hW9 := Nat.le_trans hW8 hb.size
        have hs := sameInts_blw xa xn xc X ya xn yc X w9 (hx9.wide (fun b hb => by omega)) hy (by omega) (by omega)
        rw [decide_eq_true rfl] at hs
        clear hc hx8 hz8 hown hy hb hx9 hW8
        replace hs := hide hs; replace hz9 := hide hz9
        go_wp2_with fail
        refine (unhide hs).mono ?_
        rintro e wa ⟨rfl, hb⟩
        have hza := (unhide hz9).trans (hb.mono (Nat.le_trans hwW hW9))
        clear hs hz9 hb
        replace hza := hide hza
        go_wp2_with fail
        go_ret
        exact ⟨rfl, unhide hza⟩
end Go.Proofs.Ytmlnjbljdincjaa
