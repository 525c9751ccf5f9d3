/- Case.made. -/
import Derived.Test.YtbodidhggdggmaaOq1
import Derived.Test.YtbodidhggdggmaaOp1
namespace Go.Proofs.Ytbodidhggdggmaa
open Go.RowKit
/-- an outline, deltas and a position that numbers make -/
def CPost (w : World) (e : Ending) (w' : World) : Prop := ∃ (oa : Option Addr) (on oc : Nat) (o : Ot) (da : Option Addr) (dn dc : Nat) (l : List Dl) (pa : Option Addr) (pn pc : Nat) (u : List Int),
  e = .returned (.tuple #[.slice oa on oc, .slice da dn dc, .slice pa pn pc]) ∧ Lst Enc.ct w' (· < w'.heap.size) oa on o ∧ GoodO6 o ∧ Lst Enc.dl w' (· < w'.heap.size) da dn l ∧ dn ≤ 3 ∧ (∀ d ∈ l, GoodD o.flatten.length pn d) ∧
  Lst Enc.int w' (· < w'.heap.size) pa pn u ∧ pn ≤ 3 ∧ dn ≤ dc ∧ dc ≤ maxLen ∧ pn ≤ pc ∧ pc ≤ maxLen ∧ (∀ x ∈ u, -70 ≤ x ∧ x ≤ 70) ∧ Below w.heap.size w w'
theorem good_count {o : Ot} (h : GoodO6 o) : o.flatten.length ≤ 12 := by
  have : ∀ (l : Ot), (∀ c ∈ l, c.length ≤ 6) → l.flatten.length ≤ 6 * l.length := by
    intro l
    induction l with
    | nil => simp
    | cons c l ih =>
      intro h
      have h1 := h c (by simp)
      have h2 := ih (fun d hd => h d (by simp [hd]))
      rw [List.flatten_cons, List.length_append, List.length_cons]
      omega
  have h1 := this o (fun c hc => (h.2 c hc).2.1)
  have h2 := h.1
  omega
set_option maxHeartbeats 8000000 in
set_option maxRecDepth 100000 in
theorem cmade6_any (la : Option Addr) (ln lc : Nat) (L : List (List Int)) (ea : Option Addr) (en ec : Nat) (D : List (List Int)) (ta : Option Addr) (tn tc : Nat) (A : List Int) (w : World)
    (hL : Lst (Enc.list Enc.int) w (· < w.heap.size) la ln L) (hl : ln ≤ maxLen) (hD : Lst (Enc.list Enc.int) w (· < w.heap.size) ea en D) (he : en ≤ maxLen) (hA : Lst Enc.int w (· < w.heap.size) ta tn A) (ht : tn ≤ maxLen) :
    Calls Try.prog 21 #[.agg #[.slice la ln lc, .slice ea en ec, .slice ta tn tc]] w (CPost w) := by
  unfold maxLen at ht
  obtain ⟨b1, V1, hb1, hV1, n1, k1, s1⟩ := al1 w (.cells #[.slice la ln lc, .slice ea en ec, .slice ta tn tc] 40)
  have hmade := made6_any la ln lc L V1 (hL.under k1) hl
  have d0 : V1.cell? ⟨b1, 0, none⟩ = some (.slice la ln lc) := (cell_of_row _ _ 0 _ _ _ n1).trans rfl
  clear s1
  replace hL := hide hL; replace hD := hide hD; replace hA := hide hA; replace n1 := hide n1; replace k1 := hide k1; replace hmade := hide hmade
  go_enter Try.func21, Try.ntmps21
  go_wp2_with fail
  refine (unhide hmade).mono ?_
  rintro e w2 ⟨v, o, rfl, hoo, hgo, hb2⟩
  obtain ⟨oa, oc, ev, _, _, hol⟩ := hoo.lst
  obtain ⟨on, hon⟩ : ∃ on, o.length = on := ⟨_, rfl⟩
  rw [hon] at ev hol
  subst ev
  have n2 := (hb2.block b1 (Array.getElem?_eq_some_iff.1 (unhide n1)).1).trans (unhide n1)
  have kw2 := (unhide k1).trans (hb2.mono (unhide k1).size)
  have hb1lt : b1 < w2.heap.size := (Array.getElem?_eq_some_iff.1 n2).1
  have hol2 := hol.wide (S' := fun b => b < w2.heap.size) (fun b hb => hb.2)
  clear hmade hV1 hb1 d0 n1 k1 hb2 hoo hol hon
  replace hol2 := hide hol2; replace hgo := hide hgo; replace n2 := hide n2; replace kw2 := hide kw2
  go_wp2_with fail
  go_loopw [6, 7] (fun v6 v7 wr => ∃ (k : Nat) (u : List Int), k ≤ tn ∧ k ≤ 3 ∧ v7 = .int .i64 (k : Int) ∧ wr.ownsRow w2.heap.size 3 1 v6 k (vints u) ∧ (∀ x ∈ u, -70 ≤ x ∧ x ≤ 70) ∧ Below w2.heap.size w2 wr) (fun _ v _ => (3 - intOf v).toNat)
  case atStart => exact ⟨0, [], by omega, by omega, rfl, World.ownsRow_nil _ _ _ _, fun x h => by simp at h, Below.refl _ _⟩
  case round =>
    obtain ⟨k, u, hk, hk3, rfl, hrow, hu, hbw⟩ := hrel
    obtain ⟨wo, rfl⟩ : ∃ V : World, V = wr := ⟨_, rfl⟩
    obtain ⟨ra, rc, ev⟩ := own_shape hrow
    subst ev
    have hul : u.length = k := by have := hrow.1; rw [vints_len] at this; omega
    have n2w := (hbw.block b1 hb1lt).trans (unhide n2)
    have d2 : wo.cell? ⟨b1, 2, none⟩ = some (.slice ta tn tc) := (cell_of_row _ _ 2 _ _ _ n2w).trans rfl
    have d1 : wo.cell? ⟨b1, 1, none⟩ = some (.slice ea en ec) := (cell_of_row _ _ 1 _ _ _ n2w).trans rfl
    have hbW := (unhide kw2).trans (hbw.mono (unhide kw2).size)
    by_cases hlt : k < tn ∧ k < 3
    · obtain ⟨hkn, hk3'⟩ := hlt
      obtain ⟨b, off, x, rfl, _, hx, hxi, hcx⟩ := lst_int ((unhide hA).under hbW) hkn
      have hm := mod_any x 141 wo (by omega) (by omega)
      obtain ⟨r, hr⟩ : ∃ r, x % 141 = r := ⟨_, rfl⟩
      have hr1 : 0 ≤ r ∧ r < 141 := by rw [← hr]; exact ⟨Int.emod_nonneg x (by omega), Int.emod_lt_of_pos x (by omega)⟩
      rw [hr] at hm
      obtain ⟨q, hq⟩ : ∃ q, r - 70 = q := ⟨_, rfl⟩
      obtain ⟨b30, V3, hb30, hV3, n3, k3, s3⟩ := al1 wo (.cells #[.int .i64 q] 3)
      have hrow3 := own_blw hrow k3
      have hbs : w2.heap.size ≤ V3.heap.size := Nat.le_trans hbw.size k3.size
      have hb3 := hbw.trans (k3.mono hbw.size)
      have t1 : decide ((k : Int) < (tn : Int)) = true := by simp; omega
      have t2 : decide ((k : Int) < 3) = true := by simp; omega
      have t3 : (k : Int) < (tn : Int) := by omega
      have t4 : (k : Int) < 3 := by omega
      have hqb : -70 ≤ q ∧ q ≤ 70 := by omega
      clear hx hr k3 s3 hbW n2w d1 hrow hbw
      replace hrow3 := hide hrow3; replace hb3 := hide hb3; replace hm := hide hm; replace n3 := hide n3; replace hu := hide hu; replace hul := hide hul
      go_wp2_with fail
      refine (unhide hm).mono ?_
      rintro e wz ⟨rfl, rfl⟩
      clear hm
      go_wp2_with (at_builtin; refine wpList_append_el Try.underlying38 info_int rfl (by decide) (by decide) rfl _ _ rfl w2.heap.size _ k (vints u) rfl (unhide hrow3) _ [.int .i64 q] rfl (unhide n3) rfl ?c2 ?c4 hbs ?_)
      case c2 => (intro y hy; simp at hy; subst hy; rfl)
      case c4 => omega
      intro v' w5 hown5 hg5 _
      have hbz := hide (Below.grown (unhide hb3) hg5 hbs (fun g hg => ((unhide hrow3).lt g hg).1))
      have hown6 : w5.ownsRow w2.heap.size 3 1 v' (k + 1) (vints (u ++ [q])) := by unfold vints at hown5 ⊢; rw [List.map_append]; exact hown5
      clear hown5 hg5 hrow3 hb3 n3 hV3 hb30
      replace hown6 := hide hown6
      go_wp2_with fail
      go_roundw
      case rel =>
        refine ⟨k + 1, u ++ [q], by omega, by omega, by go_num, unhide hown6, fun y hy => ?_, unhide hbz⟩
        rcases List.mem_append.1 hy with hy | hy
        · exact unhide hu y hy
        · simp at hy; subst hy; exact hqb
      case measure => simp [intOf]; omega
    · have hoW := (unhide hol2).under hbw
      obtain ⟨pa, pc, ev, hpc1, hpc2, hul2⟩ := own_lst2 hrow (fun x hx => by obtain ⟨q1, q2⟩ := hu x hx; exact ⟨by omega, by omega⟩)
      rw [hul] at ev hul2 hpc1
      have e1 := (Value.slice.inj ev).1
      have e3 := (Value.slice.inj ev).2.2
      have hdel := deltas_any oa on oc o ea en ec D k wo hoW (unhide hgo).sml.1 ((unhide hD).under hbW) he (by omega) (by have := good_count (unhide hgo); omega)
      have hpl := hul2.wide (S' := fun b => b < wo.heap.size) (fun b hb => hb.2)
      rw [← e1] at hpl
      rw [← e3] at hpc1 hpc2
      clear ev e1 e3 hul2 hrow n2w hbw
      have t1 : decide ((k : Int) < (tn : Int)) = true ∨ decide ((k : Int) < (tn : Int)) = false := by cases decide ((k : Int) < (tn : Int)) <;> simp
      replace hdel := hide hdel; replace hpl := hide hpl; replace hbW := hide hbW; replace hoW := hide hoW; replace hu := hide hu; replace hul := hide hul; replace hpc1 := hide hpc1; replace hpc2 := hide hpc2
      have hfin : ∀ (e : Ending) (w' : World), DeltasPost o.flatten.length k wo e w' → ∃ da dn dc, e = .returned (.slice da dn dc) ∧ CPost w (.returned (.tuple #[.slice oa on oc, .slice da dn dc, .slice ra k rc])) w' := fun e w' h => by
        obtain ⟨v, l, rfl, hod, hl3, hgd, hb⟩ := h
        obtain ⟨da, dc, rfl, q1, q2, hdl⟩ := hod.lst
        exact ⟨da, l.length, dc, rfl, oa, on, oc, o, da, l.length, dc, l, ra, k, rc, u, rfl, (unhide hoW).under hb, unhide hgo, hdl.wide (fun b hb => hb.2), hl3, hgd, (unhide hpl).under hb, hk3, q1, q2, unhide hpc1, unhide hpc2, unhide hu, (unhide hbW).trans (hb.mono (unhide hbW).size)⟩
      replace hfin := hide hfin
      by_cases hkn : k < tn
      · have t2 : decide ((k : Int) < 3) = false := by simp; omega
        have t3 : decide ((k : Int) < (tn : Int)) = true := by simp; omega
        have t4 : (k : Int) < (tn : Int) := by omega
        have t5 : ¬ (k : Int) < 3 := by omega
        go_wp2_with fail
        refine (unhide hdel).mono ?_
        intro e w9 h9
        obtain ⟨da, dn, dc, rfl, hC⟩ := unhide hfin e w9 h9
        clear hdel h9
        replace hC := hide hC
        go_wp2_with fail
        refine bodyPost_ret (v := .tuple #[.slice oa on oc, .slice da dn dc, .slice ra k rc]) (by simp [results, Try.results21, go_sem]) rfl (unhide hC)
      · have t3 : decide ((k : Int) < (tn : Int)) = false := by simp; omega
        have t4 : ¬ (k : Int) < (tn : Int) := by omega
        go_wp2_with fail
        refine (unhide hdel).mono ?_
        intro e w9 h9
        obtain ⟨da, dn, dc, rfl, hC⟩ := unhide hfin e w9 h9
        clear hdel h9
        replace hC := hide hC
        go_wp2_with fail
        refine bodyPost_ret (v := .tuple #[.slice oa on oc, .slice da dn dc, .slice ra k rc]) (by simp [results, Try.results21, go_sem]) rfl (unhide hC)
end Go.Proofs.Ytbodidhggdggmaa
