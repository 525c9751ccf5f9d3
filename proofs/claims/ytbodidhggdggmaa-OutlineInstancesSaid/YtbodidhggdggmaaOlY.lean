/- Appending points; the reference's Copy. -/
import Derived.Test.YtbodidhggdggmaaOlF
import Derived.Test.YtbodidhggdggmaaOlM
namespace Go.Proofs.Ytbodidhggdggmaa
open Go.RowKit
theorem pcells_one (l : List Pt) : ∀ u ∈ pcells l, u.oneCell' = true := by
  intro u hu
  unfold pcells at hu
  obtain ⟨p, _, hp⟩ := List.mem_flatMap.1 hu
  simp [pcell] at hp
  rcases hp with rfl | rfl | rfl <;> rfl
theorem wpList_append_pts {w : World} {ops : Array Oper} {rest : List Oper} {o : Oper} {a : Act} {Q : Exit → Act → World → Prop} (hgd : o.guard = none) (s x : Operand)
    (ho : o.op = .call { callee := .builtin .append, args := #[s, x], argTypes := #[54, 54] })
    (base : Nat) (v : Value) (k : Nat) (xs : List Value) (hs : a.eval s = v) (hown : w.ownsRow base 56 3 v k xs)
    (S : Nat → Prop) (ad : Option Addr) (n c : Nat) (l : List Pt) (hx : a.eval x = .slice ad n c) (hl : Lst Enc.pt w S ad n l) (h63 : k + n ≤ 1000000000) (hbase : base ≤ w.heap.size)
    (h : ∀ v' w', w'.ownsRow base 56 3 v' (k + n) (xs ++ pcells l) → w.grownBy w' v.ownBlock → wpList Try.prog ops Q rest (a.put o.dst v') w') : wpList Try.prog ops Q (o :: rest) a w := by
  obtain ⟨i3, hi3, hiz3, his3, hiy3⟩ := info_parts info_pt
  have hlen := hl.1
  have go : ∀ g, ad = some g → (∀ (j : Nat) (u : Value), (pcells l)[j]? = some u → w.cell? (g.add j) = some u) → wpList Try.prog ops Q (o :: rest) a w := fun g hg hc => by
    subst hg
    exact wpList_append_own w hgd s x 54 ho base 56 i3 (.agg #[.int .i64 0, .int .i64 0, .bool false]) 3 24 Try.underlying54 hi3 hiz3 his3 hiy3 rfl (by decide) v k xs hs hown g n c (pcells l) hx (by rw [pcells_len, hlen]) hc (pcells_one l) (by unfold maxLen; omega) (by omega) hbase (fun v' w' h1 h2 _ => h v' w' h1 h2)
  by_cases h0 : n = 0
  · subst h0
    have hnil : l = [] := List.eq_nil_of_length_eq_zero hlen
    subst hnil
    cases ad with
    | none =>
      refine Lib.wpList_append_run w hgd s x 54 54 ho v _ hs hx v w (run_append_empty base _ _ _ i3 3 c Try.underlying54 hi3 v k xs hown) (h v w ?_ (grown_of_below (Below.refl _ _) _))
      simpa [pcells] using hown
    | some g => exact go g rfl (fun j u hu => by simp [pcells] at hu)
  · obtain ⟨b, off, rfl, _⟩ := hl.2 (by omega)
    exact go _ rfl (pts_news hl)
theorem wpList_append_ct {w0 w : World} {ops : Array Oper} {rest : List Oper} {op : Oper} {a : Act} {Q : Exit → Act → World → Prop} (hgd : op.guard = none) (s x : Operand)
    (ho : op.op = .call { callee := .builtin .append, args := #[s, x], argTypes := #[22, 22] })
    (base : Nat) (v u : Value) (o : Ot) (c : List Pt) (hs : a.eval s = v) (h : OO w0 base v o) (hb : Below w0.heap.size w0 w) (b : Nat) (hx : a.eval x = .slice (some ⟨b, 0, none⟩) 1 1) (hbk : w.heap[b]? = some (.cells #[u] 54 (0, 0)))
    (hu : Rw w w0.heap.size u c) (hbase : base ≤ w0.heap.size) (hn : o.length ≤ 1000)
    (K : ∀ v' w', OO w' base v' (o ++ [c]) → Below base w w' → wpList Try.prog ops Q rest (a.put op.dst v') w') : wpList Try.prog ops Q (op :: rest) a w := by
  obtain ⟨vs, hrow, hpush⟩ := h.push hb hu hbase
  have hbw : base ≤ w.heap.size := Nat.le_trans hbase hb.size
  obtain ⟨ua, ucap, rfl, _⟩ := hu.lst
  refine wpList_append_el Try.underlying22 info_ct rfl (by decide) (by decide) hgd s x ho base v o.length vs hs hrow b [.slice ua c.length ucap] hx hbk rfl (fun y hy => by simp at hy; subst hy; rfl) hn hbw (fun v' w' h1 h2 _ => ?_)
  exact K v' w' (hpush w' v' h1 h2) (row_below hrow hbw h2)
set_option maxHeartbeats 2000000 in
theorem rcopy_any (a : Option Addr) (n c : Nat) (o : Ot) (w : World) (hl : Lst Enc.ct w (· < w.heap.size) a n o) (hs : Sml o) :
    Calls Try.prog 35 #[.slice a n c] w fun e w' => ∃ v, e = .returned v ∧ OO w' w.heap.size v o ∧ Below w.heap.size w w' := by
  have h1 : o.length = n := hl.1
  have hn : n ≤ 1000 := by have := hs.1; omega
  replace h1 := hide h1; replace hs := hide hs; replace hl := hide hl
  go_enter Try.func35, Try.ntmps35
  go_wp2_with fail
  go_loopw [3, 4] (fun v3 v wr => ∃ k : Nat, k ≤ n ∧ v = .int .i64 (k : Int) ∧ OO wr w.heap.size v3 (o.take k) ∧ Below w.heap.size w wr) (fun _ v _ => (n - intOf v).toNat)
  case atStart => exact ⟨0, by omega, rfl, OO.nil _ _, Below.refl _ _⟩
  case round =>
    obtain ⟨k, hk, rfl, hoo, hbw⟩ := hrel
    obtain ⟨wo, rfl⟩ : ∃ wo : World, wo = wr := ⟨_, rfl⟩
    obtain ⟨ao, co, ev, _⟩ := hoo.lst
    obtain ⟨no, hno⟩ : ∃ no, (o.take k).length = no := ⟨_, rfl⟩
    rw [hno] at ev
    subst ev
    have hno2 : no = k := by rw [← hno, List.length_take, unhide h1]; omega
    replace hno := hide hno
    by_cases hlt : k < n
    · obtain ⟨b, off, x, ax, nx, cx, rfl, hb, hx, hnc, hcm, hlx, hc⟩ := lst_list ((unhide hl).under hbw) hlt
      have mx : nx ≤ 1000 := by have := (unhide hs).ct hx; have := hlx.1; omega
      obtain ⟨g, V1, hg, hV1, n1, k1, s1⟩ := al1 wo (.cells #[] 56)
      have hrow0 : V1.ownsRow g 56 3 (.slice (some ⟨g, 0, none⟩) 0 0) 0 [] := ⟨rfl, .inr ⟨g, 0, #[], rfl, Nat.le_refl _, n1, Nat.le_refl _, Nat.zero_le _, rfl, rfl⟩⟩
      have hgs : g ≤ V1.heap.size := by omega
      have hlx1 := hlx.under (Below.mono k1 (Nat.le_refl _))
      have hap := allP_lst hlx
      have hxl : x.length = nx := hlx.1
      have t1 : (k : Int) < (n : Int) := by omega
      clear hb hnc hcm n1 hlx hno2
      replace hrow0 := hide hrow0; replace hlx1 := hide hlx1; replace hoo := hide hoo; replace hbw := hide hbw; replace k1 := hide k1; replace s1 := hide s1; replace hap := hide hap; replace hx := hide hx; replace hxl := hide hxl
      have hcV := cell_under hc (unhide k1)
      go_wp2_with (at_builtin; refine wpList_append_pts rfl _ _ rfl g _ 0 [] rfl (unhide hrow0) _ ax nx cx x rfl (unhide hlx1) (by omega) hgs ?_)
      intro v' w2 hr2 hg2
      have hg2' : V1.grownBy w2 (some g) := hg2
      have hb2 : Below wo.heap.size wo w2 := (unhide k1).grown hg2' (unhide k1).size (fun j hj => by injection hj with hj; omega)
      have hrw : Rw w2 g v' x := ⟨by rw [unhide hxl]; exact hr2, unhide hap⟩
      obtain ⟨av, cv, ev, _⟩ := hrw.lst
      rw [unhide hxl] at ev
      subst ev
      obtain ⟨b2, V3, hb2e, hV3, n3, k3, s3⟩ := al1 w2 (.cells #[.slice av nx cv] 54)
      have hrw3 : Rw V3 wo.heap.size (.slice av nx cv) x := by rw [hg]; exact hrw.below k3
      have hb3 := hb2.trans (k3.mono hb2.size)
      have hsz : w.heap.size ≤ wo.heap.size := (unhide hbw).size
      have hnx : o.take k ++ [x] = o.take (k + 1) := by rw [List.take_add_one, unhide hx]; rfl
      have hlk : (o.take k).length ≤ 1000 := by rw [List.length_take]; omega
      clear hr2 hg2 hg2' hb2 hrw k3 s3 hrow0 hlx1 k1 hc hcV hV1
      replace n3 := hide n3; replace hrw3 := hide hrw3; replace hb3 := hide hb3; replace hnx := hide hnx; replace hg := hide hg
      go_wp2_with (at_builtin; refine wpList_append_ct rfl _ _ rfl w.heap.size _ _ (o.take k) x rfl (unhide hoo) (unhide hb3) _ rfl (unhide n3) (unhide hrw3) hsz hlk ?_)
      intro v4 w4 hoo4 hb4
      rw [unhide hnx] at hoo4
      have hbz := hide (((unhide hbw).trans ((unhide hb3).mono hsz)).trans hb4)
      replace hoo4 := hide hoo4
      clear hoo hb3 n3 hrw3 hb4 hV3 hb2e hbw
      go_wp2_with fail
      go_roundw
      case rel => exact ⟨k + 1, by omega, by go_num, unhide hoo4, unhide hbz⟩
      case measure => simp [intOf]; omega
    · have hke : k = n := by omega
      subst hke
      have hoe : o.take k = o := List.take_of_length_le (by rw [unhide h1]; exact Nat.le_refl _)
      rw [hoe] at hoo
      replace hbw := hide hbw; replace hoo := hide hoo
      clear hl hoe
      go_wp2_with fail
      go_ret
      exact ⟨_, rfl, unhide hoo, unhide hbw⟩
end Go.Proofs.Ytbodidhggdggmaa
