/- Streams: Concat of two lists, Window. -/
import Derived.Test.YtfbgbbbfpkpfkaaTr2
namespace Go.Proofs.Ytfbgbbbfpkpfkaa
open Go.RowKit
/-- two lists -/
def pre2 (x y : Nat) (k : Nat) : Nat := ([x, y].take k).sum
def cat2 (x y : List Int) (k : Nat) : List Int := ([x, y].take k).flatten
theorem cat2_len (x y : List Int) (k : Nat) : (cat2 x y k).length = pre2 x.length y.length k := by
  unfold cat2 pre2
  rw [List.length_flatten, List.map_take]
  rfl
set_option maxHeartbeats 2000000 in
theorem concat2_any (bs : Nat) (a1 : Option Addr) (n1 c1 : Nat) (l1 : List Int) (a2 : Option Addr) (n2 c2 : Nat) (l2 : List Int) (w : World)
    (h0 : w.cell? ⟨bs, 0, none⟩ = some (.slice a1 n1 c1)) (h1 : w.cell? ⟨bs, 1, none⟩ = some (.slice a2 n2 c2))
    (hl1 : Lst Enc.int w (· < w.heap.size) a1 n1 l1) (hl2 : Lst Enc.int w (· < w.heap.size) a2 n2 l2) (hn1 : n1 ≤ 400000) (hn2 : n2 ≤ 400000) :
    Calls Try.prog 51 #[.slice (some ⟨bs, 0, none⟩) 2 2] w fun e w' => ∃ v, e = .returned v ∧ w'.ownsRow w.heap.size 3 1 v (l1 ++ l2).length (vints (l1 ++ l2)) ∧ Below w.heap.size w w' := by
  have e1 := hl1.1
  have e2 := hl2.1
  replace e1 := hide e1; replace e2 := hide e2
  replace hl1 := hide hl1; replace hl2 := hide hl2
  go_enter Try.func51, Try.ntmps51
  go_wp2_with fail
  go_loopw [3, 11] (fun s i wr => ∃ k : Nat, k ≤ 2 ∧ i = .int .i64 (k : Int) ∧ s = .int .i64 (pre2 n1 n2 k : Nat) ∧ wr = w) (fun _ i _ => 2 - (intOf i).toNat)
  case atStart => exact ⟨0, by omega, rfl, rfl, rfl⟩
  case round =>
    obtain ⟨k, hk, rfl, rfl, ew⟩ := hrel
    subst ew
    by_cases hlt : k < 2
    · obtain rfl | rfl : k = 0 ∨ k = 1 := by omega
      all_goals
        simp only [pre2, List.take_zero, List.take_succ_cons, List.sum_nil, List.sum_cons]
        go_wp2_with fail
        go_roundw
        case rel => first | exact ⟨1, by omega, by go_num, by simp, trivial⟩ | exact ⟨2, by omega, by go_num, by simp, trivial⟩
        case measure => simp [intOf]
    · obtain rfl : k = 2 := by omega
      obtain ⟨V, rfl⟩ : ∃ V : World, V = wr := ⟨_, rfl⟩
      obtain ⟨T, hT⟩ : ∃ T, pre2 n1 n2 2 = T := ⟨_, rfl⟩
      have hTb : T ≤ 800000 := by rw [← hT]; simp [pre2]; omega
      rw [hT]
      have hgrow := grow_any T V (by omega)
      replace hT := hide hT; replace hgrow := hide hgrow
      go_wp2_with fail
      refine (unhide hgrow).mono ?_
      rintro e w1 ⟨v1, rfl, hown1, hb1⟩
      clear hgrow
      have hm1 := cell_under h0 hb1
      have hm2 := cell_under h1 hb1
      have hk1 := (unhide hl1).under hb1
      have hk2 := (unhide hl2).under hb1
      obtain ⟨W, hW⟩ : ∃ W, V.heap.size = W := ⟨_, rfl⟩
      rw [hW] at hown1 hb1
      replace hW := hide hW
      have hbs : bs < W := by rw [← unhide hW]; exact World.block_lt_of_cell? V _ h0
      have hS1 : Lst Enc.int V (· < W) a1 n1 l1 := by rw [← unhide hW]; exact unhide hl1
      have hS2 : Lst Enc.int V (· < W) a2 n2 l2 := by rw [← unhide hW]; exact unhide hl2
      clear hm1 hm2 hk1 hk2 hl1 hl2
      replace hown1 := hide hown1; replace hb1 := hide hb1; replace hS1 := hide hS1; replace hS2 := hide hS2; replace h0 := hide h0; replace h1 := hide h1; replace hbs := hide hbs
      go_wp2_with fail
      go_loopw [6, 27] (fun v i wr => ∃ k : Nat, k ≤ 2 ∧ i = .int .i64 (k : Int) ∧ wr.ownsRow W 3 1 v (cat2 l1 l2 k).length (vints (cat2 l1 l2 k)) ∧ Below W V wr) (fun _ i _ => 2 - (intOf i).toNat)
      case atStart => exact ⟨0, by omega, rfl, unhide hown1, unhide hb1⟩
      case round =>
        obtain ⟨k, hk, rfl, hown, hbw⟩ := hrel
        by_cases hlt : k < 2
        · have c0 := (hbw.cell (p := ⟨bs, 0, none⟩) (unhide hbs)).trans (unhide h0)
          have c1' := (hbw.cell (p := ⟨bs, 1, none⟩) (unhide hbs)).trans (unhide h1)
          have q1 := (unhide hS1).below hbw
          have q2 := (unhide hS2).below hbw
          have hlen := cat2_len l1 l2 k
          have hlenb : (cat2 l1 l2 k).length ≤ 800000 := by
            rw [hlen, unhide e1, unhide e2]
            obtain rfl | rfl : k = 0 ∨ k = 1 := by omega
            all_goals simp [pre2]
            all_goals omega
          have hsz : W ≤ wr.heap.size := by have := hbw.size; rw [unhide hW] at this; exact this
          clear hlen
          replace hown := hide hown; replace q1 := hide q1; replace q2 := hide q2; replace hbw := hide hbw
          obtain rfl | rfl : k = 0 ∨ k = 1 := by omega
          · go_wp2_with (at_builtin; refine wpList_append_ints rfl _ _ rfl W _ _ _ rfl (unhide hown) (· < W) _ _ _ _ rfl (unhide q1) ?d1 ?d2 ?_)
            case d1 => omega
            case d2 => omega
            intro v' w2 hown2 hg2
            have hb2 := Below.grown (unhide hbw) hg2 hsz (fun g e => ((unhide hown).lt g e).1)
            have hrow : w2.ownsRow W 3 1 v' (cat2 l1 l2 1).length (vints (cat2 l1 l2 1)) := by
              rw [vints_app] at hown2
              have e4 : cat2 l1 l2 0 ++ l1 = cat2 l1 l2 1 := by simp [cat2]
              have e5 : (cat2 l1 l2 0).length + n1 = (cat2 l1 l2 1).length := by rw [← e4, List.length_append, unhide e1]
              rw [e4, e5] at hown2
              exact hown2
            clear hown2 hg2
            replace hrow := hide hrow; replace hb2 := hide hb2
            go_wp2_with fail
            go_roundw
            case rel => exact ⟨1, by omega, by go_num, unhide hrow, unhide hb2⟩
            case measure => simp [intOf]
          · go_wp2_with (at_builtin; refine wpList_append_ints rfl _ _ rfl W _ _ _ rfl (unhide hown) (· < W) _ _ _ _ rfl (unhide q2) ?d1 ?d2 ?_)
            case d1 => omega
            case d2 => omega
            intro v' w2 hown2 hg2
            have hb2 := Below.grown (unhide hbw) hg2 hsz (fun g e => ((unhide hown).lt g e).1)
            have hrow : w2.ownsRow W 3 1 v' (cat2 l1 l2 2).length (vints (cat2 l1 l2 2)) := by
              rw [vints_app] at hown2
              have e4 : cat2 l1 l2 1 ++ l2 = cat2 l1 l2 2 := by simp [cat2]
              have e5 : (cat2 l1 l2 1).length + n2 = (cat2 l1 l2 2).length := by rw [← e4, List.length_append, unhide e2]
              rw [e4, e5] at hown2
              exact hown2
            clear hown2 hg2
            replace hrow := hide hrow; replace hb2 := hide hb2
            go_wp2_with fail
            go_roundw
            case rel => exact ⟨2, by omega, by go_num, unhide hrow, unhide hb2⟩
            case measure => simp [intOf]
        · obtain rfl : k = 2 := by omega
          have e4 : cat2 l1 l2 2 = l1 ++ l2 := by simp [cat2]
          rw [e4] at hown
          replace hown := hide hown; replace hbw := hide hbw
          go_wp2_with fail
          go_ret
          rw [unhide hW]
          exact ⟨_, rfl, unhide hown, unhide hbw⟩
theorem win1_any (a1 : Option Addr) (n1 c1 : Nat) (a2 : Option Addr) (n2 c2 : Nat) (a3 : Option Addr) (n3 c3 : Nat) (to' : Int) (w : World) (h2 : n2 ≤ 1000) (h3 : n3 ≤ 1000) :
    Calls Try.prog 30 #[.agg #[.slice a1 n1 c1, .slice a2 n2 c2, .slice a3 n3 c3, .int .i64 to']] w fun e w' => e = .returned (.int .i64 ((n2 + n3 : Nat) : Int)) ∧ Below w.heap.size w w' := by
  have e1 : IntKind.i64.wrap ((n2 : Int) + (n3 : Int)) = ((n2 + n3 : Nat) : Int) := by rw [IntWalk.i64_in _ (by omega)]; omega
  have e2 : wrap64 ((n2 : Int) + (n3 : Int)) = ((n2 + n3 : Nat) : Int) := by rw [IntWalk.wrap64_in _ (by omega)]; omega
  have hb := (Below.refl w.heap.size w).alloc (Nat.le_refl _) (Obj.cells #[.slice a1 n1 c1, .slice a2 n2 c2, .slice a3 n3 c3, .int .i64 to'] 56)
  go_enter Try.func30, Try.ntmps30
  go_wp2
  go_ret
  exact ⟨by first | rfl | simp, hb⟩
set_option maxHeartbeats 1000000 in
theorem most_any (a : Option Addr) (n c : Nat) (x : List Sub) (w : World) (hx : Lst Enc.sub w (· < w.heap.size) a n x) (hsm : Small x) :
    Calls Try.prog 29 #[.slice a n c, .int .i64 1, .func (.func 30) #[] #[]] w fun e w' => e = .returned (.int .i64 (winS x : Nat)) ∧ Below w.heap.size w w' := by
  have h1 := hx.1
  have hn : n ≤ 1000 := by rw [← h1]; exact hsm.1
  replace h1 := hide h1; replace hx := hide hx
  go_enter Try.func29, Try.ntmps29
  go_wp2_with fail
  go_loopw [1, 11] (fun m v wr => ∃ k : Nat, k ≤ n ∧ v = .int .i64 (k : Int) ∧ m = .int .i64 (winS (x.take k) : Nat) ∧ Below w.heap.size w wr) (fun _ v _ => (n - intOf v).toNat)
  case atStart => exact ⟨0, by omega, rfl, rfl, Below.refl _ _⟩
  case round =>
    obtain ⟨k, hk, rfl, rfl, hbw⟩ := hrel
    by_cases hlt : k < n
    · obtain ⟨b, off, s, a1, n1, c1, a2, n2, c2, a3, n3, c3, rfl, hb, hs, ⟨_, _, g1⟩, ⟨_, _, g2⟩, ⟨_, _, g3⟩, hto, d0, d1, d2, d3⟩ := lst_sub ((unhide hx).under hbw) hlt
      have hss := hsm.2 s (List.mem_of_getElem? hs)
      have l2 := g2.1
      have l3 := g3.1
      have hw := winS_take_succ hs
      have hwb : winS (x.take k) ≤ 2000 := winS_le ⟨by rw [List.length_take]; have := hsm.1; omega, fun s hs => hsm.2 s (List.mem_of_mem_take hs)⟩
      rw [l2, l3] at hw
      clear g1 g2 g3
      have hci := fun w => win1_any a1 n1 c1 a2 n2 c2 a3 n3 c3 s.2.2.2 w (by omega) (by omega)
      obtain ⟨m, hm⟩ : ∃ m, winS (x.take k) = m := ⟨_, rfl⟩
      obtain ⟨p, hp⟩ : ∃ p, n2 + n3 = p := ⟨_, rfl⟩
      rw [hm] at hw hwb ⊢
      rw [hp] at hw
      simp only [hp] at hci
      clear hm hto
      have hp2 : p ≤ 2000 := by omega
      clear hp l2 l3 hss
      have hb2 := hbw.alloc hbw.size (Obj.cells #[.slice a1 n1 c1, .slice a2 n2 c2, .slice a3 n3 c3, .int .i64 s.2.2.2] 56)
      replace hci := hide hci; replace hb2 := hide hb2; replace hbw := hide hbw; replace hw := hide hw
      clear hs
      by_cases hmp : m < p
      · have t1 : (m : Int) < (p : Int) := by omega
        have t2 : ¬ (p : Int) < (m : Int) := by omega
        have hmx : max m p = p := by omega
        replace hmx := hide hmx
        go_wp2_with fail
        refine (unhide hci _).mono ?_
        rintro e w1 ⟨rfl, hb⟩
        have hb3 := hide ((unhide hb2).trans (hb.mono (unhide hb2).size))
        clear hci hb
        go_wp2_with fail
        go_roundw
        case rel => exact ⟨k + 1, by omega, by go_num, by rw [unhide hw, unhide hmx], unhide hb3⟩
        case measure => simp [intOf]; omega
      · have t1 : ¬ (m : Int) < (p : Int) := by omega
        have hmx : max m p = m := by omega
        replace hmx := hide hmx
        go_wp2_with fail
        refine (unhide hci _).mono ?_
        rintro e w1 ⟨rfl, hb⟩
        have hb3 := hide ((unhide hb2).trans (hb.mono (unhide hb2).size))
        clear hci hb
        go_wp2_with fail
        go_roundw
        case rel => exact ⟨k + 1, by omega, by go_num, by rw [unhide hw, unhide hmx], unhide hb3⟩
        case measure => simp [intOf]; omega
    · have hfin : x.take k = x := List.take_of_length_le (by rw [unhide h1]; omega)
      rw [hfin]
      go_wp2_with fail
      go_ret
      exact ⟨rfl, hbw⟩
theorem window_any (a : Option Addr) (n c : Nat) (x : List Sub) (w : World) (hx : Lst Enc.sub w (· < w.heap.size) a n x) (hsm : Small x) :
    Calls Try.prog 13 #[.agg #[.slice a n c]] w fun e w' => e = .returned (.int .i64 (winS x : Nat)) ∧ Below w.heap.size w w' := by
  have hb := (Below.refl w.heap.size w).alloc (Nat.le_refl _) (Obj.cells #[.slice a n c] 37)
  have hc := most_any a n c x _ (hx.under ((Below.refl w.heap.size w).alloc (Nat.le_refl _) (Obj.cells #[.slice a n c] 37))) hsm
  replace hb := hide hb; replace hc := hide hc
  clear hx
  go_enter Try.func13, Try.ntmps13
  go_wp2_with fail
  refine (unhide hc).mono ?_
  rintro e w1 ⟨rfl, hb1⟩
  have hb2 := hide ((unhide hb).trans (hb1.mono (unhide hb).size))
  clear hc hb1
  go_wp2_with fail
  go_ret
  exact ⟨rfl, unhide hb2⟩
end Go.Proofs.Ytfbgbbbfpkpfkaa
