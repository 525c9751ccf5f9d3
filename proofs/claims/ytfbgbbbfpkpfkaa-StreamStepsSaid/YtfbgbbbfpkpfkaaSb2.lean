/- Lookups: append of a list to a row of numbers; Grow, Concat, Clone, IndexFunc, ContainsFunc. -/
import Derived.Test.YtfbgbbbfpkpfkaaSb1
import Derived.Lib.AppendZeros
namespace Go.Proofs.Ytfbgbbbfpkpfkaa
open Go.RowKit

def vints (l : List Int) : List Value := l.map (Value.int .i64)
theorem vints_len (l : List Int) : (vints l).length = l.length := by unfold vints; simp
theorem vints_app (l m : List Int) : vints l ++ vints m = vints (l ++ m) := by unfold vints; simp
theorem vints_one (l : List Int) : ∀ u ∈ vints l, u.oneCell' = true := by
  intro u hu
  obtain ⟨x, _, rfl⟩ := List.mem_map.1 hu
  rfl
theorem lst_vints {w : World} {S : Nat → Prop} {b off n : Nat} {l : List Int} (h : Lst Enc.int w S (some ⟨b, off, none⟩) n l) : ∀ (j : Nat) (u : Value), (vints l)[j]? = some u → w.cell? ((⟨b, off, none⟩ : Addr).add j) = some u := by
  intro j u hu
  unfold vints at hu
  rw [List.getElem?_map] at hu
  cases hx : l[j]? with
  | none => rw [hx] at hu; cases hu
  | some x =>
    rw [hx] at hu
    simp at hu
    subst hu
    have hj : j < n := by rw [← h.1]; exact (List.getElem?_eq_some_iff.1 hx).1
    obtain ⟨b', off', y, he, _, hy, _, hc⟩ := lst_int h hj
    cases he
    rw [hx] at hy
    cases hy
    rw [Addr.add_lit]
    exact hc
theorem run_append_empty {P : Program} {w : World} (base : Nat) (t ty e : TypeId) (i : TypeInfo) (size c : Nat) (ht : P.underlying t = some (.slice e)) (hi : P.info? e = some i)
    (v : Value) (n : Nat) (xs : List Value) (hown : w.ownsRow base e size v n xs) :
    (Builtin.append_ #[t, t] ty #[v, .slice none 0 c]).run P w = .ok v w := by
  rcases hown.2 with ⟨rfl, rfl⟩ | ⟨g, cap, cur, rfl, _, _, hnc, _⟩
  · simp [Builtin.append_, run_underlying ht, sizeOf, typeInfo, hi, Builtin.lenOf, Builtin.firstCells]
  · simp [Builtin.append_, run_underlying ht, sizeOf, typeInfo, hi, Builtin.lenOf, Builtin.firstCells, hnc, storeCells]
/-- append of a list to an own row of numbers -/
theorem wpList_append_ints {w : World} {ops : Array Oper} {rest : List Oper} {o : Oper} {a : Act} {Q : Exit → Act → World → Prop} (hgd : o.guard = none) (s x : Operand)
    (ho : o.op = .call { callee := .builtin .append, args := #[s, x], argTypes := #[22, 22] })
    (base : Nat) (v : Value) (k : Nat) (xs : List Value) (hs : a.eval s = v) (hown : w.ownsRow base 3 1 v k xs)
    (S : Nat → Prop) (ad : Option Addr) (n c : Nat) (l : List Int) (hx : a.eval x = .slice ad n c) (hl : Lst Enc.int w S ad n l) (h63 : k + n ≤ 1000000000000) (hbase : base ≤ w.heap.size)
    (h : ∀ v' w', w'.ownsRow base 3 1 v' (k + n) (xs ++ vints l) → w.grownBy w' v.ownBlock → wpList Try.prog ops Q rest (a.put o.dst v') w') : wpList Try.prog ops Q (o :: rest) a w := by
  obtain ⟨i3, hi3, hiz3, his3, hiy3⟩ := info_parts info_int
  have hlen := hl.1
  have go : ∀ g, ad = some g → (∀ (j : Nat) (u : Value), (vints l)[j]? = some u → w.cell? (g.add j) = some u) → wpList Try.prog ops Q (o :: rest) a w := fun g hg hc => by
    subst hg
    exact wpList_append_own w hgd s x 22 ho base 3 i3 (.int .i64 0) 1 8 Try.underlying22 hi3 hiz3 his3 hiy3 rfl (by decide) v k xs hs hown g n c (vints l) hx (by rw [vints_len, hlen, Nat.mul_one]) hc (vints_one l) (by unfold maxLen; omega) (by omega) hbase (fun v' w' h1 h2 _ => h v' w' h1 h2)
  by_cases h0 : n = 0
  · subst h0
    have hnil : l = [] := List.eq_nil_of_length_eq_zero hlen
    subst hnil
    cases ad with
    | none =>
      refine Lib.wpList_append_run w hgd s x 22 22 ho v _ hs hx v w (run_append_empty base _ _ _ i3 1 c Try.underlying22 hi3 v k xs hown) (h v w ?_ (grown_of_below (Below.refl _ _) _))
      simpa [vints] using hown
    | some g => exact go g rfl (fun j u hu => by simp [vints] at hu)
  · obtain ⟨b, off, rfl, _⟩ := hl.2 (by omega)
    exact go _ rfl (lst_vints hl)
theorem own_empty {w : World} {base : Nat} {T g n c : Nat} {xs : List Value} (h : w.ownsRow base T 1 (.slice (some ⟨g, 0, none⟩) n c) n xs) : w.ownsRow base T 1 (.slice (some ⟨g, 0, none⟩) 0 c) 0 [] := by
  rcases h.2 with ⟨h', _⟩ | ⟨g', cap, cur, h', hb, hg, hn, hc, hs, ht⟩
  · cases h'
  · injection h' with e1 e2 e3
    subst e3
    injection e1 with e1
    injection e1 with e1
    subst e1
    exact ⟨rfl, .inr ⟨g, c, cur, rfl, hb, hg, Nat.zero_le _, hc, hs, rfl⟩⟩
set_option maxHeartbeats 1000000 in
theorem grow_any (n : Nat) (w : World) (hn : n ≤ 1000000) :
    Calls Try.prog 64 #[.slice none 0 0, .int .i64 (n : Int)] w fun e w' => ∃ v, e = .returned v ∧ w'.ownsRow w.heap.size 3 1 v 0 [] ∧ Below w.heap.size w w' := by
  by_cases h0 : n = 0
  · subst h0
    go_enter Try.func64, Try.ntmps64
    go_wp2_with fail
    go_ret
    exact ⟨_, rfl, World.ownsRow_nil _ _ _ _, Below.refl _ _⟩
  · obtain ⟨i3, hi3, hiz3, his3, hiy3⟩ := info_parts info_int
    have h1 : 0 < n := by omega
    have t1 : ¬ (n : Int) < 0 := by omega
    have t2 : (0 : Int) < (n : Int) := by omega
    have t3 : (0 : Int) - 0 = 0 := rfl
    have hrun := Lib.run_append_nil_zeros (P := Try.prog) w 22 3 22 3 i3 (.int .i64 0) .i64 .i64 Try.underlying22 Try.underlying3 hi3 hiz3 n h1 (by rw [his3]; decide) (by omega) (by rw [hiy3]; omega)
    replace hi3 := hide hi3; replace hiz3 := hide hiz3; replace his3 := hide his3; replace hiy3 := hide hiy3
    replace hrun := hide hrun
    go_enter Try.func64, Try.ntmps64
    go_wp2_with (at_builtin; refine Lib.wpList_append_run _ rfl _ _ 22 3 rfl _ _ rfl rfl _ _ (unhide hrun) ?_)
    have hcap := grownCap_ge w n 0 3
    have hcap2 := grownCap_le_maxLen w n 0 3 (by unfold maxLen; omega)
    go_ret
    refine ⟨_, rfl, ⟨rfl, .inr ⟨w.heap.size, _, _, rfl, Nat.le_refl _, heap_alloc_new w _, Nat.zero_le _, hcap2, ?_, rfl⟩⟩, ((Below.refl _ _).alloc (Nat.le_refl _) _).drew⟩
    simp [size_zeroCells]
    omega
theorem vints_snoc (l : List Int) (m : List Int) : vints (l ++ m) = vints l ++ vints m := (vints_app l m).symm
/-- three lists -/
def pre3 (x y z : Nat) (k : Nat) : Nat := ([x, y, z].take k).sum
def cat3 (x y z : List Int) (k : Nat) : List Int := ([x, y, z].take k).flatten
theorem cat3_len (x y z : List Int) (k : Nat) : (cat3 x y z k).length = pre3 x.length y.length z.length k := by
  unfold cat3 pre3
  rw [List.length_flatten, List.map_take]
  rfl
set_option maxHeartbeats 2000000 in
theorem concat_any (bs : Nat) (a1 : Option Addr) (n1 c1 : Nat) (l1 : List Int) (a2 : Option Addr) (n2 c2 : Nat) (l2 : List Int) (a3 : Option Addr) (n3 c3 : Nat) (l3 : List Int) (w : World)
    (h0 : w.cell? ⟨bs, 0, none⟩ = some (.slice a1 n1 c1)) (h1 : w.cell? ⟨bs, 1, none⟩ = some (.slice a2 n2 c2)) (h2 : w.cell? ⟨bs, 2, none⟩ = some (.slice a3 n3 c3))
    (hl1 : Lst Enc.int w (· < w.heap.size) a1 n1 l1) (hl2 : Lst Enc.int w (· < w.heap.size) a2 n2 l2) (hl3 : Lst Enc.int w (· < w.heap.size) a3 n3 l3) (hn1 : n1 ≤ 1000) (hn2 : n2 ≤ 1000) (hn3 : n3 ≤ 1000) :
    Calls Try.prog 51 #[.slice (some ⟨bs, 0, none⟩) 3 3] w fun e w' => ∃ v, e = .returned v ∧ w'.ownsRow w.heap.size 3 1 v (l1 ++ (l2 ++ l3)).length (vints (l1 ++ (l2 ++ l3))) ∧ Below w.heap.size w w' := by
  have e1 := hl1.1
  have e2 := hl2.1
  have e3 := hl3.1
  replace e1 := hide e1; replace e2 := hide e2; replace e3 := hide e3
  replace hl1 := hide hl1; replace hl2 := hide hl2; replace hl3 := hide hl3
  go_enter Try.func51, Try.ntmps51
  go_wp2_with fail
  go_loopw [3, 11] (fun s i wr => ∃ k : Nat, k ≤ 3 ∧ i = .int .i64 (k : Int) ∧ s = .int .i64 (pre3 n1 n2 n3 k : Nat) ∧ wr = w) (fun _ i _ => 3 - (intOf i).toNat)
  case atStart => exact ⟨0, by omega, rfl, rfl, rfl⟩
  case round =>
    obtain ⟨k, hk, rfl, rfl, ew⟩ := hrel
    subst ew
    by_cases hlt : k < 3
    · obtain rfl | rfl | rfl : k = 0 ∨ k = 1 ∨ k = 2 := by omega
      all_goals
        simp only [pre3, List.take_zero, List.take_succ_cons, List.sum_nil, List.sum_cons]
        go_wp2_with fail
        go_roundw
        case rel => first | exact ⟨1, by omega, by go_num, by simp, trivial⟩ | exact ⟨2, by omega, by go_num, by simp, trivial⟩ | exact ⟨3, by omega, by go_num, by simp [Int.add_assoc], trivial⟩
        case measure => simp [intOf]
    · obtain rfl : k = 3 := by omega
      obtain ⟨V, rfl⟩ : ∃ V : World, V = wr := ⟨_, rfl⟩
      obtain ⟨T, hT⟩ : ∃ T, pre3 n1 n2 n3 3 = T := ⟨_, rfl⟩
      have hTb : T ≤ 3000 := by rw [← hT]; simp [pre3]; omega
      rw [hT]
      have hgrow := grow_any T V (by omega)
      replace hT := hide hT; replace hgrow := hide hgrow
      go_wp2_with fail
      refine (unhide hgrow).mono ?_
      rintro e w1 ⟨v1, rfl, hown1, hb1⟩
      clear hgrow
      have hm1 := cell_under h0 hb1
      have hm2 := cell_under h1 hb1
      have hm3 := cell_under h2 hb1
      have hk1 := (unhide hl1).under hb1
      have hk2 := (unhide hl2).under hb1
      have hk3 := (unhide hl3).under hb1
      obtain ⟨W, hW⟩ : ∃ W, V.heap.size = W := ⟨_, rfl⟩
      rw [hW] at hown1 hb1
      replace hW := hide hW
      have hbs : bs < W := by rw [← unhide hW]; exact World.block_lt_of_cell? V _ h0
      have hS1 : Lst Enc.int V (· < W) a1 n1 l1 := by rw [← unhide hW]; exact unhide hl1
      have hS2 : Lst Enc.int V (· < W) a2 n2 l2 := by rw [← unhide hW]; exact unhide hl2
      have hS3 : Lst Enc.int V (· < W) a3 n3 l3 := by rw [← unhide hW]; exact unhide hl3
      clear hm1 hm2 hm3 hk1 hk2 hk3 hl1 hl2 hl3
      replace hown1 := hide hown1; replace hb1 := hide hb1; replace hS1 := hide hS1; replace hS2 := hide hS2; replace hS3 := hide hS3; replace h0 := hide h0; replace h1 := hide h1; replace h2 := hide h2; replace hbs := hide hbs
      go_wp2_with fail
      go_loopw [6, 27] (fun v i wr => ∃ k : Nat, k ≤ 3 ∧ i = .int .i64 (k : Int) ∧ wr.ownsRow W 3 1 v (cat3 l1 l2 l3 k).length (vints (cat3 l1 l2 l3 k)) ∧ Below W V wr) (fun _ i _ => 3 - (intOf i).toNat)
      case atStart => exact ⟨0, by omega, rfl, unhide hown1, unhide hb1⟩
      case round =>
        obtain ⟨k, hk, rfl, hown, hbw⟩ := hrel
        by_cases hlt : k < 3
        · have c0 := (hbw.cell (p := ⟨bs, 0, none⟩) (unhide hbs)).trans (unhide h0)
          have c1' := (hbw.cell (p := ⟨bs, 1, none⟩) (unhide hbs)).trans (unhide h1)
          have c2' := (hbw.cell (p := ⟨bs, 2, none⟩) (unhide hbs)).trans (unhide h2)
          have q1 := (unhide hS1).below hbw
          have q2 := (unhide hS2).below hbw
          have q3 := (unhide hS3).below hbw
          have hlen := cat3_len l1 l2 l3 k
          have hlenb : (cat3 l1 l2 l3 k).length ≤ 3000 := by
            rw [hlen, unhide e1, unhide e2, unhide e3]
            obtain rfl | rfl | rfl : k = 0 ∨ k = 1 ∨ k = 2 := by omega
            all_goals simp [pre3]
            all_goals omega
          have hsz : W ≤ wr.heap.size := by have := hbw.size; rw [unhide hW] at this; exact this
          clear hlen
          replace hown := hide hown; replace q1 := hide q1; replace q2 := hide q2; replace q3 := hide q3; replace hbw := hide hbw
          obtain rfl | rfl | rfl : k = 0 ∨ k = 1 ∨ k = 2 := by omega
          · go_wp2_with (at_builtin; refine wpList_append_ints rfl _ _ rfl W _ _ _ rfl (unhide hown) (· < W) _ _ _ _ rfl (unhide q1) ?d1 ?d2 ?_)
            case d1 => omega
            case d2 => omega
            intro v' w2 hown2 hg2
            have hb2 := Below.grown (unhide hbw) hg2 hsz (fun g e => ((unhide hown).lt g e).1)
            have hrow : w2.ownsRow W 3 1 v' (cat3 l1 l2 l3 1).length (vints (cat3 l1 l2 l3 1)) := by
              rw [vints_app] at hown2
              have e4 : cat3 l1 l2 l3 0 ++ l1 = cat3 l1 l2 l3 1 := by simp [cat3]
              have e5 : (cat3 l1 l2 l3 0).length + n1 = (cat3 l1 l2 l3 1).length := by rw [← e4, List.length_append, unhide e1]
              rw [e4, e5] at hown2
              exact hown2
            clear hown2 hg2
            replace hrow := hide hrow; replace hb2 := hide hb2
            go_wp2_with fail
            go_roundw
            case rel => exact ⟨1, by omega, by go_num, unhide hrow, unhide hb2⟩
            case measure => simp [intOf]
          · go_wp2_with (at_builtin; refine wpList_append_ints rfl _ _ rfl W _ _ _ rfl (unhide hown) (· < W) _ _ _ _ rfl (unhide q2) ?d1 ?d2 ?_)
            case d1 => omega
            case d2 => omega
            intro v' w2 hown2 hg2
            have hb2 := Below.grown (unhide hbw) hg2 hsz (fun g e => ((unhide hown).lt g e).1)
            have hrow : w2.ownsRow W 3 1 v' (cat3 l1 l2 l3 2).length (vints (cat3 l1 l2 l3 2)) := by
              rw [vints_app] at hown2
              have e4 : cat3 l1 l2 l3 1 ++ l2 = cat3 l1 l2 l3 2 := by simp [cat3]
              have e5 : (cat3 l1 l2 l3 1).length + n2 = (cat3 l1 l2 l3 2).length := by rw [← e4, List.length_append, unhide e2]
              rw [e4, e5] at hown2
              exact hown2
            clear hown2 hg2
            replace hrow := hide hrow; replace hb2 := hide hb2
            go_wp2_with fail
            go_roundw
            case rel => exact ⟨2, by omega, by go_num, unhide hrow, unhide hb2⟩
            case measure => simp [intOf]
          · go_wp2_with (at_builtin; refine wpList_append_ints rfl _ _ rfl W _ _ _ rfl (unhide hown) (· < W) _ _ _ _ rfl (unhide q3) ?d1 ?d2 ?_)
            case d1 => omega
            case d2 => omega
            intro v' w2 hown2 hg2
            have hb2 := Below.grown (unhide hbw) hg2 hsz (fun g e => ((unhide hown).lt g e).1)
            have hrow : w2.ownsRow W 3 1 v' (cat3 l1 l2 l3 3).length (vints (cat3 l1 l2 l3 3)) := by
              rw [vints_app] at hown2
              have e4 : cat3 l1 l2 l3 2 ++ l3 = cat3 l1 l2 l3 3 := by simp [cat3]
              have e5 : (cat3 l1 l2 l3 2).length + n3 = (cat3 l1 l2 l3 3).length := by rw [← e4, List.length_append, unhide e3]
              rw [e4, e5] at hown2
              exact hown2
            clear hown2 hg2
            replace hrow := hide hrow; replace hb2 := hide hb2
            go_wp2_with fail
            go_roundw
            case rel => exact ⟨3, by omega, by go_num, unhide hrow, unhide hb2⟩
            case measure => simp [intOf]
        · obtain rfl : k = 3 := by omega
          have e4 : cat3 l1 l2 l3 3 = l1 ++ (l2 ++ l3) := by simp [cat3]
          rw [e4] at hown
          replace hown := hide hown; replace hbw := hide hbw
          go_wp2_with fail
          go_ret
          rw [unhide hW]
          exact ⟨_, rfl, unhide hown, unhide hbw⟩
end Go.Proofs.Ytfbgbbbfpkpfkaa
