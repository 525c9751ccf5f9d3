/- DigestGrows. -/
import Derived.Test.YtlmaofibdjmkeaaDgR
import Derived.Test.YtlmaofibdjmkeaaDg15
import Derived.Test.YtlmaofibdjmkeaaDg12
import Derived.ArgAppend
namespace Go.Proofs.Ytlmaofibdjmkeaa
open Go.RowKit
attribute [local go_sem ↓] Go.wp_at_zero Go.wp_at_succ
theorem lst_news {w : World} {bb off n : Nat} {L : List ByteArray} {S : Nat → Prop} (h : Lst Enc.str w S (some ⟨bb, off, none⟩) n L) (_ : 0 < n) : ∀ (j : Nat) (u : Value), (L.map vba)[j]? = some u → w.cell? ((⟨bb, off, none⟩ : Addr).add j) = some u := by
  intro j u hj
  rw [List.getElem?_map] at hj
  have hl := h.1
  cases hx : L[j]? with
  | none => rw [hx] at hj; cases hj
  | some x =>
    rw [hx] at hj
    injection hj with hj
    subst hj
    have hjl := (List.getElem?_eq_some_iff.1 hx).1
    obtain ⟨b', off', y, he, _, hy, _, hc⟩ := lst_str h (k := j) (by omega)
    injection he with he
    injection he with e1 e2
    subst e1 e2
    rw [hx] at hy
    injection hy with hy
    subst hy
    rw [Addr.add_lit]
    exact hc
theorem and_cast : ∀ n : Fin 33, 1 ≤ n.val → bits .and .i64 (n.val : Int) ((n.val : Int) - 1) = ((n.val &&& (n.val - 1) : Nat) : Int) := by decide +kernel
set_option maxRecDepth 100000 in
set_option maxHeartbeats 8000000 in
theorem digestGrows_any (a : Option Addr) (n0 c0 : Nat) (l0 : List ByteArray) (s0 : ByteArray) (wi : Int) (w : World) (hl : Lst Enc.str w (fun b => b < w.heap.size) a n0 l0) (_ : n0 ≤ c0) (_ : c0 ≤ maxLen) (hs0 : s0.size ≤ maxLen) (hwi : 0 ≤ wi ∧ wi ≤ 255) :
    Calls Try.prog 9 #[.slice a n0 c0, .string s0, .int .u8 wi] w fun e w' => e = .returned (.bool true) ∧ Below w.heap.size w w' := by
  obtain ⟨A0, rfl⟩ := Int.eq_ofNat_of_zero_le hwi.1
  have hA0 : A0 ≤ 255 := by omega
  clear hwi
  unfold maxLen at hs0
  obtain ⟨i1, hi1, hz0, hz1, hz2⟩ := info_parts info_str
  replace hi1 := hide hi1; replace hz0 := hide hz0; replace hz1 := hide hz1; replace hz2 := hide hz2
  have hsan := fun w => dsanity_any w
  have hls := fun w hl => dlist_any a n0 c0 l0 w hl
  replace hsan := hide hsan; replace hls := hide hls; replace hl := hide hl
  go_enter Try.func9, Try.ntmps9
  go_wp2_with fail
  refine (unhide hsan _).mono ?_
  rintro e w1 ⟨rfl, h1⟩
  go_wp2_with fail
  refine (unhide hls _ ((unhide hl).under h1)).mono ?_
  rintro e w2 ⟨⟨pa, pc, rfl, hL0⟩, h2⟩
  have hL := hL0.wide (S' := fun b => b < w2.heap.size) (fun b h => h.1)
  have hB := h1.trans (h2.mono h1.size)
  have hlen : (Dg.cutL l0).length ≤ 20 := by rw [cutL_len]; omega
  have hsz := cutL_sizes l0
  obtain ⟨L, hLe⟩ : ∃ L, Dg.cutL l0 = L := ⟨_, rfl⟩
  obtain ⟨N, hN⟩ : ∃ N, (Dg.cutL l0).length = N := ⟨_, rfl⟩
  rw [hN] at hlen hL ⊢
  rw [hLe] at hL hsz hN
  clear h1 h2 hL0 hls hsan hl hLe
  by_cases hN0 : N = 0
  · subst hN0
    replace hL := hide hL; replace hN := hide hN; replace hsz := hide hsz
    go_wp2_with fail
    go_ret
    exact ⟨rfl, hB⟩
  have t0 : ((N : Int) == 0) = false := beq_eq_false_iff_ne.2 (by omega)
  obtain ⟨q, hq⟩ : ∃ q, A0 % N = q := ⟨_, rfl⟩
  have hqN : q < N := by rw [← hq]; exact Nat.mod_lt _ (by omega)
  have ti : (A0 : Int) % (N : Int) = (q : Int) := by rw [← hq]; rfl
  have ti' : Int.tmod (A0 : Int) (N : Int) = (q : Int) := by rw [← hq]; rfl
  obtain ⟨bb, off, s, rfl, hbb, hs, hsi, hcell⟩ := lst_str hL hqN
  clear hs hsi hcell
  obtain ⟨u, hu⟩ : ∃ u, min s0.size 30 = u := ⟨_, rfl⟩
  obtain ⟨y, hy⟩ : ∃ y, s0.extract 0 u = y := ⟨_, rfl⟩
  have hy30 : y.size ≤ 30 := by rw [← hy, ByteArray.size_extract]; omega
  obtain ⟨wo, hwo⟩ : ∃ wo, wo = w2 := ⟨_, rfl⟩
  rw [← hwo] at hB hL hbb ⊢
  clear hwo
  have hLst := hide hL
  clear hL
  replace hB := hide hB; replace hsz := hide hsz; replace hN := hide hN; replace hq := hide hq
  go_wp2_with fail
  refine wp_region_frontG 9 (fun _ _ w' => Below wo.heap.size wo w') (fun wa wb => Below wa.heap.size wa wb)
    (fun ix v w' => match ix with
      | 0 => ∃ b, v = .slice (some ⟨b, 0, none⟩) 0 0
      | 1 => v = .slice (some ⟨bb, off, none⟩) N pc
      | 2 => ∃ va vc, v = .slice va N vc ∧ w'.ownsRow wo.heap.size 9 1 (.slice va N vc) N (L.map vba)
      | 3 => v = .string s0
      | 4 => v = .string s0
      | 5 => v = .int .i64 (s0.size : Int)
      | 6 => v = .int .i64 (u : Int)
      | 7 => v = .string y
      | 8 => ∃ b, v = .slice (some ⟨b, 0, none⟩) 1 1 ∧ w'.heap[b]? = some (.cells #[.string y] 9 (0, 0))
      | _ => True) (by rfl) (by kernel_rfl) ?_ ?_ ?_ ?_
  · exact (Below.refl _ _).drew
  · intro wa wb hR ix v hv
    match ix, hv with
    | 0, h => exact h
    | 1, h => exact h
    | 2, h => obtain ⟨va, vc, h1, h2⟩ := h; exact ⟨va, vc, h1, own_below h2 hR⟩
    | 3, h => exact h
    | 4, h => exact h
    | 5, h => exact h
    | 6, h => exact h
    | 7, h => exact h
    | 8, h => obtain ⟨b, h1, h2⟩ := h; exact ⟨b, h1, (hR.block b (Array.getElem?_eq_some_iff.1 h2).1).trans h2⟩
    | _ + 9, _ => trivial
  · intro ix hix
    obtain rfl | rfl | rfl | rfl | rfl | rfl | rfl | rfl | rfl : ix = 0 ∨ ix = 1 ∨ ix = 2 ∨ ix = 3 ∨ ix = 4 ∨ ix = 5 ∨ ix = 6 ∨ ix = 7 ∨ ix = 8 := by omega
    · refine FrontStep.of [] _ rfl (by kernel_rfl) ?_
      intro vs LL wq hLL hC hf
      simp only [putL, List.foldl_nil]
      go_wp2_with fail
      first | exact ⟨hC.alloc hC.size _, (Below.refl _ _).alloc (Nat.le_refl _) _⟩ | exact Below.refl _ _
    · refine FrontStep.of [] _ rfl (by kernel_rfl) ?_
      intro vs LL wq hLL hC hf
      simp only [putL, List.foldl_nil]
      go_wp2_with fail
      first | exact Below.refl _ _ | exact ⟨Below.refl _ _, by omega⟩
    · refine FrontStep.of [0, 1] _ rfl (by kernel_rfl) ?_
      intro vs LL wq hLL hC hf
      simp only [putL, List.foldl_nil, List.foldl_cons, List.getElem?_cons_zero, List.getElem?_cons_succ]
      obtain ⟨b, e29⟩ := hf 0 (by simp)
      rw [e29]
      have e1 : vs 1 = _ := hf 1 (by simp)
      rw [e1]
      have hnews := lst_news ((unhide hLst).under hC) (by omega)
      have hNl : L.length = N := unhide hN
      replace hnews := hide hnews
      have hszq := hC.size
      go_wp2_with (at_builtin; refine wpList_append_grows wq rfl _ _ 28 rfl 9 i1 (.string ⟨#[]⟩) 1 16 Try.underlying28 (unhide hi1) (unhide hz0) (unhide hz1) (unhide hz2) rfl (by decide) (some ⟨b, 0, none⟩) 0 0 [] rfl (fun h => by cases h) rfl (fun b _ j u hj => by simp at hj) ⟨bb, off, none⟩ N pc (L.map vba) rfl ?c0 (unhide hnews) ?c2 ?c3 ?c4 ?c5 ?_)
      case c0 => rw [List.length_map, hNl, Nat.mul_one]
      case c2 => intro u hu; obtain ⟨x, _, rfl⟩ := List.mem_map.1 hu; rfl
      case c3 => omega
      case c4 => unfold maxLen; omega
      case c5 => omega
      intro v' w5 hown5 hg5
      obtain ⟨va, vc, rfl⟩ := own_shape hown5
      have hb5 : Below wq.heap.size wq w5 := Below.grown (Below.refl _ _) hg5 (Nat.le_refl _) (fun g hg => by cases hg)
      replace hown5 := hide hown5
      replace hg5 := hide hg5
      go_wp2_with fail
      exact ⟨hC.trans (hb5.mono hC.size), va, vc, ⟨rfl, rfl⟩, ⟨(unhide hown5).1, (unhide hown5).2.imp id (fun ⟨g, cap, cur, h1, h2, h3⟩ => ⟨g, cap, cur, h1, Nat.le_trans hszq h2, h3⟩)⟩⟩
    · refine FrontStep.of [] _ rfl (by kernel_rfl) ?_
      intro vs LL wq hLL hC hf
      simp only [putL, List.foldl_nil]
      go_wp2_with fail
      first | exact Below.refl _ _ | exact ⟨Below.refl _ _, by omega⟩
    · refine FrontStep.of [] _ rfl (by kernel_rfl) ?_
      intro vs LL wq hLL hC hf
      simp only [putL, List.foldl_nil]
      go_wp2_with fail
      first | exact Below.refl _ _ | exact ⟨Below.refl _ _, by omega⟩
    · refine FrontStep.of [4] _ rfl (by kernel_rfl) ?_
      intro vs LL wq hLL hC hf
      simp only [putL, List.foldl_nil, List.foldl_cons, List.getElem?_cons_zero, List.getElem?_cons_succ]
      have e4 : vs 4 = _ := hf 4 (by simp)
      rw [e4]
      go_wp2_with fail
      first | exact Below.refl _ _ | exact ⟨Below.refl _ _, by omega⟩
    · refine FrontStep.of [5] _ rfl (by kernel_rfl) ?_
      intro vs LL wq hLL hC hf
      simp only [putL, List.foldl_nil, List.foldl_cons, List.getElem?_cons_zero, List.getElem?_cons_succ]
      have e5 : vs 5 = _ := hf 5 (by simp)
      rw [e5]
      rcases Nat.le_total s0.size 30 with hle | hle
      · obtain rfl : s0.size = u := by omega
        have t3 : ¬ (30 : Int) < (s0.size : Int) := by omega
        go_wp2_with fail
        first | exact Below.refl _ _ | exact ⟨Below.refl _ _, by omega⟩
      · obtain rfl : 30 = u := by omega
        go_wp2_with fail
        first | exact Below.refl _ _ | exact ⟨Below.refl _ _, by omega⟩
    · refine FrontStep.of [3, 6] _ rfl (by kernel_rfl) ?_
      intro vs LL wq hLL hC hf
      simp only [putL, List.foldl_nil, List.foldl_cons, List.getElem?_cons_zero, List.getElem?_cons_succ]
      have e3 : vs 3 = _ := hf 3 (by simp)
      rw [e3]
      have e6 : vs 6 = _ := hf 6 (by simp)
      rw [e6]
      have hux : u ≤ s0.size := by omega
      go_wp2_with fail
      first | exact Below.refl _ _ | exact ⟨Below.refl _ _, by rw [← hy]⟩
    · refine FrontStep.of [7] _ rfl (by kernel_rfl) ?_
      intro vs LL wq hLL hC hf
      simp only [putL, List.foldl_nil, List.foldl_cons, List.getElem?_cons_zero, List.getElem?_cons_succ]
      have e7 : vs 7 = _ := hf 7 (by simp)
      rw [e7]
      go_wp2_with fail
      exact ⟨hC.alloc hC.size _, (Below.refl _ _).alloc (Nat.le_refl _) _, (Array.getElem?_eq_some_iff.1 (heap_alloc_new _ _)).2⟩
  · intro vs LL wq hLL hC hf
    obtain ⟨va, vc, e2, hown⟩ := hf 2 (by omega)
    obtain ⟨b, e8, hb8⟩ := hf 8 (by omega)
    rw [putSome_all]
    simp only [putL, List.range, List.range.loop, List.foldl_nil, List.foldl_cons, List.getElem?_cons_zero, List.getElem?_cons_succ, List.drop_succ_cons, List.drop_zero]
    rw [e2, e8]
    clear e2 e8 hf hLL
    have hszq := hC.size
    go_simp
    go_wp2_with (at_builtin; refine wpList_append_own _ rfl _ _ 28 rfl wo.heap.size 9 i1 (.string ⟨#[]⟩) 1 16 Try.underlying28 (unhide hi1) (unhide hz0) (unhide hz1) (unhide hz2) rfl (by decide) _ _ _ rfl hown ⟨b, 0, none⟩ 1 1 [.string y] rfl rfl ?c1 ?c2 ?c3 ?c4 ?c5 ?_)
    case c1 =>
      intro j u hj
      cases j with
      | zero => simp at hj; subst hj; rw [Addr.add_lit, cell_of_row _ _ _ _ _ _ hb8]; rfl
      | succ j => simp at hj
    case c2 => intro u hu; simp at hu; subst hu; rfl
    case c3 => unfold maxLen; omega
    case c4 => omega
    case c5 => omega
    intro v' w5 hown5 hg5 _
    have hb5 : Below wo.heap.size wo w5 := Below.grown hC hg5 (by omega) (fun g hg => (hown.lt g hg).1)
    have hmore : (L.map vba ++ [Value.string y]) = (L ++ [y]).map vba := by simp
    rw [hmore] at hown5
    have hsz5 : ∀ x ∈ L ++ [y], x.size ≤ 30 := fun x hx => by
      rcases List.mem_append.1 hx with h | h
      · exact unhide hsz x h
      · simp at h; rw [h]; exact hy30
    obtain ⟨ma, mc, rfl, hM0⟩ := lst_own_vba hown5 (fun x hx => by have := hsz5 x hx; unfold maxLen; omega)
    have hMl : (L ++ [y]).length = N + 1 := by rw [List.length_append, unhide hN]; rfl
    rw [hMl] at hM0 ⊢
    have hM := hM0.wide (S' := fun b => b < w5.heap.size) (fun b h => h.1)
    have hL5 := (unhide hLst).under hb5
    have hB5 := hide ((unhide hB).trans (hb5.mono (unhide hB).size))
    have hNl : L.length = N := unhide hN
    have hgr := grows L y (by omega) q (by omega)
    have hpa := fun w hL => prove_any (some ⟨bb, off, none⟩) N pc L q w hL (by omega) hqN
    have hpb := fun w hL => prove_any ma (N + 1) mc (L ++ [y]) q w hL (by omega) (by omega)
    have hP5 := Dg.pf_many (L.map fun s => s.data.toList) q (Dg.dp (L.map fun s => s.data.toList).length)
    obtain ⟨P, hP⟩ : ∃ P, Dg.prf (L.map fun s => s.data.toList) q = P := ⟨_, rfl⟩
    obtain ⟨Q, hQ⟩ : ∃ Q, Dg.prf ((L ++ [y]).map fun s => s.data.toList) q = Q := ⟨_, rfl⟩
    simp only [hP] at hpa
    simp only [hQ] at hpb
    rw [hP, hQ, hNl] at hgr
    obtain ⟨m, hm⟩ : ∃ m, P.length = m := ⟨_, rfl⟩
    have hm5 : m ≤ 5 := by rw [← hm, ← hP]; exact Nat.le_trans hP5 (by unfold Dg.dp; (repeat' split) <;> omega)
    obtain ⟨m', hm'⟩ : ∃ m', Q.length = m' := ⟨_, rfl⟩
    simp only [hm] at hpa
    simp only [hm'] at hpb
    rw [hm, hm'] at hgr
    obtain ⟨g1, g2, g3⟩ := hgr
    have hand := and_cast ⟨N, by omega⟩ (by simp only; omega)
    simp only at hand
    obtain ⟨F, hF⟩ : ∃ F : Nat, N &&& (N - 1) = F := ⟨_, rfl⟩
    rw [hF] at g1 g3 hand
    clear hown5 hg5 hown hb8 hM0 hC hP hQ hP5 hmore hF hLst hB hsz5 hy
    replace hpa := hide hpa; replace hpb := hide hpb; replace hM := hide hM; replace hL5 := hide hL5; replace hm := hide hm; replace hm' := hide hm'; replace hMl := hide hMl; replace hNl := hide hNl; replace g2 := hide g2; replace g3 := hide g3; replace g1 := hide g1
    go_wp2_with fail
    refine (unhide hpa _ (unhide hL5)).mono ?_
    rintro e w6 ⟨⟨ua, uc, rfl, hPl0⟩, h6⟩
    go_wp2_with fail
    refine (unhide hpb _ ((unhide hM).under h6)).mono ?_
    rintro e w7 ⟨⟨za, zc, rfl, hQl0⟩, h7⟩
    have hPl := (hPl0.wide (S' := fun b => b < w6.heap.size) (fun b h => h.1)).under h7
    have hQl := hQl0.wide (S' := fun b => b < w7.heap.size) (fun b h => h.1)
    have h67 := h6.trans (h7.mono h6.size)
    have hB7 := hide ((unhide hB5).trans (h67.mono (unhide hB5).size))
    clear h6 h7 h67 hPl0 hQl0 hpa hpb hM hL5
    have hmm : m ≤ m' ∧ m' ≤ m + 1 := by have := unhide g1; split at this <;> omega
    have t5 : ¬ (m' : Int) < (m : Int) := by omega
    have t6 : ¬ (m : Int) + 1 < (m' : Int) := by omega
    replace hPl := hide hPl; replace hQl := hide hQl
    go_wp2_with fail
    go_loopw [14, 15, 74] (fun v14 _ v74 wr => ∃ k j : Nat, k ≤ m ∧ v74 = .int .i64 (k : Int) ∧ v14 = .int .i64 ((Dg.cnt P Q k : Nat) : Int) ∧ wr = w7.drewN j) (fun _ _ v _ => (m - intOf v).toNat)
    case atStart => exact ⟨0, 0, by omega, rfl, rfl, rfl⟩
    case round =>
      obtain ⟨k, j, hk, rfl, rfl, rfl⟩ := hrel
      have hck := Dg.cnt_le P Q k
      by_cases hlt : k < m
      · obtain ⟨b1, o1, x1, rfl, hb1, hx1, hxi1, hc1⟩ := lst_str ((unhide hPl).drewN j) hlt
        obtain ⟨b2, o2, x2, rfl, hb2, hx2, hxi2, hc2⟩ := lst_str ((unhide hQl).drewN j) (k := k) (by omega)
        have hnext : Dg.cnt P Q (k + 1) = Dg.cnt P Q k + (if x1 = x2 then 0 else 1) := by
          rw [Dg.cnt, hx1, hx2]
          congr 1
          by_cases h : x1 = x2
          · rw [if_pos h, if_pos (by rw [h])]
          · rw [if_neg h, if_neg (fun e => h (by injection e))]
        have hdec := ba_dec x1 x2
        replace hnext := hide hnext; replace hx1 := hide hx1; replace hx2 := hide hx2
        obtain ⟨ck, hcke⟩ : ∃ ck, Dg.cnt P Q k = ck := ⟨_, rfl⟩
        rw [hcke] at hck ⊢
        replace hcke := hide hcke
        have c1 : w7.cell? ⟨b1, o1 + k, none⟩ = some (.string x1) := hc1
        have c2 : w7.cell? ⟨b2, o2 + k, none⟩ = some (.string x2) := hc2
        by_cases he : x1 = x2
        · rw [decide_eq_true he] at hdec
          have hn2 := unhide hnext
          rw [if_pos he, unhide hcke, Nat.add_zero] at hn2
          replace hn2 := hide hn2; replace he := hide he
          clear hc1 hc2 hb1 hb2
          go_wp2_with fail
          go_quiet (fail)
          go_wp2_with fail
          go_roundw
          case rel => exact ⟨k + 1, _, by omega, by go_num, by rw [unhide hn2]; rfl, rfl⟩
          case measure => simp [intOf]; omega
        · rw [decide_eq_false he] at hdec
          have hn2 := unhide hnext
          rw [if_neg he, unhide hcke] at hn2
          replace hn2 := hide hn2; replace he := hide he
          clear hc1 hc2 hb1 hb2
          go_wp2_with fail
          go_quiet (fail)
          go_wp2_with fail
          go_roundw
          case rel => exact ⟨k + 1, _, by omega, by go_num, by rw [unhide hn2]; exact by go_num, rfl⟩
          case measure => simp [intOf]; omega
      · obtain rfl : k = m := by omega
        have hbF := blw_drewN (unhide hB7) j
        have hc1 := unhide g2
        have hc0 := unhide g3
        have hmq := unhide g1
        obtain ⟨ck, hcke⟩ : ∃ ck, Dg.cnt P Q k = ck := ⟨_, rfl⟩
        rw [hcke] at hc1 hc0 hck ⊢
        replace hcke := hide hcke
        have tw : wrap64 ((N : Int) - 1) = (N : Int) - 1 := by unfold wrap64; omega
        by_cases hF : F = 0
        · rw [if_pos hF] at hmq
          have hk0 := hc0 hF
          subst hk0
          have t7 : ((F : Int) == 0) = true := by rw [hF]; rfl
          have t8 : (k : Int) < (m' : Int) := by omega
          clear hc1 hc0 hck
          go_wp2_with fail
          go_ret
          exact ⟨rfl, hbF⟩
        · rw [if_neg hF] at hmq
          have t7 : ((F : Int) == 0) = false := beq_eq_false_iff_ne.2 (by omega)
          have t8 : ¬ (k : Int) < (m' : Int) := by omega
          obtain rfl | rfl : ck = 0 ∨ ck = 1 := by omega
          · clear hc1 hc0 hck
            go_wp2_with fail
            go_ret
            exact ⟨rfl, hbF⟩
          · clear hc1 hc0 hck
            go_wp2_with fail
            go_ret
            exact ⟨rfl, hbF⟩
end Go.Proofs.Ytlmaofibdjmkeaa
