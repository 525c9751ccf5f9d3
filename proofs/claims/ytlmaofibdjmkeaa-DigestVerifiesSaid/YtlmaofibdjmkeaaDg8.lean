/- digest.Prove. -/
import Derived.Test.YtlmaofibdjmkeaaDg7
import Derived.Test.YtlmaofibdjmkeaaFrontG
namespace Go.Proofs.Ytlmaofibdjmkeaa
open Go.RowKit
attribute [local go_sem ↓] Go.wp_at_zero Go.wp_at_succ
/-- what the proof is and where one stands, below level k -/
def Dg.pf (L : List (List UInt8)) (i : Nat) : Nat → List ByteArray × Nat
  | 0 => ([], i)
  | k + 1 => if 1 < (Dg.lev L k).length then ((Dg.pf L i k).1 ++ [⟨((Dg.lev L k)[(Dg.pf L i k).2 ^^^ 1]?.getD []).toArray⟩], (Dg.pf L i k).2 / 2) else Dg.pf L i k
theorem Dg.T_pow (n k : Nat) : Dg.T n / 2 ^ k = 0 ∨ Dg.T n / 2 ^ k = 1 ∨ (Dg.T n / 2 ^ k) % 2 = 0 := by
  have hT : Dg.T n = 1 ∨ Dg.T n = 2 ∨ Dg.T n = 4 ∨ Dg.T n = 8 ∨ Dg.T n = 16 ∨ Dg.T n = 32 := by
    unfold Dg.T
    (repeat' split)
    all_goals omega
  by_cases hk : k ≤ 5
  · obtain rfl | rfl | rfl | rfl | rfl | rfl : k = 0 ∨ k = 1 ∨ k = 2 ∨ k = 3 ∨ k = 4 ∨ k = 5 := by omega
    all_goals rcases hT with h | h | h | h | h | h <;> rw [h] <;> decide
  · left
    have : 2 ^ 6 ≤ 2 ^ k := Nat.pow_le_pow_right (by omega) (by omega)
    exact Nat.div_eq_of_lt (by omega)
theorem Dg.xor_lt : ∀ n q : Fin 33, n.val % 2 = 0 → q.val < n.val → q.val ^^^ 1 < n.val := by decide +kernel
theorem xor_cast : ∀ q : Fin 33, bits .xor .i64 (q.val : Int) 1 = ((q.val ^^^ 1 : Nat) : Int) := by decide +kernel
theorem Dg.pf_lt (L : List (List UInt8)) (hL : L.length ≤ 32) (i : Nat) (hi : i < L.length) : ∀ k, 1 ≤ (Dg.lev L k).length → (Dg.pf L i k).2 < (Dg.lev L k).length := by
  intro k
  induction k with
  | zero => intro _; rw [Dg.lev, Dg.lev0_len L hL]; have := (Dg.T_ge L.length hL).1; show i < _; omega
  | succ k ih =>
    intro h
    have h2 : (Dg.lev L (k + 1)).length = (Dg.lev L k).length / 2 := by rw [Dg.lev, Dg.up_len]
    have hk := ih (by omega)
    have hp := Dg.T_pow L.length k
    rw [← Dg.lev_len L hL k] at hp
    have h1 : 1 < (Dg.lev L k).length := by omega
    rw [Dg.pf, if_pos h1, h2]
    show (Dg.pf L i k).2 / 2 < _
    omega
theorem Dg.pf_many (L : List (List UInt8)) (i k : Nat) : (Dg.pf L i k).1.length ≤ k := by
  induction k with
  | zero => exact Nat.le_refl _
  | succ k ih =>
    rw [Dg.pf]
    split
    · simp; omega
    · omega
theorem Dg.k_le (L : List (List UInt8)) (hL : L.length ≤ 32) (k : Nat) (h : 1 ≤ (Dg.lev L k).length) : k ≤ 5 := by
  rw [Dg.lev_len L hL] at h
  apply Nat.le_of_not_lt
  intro hk
  have : 2 ^ 6 ≤ 2 ^ k := Nat.pow_le_pow_right (by omega) (by omega)
  have hT := (Dg.T_ge L.length hL).2.2
  rw [Nat.div_eq_of_lt (by omega)] at h
  omega
theorem own_block {W : World} {B g c n T s : Nat} {xs : List Value} (hown : W.ownsRow B T s (.slice (some ⟨g, 0, none⟩) n c) n xs) : ∃ cs, W.heap[g]? = some (.cells cs T (0, 0)) := by
  obtain ⟨_, ⟨hv, _⟩ | ⟨g', cap', cur, hv, _, hgc, _⟩⟩ := hown
  · cases hv
  · injection hv with e1
    injection e1 with e1
    injection e1 with e1
    subst e1
    exact ⟨_, hgc⟩
theorem box_put {w : World} {b T : Nat} {u x : Value} (h : w.heap[b]? = some (.cells #[u] T (0, 0))) : (w.setCell ⟨b, 0, none⟩ x).heap[b]? = some (.cells #[x] T (0, 0)) := by simp [World.setCell, Array.getElem?_modify, h]
theorem box_other {w : World} {b c : Nat} {x : Value} (h : b ≠ c) : (w.setCell ⟨b, 0, none⟩ x).heap[c]? = w.heap[c]? := by simp [World.setCell, Array.getElem?_modify, h]
section
attribute [local go_sem] Oper.semAt_some
theorem boxed_ne {w W : World} {v : Value} {n : Nat} {xs : List Value} {T : Nat} (h : W.ownsRow (w.heap.size + 2) T 1 v n xs) (b : Nat) (hb : b < w.heap.size + 2) : v.ownBlock ≠ some b := fun e => by
  have := (h.lt b e).1
  omega
set_option maxRecDepth 100000 in
set_option maxHeartbeats 4000000 in
theorem dProve_any (a : Option Addr) (len cap : Nat) (L : List ByteArray) (i : Nat) (w : World) (hL : Lst Enc.str w (fun b => b < w.heap.size) a len L) (hlen : len ≤ 32) (hi : i < len) :
    Calls Try.prog 23 #[.slice a len cap, .int .i64 (i : Int)] w fun e w' => (∃ k v, (Dg.lev (L.map fun s => s.data.toList) k).length = 1 ∧ e = .returned (.tuple #[v, .bool true]) ∧
      w'.ownsRow (w.heap.size + 2) 9 1 v (Dg.pf (L.map fun s => s.data.toList) i k).1.length ((Dg.pf (L.map fun s => s.data.toList) i k).1.map vba)) ∧ Below w.heap.size w w' := by
  refine (callsIn_wide (n := 8)).1 ?_
  obtain ⟨i1, hi1, hz0, hz1, hz2⟩ := info_parts info_str
  obtain ⟨Lb, hLb⟩ : ∃ Lb, (L.map fun s => s.data.toList) = Lb := ⟨_, rfl⟩
  have hLbl : Lb.length = len := by rw [← hLb, List.length_map]; exact hL.1
  rw [hLb]
  replace hLb := hide hLb; replace hi1 := hide hi1; replace hz0 := hide hz0; replace hz1 := hide hz1; replace hz2 := hide hz2; replace hLbl := hide hLbl
  have h1 : ¬ (i : Int) < 0 := by omega
  have h2 : (i : Int) < (len : Int) := by omega
  refine callsIn_of_wp_marks Try.func23 rfl trivial ?_ rfl
  simp only [Try.ntmps23, List.size_toArray, List.length_cons, List.length_nil, Nat.reduceAdd, Nat.reduceSub, Array.replicate_succ, Array.replicate_zero, List.push_toArray, List.append_toArray, List.nil_append, List.cons_append]
  have hlev : ∀ w, CallsIn Fence.wide 7 Try.prog 36 #[.slice a len cap] w _ := fun w => levels_in 7 a len cap w
  replace hlev := hide hlev
  replace hL := hide hL
  gi_wp2
  refine ⟨trivial, (unhide hlev _).mono ?_⟩
  rintro e w2 ⟨rfl, hw2⟩
  have hb2 : Below w.heap.size w w2 := by rw [hw2]; exact (((Below.refl _ w).alloc (Nat.le_refl _) _).alloc (by simp) _).alloc (by simp; omega) _
  have hr2 : w2.heap[w.heap.size]? = some (.cells #[.int .i64 (i : Int)] 3 (0, 0)) := by
    rw [hw2]
    exact (Below.heap_alloc _ _ _ (by simp; omega)).trans ((Below.heap_alloc _ _ _ (by simp)).trans (heap_alloc_new w _))
  have hr3 : w2.heap[w.heap.size + 1]? = some (.cells #[.slice none 0 0] 28 (0, 0)) := by
    rw [hw2]
    have := heap_alloc_new (w.alloc (Obj.cells #[.int .i64 (i : Int)] 3)) (Obj.cells #[Value.slice none 0 0] 28)
    rw [World.size_alloc] at this
    exact (Below.heap_alloc _ _ _ (by simp)).trans this
  have hx2 : w2.cell? ⟨w.heap.size + 2, 0, none⟩ = some (.slice a len cap) := by
    rw [hw2]
    have := heap_alloc_new ((w.alloc (Obj.cells #[.int .i64 (i : Int)] 3)).alloc (Obj.cells #[Value.slice none 0 0] 28)) (Obj.cells #[Value.slice a len cap] 28)
    rw [World.size_alloc, World.size_alloc] at this
    exact (cell_of_row _ _ 0 _ _ _ this).trans rfl
  have hs2 : w2.heap.size = w.heap.size + 3 := by rw [hw2]; simp
  simp only [World.size_alloc]
  clear hw2 hlev h1 h2
  replace hr2 := hide hr2; replace hr3 := hide hr3; replace hx2 := hide hx2; replace hs2 := hide hs2; replace hb2 := hide hb2
  gi_wp2
  have hL2 := (unhide hL).under (unhide hb2)
  refine range_levels (w.heap.size + 2) a len cap L (by omega) rfl (unhide hx2) hL2 hlen rfl
    (fun k W => Below w.heap.size w W ∧ W.heap[w.heap.size]? = some (.cells #[.int .i64 ((Dg.pf Lb i k).2 : Int)] 3 (0, 0)) ∧ ∃ v, W.heap[w.heap.size + 1]? = some (.cells #[v] 28 (0, 0)) ∧
      W.ownsRow (w.heap.size + 2) 9 1 v (Dg.pf Lb i k).1.length ((Dg.pf Lb i k).1.map vba)) ?_ ?_ ?_ ?_ ?_
  · rintro k A B hA ⟨h2, h3, v, h4, h5⟩ hAB
    exact ⟨h2.trans (hAB.mono h2.size), (hAB.block _ (Array.getElem?_eq_some_iff.1 h3).1).trans h3, v, (hAB.block _ (Array.getElem?_eq_some_iff.1 h4).1).trans h4, own_below h5 hAB⟩
  · rintro k A l o o' hl ho hs ⟨h2, h3, v, h4, h5⟩
    have hs2' := unhide hs2
    exact ⟨below_put h2 (by omega), (World.putObj_heap_other (by omega)).trans h3, v, (World.putObj_heap_other (by omega)).trans h4, ownsRow_putObj h5 _ hl ho⟩
  · exact ⟨unhide hb2, unhide hr2, _, unhide hr3, World.ownsRow_nil _ _ _ _⟩
  · rw [unhide hLb]
    rintro k W3 l g c - hg hW3 hlD hpos hown
    obtain ⟨m, hm⟩ : ∃ m, (Dg.lev Lb k).length = m := ⟨_, rfl⟩
    have hpf := Dg.pf_lt Lb (by rw [unhide hLbl]; exact hlen) i (by rw [unhide hLbl]; exact hi) k hpos
    rw [hm] at hown hpos hpf ⊢
    refine ⟨{ tmps := #[.slice a len cap, .int .i64 (i : Int), undef, .pointer (some ⟨w.heap.size, 0, none⟩), .slice none 0 0, .bool false, .pointer (some ⟨w.heap.size + 1, 0, none⟩), .slice (some ⟨g, 0, none⟩) m c, .int .i64 (i : Int), .bool false, .bool false, .int .i64 (i : Int), .slice a len cap, .int .i64 (len : Int), .bool false, .bool false, .slice a len cap, .func (.func 41) #[] #[.pointer (some ⟨w.heap.size + 2, 0, none⟩)], .slice (some ⟨g, 0, none⟩) m c, undef, undef, undef, undef, undef, undef, undef, undef, undef, undef, undef, undef, undef, undef, undef], defers := [] }, ?asg, ?bdy⟩
    case asg =>
      intro K hK
      gi_wp2
      exact hK
    rintro Wb ⟨hbb, hb0, va, hb1, hownP⟩ hWb hown
    have hs2' := unhide hs2
    have hgb := own_base hown
    have hLall := Dg.lev_all Lb k
    obtain ⟨csg, hgrow⟩ := own_block hown
    replace hgrow := hide hgrow
    obtain ⟨q, hq⟩ : ∃ q, (Dg.pf Lb i k).2 = q := ⟨_, rfl⟩
    obtain ⟨Ps, hPs⟩ : ∃ Ps, (Dg.pf Lb i k).1 = Ps := ⟨_, rfl⟩
    have hPl := Dg.pf_many Lb i k
    rw [hPs] at hPl
    have hk5 := Dg.k_le Lb (by rw [unhide hLbl]; exact hlen) k (by rw [hm]; exact hpos)
    rw [hq] at hb0 hpf
    rw [hPs] at hownP
    have hc0 := cell_of_row _ _ 0 _ _ _ hb0
    have hc1 := cell_of_row _ _ 0 _ _ _ hb1
    have hnext : Dg.pf Lb i (k + 1) = if 1 < m then (Ps ++ [⟨((Dg.lev Lb k)[q ^^^ 1]?.getD []).toArray⟩], q / 2) else (Ps, q) := by
      rw [Dg.pf, hm, hPs, hq]
      split
      · rfl
      · rw [← hPs, ← hq]
    have hm32 : m ≤ 32 := by rw [← hm, Dg.lev_len Lb (by rw [unhide hLbl]; exact hlen)]; exact Nat.le_trans (Nat.div_le_self _ _) (Dg.T_ge _ (by rw [unhide hLbl]; exact hlen)).2.2
    by_cases hm1 : 1 < m
    · rw [if_pos hm1] at hnext
      have hev : m % 2 = 0 := by
        have hp := Dg.T_pow Lb.length k
        rw [← Dg.lev_len Lb (by rw [unhide hLbl]; exact hlen) k, hm] at hp
        omega
      have hy := Dg.xor_lt ⟨m, by omega⟩ ⟨q, by omega⟩ hev hpf
      have hxc := xor_cast ⟨q, by omega⟩
      obtain ⟨y, hyy⟩ : ∃ y, q ^^^ 1 = y := ⟨_, rfl⟩
      simp only [hyy] at hy hxc hnext
      obtain ⟨d, hd⟩ : ∃ d, (Dg.lev Lb k)[y]? = some d := ⟨_, List.getElem?_eq_getElem (by omega)⟩
      rw [hd] at hnext
      simp only [Option.getD_some] at hnext
      have hd8 : d.length = 8 := hLall d (List.mem_of_getElem? hd)
      have htx := fun w => text_any d w hd8
      have hgc : ∀ t, t < 8 → Wb.cell? ⟨g, y * 8 + t, none⟩ = some (.int .u8 (d[t]?.getD 0).toNat) := fun t ht => lev_cell (by rw [hm]; exact hown) hLall y t d hd ht
      have hl0 : w.heap.size < Wb.heap.size := by omega
      have hl1 : w.heap.size + 1 < Wb.heap.size := by omega
      have hlg : g < Wb.heap.size := hgb.2
      have t1 : (1 : Int) < (m : Int) := by omega
      have hyi : (y : Int) < (m : Int) := by omega
      replace htx := hide htx; replace hnext := hide hnext; replace hm := hide hm; replace hd := hide hd; replace hq := hide hq; replace hPs := hide hPs; replace hyy := hide hyy
      have hq32 : q < 32 := by omega
      clear hev hpf hLall
      gi_wp2
      refine wpIn_region_frontR 8 (fun _ _ w' => Below Wb.heap.size Wb w') (fun wa wb => Below wa.heap.size wa wb)
        (fun i v w' => match i with
          | 0 => v = va
          | 1 => v = .slice (some ⟨g, 0, none⟩) m c
          | 2 => v = .int .i64 (q : Int)
          | 3 => v = .int .i64 (y : Int)
          | 4 => v = .pointer (some ⟨g, y * 8, none⟩)
          | 5 => v = digV d
          | 6 => v = .string ⟨d.toArray⟩
          | 7 => ∃ b, v = .slice (some ⟨b, 0, none⟩) 1 1 ∧ w'.heap[b]? = some (.cells #[.string ⟨d.toArray⟩] 9 (0, 0))
          | _ => True) (by omega) (by rfl) (by kernel_rfl) (by rfl) ?_ ?_ ?_ ?_
      · exact (Below.refl _ _).drew
      · intro wa wb hR i v hv
        match i, hv with
        | 0, h => exact h
        | 1, h => exact h
        | 2, h => exact h
        | 3, h => exact h
        | 4, h => exact h
        | 5, h => exact h
        | 6, h => exact h
        | 7, h => obtain ⟨b, h1, h2⟩ := h; exact ⟨b, h1, (hR.block b (Array.getElem?_eq_some_iff.1 h2).1).trans h2⟩
        | _ + 8, _ => trivial
      · intro i hi
        obtain rfl | rfl | rfl | rfl | rfl | rfl | rfl | rfl : i = 0 ∨ i = 1 ∨ i = 2 ∨ i = 3 ∨ i = 4 ∨ i = 5 ∨ i = 6 ∨ i = 7 := by omega
        · refine FrontStep.of [] _ rfl (by kernel_rfl) ?_
          intro vs L wq hL hC hf
          simp only [putL, List.foldl_nil]
          have hcp := (hC.cell (p := ⟨w.heap.size + 1, 0, none⟩) hl1).trans hc1
          go_wp2_with fail
          exact Below.refl _ _
        · refine FrontStep.of [] _ rfl (by kernel_rfl) ?_
          intro vs L wq hL hC hf
          simp only [putL, List.foldl_nil]
          go_wp2_with fail
          exact Below.refl _ _
        · refine FrontStep.of [] _ rfl (by kernel_rfl) ?_
          intro vs L wq hL hC hf
          simp only [putL, List.foldl_nil]
          have hcp := (hC.cell (p := ⟨w.heap.size, 0, none⟩) hl0).trans hc0
          go_wp2_with fail
          exact Below.refl _ _
        · refine FrontStep.of [2] _ rfl (by kernel_rfl) ?_
          intro vs L wq hL hC hf
          simp only [putL, List.foldl_nil, List.foldl_cons, List.getElem?_cons_zero, List.getElem?_cons_succ]
          have e2 : vs 2 = _ := hf 2 (by simp)
          rw [e2]
          go_wp2_with fail
          exact Below.refl _ _
        · refine FrontStep.of [1, 3] _ rfl (by kernel_rfl) ?_
          intro vs L wq hL hC hf
          simp only [putL, List.foldl_nil, List.foldl_cons, List.getElem?_cons_zero, List.getElem?_cons_succ]
          have e1 : vs 1 = _ := hf 1 (by simp)
          rw [e1]
          have e3 : vs 3 = _ := hf 3 (by simp)
          rw [e3]
          go_wp2_with fail
          exact Below.refl _ _
        · refine FrontStep.of [4] _ rfl (by kernel_rfl) ?_
          intro vs L wq hL hC hf
          simp only [putL, List.foldl_nil, List.foldl_cons, List.getElem?_cons_zero, List.getElem?_cons_succ]
          have e4 : vs 4 = _ := hf 4 (by simp)
          rw [e4]
          have q0 := (hC.cell (p := ⟨g, y * 8 + 0, none⟩) hlg).trans (hgc 0 (by omega))
          have q1 := (hC.cell (p := ⟨g, y * 8 + 1, none⟩) hlg).trans (hgc 1 (by omega))
          have q2 := (hC.cell (p := ⟨g, y * 8 + 2, none⟩) hlg).trans (hgc 2 (by omega))
          have q3 := (hC.cell (p := ⟨g, y * 8 + 3, none⟩) hlg).trans (hgc 3 (by omega))
          have q4 := (hC.cell (p := ⟨g, y * 8 + 4, none⟩) hlg).trans (hgc 4 (by omega))
          have q5 := (hC.cell (p := ⟨g, y * 8 + 5, none⟩) hlg).trans (hgc 5 (by omega))
          have q6 := (hC.cell (p := ⟨g, y * 8 + 6, none⟩) hlg).trans (hgc 6 (by omega))
          have q7 := (hC.cell (p := ⟨g, y * 8 + 7, none⟩) hlg).trans (hgc 7 (by omega))
          rw [Nat.add_zero] at q0
          go_wp2_with fail
          exact Below.refl _ _
        · refine FrontStep.of [5] _ rfl (by kernel_rfl) ?_
          intro vs L wq hL hC hf
          simp only [putL, List.foldl_nil, List.foldl_cons, List.getElem?_cons_zero, List.getElem?_cons_succ]
          have e5 : vs 5 = _ := hf 5 (by simp)
          rw [e5]
          go_wp2_with fail
          refine (unhide htx wq).mono ?_
          rintro e w5 ⟨rfl, hb5⟩
          go_wp2_with fail
          exact hC.trans (hb5.mono hC.size)
        · refine FrontStep.of [6] _ rfl (by kernel_rfl) ?_
          intro vs L wq hL hC hf
          simp only [putL, List.foldl_nil, List.foldl_cons, List.getElem?_cons_zero, List.getElem?_cons_succ]
          have e6 : vs 6 = _ := hf 6 (by simp)
          rw [e6]
          go_wp2_with fail
          exact ⟨hC.alloc hC.size _, (Below.refl _ _).alloc (Nat.le_refl _) _, (Array.getElem?_eq_some_iff.1 (heap_alloc_new _ _)).2⟩
      · intro vs L wq hL hC hf
        have e0 : vs 0 = _ := hf 0 (by omega)
        obtain ⟨b, e7, hb7⟩ := hf 7 (by omega)
        rw [putSome_all]
        simp only [putL, List.range, List.range.loop, List.foldl_nil, List.foldl_cons, List.getElem?_cons_zero, List.getElem?_cons_succ, List.drop_succ_cons, List.drop_zero]
        rw [e0, e7]
        clear e0 e7 hf hL
        have hownq := own_below hownP hC
        have hcq := cell_of_row _ b 0 _ _ _ hb7
        have hszq := hC.size
        go_simp
        go_wp2_with (at_builtin; refine wpList_append_own _ rfl _ _ 28 rfl (w.heap.size + 2) 9 i1 (.string ⟨#[]⟩) 1 16 Try.underlying28 (unhide hi1) (unhide hz0) (unhide hz1) (unhide hz2) rfl (by decide) _ _ _ rfl hownq ⟨b, 0, none⟩ 1 1 [.string ⟨d.toArray⟩] rfl rfl ?c1 ?c2 ?c3 ?c4 ?c5 ?_)
        case c1 =>
          intro j u hj
          cases j with
          | zero => simp at hj; subst hj; rw [Addr.add_lit, cell_of_row _ _ _ _ _ _ hb7]; rfl
          | succ j => simp at hj
        case c2 => intro u hu; simp at hu; subst hu; rfl
        case c3 => unfold maxLen; have := hPl; omega
        case c4 => omega
        case c5 => omega
        intro v' w5 hown5 hg5 _
        have hb1q := (hC.block _ hl1).trans hb1
        have hb0q := (hC.block _ hl0).trans hb0
        have hn1 := boxed_ne hownP (w.heap.size + 1) (by omega)
        have hn0 := boxed_ne hownP w.heap.size (by omega)
        have hk1 := cell_kept1 (o := 0) hb1q rfl hg5 hn1
        have hf1 := frozen_kept1 (o := 0) hb1q hg5 hn1
        have hk0 := cell_kept1 (o := 0) hb0q rfl hg5 hn0
        have hf0 := frozen_kept1 (o := 0) hb0q hg5 hn0
        have hh1 := (hg5.block _ (Array.getElem?_eq_some_iff.1 hb1q).1 (fun e => hn1 e.symm)).trans hb1q
        have hh0 := (hg5.block _ (Array.getElem?_eq_some_iff.1 hb0q).1 (fun e => hn0 e.symm)).trans hb0q
        obtain ⟨va', vc', rfl⟩ := own_shape hown5
        replace hh1 := hide hh1; replace hh0 := hide hh0; replace hown5 := hide hown5; replace hg5 := hide hg5; replace hb1q := hide hb1q; replace hb0q := hide hb0q; replace hownq := hide hownq
        go_wp2_with fail
        gi_wp2
        have hqw : (q : Int) / 2 = ((q / 2 : Nat) : Int) := by omega
        have hne : w.heap.size + 1 ≠ w.heap.size := by omega
        have hng : g ≠ w.heap.size ∧ g ≠ w.heap.size + 1 := by omega
        have hvo : va.ownBlock ≠ some g := own_ne_blk hownP (unhide hgrow) (by decide)
        have hbw : Below w.heap.size w w5 := (hbb.trans (hC.mono hbb.size)).grown (unhide hg5) (by omega) (fun x e => by have := (hownP.lt x e).1; omega)
        rw [unhide hnext]
        refine ⟨?_, ⟨(hbw.setCell (p := ⟨w.heap.size + 1, 0, none⟩) (by show w.heap.size ≤ w.heap.size + 1; omega) _).setCell (p := ⟨w.heap.size, 0, none⟩) (Nat.le_refl _) _, ?_, .slice va' (Ps.length + 1) vc', ?_, ?_⟩, ?_⟩
        · exact ((keeps_below hC).trans (KeepsOthers.of_grownBy (unhide hg5) (fun j o e ho => by
            obtain ⟨_, ⟨hv, _⟩ | ⟨g', cap', cur, hv, _, hgc, _⟩⟩ := own_below hownP hC
            · rw [hv] at e; cases e
            · rw [hv] at e
              injection e with e
              subst e
              rw [hgc] at ho
              injection ho with ho
              subst ho
              rfl))).trans ((KeepsOthers.setCell _ _ _).trans (KeepsOthers.setCell _ _ _))
        · rw [hqw]
          exact box_put ((box_other hne).trans (unhide hh0))
        · exact (box_other hne.symm).trans (box_put (unhide hh1))
        · have := ownsRow_setCell_below (ownsRow_setCell_below (unhide hown5) (a := ⟨w.heap.size + 1, 0, none⟩) (by show w.heap.size + 1 < w.heap.size + 2; omega) (Value.slice va' (Ps.length + 1) vc')) (a := ⟨w.heap.size, 0, none⟩) (by show w.heap.size < w.heap.size + 2; omega) (Value.int .i64 ((q : Int) / 2))
          simpa using this
        · show _ = _
          rw [box_other hng.1.symm, box_other hng.2.symm]
          exact ((unhide hg5).block g (by omega) (fun e => hvo e.symm)).trans (hC.block g hlg)
    · rw [if_neg hm1] at hnext
      have t1 : ¬ (1 : Int) < (m : Int) := by omega
      replace hnext := hide hnext; replace hm := hide hm; replace hb0 := hide hb0; replace hb1 := hide hb1; replace hownP := hide hownP; replace hbb := hide hbb
      clear hLall
      gi_wp2
      rw [unhide hnext]
      exact ⟨KeepsOthers.refl _, ⟨unhide hbb, unhide hb0, va, unhide hb1, unhide hownP⟩, rfl⟩
  · rw [unhide hLb]
    rintro k W' D hk ⟨hbe, hb0, v, hb1, hown⟩ hdef hD
    have hk0 : (Dg.pf Lb i (k + 1)) = Dg.pf Lb i k := by rw [Dg.pf, if_neg (by omega)]
    rw [hk0] at hown
    obtain ⟨va, vc, rfl⟩ := own_shape hown
    have hc1 := cell_of_row _ _ 0 _ _ _ hb1
    have hs2' := unhide hs2
    have hfin : Below w.heap.size w (W'.putObj D (.deferred none)) := below_put hbe (by omega)
    have hown' := ownsRow_putObj hown (.deferred none) hdef rfl
    replace hown' := hide hown'; replace hown := hide hown; replace hbe := hide hbe; replace hdef := hide hdef; replace hb1 := hide hb1; replace hb0 := hide hb0; replace hk := hide hk; replace hk0 := hide hk0
    gi_wp2
    refine ⟨by simp, .inl ⟨_, _, rfl, run_takeDeferred (unhide hdef), ?_⟩⟩
    exact ⟨_, results_tmp2 rfl _ _ _, ⟨k, .slice va _ vc, unhide hk, rfl, unhide hown'⟩, hfin⟩
end
end Go.Proofs.Ytlmaofibdjmkeaa
