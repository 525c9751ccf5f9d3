/- digest.levels. -/
import Derived.Test.YtlmaofibdjmkeaaDg4
import Derived.Test.YtlmaofibdjmkeaaDgT
import Derived.Test.YtlmaofibdjmkeaaRng
import Derived.Test.YtlmaofibdjmkeaaFront
import Derived.OwnWalkIn
import Derived.TacticsInMore
import Derived.LoopNIn
import Derived.LoopIn
import Derived.RangeFuncBound
namespace Go.Proofs.Ytlmaofibdjmkeaa
open Go.RowKit
attribute [local go_sem ↓] Go.wp_at_zero Go.wp_at_succ

theorem info_dig : (Try.prog.info? 52).map (fun i => (i.zero, i.size, i.bytes)) = some (some (.agg #[.int .u8 0, .int .u8 0, .int .u8 0, .int .u8 0, .int .u8 0, .int .u8 0, .int .u8 0, .int .u8 0]), 8, 8) := by kernel_rfl
/-- the cells of digests, one after the other -/
def digCs (l : List (List UInt8)) : List Value := l.flatMap fun d => (digC d).toList
theorem digCs_snoc (l : List (List UInt8)) (d : List UInt8) : digCs (l ++ [d]) = digCs l ++ (digC d).toList := by simp [digCs]
theorem digCs_len (l : List (List UInt8)) : (digCs l).length = l.length * 8 := by
  induction l with
  | nil => rfl
  | cons d l ih =>
    simp only [digCs, List.flatMap_cons, List.length_append, List.length_cons] at ih ⊢
    rw [ih]
    show 8 + _ = _
    omega
/-- a level, in a row of its own -/
structure Lev (B : Nat) (w : World) (v : Value) (l : List (List UInt8)) : Prop where
  own : w.ownsRow B 52 8 v l.length (digCs l)
def leafB (s : ByteArray) : List UInt8 := Dg.leaf s.data.toList
def lvs (L : List ByteArray) (k q : Nat) : List (List UInt8) := (L.take k).map leafB ++ List.replicate q Dg.miss
def lenOf : Value → Nat
  | .slice _ n _ => n
  | _ => 0
theorem own_made {w : World} {base g : Nat} {e : TypeId} {s c : Nat} {cs : Array Value} (hb : w.heap[g]? = some (.cells cs e (0, 0))) (hbase : base ≤ g) (hc : c ≤ maxLen) (hs : cs.size = c * s) :
    w.ownsRow base e s (.slice (some ⟨g, 0, none⟩) 0 c) 0 [] :=
  ⟨by simp, .inr ⟨g, c, cs, rfl, hbase, hb, Nat.zero_le _, hc, hs, by simp⟩⟩
theorem own_below {w w' : World} {base : Nat} {e : TypeId} {s n : Nat} {v : Value} {xs : List Value} (h : w.ownsRow base e s v n xs) (hb : Below w.heap.size w w') : w'.ownsRow base e s v n xs :=
  h.kept (row := none) (grown_of_below hb none) (by cases hv : v.ownBlock with
    | none => exact .inl rfl
    | some g => exact .inr (by simp))
theorem and_pow : ∀ q : Fin 33, q.val ≠ 0 → bits .and .i64 (q.val : Int) ((q.val : Int) - 1) = ((q.val &&& (q.val - 1) : Nat) : Int) := by decide +kernel
/-- where a row lies, in a later world -/
theorem rowAt {W1 W3 W4 : World} {B T g n c : Nat} {xs : List Value} (h : W1.ownsRow B T 8 (.slice (some ⟨g, 0, none⟩) n c) n xs) (h3 : W3.heap[g]? = W1.heap[g]?) (h4 : Below W3.heap.size W3 W4) (hs : W1.heap.size ≤ W3.heap.size) :
    ∃ cs, W4.heap[g]? = some (.cells cs T (0, 0)) ∧ n * 8 ≤ cs.size ∧ cs.toList.take (n * 8) = xs := by
  obtain ⟨hl, ⟨hv, _⟩ | ⟨g', cap, cur, hv, _, hg, hn, _, hcs, ht⟩⟩ := h
  · cases hv
  · injection hv with e1 e2 e3
    injection e1 with e1
    injection e1 with e1
    subst e1
    have hlt := (Array.getElem?_eq_some_iff.1 hg).1
    refine ⟨cur, (h4.block g (by omega)).trans (h3.trans hg), by rw [hcs]; omega, ?_⟩
    exact ht
theorem digCs_get (l : List (List UInt8)) (hl : ∀ d ∈ l, d.length = 8) (i t : Nat) (d : List UInt8) (x : UInt8) (hd : l[i]? = some d) (hx : d[t]? = some x) : (digCs l)[i * 8 + t]? = some (.int .u8 x.toNat) := by
  induction l generalizing i with
  | nil => simp at hd
  | cons e l ih =>
    have he : (digC e).toList.length = 8 := rfl
    cases i with
    | zero =>
      simp at hd
      subst hd
      have ht : t < 8 := by have := (List.getElem?_eq_some_iff.1 hx).1; have := hl e (by simp); omega
      simp only [digCs, List.flatMap_cons, Nat.zero_mul, Nat.zero_add]
      rw [List.getElem?_append_left (by omega)]
      have := digC_get e (hl e (by simp)) t x hx
      simpa using this
    | succ i =>
      have := ih (fun d hd => hl d (by simp [hd])) i (by simpa using hd)
      simp only [digCs, List.flatMap_cons] at this ⊢
      rw [List.getElem?_append_right (by rw [he]; omega), he, show (i + 1) * 8 + t - 8 = i * 8 + t by omega]
      exact this
theorem put8 (cs : Array Value) (p : Nat) (v0 v1 v2 v3 v4 v5 v6 v7 : Value) (hs : p * 8 + 8 ≤ cs.size) :
    ((((((((cs.setIfInBounds (p * 8) v0).setIfInBounds (p * 8 + 1) v1).setIfInBounds (p * 8 + 2) v2).setIfInBounds (p * 8 + 3) v3).setIfInBounds (p * 8 + 4) v4).setIfInBounds (p * 8 + 5) v5).setIfInBounds (p * 8 + 6) v6).setIfInBounds (p * 8 + 7) v7).toList.take ((p + 1) * 8) = cs.toList.take (p * 8) ++ [v0, v1, v2, v3, v4, v5, v6, v7] := by
  obtain ⟨pre, x0, x1, x2, x3, x4, x5, x6, x7, post, he, hl⟩ : ∃ pre x0 x1 x2 x3 x4 x5 x6 x7 post, cs.toList = pre ++ x0 :: x1 :: x2 :: x3 :: x4 :: x5 :: x6 :: x7 :: post ∧ pre.length = p * 8 := by
    have h1 : cs.toList = cs.toList.take (p * 8) ++ cs.toList.drop (p * 8) := (List.take_append_drop _ _).symm
    have h2 : 8 ≤ (cs.toList.drop (p * 8)).length := by simp; omega
    obtain ⟨r, hr⟩ : ∃ r, cs.toList.drop (p * 8) = r := ⟨_, rfl⟩
    rw [hr] at h1 h2
    match r, h2 with
    | x0 :: x1 :: x2 :: x3 :: x4 :: x5 :: x6 :: x7 :: post, _ => exact ⟨_, x0, x1, x2, x3, x4, x5, x6, x7, post, h1, by simp; omega⟩
  have e : ∀ k, pre.length + k - pre.length = k := fun k => by omega
  have n : ∀ k, ¬ pre.length + k < pre.length := fun k => by omega
  simp only [Array.toList_setIfInBounds, he, ← hl, List.set_append, n, if_false, e, Nat.lt_irrefl, Nat.sub_self, List.set_cons_zero, List.set_cons_succ]
  rw [List.take_left' rfl, show (p + 1) * 8 = pre.length + 8 by omega, List.take_append, List.take_of_length_le (by omega : pre.length ≤ pre.length + 8), e]
  rfl
theorem up_step (l : List (List UInt8)) (p : Nat) (A B : List UInt8) (hp : p < l.length / 2) (hA : l[2 * p]? = some A) (hB : l[2 * p + 1]? = some B) : (Dg.up l).take (p + 1) = (Dg.up l).take p ++ [Dg.node A B] := by
  rw [List.take_succ_eq_append_getElem (by rw [Dg.up_len]; exact hp)]
  congr 2
  simp [Dg.up, hA, hB]
theorem eight_at {w : World} {g T : Nat} {cs : Array Value} (v0 v1 v2 v3 v4 v5 v6 v7 : Value) (o : Nat) (h : w.heap[g]? = some (.cells cs T (0, 0))) :
    ((((((((w.setCell ⟨g, o, none⟩ v0).setCell ⟨g, o + 1, none⟩ v1).setCell ⟨g, o + 2, none⟩ v2).setCell ⟨g, o + 3, none⟩ v3).setCell ⟨g, o + 4, none⟩ v4).setCell ⟨g, o + 5, none⟩ v5).setCell ⟨g, o + 6, none⟩ v6).setCell ⟨g, o + 7, none⟩ v7).heap[g]? = some (.cells ((((((((cs.setIfInBounds o v0).setIfInBounds (o + 1) v1).setIfInBounds (o + 2) v2).setIfInBounds (o + 3) v3).setIfInBounds (o + 4) v4).setIfInBounds (o + 5) v5).setIfInBounds (o + 6) v6).setIfInBounds (o + 7) v7) T (0, 0)) := by
  simp [World.setCell, Array.getElem?_modify, h]
theorem eight_below {w w0 : World} (v0 v1 v2 v3 v4 v5 v6 v7 : Value) (o g B : Nat) (h : B ≤ g) (hb : Below B w0 w) :
    Below B w0 ((((((((w.setCell ⟨g, o, none⟩ v0).setCell ⟨g, o + 1, none⟩ v1).setCell ⟨g, o + 2, none⟩ v2).setCell ⟨g, o + 3, none⟩ v3).setCell ⟨g, o + 4, none⟩ v4).setCell ⟨g, o + 5, none⟩ v5).setCell ⟨g, o + 6, none⟩ v6).setCell ⟨g, o + 7, none⟩ v7) :=
  (((((((hb.setCell (p := ⟨g, o, none⟩) h _).setCell (p := ⟨g, o + 1, none⟩) h _).setCell (p := ⟨g, o + 2, none⟩) h _).setCell (p := ⟨g, o + 3, none⟩) h _).setCell (p := ⟨g, o + 4, none⟩) h _).setCell (p := ⟨g, o + 5, none⟩) h _).setCell (p := ⟨g, o + 6, none⟩) h _).setCell (p := ⟨g, o + 7, none⟩) h _
theorem lvs_step (L : List ByteArray) (k : Nat) (x : ByteArray) (hx : L[k]? = some x) : lvs L (k + 1) 0 = lvs L k 0 ++ [leafB x] := by
  obtain ⟨hk, rfl⟩ := List.getElem?_eq_some_iff.1 hx
  unfold lvs
  rw [List.take_succ_eq_append_getElem hk, List.map_append]
  simp
theorem lvs_more (L : List ByteArray) (k q : Nat) : lvs L k (q + 1) = lvs L k q ++ [Dg.miss] := by
  unfold lvs
  rw [List.replicate_succ', List.append_assoc]
theorem lvs_len (L : List ByteArray) (k q : Nat) (h : k ≤ L.length) : (lvs L k q).length = k + q := by
  unfold lvs
  rw [List.length_append, List.length_map, List.length_take, List.length_replicate]
  omega
set_option maxRecDepth 100000 in
set_option maxHeartbeats 4000000 in
theorem levels1_any (l bx n : Nat) (a : Option Addr) (len cap : Nat) (L : List ByteArray) (W : World) (hbx : W.cell? ⟨bx, 0, none⟩ = some (.slice a len cap)) (hL : Lst Enc.str W (fun b => b < W.heap.size) a len L) (hlen : len ≤ 32)
    (J : Nat → World → Prop) (hJ : ∀ k A B, J k A → Below A.heap.size A B → J k B) (h0 : J 0 W)
    (hround : ∀ k W1 g c, J k W1 → W1.ownsRow W.heap.size 52 8 (.slice (some ⟨g, 0, none⟩) (Dg.lev (L.map fun s => s.data.toList) k).length c) (Dg.lev (L.map fun s => s.data.toList) k).length (digCs (Dg.lev (L.map fun s => s.data.toList) k)) → W.heap.size ≤ W1.heap.size → 1 ≤ (Dg.lev (L.map fun s => s.data.toList) k).length →
      YieldAt Fence.wide (n - 1) Try.prog l #[.slice (some ⟨g, 0, none⟩) (Dg.lev (L.map fun s => s.data.toList) k).length c] W1 fun e W' => e = .returned (.bool true) ∧ J (k + 1) W' ∧ W'.heap[g]? = W1.heap[g]? ∧ W1.heap.size ≤ W'.heap.size) :
    CallsIn Fence.wide n Try.prog 41 #[.func (.yield l) #[] #[], .pointer (some ⟨bx, 0, none⟩)] W fun e W' => (∃ v, e = .returned v) ∧ ∃ k, (Dg.lev (L.map fun s => s.data.toList) k).length = 1 ∧ J (k + 1) W' := by
  obtain ⟨i0, hi, hz0, hz1, hz2⟩ := info_parts info_dig
  have hL0 := hL.1
  refine callsIn_of_wp Try.func41 rfl trivial ?_
  simp only [Try.ntmps41, List.size_toArray, List.length_cons, List.length_nil, Nat.reduceAdd, Nat.reduceSub, Array.replicate_succ, Array.replicate_zero, List.push_toArray, List.append_toArray, List.nil_append, List.cons_append]
  refine wpIn_wide.2 ?_
  have hmk : ∀ w : World, (Instr.makeSlice 60 (.int .i64 0) (.int .i64 (len : Int))).run Try.prog w = .ok (.slice (some ⟨w.heap.size, 0, none⟩) 0 len) (w.alloc (.cells (madeCells (Value.agg #[.int .u8 0, .int .u8 0, .int .u8 0, .int .u8 0, .int .u8 0, .int .u8 0, .int .u8 0, .int .u8 0]).cells (len * 8)) 52)) := by
    intro w
    have := run_make (P := Try.prog) w 60 52 i0 _ Try.underlying60 hi hz0 .i64 .i64 0 (len : Int) (by omega) (by omega) (by rw [hz2]; omega) (by omega)
    simpa [hz1] using this
  obtain ⟨W1, hW1⟩ : ∃ W1, W.alloc (.cells (madeCells (Value.agg #[.int .u8 0, .int .u8 0, .int .u8 0, .int .u8 0, .int .u8 0, .int .u8 0, .int .u8 0, .int .u8 0]).cells (len * 8)) 52) = W1 := ⟨_, rfl⟩
  have hmk' := hmk W
  rw [hW1] at hmk'
  have hh1 : W1.heap[W.heap.size]? = some (.cells (madeCells (Value.agg #[.int .u8 0, .int .u8 0, .int .u8 0, .int .u8 0, .int .u8 0, .int .u8 0, .int .u8 0, .int .u8 0]).cells (len * 8)) 52 (0, 0)) := by rw [← hW1]; exact heap_alloc_new W _
  have hb1 : Below W.heap.size W W1 := by rw [← hW1]; exact (Below.refl _ _).alloc (Nat.le_refl _) _
  have hbx1 := cell_under hbx hb1
  have hown1 : W1.ownsRow W.heap.size 52 8 (.slice (some ⟨W.heap.size, 0, none⟩) 0 len) 0 [] := own_made hh1 (Nat.le_refl _) (by unfold maxLen; omega) (by rw [size_madeCells])
  have hJ1 := hJ 0 W W1 h0 hb1
  clear hW1 hmk hh1 hJ1
  replace hJ := hide hJ; replace h0 := hide h0; replace hround := hide hround
  replace hL := hide hL
  replace hL0 := hide hL0
  replace hi := hide hi; replace hz0 := hide hz0; replace hz1 := hide hz1; replace hz2 := hide hz2
  go_wp2_with fail
  go_loopw [3, 13] (fun v3 v13 wr => ∃ k : Nat, k ≤ len ∧ v13 = .int .i64 (k : Int) ∧ wr.ownsRow W.heap.size 52 8 v3 k (digCs (lvs L k 0)) ∧ Below W.heap.size W wr) (fun _ v _ => (len - intOf v).toNat)
  case atStart => exact ⟨0, by omega, rfl, hown1, hb1⟩
  case round =>
    obtain ⟨k, hk, rfl, hown, hb⟩ := hrel
    clear hown1 hb1 hbx1 hmk'
    by_cases hlt : k < len
    · obtain ⟨bb, off, x, rfl, hbb, hx, hxi, hc⟩ := lst_str ((unhide hL).under hb) hlt
      have hstep := lvs_step L k x hx
      have hof := fun w => of_lit [⟨#[108]⟩, x] w (by intro y hy; simp at hy; rcases hy with rfl | rfl <;> first | decide | exact hxi) (by simp)
      rw [allB_2] at hof
      replace hof := hide hof
      replace hstep := hide hstep
      clear hx hxi
      go_wp2_with fail
      refine (unhide hof wr).mono ?_
      rintro e w2 ⟨rfl, hb2⟩
      have hD : Dg.dig ((⟨#[108]⟩ : ByteArray).data.toList ++ x.data.toList) = leafB x := rfl
      rw [hD]
      obtain ⟨D, hDD⟩ : ∃ D, leafB x = D := ⟨_, rfl⟩
      rw [hDD] at hstep ⊢
      have hown2 := own_below hown hb2
      have hbw := hb.trans (hb2.mono hb.size)
      have hz := hbw.size
      clear hD hDD hb2 hown hof
      go_wp2_with (at_builtin; refine wpList_append_own _ rfl _ _ 60 rfl W.heap.size 52 i0 _ 8 8 Try.underlying60 (unhide hi) (unhide hz0) (unhide hz1) (unhide hz2) rfl (by decide) _ _ _ rfl (hown2.alloc _) ⟨w2.heap.size, 0, none⟩ 1 1 (digC D).toList rfl rfl ?c1 ?c2 ?c3 ?c4 ?c5 ?_)
      case c2 => exact ⟨rfl, rfl, rfl, rfl, rfl, rfl, rfl, rfl⟩
      case c3 => unfold maxLen; omega
      case c4 => omega
      case c5 => simp; omega
      intro v' w3 hown3 hg3 _
      have hb3 : Below W.heap.size W w3 := Below.grown (hbw.alloc hz (Obj.cells (digC D) 52)) hg3 (by simp; omega) (fun g hg => (hown2.lt g hg).1)
      clear hg3 hown2 hbw
      go_wp2_with fail
      go_roundw
      case rel => exact ⟨k + 1, by omega, by go_num, by rw [unhide hstep, digCs_snoc]; exact hown3, hb3⟩
      case measure => simp [intOf]; omega
    · obtain rfl : k = len := by omega
      have hl0 := unhide hL0
      have hT := Dg.T_ge k (by omega)
      have hof := fun w => of_lit [⟨#[118]⟩] w (by intro y hy; simp at hy; subst hy; decide) (by simp)
      rw [allB_1] at hof
      replace hof := hide hof
      replace hl0 := hide hl0
      obtain ⟨N, hN⟩ : ∃ N, Dg.T k = N := ⟨_, rfl⟩
      rw [hN] at hT
      clear hL hL0 hlt
      go_wp2_with fail
      obtain ⟨wo, rfl⟩ : ∃ wo : World, wo = wr := ⟨_, rfl⟩
      go_loopw [3] (fun v3 wr => ∃ q : Nat, k ≤ q ∧ q ≤ N ∧ wr.ownsRow W.heap.size 52 8 v3 q (digCs (lvs L k (q - k))) ∧ Below W.heap.size W wr) (fun v _ => N - lenOf v)
      case atStart => exact ⟨k, by omega, by omega, by rw [Nat.sub_self]; exact hown, hb⟩
      case round =>
        obtain ⟨q, hq1, hq2, hown, hb⟩ := hrel
        obtain ⟨va, vc, rfl⟩ := own_shape hown
        have htest := Dg.pow_test ⟨k, by omega⟩ ⟨q, by omega⟩ hq1 (by simp only; omega)
        simp only [hN] at htest
        by_cases hqN : q = N
        · subst hqN
          have hq0 : q ≠ 0 := by omega
          have hbit := and_pow ⟨q, by omega⟩ hq0
          have hz : q &&& (q - 1) = 0 := by
            rcases Nat.eq_zero_or_pos (q &&& (q - 1)) with h | h
            · exact h
            · exact absurd rfl (htest.1 (Or.inr (by omega)))
          simp only [hz] at hbit
          have t1 : ((q : Int) == 0) = false := beq_eq_false_iff_ne.2 (by omega)
          have t2 : (bits .and .i64 (q : Int) ((q : Int) - 1) != 0) = false := by rw [hbit]; rfl
          clear htest hz hbit hof
          go_wp2_with fail
          have hJ0 := unhide hJ 0 W wr (unhide h0) hb
          obtain ⟨Lb, hLb⟩ : ∃ Lb, (L.map fun s => s.data.toList) = Lb := ⟨_, rfl⟩
          have hLbl : Lb.length = k := by rw [← hLb, List.length_map]; exact unhide hl0
          have hlev0 : lvs L k (q - k) = Dg.lev Lb 0 := by
            rw [← hLb, Dg.lev, Dg.lev0, List.length_map, unhide hl0, hN, List.map_map]
            unfold lvs
            rw [List.take_of_length_le (by rw [unhide hl0]; exact Nat.le_refl _)]
            rfl
          rw [hlev0] at hown
          rw [hLb] at hround
          have hqlen : q = (Dg.lev Lb 0).length := by rw [Dg.lev_len Lb (by omega) 0, hLbl, hN]; simp
          clear hlev0
          replace hqlen := hide hqlen
          obtain ⟨wo2, rfl⟩ : ∃ wo : World, wo = wr := ⟨_, rfl⟩
          go_loopw [3] (fun v3 wr => ∃ j g c : Nat, v3 = .slice (some ⟨g, 0, none⟩) (Dg.lev Lb j).length c ∧ 1 ≤ (Dg.lev Lb j).length ∧ wr.ownsRow W.heap.size 52 8 v3 (Dg.lev Lb j).length (digCs (Dg.lev Lb j)) ∧ J j wr ∧ W.heap.size ≤ wr.heap.size) (fun v _ => lenOf v)
          case atStart =>
            obtain ⟨g, c, hv, _, _⟩ := hown.form (by omega)
            rw [hv] at hown ⊢
            have hq9 := unhide hqlen
            exact ⟨0, g, c, by rw [← hq9], by omega, by rw [← hq9]; exact hown, hJ0, hb.size⟩
          case round =>
            obtain ⟨j, g, c, rfl, hpos, hown, hJj, hWs⟩ := hrel
            obtain ⟨fn, tm, asg, bd, hy, hR⟩ := unhide hround j wr g c hJj hown hWs hpos
            refine wp_seq ?_
            refine (wpIn_wide (n := n)).1 ?_
            obtain ⟨m, hm⟩ : ∃ m, (Dg.lev Lb j).length = m := ⟨_, rfl⟩
            have hm32 : m ≤ 32 := by
              rw [← hm, Dg.lev_len Lb (by omega) j, hLbl, hN]
              exact Nat.le_trans (Nat.div_le_self _ _) hT.2.2
            rw [hm] at hpos hown hy ⊢
            replace hm := hide hm
            by_cases h1 : m = 1
            · have t1 : decide (1 < (m : Int)) = false := by simp; omega
              replace h1 := hide h1
              gi_wp2
              refine ⟨fun h => (by cases h), ?_⟩
              refine hR.mono ?_
              rintro e W3 ⟨rfl, hJ3, hg3, hs3⟩
              gi_wp2
              go_wp2_with fail
              go_end0
              exact ⟨⟨_, rfl⟩, j, by rw [hLb, unhide hm, unhide h1], hJ3⟩
            · have t1 : decide (1 < (m : Int)) = true := by simp; omega
              gi_wp2
              refine ⟨fun h => (by cases h), ?_⟩
              refine hR.mono ?_
              rintro e W3 ⟨rfl, hJ3, hg3, hs3⟩
              gi_wp2
              obtain ⟨h, hh⟩ : ∃ h : Nat, m / 2 = h := ⟨_, rfl⟩
              have hhi : (m : Int) / 2 = (h : Int) := by omega
              have hup : (Dg.lev Lb (j + 1)).length = h := by rw [Dg.lev, Dg.up_len, unhide hm, hh]
              have hmk2 : (Instr.makeSlice 60 (.int .i64 (h : Int)) (.int .i64 (h : Int))).run Try.prog W3 = .ok (.slice (some ⟨W3.heap.size, 0, none⟩) h h) (W3.alloc (.cells (madeCells (Value.agg #[.int .u8 0, .int .u8 0, .int .u8 0, .int .u8 0, .int .u8 0, .int .u8 0, .int .u8 0, .int .u8 0]).cells (h * 8)) 52)) := by
                have := run_make (P := Try.prog) W3 60 52 i0 _ Try.underlying60 (unhide hi) (unhide hz0) .i64 .i64 (h : Int) (h : Int) (by omega) (by omega) (by rw [unhide hz2]; omega) (by omega)
                simpa [unhide hz1] using this
              obtain ⟨W4, hW4⟩ : ∃ W4, W3.alloc (.cells (madeCells (Value.agg #[.int .u8 0, .int .u8 0, .int .u8 0, .int .u8 0, .int .u8 0, .int .u8 0, .int .u8 0, .int .u8 0]).cells (h * 8)) 52) = W4 := ⟨_, rfl⟩
              rw [hW4] at hmk2
              have hrow4 : W4.heap[W3.heap.size]? = some (.cells (madeCells (Value.agg #[.int .u8 0, .int .u8 0, .int .u8 0, .int .u8 0, .int .u8 0, .int .u8 0, .int .u8 0, .int .u8 0]).cells (h * 8)) 52 (0, 0)) := by rw [← hW4]; exact heap_alloc_new W3 _
              have hb4 : Below W3.heap.size W3 W4 := by rw [← hW4]; exact (Below.refl _ _).alloc (Nat.le_refl _) _
              obtain ⟨g2, hg2⟩ : ∃ g2, W3.heap.size = g2 := ⟨_, rfl⟩
              rw [hg2] at hmk2 hrow4
              replace hh := hide hh; replace hup := hide hup; replace hW4 := hide hW4; replace hg2 := hide hg2
              go_wp2_with fail
              obtain ⟨wo3, rfl⟩ : ∃ wo : World, wo = wr := ⟨_, rfl⟩
              go_loopw [55] (fun v55 wr => ∃ (p : Nat) (cs : Array Value), p ≤ h ∧ v55 = .int .i64 (p : Int) ∧ wr.heap[g2]? = some (.cells cs 52 (0, 0)) ∧ cs.size = h * 8 ∧ cs.toList.take (p * 8) = digCs ((Dg.lev Lb (j + 1)).take p) ∧ Below W3.heap.size W3 wr) (fun v _ => (h - intOf v).toNat)
              case atStart => exact ⟨0, _, by omega, rfl, hrow4, by rw [size_madeCells], by simp [digCs], hb4⟩
              case round =>
                obtain ⟨p, cs, hp, rfl, hrow, hcs, htk, hb5⟩ := hrel
                by_cases hph : p < h
                · have f1 := rowAt hown hg3 hb5 hs3
                  have hal := Dg.lev_all Lb j
                  have hi1 : 2 * p < m := by have := unhide hh; omega
                  have hi2 : 2 * p + 1 < m := by have := unhide hh; omega
                  have hidx : ∀ i, i < m → ∃ d : List UInt8, (Dg.lev Lb j)[i]? = some d ∧ d.length = 8 ∧ ∀ (w' : World), Below wr.heap.size wr w' → ∀ cp, (convert 32 9 (.slice (some ⟨g, i * 8, none⟩) 8 cp)).run Try.prog w' = .ok (.string ⟨d.toArray⟩) w' := by
                    intro i him
                    have him' : i < (Dg.lev Lb j).length := by rw [unhide hm]; exact him
                    have hd8 := hal _ (List.getElem_mem him')
                    refine ⟨_, List.getElem?_eq_getElem him', hd8, fun w' hb' cp => ?_⟩
                    obtain ⟨cs1, hg1, hsz1, htk1⟩ := f1
                    obtain ⟨d, hd⟩ : ∃ d, (Dg.lev Lb j)[i] = d := ⟨_, rfl⟩
                    rw [hd] at hd8 ⊢
                    have hcv := run_convert_bytes_back (P := Try.prog) w' 32 9 5 ⟨g, i * 8, none⟩ cp d Try.underlying32 Try.underlying5 Try.underlying9 (by
                      intro t ht
                      have hgl := (Array.getElem?_eq_some_iff.1 hg1).1
                      have hgw := (hb'.block g hgl).trans hg1
                      have hget := digCs_get (Dg.lev Lb j) hal i t d d[t] (by rw [List.getElem?_eq_getElem him', hd]) (List.getElem?_eq_getElem ht)
                      rw [← htk1, List.getElem?_take_of_lt (by omega)] at hget
                      rw [Addr.add_lit, cell_of_row w' g _ _ _ _ hgw, ← Array.getElem?_toList]
                      exact hget)
                    rw [hd8] at hcv
                    exact hcv
                  obtain ⟨A, hA, hAl, cvA⟩ := hidx (2 * p) hi1
                  obtain ⟨B, hB, hBl, cvB⟩ := hidx (2 * p + 1) hi2
                  have j1 : (2 * p : Int) < (m : Int) := by omega
                  have j2 : (2 * (p : Int) + 1) < (m : Int) := by omega
                  replace cvA := hide cvA; replace cvB := hide cvB
                  clear hidx f1 hal
                  go_wp2_with fail
                  refine wp_region_front 17 (fun _ _ w' => Below wr.heap.size wr w') (fun wa wb => Below wa.heap.size wa wb)
                    (fun i v w' => match i with
                      | 0 => v = .slice (some ⟨g2, 0, none⟩) h h
                      | 1 => v = .int .i64 (p : Int)
                      | 2 => v = (.slice (some ⟨g, 0, none⟩) m c)
                      | 3 => v = .int .i64 (p : Int)
                      | 4 => v = .int .i64 (2 * (p : Int))
                      | 5 => v = .pointer (some ⟨g, 2 * p * 8, none⟩)
                      | 6 => v = .slice (some ⟨g, 2 * p * 8, none⟩) 8 8
                      | 7 => v = .string ⟨A.toArray⟩
                      | 8 => v = (.slice (some ⟨g, 0, none⟩) m c)
                      | 9 => v = .int .i64 (p : Int)
                      | 10 => v = .int .i64 (2 * (p : Int))
                      | 11 => v = .int .i64 (2 * (p : Int) + 1)
                      | 12 => v = .pointer (some ⟨g, (2 * p + 1) * 8, none⟩)
                      | 13 => v = .slice (some ⟨g, (2 * p + 1) * 8, none⟩) 8 8
                      | 14 => v = .string ⟨B.toArray⟩
                      | 15 => ∃ b, v = .slice (some ⟨b, 0, none⟩) 3 3 ∧ w'.heap[b]? = some (.cells #[.string ⟨#[110]⟩, .string ⟨A.toArray⟩, .string ⟨B.toArray⟩] 9 (0, 0))
                      | 16 => v = digV (Dg.node A B)
                      | _ => True) (by rfl) (by kernel_rfl) ?_ ?_ ?_ ?_
                  · exact (Below.refl _ _).drew
                  · intro wa wb hR i v hv
                    match i, hv with
                    | 0, h => exact h
                    | 1, h => exact h
                    | 2, h => exact h
                    | 3, h => exact h
                    | 4, h => exact h
                    | 5, h => exact h
                    | 6, h => exact h
                    | 7, h => exact h
                    | 8, h => exact h
                    | 9, h => exact h
                    | 10, h => exact h
                    | 11, h => exact h
                    | 12, h => exact h
                    | 13, h => exact h
                    | 14, h => exact h
                    | 15, h => obtain ⟨b, h1, h2⟩ := h; exact ⟨b, h1, (hR.block b (Array.getElem?_eq_some_iff.1 h2).1).trans h2⟩
                    | 16, h => exact h
                    | _ + 17, _ => trivial
                  · intro i hi
                    obtain rfl | rfl | rfl | rfl | rfl | rfl | rfl | rfl | rfl | rfl | rfl | rfl | rfl | rfl | rfl | rfl | rfl : i = 0 ∨ i = 1 ∨ i = 2 ∨ i = 3 ∨ i = 4 ∨ i = 5 ∨ i = 6 ∨ i = 7 ∨ i = 8 ∨ i = 9 ∨ i = 10 ∨ i = 11 ∨ i = 12 ∨ i = 13 ∨ i = 14 ∨ i = 15 ∨ i = 16 := by omega
                    · refine FrontStep.of [] _ rfl (by kernel_rfl) ?_
                      intro vs L wq hL hC hf
                      simp only [putL, List.foldl_nil]
                      go_wp2_with fail
                      first | exact Below.refl _ _ | (trace_state; sorry)
                    · refine FrontStep.of [] _ rfl (by kernel_rfl) ?_
                      intro vs L wq hL hC hf
                      simp only [putL, List.foldl_nil]
                      go_wp2_with fail
                      first | exact Below.refl _ _ | (trace_state; sorry)
                    · refine FrontStep.of [] _ rfl (by kernel_rfl) ?_
                      intro vs L wq hL hC hf
                      simp only [putL, List.foldl_nil]
                      go_wp2_with fail
                      first | exact Below.refl _ _ | (trace_state; sorry)
                    · refine FrontStep.of [] _ rfl (by kernel_rfl) ?_
                      intro vs L wq hL hC hf
                      simp only [putL, List.foldl_nil]
                      go_wp2_with fail
                      first | exact Below.refl _ _ | (trace_state; sorry)
                    · refine FrontStep.of [3] _ rfl (by kernel_rfl) ?_
                      intro vs L wq hL hC hf
                      simp only [putL, List.foldl_nil, List.foldl_cons, List.getElem?_cons_zero, List.getElem?_cons_succ]
                      have e3 : vs 3 = _ := hf 3 (by simp)
                      rw [e3]
                      go_wp2_with fail
                      first | exact Below.refl _ _ | (trace_state; sorry)
                    · refine FrontStep.of [2, 4] _ rfl (by kernel_rfl) ?_
                      intro vs L wq hL hC hf
                      simp only [putL, List.foldl_nil, List.foldl_cons, List.getElem?_cons_zero, List.getElem?_cons_succ]
                      have e2 : vs 2 = _ := hf 2 (by simp)
                      rw [e2]
                      have e4 : vs 4 = _ := hf 4 (by simp)
                      rw [e4]
                      go_wp2_with fail
                      first | exact Below.refl _ _ | (trace_state; sorry)
                    · refine FrontStep.of [5] _ rfl (by kernel_rfl) ?_
                      intro vs L wq hL hC hf
                      simp only [putL, List.foldl_nil, List.foldl_cons, List.getElem?_cons_zero, List.getElem?_cons_succ]
                      have e5 : vs 5 = _ := hf 5 (by simp)
                      rw [e5]
                      go_wp2_with fail
                      first | exact Below.refl _ _ | (trace_state; sorry)
                    · refine FrontStep.of [6] _ rfl (by kernel_rfl) ?_
                      intro vs L wq hL hC hf
                      simp only [putL, List.foldl_nil, List.foldl_cons, List.getElem?_cons_zero, List.getElem?_cons_succ]
                      have e6 : vs 6 = _ := hf 6 (by simp)
                      rw [e6]
                      have hcv := unhide cvA wq hC
                      go_wp2_with fail
                      first | exact Below.refl _ _ | (trace_state; sorry)
                    · refine FrontStep.of [] _ rfl (by kernel_rfl) ?_
                      intro vs L wq hL hC hf
                      simp only [putL, List.foldl_nil]
                      go_wp2_with fail
                      first | exact Below.refl _ _ | (trace_state; sorry)
                    · refine FrontStep.of [] _ rfl (by kernel_rfl) ?_
                      intro vs L wq hL hC hf
                      simp only [putL, List.foldl_nil]
                      go_wp2_with fail
                      first | exact Below.refl _ _ | (trace_state; sorry)
                    · refine FrontStep.of [9] _ rfl (by kernel_rfl) ?_
                      intro vs L wq hL hC hf
                      simp only [putL, List.foldl_nil, List.foldl_cons, List.getElem?_cons_zero, List.getElem?_cons_succ]
                      have e9 : vs 9 = _ := hf 9 (by simp)
                      rw [e9]
                      go_wp2_with fail
                      first | exact Below.refl _ _ | (trace_state; sorry)
                    · refine FrontStep.of [10] _ rfl (by kernel_rfl) ?_
                      intro vs L wq hL hC hf
                      simp only [putL, List.foldl_nil, List.foldl_cons, List.getElem?_cons_zero, List.getElem?_cons_succ]
                      have e10 : vs 10 = _ := hf 10 (by simp)
                      rw [e10]
                      go_wp2_with fail
                      first | exact Below.refl _ _ | (trace_state; sorry)
                    · refine FrontStep.of [8, 11] _ rfl (by kernel_rfl) ?_
                      intro vs L wq hL hC hf
                      simp only [putL, List.foldl_nil, List.foldl_cons, List.getElem?_cons_zero, List.getElem?_cons_succ]
                      have e8 : vs 8 = _ := hf 8 (by simp)
                      rw [e8]
                      have e11 : vs 11 = _ := hf 11 (by simp)
                      rw [e11]
                      go_wp2_with fail
                      first | exact Below.refl _ _ | (trace_state; sorry)
                    · refine FrontStep.of [12] _ rfl (by kernel_rfl) ?_
                      intro vs L wq hL hC hf
                      simp only [putL, List.foldl_nil, List.foldl_cons, List.getElem?_cons_zero, List.getElem?_cons_succ]
                      have e12 : vs 12 = _ := hf 12 (by simp)
                      rw [e12]
                      go_wp2_with fail
                      first | exact Below.refl _ _ | (trace_state; sorry)
                    · refine FrontStep.of [13] _ rfl (by kernel_rfl) ?_
                      intro vs L wq hL hC hf
                      simp only [putL, List.foldl_nil, List.foldl_cons, List.getElem?_cons_zero, List.getElem?_cons_succ]
                      have e13 : vs 13 = _ := hf 13 (by simp)
                      rw [e13]
                      have hcv := unhide cvB wq hC
                      go_wp2_with fail
                      first | exact Below.refl _ _ | (trace_state; sorry)
                    · refine FrontStep.of [7, 14] _ rfl (by kernel_rfl) ?_
                      intro vs L wq hL hC hf
                      simp only [putL, List.foldl_nil, List.foldl_cons, List.getElem?_cons_zero, List.getElem?_cons_succ]
                      have e7 : vs 7 = _ := hf 7 (by simp)
                      rw [e7]
                      have e14 : vs 14 = _ := hf 14 (by simp)
                      rw [e14]
                      go_wp2_with fail
                      exact ⟨hC.alloc hC.size _, (Below.refl _ _).alloc (Nat.le_refl _) _, (Array.getElem?_eq_some_iff.1 (heap_alloc_new _ _)).2⟩
                    · refine FrontStep.of [15] _ rfl (by kernel_rfl) ?_
                      intro vs L wq hL hC hf
                      simp only [putL, List.foldl_nil, List.foldl_cons, List.getElem?_cons_zero, List.getElem?_cons_succ]
                      obtain ⟨b, hvb, hbr⟩ := hf 15 (by simp)
                      rw [hvb]
                      go_wp2_with fail
                      have hbl := (Array.getElem?_eq_some_iff.1 hbr).1
                      refine (of_any (some ⟨b, 0, none⟩) 3 3 [⟨#[110]⟩, ⟨A.toArray⟩, ⟨B.toArray⟩] wq (lst_strs hbr (by intro x hx; simp at hx; rcases hx with rfl | rfl | rfl <;> simp [ByteArray.size, hAl, hBl, maxLen]) hbl) (by decide)).mono ?_
                      rintro e w2 ⟨rfl, hb2⟩
                      have hD : Dg.dig (allB [⟨#[110]⟩, ⟨A.toArray⟩, ⟨B.toArray⟩]) = Dg.node A B := by rw [allB_3]; rfl
                      rw [hD]
                      clear hD
                      go_wp2_with fail
                      exact hC.trans (hb2.mono hC.size)
                  · intro vs L wq hL hC hf
                    have e0 : vs 0 = _ := hf 0 (by omega)
                    have e1 : vs 1 = _ := hf 1 (by omega)
                    have e16 : vs 16 = _ := hf 16 (by omega)
                    rw [putSome_all]
                    simp only [putL, List.range, List.range.loop, List.foldl_nil, List.foldl_cons, List.getElem?_cons_zero, List.getElem?_cons_succ, List.drop_succ_cons, List.drop_zero]
                    rw [e0, e1, e16]
                    clear e0 e1 e16 hf hL
                    have hg2l : g2 < wr.heap.size := (Array.getElem?_eq_some_iff.1 hrow).1
                    have hrowq := (hC.block g2 hg2l).trans hrow
                    have fz : ∀ o, wq.frozen? ⟨g2, o, none⟩ = false := by intro o; simp [World.frozen?, hrowq]
                    have fz0 := fz (p * 8)
                    have fz1 := fz (p * 8 + 1)
                    have fz2 := fz (p * 8 + 2)
                    have fz3 := fz (p * 8 + 3)
                    have fz4 := fz (p * 8 + 4)
                    have fz5 := fz (p * 8 + 5)
                    have fz6 := fz (p * 8 + 6)
                    have fz7 := fz (p * 8 + 7)
                    clear fz
                    have fc : ∀ o, o < 8 → ∃ x, wq.cell? ⟨g2, p * 8 + o, none⟩ = some x := fun o ho => ⟨cs[p * 8 + o]'(by omega), by rw [cell_of_row wq g2 _ _ _ _ hrowq]; exact Array.getElem?_eq_getElem _⟩
                    obtain ⟨x0, fc0⟩ := fc 0 (by omega)
                    rw [Nat.add_zero] at fc0
                    obtain ⟨x1, fc1⟩ := fc 1 (by omega)
                    obtain ⟨x2, fc2⟩ := fc 2 (by omega)
                    obtain ⟨x3, fc3⟩ := fc 3 (by omega)
                    obtain ⟨x4, fc4⟩ := fc 4 (by omega)
                    obtain ⟨x5, fc5⟩ := fc 5 (by omega)
                    obtain ⟨x6, fc6⟩ := fc 6 (by omega)
                    obtain ⟨x7, fc7⟩ := fc 7 (by omega)
                    clear fc
                    obtain ⟨N, hN⟩ : ∃ N, Dg.node A B = N := ⟨_, rfl⟩
                    rw [hN]
                    replace hN := hide hN
                    go_wp2_with fail
                    have hbig : p * 8 + 8 ≤ cs.size := by omega
                    have hp8 := put8 cs p (.int .u8 (N[0]?.getD 0).toNat) (.int .u8 (N[1]?.getD 0).toNat) (.int .u8 (N[2]?.getD 0).toNat) (.int .u8 (N[3]?.getD 0).toNat) (.int .u8 (N[4]?.getD 0).toNat) (.int .u8 (N[5]?.getD 0).toNat) (.int .u8 (N[6]?.getD 0).toNat) (.int .u8 (N[7]?.getD 0).toNat) hbig
                    have hups := up_step (Dg.lev Lb j) p A B (by rw [unhide hm, unhide hh]; exact hph) hA hB
                    rw [unhide hN] at hups
                    have hset := eight_at (.int .u8 (N[0]?.getD 0).toNat) (.int .u8 (N[1]?.getD 0).toNat) (.int .u8 (N[2]?.getD 0).toNat) (.int .u8 (N[3]?.getD 0).toNat) (.int .u8 (N[4]?.getD 0).toNat) (.int .u8 (N[5]?.getD 0).toNat) (.int .u8 (N[6]?.getD 0).toNat) (.int .u8 (N[7]?.getD 0).toNat) (p * 8) hrowq
                    have hbel8 := eight_below (.int .u8 (N[0]?.getD 0).toNat) (.int .u8 (N[1]?.getD 0).toNat) (.int .u8 (N[2]?.getD 0).toNat) (.int .u8 (N[3]?.getD 0).toNat) (.int .u8 (N[4]?.getD 0).toNat) (.int .u8 (N[5]?.getD 0).toNat) (.int .u8 (N[6]?.getD 0).toNat) (.int .u8 (N[7]?.getD 0).toNat) (p * 8) g2 W3.heap.size (Nat.le_of_eq (unhide hg2)) (hb5.trans (hC.mono hb5.size))
                    go_roundw
                    case rel =>
                      refine ⟨p + 1, _, by omega, by go_num, hset, by simpa using hcs, ?_, hbel8⟩
                      rw [hp8, htk, Dg.lev, hups, digCs_snoc]
                    case measure => simp [intOf]; omega
                · obtain rfl : p = h := by omega
                  have j1 : ¬ (p : Int) < (p : Int) := by omega
                  go_wp2_with fail
                  go_roundw
                  case rel =>
                    have hl2 := unhide hup
                    have hlist : cs.toList = digCs (Dg.lev Lb (j + 1)) := by
                      rw [List.take_of_length_le (by simp; omega), List.take_of_length_le (by omega)] at htk
                      exact htk
                    refine ⟨j + 1, g2, p, by rw [hl2], by rw [hl2]; have := unhide hh; have := h1; omega, ?_, unhide hJ (j + 1) W3 wr hJ3 hb5, ?_⟩
                    · rw [hl2, ← hlist]
                      exact own_lit hrow (by have := unhide hg2; omega) (by have := unhide hh; unfold maxLen; omega) hcs
                    · have := hb5.size; omega
                  case measure => simp [lenOf]; have := unhide hh; omega
        · have hlt : q < N := by omega
          have hor := htest.2 hqN
          clear htest hqN
          have s1 : ((q : Int) == 0) = true ∨ (((q : Int) == 0) = false ∧ (bits .and .i64 (q : Int) ((q : Int) - 1) != 0) = true) := by
            by_cases h0 : q = 0
            · exact Or.inl (by rw [h0]; rfl)
            · refine Or.inr ⟨beq_eq_false_iff_ne.2 (by omega), ?_⟩
              have hbit : bits .and .i64 (q : Int) ((q : Int) - 1) = ((q &&& (q - 1) : Nat) : Int) := and_pow ⟨q, by omega⟩ h0
              rcases hor with h | h
              · exact absurd h h0
              · have h' : q &&& (q - 1) ≠ 0 := h
                rw [hbit]
                exact bne_iff_ne.2 (by omega)
          clear hor
          rcases s1 with t1 | ⟨t1, t2⟩
          · go_wp2_with fail
            refine (unhide hof wr).mono ?_
            rintro e w2 ⟨rfl, hb2⟩
            have hD : Dg.dig ((⟨#[118]⟩ : ByteArray).data.toList) = Dg.miss := rfl
            rw [hD]
            have hmore := lvs_more L k (q - k)
            rw [show q - k + 1 = q + 1 - k by omega] at hmore
            obtain ⟨D, hDD⟩ : ∃ D, Dg.miss = D := ⟨_, rfl⟩
            rw [hDD] at hmore ⊢
            replace hmore := hide hmore
            have hown2 := own_below hown hb2
            have hbw := hb.trans (hb2.mono hb.size)
            have hz := hbw.size
            clear hD hDD hb2 hown hof hb
            go_wp2_with (at_builtin; refine wpList_append_own _ rfl _ _ 60 rfl W.heap.size 52 i0 _ 8 8 Try.underlying60 (unhide hi) (unhide hz0) (unhide hz1) (unhide hz2) rfl (by decide) _ _ _ rfl (hown2.alloc _) ⟨w2.heap.size, 0, none⟩ 1 1 (digC D).toList rfl rfl ?e1 ?e2 ?e3 ?e4 ?e5 ?_)
            case e2 => exact ⟨rfl, rfl, rfl, rfl, rfl, rfl, rfl, rfl⟩
            case e3 => unfold maxLen; omega
            case e4 => omega
            case e5 => simp; omega
            intro v' w3 hown3 hg3 _
            have hb3 : Below W.heap.size W w3 := Below.grown (hbw.alloc hz (Obj.cells (digC D) 52)) hg3 (by simp; omega) (fun g hg => (hown2.lt g hg).1)
            obtain ⟨va', vc', rfl⟩ := own_shape hown3
            clear hg3 hown2 hbw
            go_wp2_with fail
            go_roundw
            case rel => exact ⟨q + 1, by omega, by omega, by rw [unhide hmore, digCs_snoc]; exact hown3, hb3⟩
            case measure => simp [lenOf]; omega
          · go_wp2_with fail
            refine (unhide hof wr).mono ?_
            rintro e w2 ⟨rfl, hb2⟩
            have hD : Dg.dig ((⟨#[118]⟩ : ByteArray).data.toList) = Dg.miss := rfl
            rw [hD]
            have hmore := lvs_more L k (q - k)
            rw [show q - k + 1 = q + 1 - k by omega] at hmore
            obtain ⟨D, hDD⟩ : ∃ D, Dg.miss = D := ⟨_, rfl⟩
            rw [hDD] at hmore ⊢
            replace hmore := hide hmore
            have hown2 := own_below hown hb2
            have hbw := hb.trans (hb2.mono hb.size)
            have hz := hbw.size
            clear hD hDD hb2 hown hof hb
            go_wp2_with (at_builtin; refine wpList_append_own _ rfl _ _ 60 rfl W.heap.size 52 i0 _ 8 8 Try.underlying60 (unhide hi) (unhide hz0) (unhide hz1) (unhide hz2) rfl (by decide) _ _ _ rfl (hown2.alloc _) ⟨w2.heap.size, 0, none⟩ 1 1 (digC D).toList rfl rfl ?d1 ?d2 ?d3 ?d4 ?d5 ?_)
            case d2 => exact ⟨rfl, rfl, rfl, rfl, rfl, rfl, rfl, rfl⟩
            case d3 => unfold maxLen; omega
            case d4 => omega
            case d5 => simp; omega
            intro v' w3 hown3 hg3 _
            have hb3 : Below W.heap.size W w3 := Below.grown (hbw.alloc hz (Obj.cells (digC D) 52)) hg3 (by simp; omega) (fun g hg => (hown2.lt g hg).1)
            obtain ⟨va', vc', rfl⟩ := own_shape hown3
            clear hg3 hown2 hbw
            go_wp2_with fail
            go_roundw
            case rel => exact ⟨q + 1, by omega, by omega, by rw [unhide hmore, digCs_snoc]; exact hown3, hb3⟩
            case measure => simp [lenOf]; omega
end Go.Proofs.Ytlmaofibdjmkeaa
