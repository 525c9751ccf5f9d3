/- The program's iterator of points; the reference's numbers of them. -/
import Derived.Test.YtbodidhggdggmaaOl3
import Derived.Test.YtbodidhggdggmaaRng
import Derived.OwnWalkIn
import Derived.TacticsInMore
import Derived.LoopNIn
import Derived.LoopIn
import Derived.RangeFuncBound
namespace Go.Proofs.Ytbodidhggdggmaa
open Go.RowKit
theorem points_any (a : Option Addr) (n c : Nat) (w : World) :
    Calls Try.prog 40 #[.slice a n c] w fun e w' => e = .returned (.func (.func 60) #[] #[.pointer (some ⟨w.heap.size, 0, none⟩)]) ∧ w' = w.alloc (Obj.cells #[.slice a n c] 22) := by
  go_enter Try.func40, Try.ntmps40
  go_wp2_with fail
  go_ret
  exact ⟨rfl, rfl⟩
theorem flat_mul : ∀ (q : Ot), (∀ c ∈ q, c.length ≤ 1000) → q.flatten.length ≤ 1000 * q.length := by
  intro q
  induction q with
  | nil => simp
  | cons c q ih =>
    intro h
    have h1 := h c (by simp)
    have h2 := ih (fun d hd => h d (by simp [hd]))
    rw [List.flatten_cons, List.length_append, List.length_cons]
    omega
set_option maxRecDepth 100000 in
set_option maxHeartbeats 4000000 in
theorem pts_in (n l D : Nat) (V : World) (B bx : Nat) (a : Option Addr) (len cap : Nat) (o : Ot) (W : World) (fn : FuncId) (tmps : Array Value) (ps : Array Tmp) (assign body : Code) (J : List Pt → World → Prop)
    (hbx : W.cell? ⟨bx, 0, none⟩ = some (.slice a len cap)) (hl : Lst Enc.ct V (· < B) a len o) (hs : Sml o)
    (hJb : ∀ pre A, J pre A → Below B V A) (hJc : ∀ pre A A', J pre A → Below A.heap.size A A' → J pre A') (h0 : J [] W) (hL : LoopAt fn tmps ps assign body D l W)
    (hround : ∀ pre p W1, J pre W1 → LoopAt fn tmps ps assign body D l W1 → pre.length ≤ 1000000 → I64 p.1 → I64 p.2.1 →
      YieldAt Fence.wide (n - 1) Try.prog l #[.int .i64 (pre.length : Int), .agg #[.int .i64 p.1, .int .i64 p.2.1, .bool p.2.2]] W1 fun e W' => e = .returned (.bool true) ∧ J (pre ++ [p]) W' ∧ LoopAt fn tmps ps assign body D l W') :
    CallsIn Fence.wide n Try.prog 60 #[.func (.yield l) #[] #[], .pointer (some ⟨bx, 0, none⟩)] W fun e W' => (∃ v, e = .returned v) ∧ J o.flatten W' ∧ LoopAt fn tmps ps assign body D l W' := by
  have h1 := hl.1
  have hn : len ≤ 1000 := by have := hs.1; omega
  replace h1 := hide h1; replace hround := hide hround; replace hs := hide hs; replace hl := hide hl; replace hJb := hide hJb; replace hJc := hide hJc; replace h0 := hide h0; replace hL := hide hL
  refine callsIn_of_wp Try.func60 rfl trivial ?_
  simp only [Try.ntmps60, List.size_toArray, List.length_cons, List.length_nil, Nat.reduceAdd, Nat.reduceSub, Array.replicate_succ, Array.replicate_zero, List.push_toArray, List.append_toArray, List.nil_append, List.cons_append]
  refine wpIn_wide.2 ?_
  go_wp2_with fail
  go_loopw [3, 10] (fun v3 v wr => ∃ k : Nat, k ≤ len ∧ v = .int .i64 (k : Int) ∧ v3 = .int .i64 ((o.take k).flatten.length : Int) ∧ J (o.take k).flatten wr ∧ LoopAt fn tmps ps assign body D l wr) (fun _ v _ => (len - intOf v).toNat)
  case atStart => exact ⟨0, by omega, rfl, rfl, unhide h0, unhide hL⟩
  case round =>
    clear h0 hL hbx
    obtain ⟨k, hk, rfl, rfl, hJ, hL⟩ := hrel
    by_cases hlt : k < len
    · obtain ⟨b, off, x, ax, nx, cx, rfl, hb, hx, hnc, hcm, hlx, hc⟩ := lst_list (unhide hl) hlt
      have mx : nx ≤ 1000 := by have := (unhide hs).ct hx; have := hlx.1; omega
      have x1 := hlx.1
      have hfl := take_flat hx
      obtain ⟨pre, hpre⟩ : ∃ pre, (o.take k).flatten = pre := ⟨_, rfl⟩
      have hpl : pre.length ≤ 999000 := by
        have h3 := flat_mul (o.take k) ((unhide hs).take k).2
        rw [hpre, List.length_take] at h3
        omega
      rw [hpre] at hfl hJ
      simp only [hpre]
      have t1 : (k : Int) < (len : Int) := by omega
      have hcw : wr.cell? ⟨b, off + k, none⟩ = some (.slice ax nx cx) := (World.cell?_of_block (a := ⟨b, off + k, none⟩) ((unhide hJb _ _ hJ).block b hb)).trans hc
      replace x1 := hide x1; replace hfl := hide hfl; replace hJ := hide hJ; replace hL := hide hL
      clear hb hnc hcm hx hpre hc
      go_wp2_with fail
      clear hcw
      go_loopw [3, 16] (fun v3 v wr => ∃ i : Nat, i ≤ nx ∧ v = .int .i64 (i : Int) ∧ v3 = .int .i64 ((pre ++ x.take i).length : Int) ∧ J (pre ++ x.take i) wr ∧ LoopAt fn tmps ps assign body D l wr) (fun _ v _ => (nx - intOf v).toNat)
      case atStart => exact ⟨0, by omega, rfl, by simp, by simpa using unhide hJ, unhide hL⟩
      case round =>
        clear hJ hL
        obtain ⟨i, hi', rfl, rfl, hJ, hL⟩ := hrel
        obtain ⟨wi, rfl⟩ : ∃ wo : World, wo = wr := ⟨_, rfl⟩
        by_cases hlt2 : i < nx
        · have hlx1 := hlx.same (fun b hb => (unhide hJb _ _ hJ).block b hb)
          obtain ⟨g', og', px, py, pz, rfl, _, hp, i1, i2, g0, g1, g2⟩ := lst_pt hlx1 hlt2
          have hnx : pre ++ x.take (i + 1) = (pre ++ x.take i) ++ [(px, py, pz)] := by rw [List.take_add_one, hp]; simp
          obtain ⟨cur, hcur⟩ : ∃ cur, pre ++ x.take i = cur := ⟨_, rfl⟩
          have hcl : cur.length ≤ 1000000 := by rw [← hcur, List.length_append, List.length_take]; omega
          simp only [hcur]
          rw [hcur] at hnx hJ
          have u1 : (i : Int) < (nx : Int) := by omega
          obtain ⟨bq, hbq⟩ : ∃ bx, bx = wi.heap.size := ⟨_, rfl⟩
          obtain ⟨V1, hV1⟩ : ∃ V1, V1 = wi.alloc (Obj.cells #[.int .i64 px, .int .i64 py, .bool pz] 56) := ⟨_, rfl⟩
          obtain ⟨hbo, hcx, d0, d1, d2⟩ := box_pt hbq hV1
          have hJ1 := unhide hJc _ _ _ hJ hbo
          have hL1 := hL.kept (keeps_below hbo)
          have hy := unhide hround cur (px, py, pz) V1 hJ1 hL1 (by omega) i1 i2
          simp only at hy
          obtain ⟨gn, gt, ga, gb, gy, hR⟩ := hy
          replace hV1 := hV1.symm
          replace hbq := hbq.symm
          replace hnx := hide hnx
          clear hbo hcx hJ hL hJ1 hL1 hp hcur hlx1
          refine (wpIn_wide (n := n)).1 ?_
          gi_wp2
          refine ⟨fun h => (by cases h), ?_⟩
          refine hR.mono ?_
          rintro e W3 ⟨rfl, hJ3, hL3⟩
          clear hR gy d0 d1 d2 g0 g1 g2 hV1 hbq
          replace hJ3 := hide hJ3; replace hL3 := hide hL3
          gi_wp2
          go_roundw
          case rel => exact ⟨i + 1, by omega, by go_num, by rw [unhide hnx, List.length_append]; go_num, by rw [unhide hnx]; exact unhide hJ3, unhide hL3⟩
          case measure => simp [intOf]; omega
        · have hxe : x.take i = x := List.take_of_length_le (by rw [unhide x1]; omega)
          simp only [hxe, ← unhide hfl]
          rw [hxe, ← unhide hfl] at hJ
          replace hJ := hide hJ; replace hL := hide hL
          clear hxe hlx
          go_wp2_with fail
          go_roundw
          case rel => exact ⟨k + 1, by omega, by go_num, rfl, unhide hJ, unhide hL⟩
          case measure => simp [intOf]; omega
    · have hoe : o.take k = o := List.take_of_length_le (by have := unhide h1; omega)
      simp only [hoe]
      rw [hoe] at hJ
      replace hJ := hide hJ; replace hL := hide hL
      clear hoe hl hround hJb hJc
      go_wp2_with fail
      go_end0
      exact ⟨⟨_, rfl⟩, unhide hJ, unhide hL⟩
end Go.Proofs.Ytbodidhggdggmaa
