/- The example. -/
import Derived.Test.YtbodidhggdggmaaOlV
import Derived.Test.YtbodidhggdggmaaOlT
namespace Go.Proofs.Ytbodidhggdggmaa
open Go.RowKit
def exO : Ot := [[(0, 0, true), (4, 8, false), (8, 0, true)]]
def exD : List Dl := [([(0, 64, 64)], [(0, 0), (10, 0), (3, -3)])]
def exF : Ot := [[(0, 0, true), (64, 96, true), (128, 128, true), (192, 96, true), (256, 0, true)]]
def exW : Ot := [[(0, 0, true), (9, 8, false), (10, -1, true)]]
theorem ex_check : checkO exO = 0 := by kernel_rfl
theorem ex_count : countS exO = 3 := by kernel_rfl
theorem ex_box : boxS exO.flatten = (0, 0, 8, 8) := by kernel_rfl
theorem ex_check2 : checkO [[(0, 0, true), (4, 8, false)]] = 11 := by kernel_rfl
theorem ex_check3 : checkO [[(4, 8, false), (8, 0, true)]] = 11 := by kernel_rfl
theorem ex_flat : flatS exO = exF := by kernel_rfl
theorem ex_inst : instS exO exD [32] = (exW, 0) := by kernel_rfl
theorem ex_inst2 : instS exO exD [32, 0] = ([], 12) := by kernel_rfl
theorem lst_pts_blk {w : World} {g T : Nat} {cs : Array Value} {off len : Nat} {c : List Pt} (h : w.heap[g]? = some (.cells cs T (0, 0))) (hc : ∀ j, j < len * 3 → cs[off + j]? = (pcells c)[j]?) (hl : c.length = len) (ha : AllP c) : Lst Enc.pt w (· < w.heap.size) (some ⟨g, off, none⟩) len c := by
  refine ⟨hl, fun _ => ⟨g, off, rfl, (Array.getElem?_eq_some_iff.1 h).1, fun i p hp => ⟨pcell p, ?_, fun j u hj => ?_⟩⟩⟩
  · have := ha p (List.mem_of_getElem? hp)
    exact pt_rep this.1 this.2
  · have hj3 : j < 3 := (List.getElem?_eq_some_iff.1 hj).1
    have hi := (List.getElem?_eq_some_iff.1 hp).1
    have e : Enc.pt.n = 3 := rfl
    rw [e, cell_of_row _ _ _ _ _ _ h, Nat.add_assoc, hc _ (by omega), pcells_get c i p j hp hj3, hj]
theorem lst_cts_one {w : World} {r T n c : Nat} {a : Option Addr} {x : List Pt} (h : w.heap[r]? = some (.cells #[.slice a n c] T (0, 0))) (hl : Lst Enc.pt w (· < w.heap.size) a n x) (hn : n ≤ c) (hc : c ≤ maxLen) : Lst Enc.ct w (· < w.heap.size) (some ⟨r, 0, none⟩) 1 [x] := by
  refine ⟨rfl, fun _ => ⟨r, 0, rfl, (Array.getElem?_eq_some_iff.1 h).1, fun i y hy => ?_⟩⟩
  cases i with
  | succ i => simp at hy
  | zero =>
    simp at hy
    subst hy
    refine ⟨[.slice a n c], ⟨_, _, _, rfl, hn, hc, hl⟩, fun j u hj => ?_⟩
    cases j with
    | succ j => simp at hj
    | zero => simp at hj; subst hj; exact (cell_of_row _ _ 0 _ _ _ h).trans rfl
set_option maxHeartbeats 2000000 in
theorem example_any (w : World) : Calls Try.prog 33 #[] w fun e w' => ∃ g r d, e = .returned (.tuple #[.slice (some ⟨r, 0, none⟩) 1 1, .slice (some ⟨d, 0, none⟩) 1 1]) ∧ w'.heap[g]? = some (.cells (pcells [(0, 0, true), (4, 8, false), (8, 0, true)]).toArray 56 (0, 0)) ∧ w'.heap[r]? = some (.cells #[.slice (some ⟨g, 0, none⟩) 3 3] 54 (0, 0)) ∧ Lst Enc.dl w' (· < w'.heap.size) (some ⟨d, 0, none⟩) 1 exD ∧ Below w.heap.size w w' := by
  obtain ⟨g, V1, hg, hV1, n1, k1, s1⟩ := al1 w (.cells #[.int .i64 0, .int .i64 0, .bool true, .int .i64 4, .int .i64 8, .bool false, .int .i64 8, .int .i64 0, .bool true] 56)
  obtain ⟨r, V2, hr, hV2, n2, k2, s2⟩ := al1 V1 (.cells #[.slice (some ⟨g, 0, none⟩) 3 3] 54)
  obtain ⟨t, V3, ht, hV3, n3, k3, s3⟩ := al1 V2 (.cells #[.int .i64 0, .int .i64 64, .int .i64 64] 63)
  obtain ⟨m, V4, hm, hV4, n4, k4, s4⟩ := al1 V3 (.cells #[.int .i64 0, .int .i64 0, .int .i64 10, .int .i64 0, .int .i64 3, .int .i64 (-3)] 65)
  obtain ⟨d, V5, hd, hV5, n5, k5, s5⟩ := al1 V4 (.cells #[.slice (some ⟨t, 0, none⟩) 1 1, .slice (some ⟨m, 0, none⟩) 3 3] 48)
  have k45 := k4.trans (k5.mono k4.size)
  have k35 := k3.trans (k45.mono k3.size)
  have k25 := k2.trans (k35.mono k2.size)
  have k15 := k1.trans (k25.mono k1.size)
  have m1 := (k25.block g (by omega)).trans n1
  have m2 := (k35.block r (by omega)).trans n2
  have m3 := (k45.block t (by omega)).trans n3
  have m4 := (k5.block m (by omega)).trans n4
  have hdl : Lst Enc.dl V5 (· < V5.heap.size) (some ⟨d, 0, none⟩) 1 exD := by
    refine ⟨rfl, fun _ => ⟨d, 0, rfl, (Array.getElem?_eq_some_iff.1 n5).1, fun i y hy => ?_⟩⟩
    cases i with
    | succ i => simp [exD] at hy
    | zero =>
      simp [exD] at hy
      subst hy
      refine ⟨[.slice (some ⟨t, 0, none⟩) 1 1, .slice (some ⟨m, 0, none⟩) 3 3], ⟨[.slice (some ⟨t, 0, none⟩) 1 1], _, rfl, ⟨_, _, _, rfl, by omega, by decide, rfl, fun _ => ⟨t, 0, rfl, (Array.getElem?_eq_some_iff.1 m3).1, fun i y hy => ?_⟩⟩, _, _, _, rfl, by omega, by decide, rfl, fun _ => ⟨m, 0, rfl, (Array.getElem?_eq_some_iff.1 m4).1, fun i y hy => ?_⟩⟩, fun j u hj => ?_⟩
      · cases i with
        | succ i => simp at hy
        | zero =>
          simp at hy; subst hy
          refine ⟨[.int .i64 0, .int .i64 64, .int .i64 64], ⟨[.int .i64 0], _, rfl, ⟨rfl, by decide⟩, [.int .i64 64], _, rfl, ⟨rfl, by decide⟩, rfl, by decide⟩, fun j u hj => ?_⟩
          rw [cell_of_row _ _ _ _ _ _ m3]
          have hj2 := (List.getElem?_eq_some_iff.1 hj).1
          simp at hj2
          have : j = 0 ∨ j = 1 ∨ j = 2 := by omega
          rcases this with rfl | rfl | rfl <;> exact hj
      · have h3 : i = 0 ∨ i = 1 ∨ i = 2 := by have := (List.getElem?_eq_some_iff.1 hy).1; simp at this; omega
        rcases h3 with rfl | rfl | rfl <;> simp at hy <;> subst hy
        · refine ⟨[.int .i64 0, .int .i64 0], ⟨[.int .i64 0], _, rfl, ⟨rfl, by decide⟩, rfl, by decide⟩, fun j u hj => ?_⟩
          have hj2 := (List.getElem?_eq_some_iff.1 hj).1
          simp at hj2
          rw [cell_of_row _ _ _ _ _ _ m4]
          have : j = 0 ∨ j = 1 := by omega
          rcases this with rfl | rfl <;> exact hj
        · refine ⟨[.int .i64 10, .int .i64 0], ⟨[.int .i64 10], _, rfl, ⟨rfl, by decide⟩, rfl, by decide⟩, fun j u hj => ?_⟩
          have hj2 := (List.getElem?_eq_some_iff.1 hj).1
          simp at hj2
          rw [cell_of_row _ _ _ _ _ _ m4]
          have : j = 0 ∨ j = 1 := by omega
          rcases this with rfl | rfl <;> exact hj
        · refine ⟨[.int .i64 3, .int .i64 (-3)], ⟨[.int .i64 3], _, rfl, ⟨rfl, by decide⟩, rfl, by decide⟩, fun j u hj => ?_⟩
          have hj2 := (List.getElem?_eq_some_iff.1 hj).1
          simp at hj2
          rw [cell_of_row _ _ _ _ _ _ m4]
          have : j = 0 ∨ j = 1 := by omega
          rcases this with rfl | rfl <;> exact hj
      · rw [cell_of_row _ _ _ _ _ _ n5]
        have hj2 := (List.getElem?_eq_some_iff.1 hj).1
        simp at hj2
        have : j = 0 ∨ j = 1 := by omega
        rcases this with rfl | rfl <;> exact hj
  clear n1 n2 n3 n4 n5 k1 k2 k3 k4 k5 k45 k35 k25 m3 m4 s1 s2 s3 s4 s5
  replace hdl := hide hdl; replace m1 := hide m1; replace m2 := hide m2; replace k15 := hide k15
  go_enter Try.func33, Try.ntmps33
  go_wp2_with fail
  refine bodyPost_ret (v := .tuple #[.slice (some ⟨r, 0, none⟩) 1 1, .slice (some ⟨d, 0, none⟩) 1 1]) (by simp [results, Try.results33, go_sem]) rfl ⟨g, r, d, rfl, unhide m1, unhide m2, unhide hdl, unhide k15⟩
end Go.Proofs.Ytbodidhggdggmaa
