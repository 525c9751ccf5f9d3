/- Lowest, the program's and the reference's. -/
import Derived.Test.YtfegkaflemcanaaEx5
namespace Go.Proofs.Ytfegkaflemcanaa
open Go.RowKit

/-- what there is to know of a ratio in lowest terms -/
structure LowFacts (xn xd : Int) (G : Nat) : Prop where
  g1 : 1 ≤ G
  g2 : (G : Int) ≤ xd
  num : xn / (G : Int) = (Ex.rat xn xd).num
  den : xd / (G : Int) = ((Ex.rat xn xd).den : Int)
  tnum : IntKind.i64.wrap (xn.tdiv (G : Int)) = (Ex.rat xn xd).num
  tden : IntKind.i64.wrap (xd.tdiv (G : Int)) = ((Ex.rat xn xd).den : Int)
  tden' : IntKind.i64.wrap (xd / (G : Int)) = ((Ex.rat xn xd).den : Int)
  inum : I64 (Ex.rat xn xd).num
  iden : 1 ≤ ((Ex.rat xn xd).den : Int) ∧ ((Ex.rat xn xd).den : Int) ≤ xd
theorem low_facts (xn xd : Int) (hn : I64 xn) (hd : I64 xd) (h1 : 1 ≤ xd) : LowFacts xn xd (Nat.gcd xn.natAbs xd.natAbs) := by
  obtain ⟨e1, e2⟩ := Ex.rat_num_den xn xd h1
  have hG := Nat.gcd_pos_of_pos_right xn.natAbs (show 0 < xd.natAbs by omega)
  have hdv := Nat.gcd_dvd_left xn.natAbs xd.natAbs
  have hdd := Nat.gcd_dvd_right xn.natAbs xd.natAbs
  have hle := Nat.le_of_dvd (show 0 < xd.natAbs by omega) hdd
  generalize Nat.gcd xn.natAbs xd.natAbs = G at *
  have dn : (G : Int) ∣ xn := Int.ofNat_dvd_left.2 hdv
  have dd : (G : Int) ∣ xd := Int.ofNat_dvd_left.2 hdd
  have ed : xd / (G : Int) = ((Ex.rat xn xd).den : Int) := by
    rw [e2, Int.natCast_ediv, show ((xd.natAbs : Nat) : Int) = xd by omega]
  have fn := floor_i64 (a := xn) (b := (G : Int)) (by omega) hn.1 hn.2
  have fd := floor_i64 (a := xd) (b := (G : Int)) (by omega) hd.1 hd.2
  have hden : 1 ≤ ((Ex.rat xn xd).den : Int) := by
    have := (Ex.rat xn xd).den_pos; omega
  have hden2 : xd / (G : Int) ≤ xd := Int.ediv_le_self _ (by omega)
  refine ⟨hG, by omega, e1.symm, ed, ?_, ?_, ?_, ?_, hden, by rw [← ed]; exact hden2⟩
  · rw [Int.tdiv_eq_ediv_of_dvd dn, ← e1] at *; rw [e1]; exact IntWalk.i64_in _ fn
  · rw [Int.tdiv_eq_ediv_of_dvd dd, IntWalk.i64_in _ fd, ed]
  · rw [IntWalk.i64_in _ fd, ed]
  · rw [e1]; exact fn

theorem i64_nat (G : Nat) (h : (G : Int) ≤ 9223372036854775807) : IntKind.i64.wrap (G : Int) = (G : Int) := IntWalk.i64_in _ ⟨by omega, h⟩
theorem blk_new2 (w : World) (o1 o2 : Obj) (n : Nat) : (((w.alloc o1).alloc o2).drewN n).heap[w.heap.size + 1]? = some o2 := by
  have := heap_alloc_new (w.alloc o1) o2
  simpa using this

theorem elow_bad (xn xd : Int) (w : World) (h : xd < 1) :
    Calls Try.prog 24 #[.agg #[.int .i64 xn, .int .i64 xd]] w fun e w' => e = .returned (.tuple #[.agg #[.int .i64 0, .int .i64 0], .bool false]) ∧ Below w.heap.size w w' := by
  have t1 : decide (xd < 1) = true := by simpa using h
  go_enter Try.func24, Try.ntmps24
  go_wp2
  refine bodyPost_ret (v := .tuple #[.agg #[.int .i64 0, .int .i64 0], .bool false]) (by simp [results, Try.results24, go_sem]) rfl ⟨rfl, ?_⟩
  first | exact (((Below.refl _ _).alloc (Nat.le_refl _) _).alloc (by simp) _) | exact ((((Below.refl _ _).alloc (Nat.le_refl _) _).alloc (by simp) _).setCell (by simp) _).setCell (by simp) _
theorem rlow_bad (xn xd : Int) (w : World) (h : xd < 1) :
    Calls Try.prog 25 #[.agg #[.int .i64 xn, .int .i64 xd]] w fun e w' => e = .returned (.tuple #[.agg #[.int .i64 0, .int .i64 0], .bool false]) ∧ Below w.heap.size w w' := by
  have t1 : decide (xd < 1) = true := by simpa using h
  go_enter Try.func25, Try.ntmps25
  go_wp2
  refine bodyPost_ret (v := .tuple #[.agg #[.int .i64 0, .int .i64 0], .bool false]) (by simp [results, Try.results25, go_sem]) rfl ⟨rfl, ?_⟩
  first | exact (((Below.refl _ _).alloc (Nat.le_refl _) _).alloc (by simp) _) | exact ((((Below.refl _ _).alloc (Nat.le_refl _) _).alloc (by simp) _).setCell (by simp) _).setCell (by simp) _

set_option maxHeartbeats 1000000 in
theorem elow_any (xn xd : Int) (w : World) (hn : I64 xn) (hd : I64 xd) (h1 : 1 ≤ xd) :
    Calls Try.prog 24 #[.agg #[.int .i64 xn, .int .i64 xd]] w fun e w' => e = .returned (.tuple #[.agg #[.int .i64 (Ex.rat xn xd).num, .int .i64 (Ex.rat xn xd).den], .bool true]) ∧ Below w.heap.size w w' := by
  have F := low_facts xn xd hn hd h1
  have hgc := fun w => gcd_int xn xd w
  obtain ⟨G, hG⟩ : ∃ G, G = Nat.gcd xn.natAbs xd.natAbs := ⟨_, rfl⟩
  rw [← hG] at F hgc
  obtain ⟨V, hV⟩ : ∃ V, V = (Ex.rat xn xd).num := ⟨_, rfl⟩
  obtain ⟨D, hD⟩ : ∃ D, D = (((Ex.rat xn xd).den : Nat) : Int) := ⟨_, rfl⟩
  obtain ⟨g1, g2, _, _, f1, f2, f3, _, _⟩ := F
  rw [← hV] at f1 ⊢
  rw [← hD] at f2 f3 ⊢
  have t1 : decide (xd < 1) = false := by simp; omega
  have z1 : ¬ (G : Int) = 0 := by omega
  have z2 : ¬ G = 0 := by omega
  have g3 : (G : Int) ≤ 9223372036854775807 := by unfold I64 at hd; omega
  clear hG hV hD g2
  go_enter Try.func24, Try.ntmps24
  go_wp2_with fail
  refine (hgc _).mono ?_
  rintro e w1 ⟨g, hg, rfl, n, rfl⟩
  clear hgc
  by_cases hneg : g < 0
  · have t2 : decide (g < 0) = true := by simpa using hneg
    have eg : wrap64 (-g) = (G : Int) := by rw [IntWalk.wrap64_in _ (by omega)]; omega
    clear hg hneg
    go_wp2
    have hx : ∀ x : Ext (((w.alloc (Obj.cells #[.int .i64 xn, .int .i64 xd] 33)).alloc (Obj.cells #[.int .i64 0, .int .i64 0] 33)).drewN n), x.get.cell? ⟨w.heap.size, 0, none⟩ = some (.int .i64 xn) ∧ x.get.cell? ⟨w.heap.size, 1, none⟩ = some (.int .i64 xd) :=
      fun x => ⟨x.cell (by go_simp), x.cell (by go_simp)⟩
    have hx1 := fun x => (hx x).1
    have hx2 := fun x => (hx x).2
    clear hx
    refine wp_region_ext_tail 9 (by rfl) (by kernel_rfl) ?_
    simp only [List.take_succ_cons, List.take_zero, List.drop_succ_cons, List.drop_zero]
    repeat (quiet_step (fail))
    refine wpQuiet_nil ?_
    rintro w' ⟨x, rfl⟩
    have hbel := x.le
    have hblk : x.get.heap[w.heap.size + 1]? = some (.cells #[.int .i64 0, .int .i64 0] 33 (0, 0)) := (hbel.block _ (by simp)).trans (blk_new2 _ _ _ _)
    have c0 : x.get.cell? ⟨w.heap.size + 1, 0, none⟩ = some (.int .i64 0) := by simp [World.cell?, hblk]
    have c1 : x.get.cell? ⟨w.heap.size + 1, 1, none⟩ = some (.int .i64 0) := by simp [World.cell?, hblk]
    have f0 : x.get.frozen? ⟨w.heap.size + 1, 0, none⟩ = false := by simp [World.frozen?, hblk]
    have f1 : x.get.frozen? ⟨w.heap.size + 1, 1, none⟩ = false := by simp [World.frozen?, hblk]
    clear hblk hx1 hx2
    go_wp2
    refine bodyPost_ret (v := .tuple #[.agg #[.int .i64 V, .int .i64 D], .bool true]) (by simp [results, Try.results24, go_sem, c0, c1]) rfl ⟨rfl, ?_⟩
    exact (((((Below.refl _ _).alloc (Nat.le_refl _) _).alloc (by simp) _).trans ((below_drewN _ _).mono (by simp; omega))).trans (hbel.mono (by simp; omega))).setCell (by simp) _ |>.setCell (by simp) _
  · have t2 : decide (g < 0) = false := by simpa using hneg
    obtain rfl : g = (G : Int) := by omega
    clear hg hneg
    go_wp2
    have hx : ∀ x : Ext (((w.alloc (Obj.cells #[.int .i64 xn, .int .i64 xd] 33)).alloc (Obj.cells #[.int .i64 0, .int .i64 0] 33)).drewN n), x.get.cell? ⟨w.heap.size, 0, none⟩ = some (.int .i64 xn) ∧ x.get.cell? ⟨w.heap.size, 1, none⟩ = some (.int .i64 xd) :=
      fun x => ⟨x.cell (by go_simp), x.cell (by go_simp)⟩
    have hx1 := fun x => (hx x).1
    have hx2 := fun x => (hx x).2
    clear hx
    refine wp_region_ext_tail 9 (by rfl) (by kernel_rfl) ?_
    simp only [List.take_succ_cons, List.take_zero, List.drop_succ_cons, List.drop_zero]
    repeat (quiet_step (fail))
    refine wpQuiet_nil ?_
    rintro w' ⟨x, rfl⟩
    have hbel := x.le
    have hblk : x.get.heap[w.heap.size + 1]? = some (.cells #[.int .i64 0, .int .i64 0] 33 (0, 0)) := (hbel.block _ (by simp)).trans (blk_new2 _ _ _ _)
    have c0 : x.get.cell? ⟨w.heap.size + 1, 0, none⟩ = some (.int .i64 0) := by simp [World.cell?, hblk]
    have c1 : x.get.cell? ⟨w.heap.size + 1, 1, none⟩ = some (.int .i64 0) := by simp [World.cell?, hblk]
    have f0 : x.get.frozen? ⟨w.heap.size + 1, 0, none⟩ = false := by simp [World.frozen?, hblk]
    have f1 : x.get.frozen? ⟨w.heap.size + 1, 1, none⟩ = false := by simp [World.frozen?, hblk]
    clear hblk hx1 hx2
    go_wp2
    refine bodyPost_ret (v := .tuple #[.agg #[.int .i64 V, .int .i64 D], .bool true]) (by simp [results, Try.results24, go_sem, c0, c1]) rfl ⟨rfl, ?_⟩
    exact (((((Below.refl _ _).alloc (Nat.le_refl _) _).alloc (by simp) _).trans ((below_drewN _ _).mono (by simp; omega))).trans (hbel.mono (by simp; omega))).setCell (by simp) _ |>.setCell (by simp) _

set_option maxHeartbeats 1000000 in
theorem rlow_any (xn xd : Int) (w : World) (hn : I64 xn) (hd : I64 xd) (h1 : 1 ≤ xd) :
    Calls Try.prog 25 #[.agg #[.int .i64 xn, .int .i64 xd]] w fun e w' => e = .returned (.tuple #[.agg #[.int .i64 (Ex.rat xn xd).num, .int .i64 (Ex.rat xn xd).den], .bool true]) ∧ Below w.heap.size w w' := by
  have F := low_facts xn xd hn hd h1
  have hgc := fun w => rgcd_any xn.natAbs xd.natAbs w
  obtain ⟨G, hG⟩ : ∃ G, G = Nat.gcd xn.natAbs xd.natAbs := ⟨_, rfl⟩
  rw [← hG] at F hgc
  obtain ⟨V, hV⟩ : ∃ V, V = (Ex.rat xn xd).num := ⟨_, rfl⟩
  obtain ⟨D, hD⟩ : ∃ D, D = (((Ex.rat xn xd).den : Nat) : Int) := ⟨_, rfl⟩
  obtain ⟨g1, g2, _, _, f1, f2, f3, _, _⟩ := F
  rw [← hV] at f1 ⊢
  rw [← hD] at f2 f3 ⊢
  have t1 : decide (xd < 1) = false := by simp; omega
  have z1 : ¬ (G : Int) = 0 := by omega
  have z2 : ¬ G = 0 := by omega
  have g3 : (G : Int) ≤ 9223372036854775807 := by unfold I64 at hd; omega
  have ew : wrap64 (G : Int) = (G : Int) := IntWalk.wrap64_in _ (by omega)
  have ew2 : IntKind.i64.wrap (G : Int) = (G : Int) := i64_nat G g3
  clear hG hV hD g2
  go_enter Try.func25, Try.ntmps25
  have sz : ∀ z w, I64 z → Calls Try.prog 34 #[.int .i64 z] w fun e w' => e = .returned (.int .u64 z.natAbs) ∧ w' = w := fun z w h => size_any z w h
  go_wp2
  go_quiet ((first | (go_at_call 34; exact Calls.quiet_of_same (sz _ _ (by assumption))) | (go_at_call 48; exact Calls.quiet_of (hgc _))))
  go_wp2
  have hx : ∀ x : Ext (((w.alloc (Obj.cells #[.int .i64 xn, .int .i64 xd] 33)).alloc (Obj.cells #[.int .i64 0, .int .i64 0] 33)).drewN nq), x.get.cell? ⟨w.heap.size, 0, none⟩ = some (.int .i64 xn) ∧ x.get.cell? ⟨w.heap.size, 1, none⟩ = some (.int .i64 xd) :=
    fun x => ⟨x.cell (by go_simp), x.cell (by go_simp)⟩
  have hx1 := fun x => (hx x).1
  have hx2 := fun x => (hx x).2
  clear hx
  refine wp_region_ext_tail 9 (by rfl) (by kernel_rfl) ?_
  simp only [List.take_succ_cons, List.take_zero, List.drop_succ_cons, List.drop_zero]
  repeat (quiet_step (fail))
  refine wpQuiet_nil ?_
  rintro w' ⟨x, rfl⟩
  have hbel := x.le
  have hblk : x.get.heap[w.heap.size + 1]? = some (.cells #[.int .i64 0, .int .i64 0] 33 (0, 0)) := (hbel.block _ (by simp)).trans (blk_new2 _ _ _ _)
  have c0 : x.get.cell? ⟨w.heap.size + 1, 0, none⟩ = some (.int .i64 0) := by simp [World.cell?, hblk]
  have c1 : x.get.cell? ⟨w.heap.size + 1, 1, none⟩ = some (.int .i64 0) := by simp [World.cell?, hblk]
  have f0 : x.get.frozen? ⟨w.heap.size + 1, 0, none⟩ = false := by simp [World.frozen?, hblk]
  have f1 : x.get.frozen? ⟨w.heap.size + 1, 1, none⟩ = false := by simp [World.frozen?, hblk]
  clear hblk hx1 hx2
  go_wp2
  refine bodyPost_ret (v := .tuple #[.agg #[.int .i64 V, .int .i64 D], .bool true]) (by simp [results, Try.results25, go_sem, c0, c1]) rfl ⟨rfl, ?_⟩
  exact (((((Below.refl _ _).alloc (Nat.le_refl _) _).alloc (by simp) _).trans ((below_drewN _ _).mono (by simp; omega))).trans (hbel.mono (by simp; omega))).setCell (by simp) _ |>.setCell (by simp) _
end Go.Proofs.Ytfegkaflemcanaa
