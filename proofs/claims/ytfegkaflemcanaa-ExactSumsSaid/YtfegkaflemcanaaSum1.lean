/- sum and mul of the law ExactSums: results that have to be there. -/
import Derived.Test.YtfegkaflemcanaaUni0
import Derived.Test.YtfegkaflemcanaaUniP
import Derived.Test.YtfegkaflemcanaaSt
namespace Go.Proofs.Ytfegkaflemcanaa
open Go.RowKit

theorem i64_num {q : Rat} (h : Ex.In63 q) : I64 q.num ∧ I64 (q.den : Int) := by
  obtain ⟨h1, h2⟩ := h
  refine ⟨⟨?_, ?_⟩, ⟨?_, ?_⟩⟩ <;> omega

set_option maxHeartbeats 1000000 in
theorem lsum_any (xn xd yn yd : Int) (p q : Rat) (bo : Nat) (w : World) (hb : w.heap[bo]? = some (.cells #[.bool true] 4 (0, 0))) (h1 : I64 xn) (h2 : I64 xd) (h3 : I64 yn) (h4 : I64 yd) (hp : Ex.For xn xd p) (hq : Ex.For yn yd q) (hin : Ex.In63 (p + q)) :
    Calls Try.prog 27 #[.agg #[.int .i64 xn, .int .i64 xd], .agg #[.int .i64 yn, .int .i64 yd], .pointer (some ⟨bo, 0, none⟩)] w fun e w' => e = .returned (.agg #[.int .i64 (p + q).num, .int .i64 ((p + q).den : Int)]) ∧ Below w.heap.size w w' := by
  have c := fun w => esum_any xn xd yn yd w h1 h2 h3 h4
  rw [Ex.sum_for hp hq hin] at c
  have e1 : Ex.numR (some ((p + q).num, ((p + q).den : Int))) = (p + q).num := rfl
  have e2 : Ex.denR (some ((p + q).num, ((p + q).den : Int))) = ((p + q).den : Int) := rfl
  have e3 : Ex.okR (some ((p + q).num, ((p + q).den : Int))) = true := rfl
  rw [e1, e2, e3] at c
  clear e1 e2 e3 hin
  generalize (p + q).num = n at *
  generalize ((p + q).den : Int) = d at *
  replace c := hide c
  obtain ⟨bx, by_, bz, v0, ex, ey, ez, ev, st⟩ := St.new3 w (Obj.cells #[.int .i64 xn, .int .i64 xd] 33) (Obj.cells #[.int .i64 yn, .int .i64 yd] 33) (Obj.cells #[.int .i64 0, .int .i64 0] 33)
  have ob : v0.heap[bo]? = some (.cells #[.bool true] 4 (0, 0)) := kept st.below (Array.getElem?_eq_some_iff.1 hb).1 hb
  replace ex := hide ex; replace ey := hide ey; replace ez := hide ez; replace ev := hide ev; replace ob := hide ob
  clear hb
  go_enter Try.func27, Try.ntmps27
  go_wp2_with fail
  rw [unhide ev, unhide ez]
  clear ev ez ey ex
  refine (unhide c _).mono ?_
  rintro e w1 ⟨rfl, hb1⟩
  replace st := st.call hb1
  replace ob := kept hb1 (Array.getElem?_eq_some_iff.1 (unhide ob)).1 (unhide ob)
  clear hb1 c
  go_upto_region 2 with fail
  obtain ⟨bq, w2, eq, ew, st⟩ := st.new (Obj.cells #[.int .i64 n, .int .i64 d] 33)
  have ob2 := old1 (o' := Obj.cells #[.int .i64 n, .int .i64 d] 33) ob
  rw [ew] at ob2 ⊢
  rw [eq]
  clear ew eq ob
  have o0 : w2.cell? ⟨bo, 0, none⟩ = some (.bool true) := by simp [World.cell?, ob2]
  have o1 : w2.frozen? ⟨bo, 0, none⟩ = false := by simp [World.frozen?, ob2]
  have os : w2.setCell ⟨bo, 0, none⟩ (.bool true) = w2 := set_same ob2 rfl
  have q0 := st.cell 0 rfl 0 rfl
  have q1 := st.cell 0 rfl 1 rfl
  have r0 := st.cell 1 rfl 0 rfl
  have r1 := st.cell 1 rfl 1 rfl
  have rf0 := st.free 1 rfl 0
  have rf1 := st.free 1 rfl 1
  replace st := (st.set 1 rfl 0 (.int .i64 n)).set 1 rfl 1 (.int .i64 d)
  have z0 := st.cell 1 rfl 0 rfl
  have z1 := st.cell 1 rfl 1 rfl
  go_wp2_with fail
  exact bodyPost_ret (v := .agg #[.int .i64 n, .int .i64 d]) (by simp [results, Try.results27, go_sem, z0, z1]) rfl ⟨rfl, st.below⟩

set_option maxHeartbeats 1000000 in
theorem lmul_any (xn xd yn yd : Int) (p q : Rat) (bo : Nat) (w : World) (hb : w.heap[bo]? = some (.cells #[.bool true] 4 (0, 0))) (h1 : I64 xn) (h2 : I64 xd) (h3 : I64 yn) (h4 : I64 yd) (hp : Ex.For xn xd p) (hq : Ex.For yn yd q) (hin : Ex.In63 (p * q)) :
    Calls Try.prog 28 #[.agg #[.int .i64 xn, .int .i64 xd], .agg #[.int .i64 yn, .int .i64 yd], .pointer (some ⟨bo, 0, none⟩)] w fun e w' => e = .returned (.agg #[.int .i64 (p * q).num, .int .i64 ((p * q).den : Int)]) ∧ Below w.heap.size w w' := by
  have c := fun w => emul_any xn xd yn yd w h1 h2 h3 h4
  rw [Ex.mul_for hp hq hin] at c
  have e1 : Ex.numR (some ((p * q).num, ((p * q).den : Int))) = (p * q).num := rfl
  have e2 : Ex.denR (some ((p * q).num, ((p * q).den : Int))) = ((p * q).den : Int) := rfl
  have e3 : Ex.okR (some ((p * q).num, ((p * q).den : Int))) = true := rfl
  rw [e1, e2, e3] at c
  clear e1 e2 e3 hin
  generalize (p * q).num = n at *
  generalize ((p * q).den : Int) = d at *
  replace c := hide c
  obtain ⟨bx, by_, bz, v0, ex, ey, ez, ev, st⟩ := St.new3 w (Obj.cells #[.int .i64 xn, .int .i64 xd] 33) (Obj.cells #[.int .i64 yn, .int .i64 yd] 33) (Obj.cells #[.int .i64 0, .int .i64 0] 33)
  have ob : v0.heap[bo]? = some (.cells #[.bool true] 4 (0, 0)) := kept st.below (Array.getElem?_eq_some_iff.1 hb).1 hb
  replace ex := hide ex; replace ey := hide ey; replace ez := hide ez; replace ev := hide ev; replace ob := hide ob
  clear hb
  go_enter Try.func28, Try.ntmps28
  go_wp2_with fail
  rw [unhide ev, unhide ez]
  clear ev ez ey ex
  refine (unhide c _).mono ?_
  rintro e w1 ⟨rfl, hb1⟩
  replace st := st.call hb1
  replace ob := kept hb1 (Array.getElem?_eq_some_iff.1 (unhide ob)).1 (unhide ob)
  clear hb1 c
  go_upto_region 2 with fail
  obtain ⟨bq, w2, eq, ew, st⟩ := st.new (Obj.cells #[.int .i64 n, .int .i64 d] 33)
  have ob2 := old1 (o' := Obj.cells #[.int .i64 n, .int .i64 d] 33) ob
  rw [ew] at ob2 ⊢
  rw [eq]
  clear ew eq ob
  have o0 : w2.cell? ⟨bo, 0, none⟩ = some (.bool true) := by simp [World.cell?, ob2]
  have o1 : w2.frozen? ⟨bo, 0, none⟩ = false := by simp [World.frozen?, ob2]
  have os : w2.setCell ⟨bo, 0, none⟩ (.bool true) = w2 := set_same ob2 rfl
  have q0 := st.cell 0 rfl 0 rfl
  have q1 := st.cell 0 rfl 1 rfl
  have r0 := st.cell 1 rfl 0 rfl
  have r1 := st.cell 1 rfl 1 rfl
  have rf0 := st.free 1 rfl 0
  have rf1 := st.free 1 rfl 1
  replace st := (st.set 1 rfl 0 (.int .i64 n)).set 1 rfl 1 (.int .i64 d)
  have z0 := st.cell 1 rfl 0 rfl
  have z1 := st.cell 1 rfl 1 rfl
  go_wp2_with fail
  exact bodyPost_ret (v := .agg #[.int .i64 n, .int .i64 d]) (by simp [results, Try.results28, go_sem, z0, z1]) rfl ⟨rfl, st.below⟩
end Go.Proofs.Ytfegkaflemcanaa
