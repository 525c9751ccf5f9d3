/- From a law's contract to its row: ratios, arrays of ratios, arrays of two numbers. -/
import Derived.Test.YtfegkaflemcanaaWrap
import Derived.Lib.SmallJoins
namespace Go.Proofs.Ytfegkaflemcanaa
open Go.ChangeShapes Go.WideShapes Go.ChangeAt Go.RowKit Go.Deep

theorem arr6 {cs : Array Value} (h : cs.size = 6) : ∃ a b c d e f, cs = #[a, b, c, d, e, f] := by
  obtain ⟨l⟩ := cs
  match l, h with
  | [a, b, c, d, e, f], _ => exact ⟨a, b, c, d, e, f, rfl⟩
theorem arr2 {cs : Array Value} (h : cs.size = 2) : ∃ a b, cs = #[a, b] := by
  obtain ⟨l⟩ := cs
  match l, h with
  | [a, b], _ => exact ⟨a, b, rfl⟩
theorem cells33 : Try.prog.cellsOf 33 = 2 := by kernel_rfl
section
variable {H : Type} {enc : TypeId × Value → H} {W : World} {base : Nat} {sp : Nat → Bool} {held : Bool}
theorem trod_rat {fuel : Nat} {a b : Value} {x : DataW H × List MemPlace} (h : DataW.trod enc Try.prog W base sp held fuel 33 [a, b] = some x) :
    ∃ n d : Int, a = .int .i64 n ∧ b = .int .i64 d ∧ (Lit.int .i64 n).wf = true ∧ (Lit.int .i64 d).wf = true ∧ x = (.agg [.lit (.int .i64 n), .lit (.int .i64 d)], []) := by
  obtain ⟨y0, y1, n, rfl, _, h0, h1⟩ := trod_struct2 Try.underlying33 h
  have e0 : DataW.trod enc Try.prog W base sp held n 3 [a] = some y0 := by
    have : List.take (Try.prog.cellsOf 3) (List.drop 0 [a, b]) = [a] := by rw [cells3]; rfl
    rw [← this]; exact h0
  have e1 : DataW.trod enc Try.prog W base sp held n 3 [b] = some y1 := by
    have : List.take (Try.prog.cellsOf 3) (List.drop 1 [a, b]) = [b] := by rw [cells3]; rfl
    rw [← this]; exact h1
  obtain ⟨p, ep, rfl, wp⟩ := DataW.trod_int Try.underlying3 e0
  obtain ⟨q, eq, rfl, wq⟩ := DataW.trod_int Try.underlying3 e1
  simp at ep eq
  exact ⟨p, q, ep, eq, wp, wq, rfl⟩
theorem open_rat {r : Reach} {b0 : Nat} {v : Value} {d : DataW H} {ps : List MemPlace} (hv : Value.okWide Try.prog W r b0 33 v) (hd : DataW.Trod enc Try.prog W base sp held 33 v d ps) :
    ∃ n m : Int, v = .agg #[.int .i64 n, .int .i64 m] ∧ (Lit.int .i64 n).wf = true ∧ (Lit.int .i64 m).wf = true ∧ ps = [] ∧ d = .agg [.lit (.int .i64 n), .lit (.int .i64 m)] := by
  obtain ⟨cs, rfl, hsz⟩ := okWide_struct Try.underlying33 hv
  obtain ⟨a, b, rfl⟩ := arr2 (hsz.trans cells33)
  obtain ⟨fuel, hf⟩ := hd
  obtain ⟨n, m, rfl, rfl, w1, w2, e⟩ := trod_rat hf
  simp only [Prod.mk.injEq] at e
  exact ⟨n, m, rfl, w1, w2, e.2, e.1⟩
theorem open_rat3 {r : Reach} {b0 : Nat} {v : Value} {d : DataW H} {ps : List MemPlace} (hv : Value.okWide Try.prog W r b0 34 v) (hd : DataW.Trod enc Try.prog W base sp held 34 v d ps) :
    ∃ n0 d0 n1 d1 n2 d2 : Int, v = .agg #[.int .i64 n0, .int .i64 d0, .int .i64 n1, .int .i64 d1, .int .i64 n2, .int .i64 d2] ∧ (Lit.int .i64 n0).wf = true ∧ (Lit.int .i64 d0).wf = true ∧ (Lit.int .i64 n1).wf = true ∧ (Lit.int .i64 d1).wf = true ∧
      (Lit.int .i64 n2).wf = true ∧ (Lit.int .i64 d2).wf = true ∧ ps = [] ∧ d = .agg [.agg [.lit (.int .i64 n0), .lit (.int .i64 d0)], .agg [.lit (.int .i64 n1), .lit (.int .i64 d1)], .agg [.lit (.int .i64 n2), .lit (.int .i64 d2)]] := by
  have hk : Try.prog.cellsOf 34 = 6 := by kernel_rfl
  simp only [Value.okWide, Try.underlying34] at hv
  obtain ⟨cs, rfl, hsz, _⟩ := hv
  rw [hk] at hsz
  obtain ⟨a, b, c, d', e, f, rfl⟩ := arr6 hsz
  obtain ⟨fuel, hf⟩ := hd
  cases fuel with
  | zero => simp [DataW.trod] at hf
  | succ m =>
    rw [DataW.trod_step] at hf
    unfold DataW.trodStep at hf
    simp only [Try.underlying34, Value.cells] at hf
    rw [if_pos (by rw [hk]; rfl)] at hf
    simp only [Option.map_eq_some_iff] at hf
    obtain ⟨ys, hy, e1⟩ := hf
    rw [cells33] at hy
    simp only [List.range, List.range.loop, List.mapM_cons, List.mapM_nil, bind, Option.bind_eq_some_iff, pure, Option.some.injEq] at hy
    obtain ⟨y0, h0, r0, ⟨y1, h1', r1, ⟨y2, h2, r2, rfl, rfl⟩, rfl⟩, rfl⟩ := hy
    obtain ⟨n0, d0, rfl, rfl, w0, w1, rfl⟩ := trod_rat h0
    obtain ⟨n1, d1, rfl, rfl, w2, w3, rfl⟩ := trod_rat h1'
    obtain ⟨n2, d2, rfl, rfl, w4, w5, rfl⟩ := trod_rat h2
    simp only [Prod.mk.injEq] at e1
    exact ⟨n0, d0, n1, d1, n2, d2, rfl, w0, w1, w2, w3, w4, w5, by rw [← e1.2]; rfl, by rw [← e1.1]; rfl⟩
theorem open_int2 {r : Reach} {b0 : Nat} {v : Value} {d : DataW H} {ps : List MemPlace} (hv : Value.okWide Try.prog W r b0 47 v) (hd : DataW.Trod enc Try.prog W base sp held 47 v d ps) :
    ∃ a b : Int, v = .agg #[.int .i64 a, .int .i64 b] ∧ (Lit.int .i64 a).wf = true ∧ (Lit.int .i64 b).wf = true ∧ ps = [] ∧ d = .agg [.lit (.int .i64 a), .lit (.int .i64 b)] := by
  have hk : Try.prog.cellsOf 47 = 2 := by kernel_rfl
  simp only [Value.okWide, Try.underlying47] at hv
  obtain ⟨cs, rfl, hsz, _⟩ := hv
  rw [hk] at hsz
  obtain ⟨x, y, rfl⟩ := arr2 hsz
  obtain ⟨fuel, hf⟩ := hd
  cases fuel with
  | zero => simp [DataW.trod] at hf
  | succ m =>
    rw [DataW.trod_step] at hf
    unfold DataW.trodStep at hf
    simp only [Try.underlying47, Value.cells] at hf
    rw [if_pos (by rw [hk]; rfl)] at hf
    simp only [Option.map_eq_some_iff] at hf
    obtain ⟨ys, hy, e1⟩ := hf
    rw [cells3] at hy
    simp only [List.range, List.range.loop, List.mapM_cons, List.mapM_nil, bind, Option.bind_eq_some_iff, pure, Option.some.injEq] at hy
    obtain ⟨y0, h0, r0, ⟨y1, h1', r1, rfl, rfl⟩, rfl⟩ := hy
    obtain ⟨a, ea, rfl, wa⟩ := DataW.trod_int Try.underlying3 h0
    obtain ⟨b, eb, rfl, wb⟩ := DataW.trod_int Try.underlying3 h1'
    simp at ea eb
    subst ea; subst eb
    simp only [Prod.mk.injEq] at e1
    exact ⟨a, b, rfl, wa, wb, by rw [← e1.2]; rfl, by rw [← e1.1]; rfl⟩
end
end Go.Proofs.Ytfegkaflemcanaa
