/- A range over a function whose body always goes on: the statement out of the iterator's call; one round out of its body. -/
import Derived.Test.YtfbgbbbfpkpfkaaSt
import Derived.RangeFuncNested
import Derived.RangeFuncBound
import Derived.RangeFuncCalls
import Derived.RangeFuncLeaves
import Derived.Shelf.RegionOpen
namespace Go.Proofs.Ytfbgbbbfpkpfkaa
open Go.RowKit

/-- the loop's record, ready, and the block of its deferred calls -/
def LoopAt (fn : FuncId) (tmps : Array Value) (ps : Array Tmp) (assign body : Code) (D l : Nat) (W : World) : Prop :=
  W.heap[l]? = some (.loop { state := .ready, pending := none, fn, tmps, params := ps, assign, body, defers := D }) ∧ W.heap[D]? = some (.deferred (some []))
theorem LoopAt.kept {fn : FuncId} {tmps : Array Value} {ps : Array Tmp} {assign body : Code} {D l : Nat} {W W' : World} (h : LoopAt fn tmps ps assign body D l W) (hk : KeepsOthers W W') : LoopAt fn tmps ps assign body D l W' :=
  ⟨hk.same _ _ h.1 rfl, hk.same _ _ h.2 rfl⟩
theorem keeps_below {W W' : World} (h : Below W.heap.size W W') : KeepsOthers W W' := KeepsOthers.of_grownBy (row := none) (grown_of_below h none) (fun _ _ h => by cases h)

/-- One round. -/
theorem yield_on {F : Fence} {m : Nat} {P : Program} {W : World} {args : Array Value} {fn : FuncId} {tmps : Array Value} {ps : Array Tmp} {assign body : Code} {D l : Nat}
    (hF : F.fn fn) (hL : LoopAt fn tmps ps assign body D l W) (hne : D ≠ l) (hs : args.size = ps.size) (a₁ : Act) (J : World → Prop)
    (hassign : ∀ K : Act → World → Prop, K a₁ W → assign.wpIn (F.inRound l) m P (Exit.then K (fun _ _ _ => False)) { tmps := (ps.zip args).foldl (fun t (p, v) => t.setIfInBounds p v) tmps, defers := [] } W)
    (hbody : ∀ Wb o, Wb = W.putObj l o → o.isCells = false → body.wpIn (F.inRound l) m P (fun e _ W3 => e = .normal ∧ KeepsOthers Wb W3 ∧ ∀ o3, J (W3.putObj l (.loop o3))) a₁ Wb) :
    YieldAt F m P l args W fun e W' => e = .returned (.bool true) ∧ J W' ∧ LoopAt fn tmps ps assign body D l W' := by
  obtain ⟨h1, h2⟩ := hL
  refine ⟨fn, _, assign, body, run_yield h1 hs, roundIn_of_wpIn hF (hassign _ ⟨_, run_beginRound h1 rfl, ?_⟩)⟩
  have hlt : l < W.heap.size := (Array.getElem?_eq_some_iff.1 h1).1
  refine wpIn_mono (hbody _ _ rfl rfl) ?_
  rintro e a3 W3 ⟨rfl, hk, hJ⟩
  have h3 := hk.same l _ (World.putObj_heap_same hlt) rfl
  have h4 := hk.same D _ ((World.putObj_heap_other hne).trans h2) rfl
  refine ⟨_, _, run_endRound none h3, rfl, hJ _, World.putObj_heap_same (Array.getElem?_eq_some_iff.1 h3).1, (World.putObj_heap_other hne).trans h4⟩

/-- The statement. -/
theorem range_on {F : Fence} {n : Nat} {P : Program} {g : Operand} {ps : Array Tmp} {assign body : Code} {Q : Exit → Act → World → Prop} {a : Act} {w : World} {gf : Nat} {lb : Array Value}
    (hro : F.round = none) (h1 : 1 ≤ n) (hg : a.eval g = .func (.func gf) #[] lb) (hFg : F.fn gf) (eg : ∀ args w, (callFunc gf args).run P w = .ok (.enter gf args) w) (J : World → Prop)
    (hcall : ∀ fn W1, F.fn fn → LoopAt fn a.tmps ps assign body w.heap.size (w.heap.size + 1) W1 → Below w.heap.size w W1 → w.heap.size + 2 ≤ W1.heap.size →
      CallsIn F (n - 1) P gf (#[.func (.yield (w.heap.size + 1)) #[] #[]] ++ lb) W1 fun e W' => (∃ v, e = .returned v) ∧ LoopAt fn a.tmps ps assign body w.heap.size (w.heap.size + 1) W' ∧ J W')
    (hdone : ∀ W' o, J W' → W'.heap[w.heap.size]? = some (.deferred (some [])) → w.heap.size + 1 < W'.heap.size → (∃ o', W'.heap[w.heap.size + 1]? = some (.loop o')) → Q .normal { a with defers := { target := .collected w.heap.size, args := #[] } :: a.defers } (W'.putObj (w.heap.size + 1) (.loop o))) :
    (Code.rangeFunc g ps assign body).wpIn F n P Q a w := by
  refine wpIn_rangeFunc fun fn hfn => ?_
  rw [hro]
  have hW1 : LoopAt fn a.tmps ps assign body w.heap.size (w.heap.size + 1) ((w.alloc (.deferred (some []))).alloc (.loop { state := .ready, pending := none, fn, tmps := a.tmps, params := ps, assign, body, defers := w.heap.size })) := by
    refine ⟨?_, (Below.heap_alloc _ _ _ (by simp)).trans (World.alloc_heap_new w _)⟩
    have := World.alloc_heap_new (w.alloc (.deferred (some []))) (.loop { state := .ready, pending := none, fn, tmps := a.tmps, params := ps, assign, body, defers := w.heap.size })
    rwa [World.size_alloc] at this
  have hb1 : Below w.heap.size w ((w.alloc (.deferred (some []))).alloc (.loop { state := .ready, pending := none, fn, tmps := a.tmps, params := ps, assign, body, defers := w.heap.size })) := ((Below.refl _ w).alloc (Nat.le_refl _) _).alloc (by simp) _
  have hsz : w.heap.size + 2 ≤ ((w.alloc (.deferred (some []))).alloc (.loop { state := .ready, pending := none, fn, tmps := a.tmps, params := ps, assign, body, defers := w.heap.size })).heap.size := by simp
  have hent := run_enterLoop_outer (P := P) (w := w) fn a.tmps ps assign body
  generalize (w.alloc (.deferred (some []))).alloc (.loop { state := .ready, pending := none, fn, tmps := a.tmps, params := ps, assign, body, defers := w.heap.size }) = W1 at *
  refine ⟨w.heap.size + 1, [{ target := .collected w.heap.size, args := #[] }], W1, { target := .fn (.func gf) lb, args := #[.func (.yield (w.heap.size + 1)) #[] #[]] }, W1, gf, #[.func (.yield (w.heap.size + 1)) #[] #[]] ++ lb, W1, hent, ?_, ?_, ?_, fun _ => h1, ?_⟩
  · simp only [resolve, hg]
    simp [go_sem]
  · intro f' hf'; simp [Target.leads] at hf'; subst hf'; exact hFg
  · simp [invoke, go_sem, eg]
  · refine (hcall fn _ hfn hW1 hb1 hsz).mono ?_
    rintro e W2 ⟨⟨v, rfl⟩, ⟨hl, hd⟩, hJ⟩
    exact ⟨none, _, run_endLoop hl (by simp), hdone W2 _ hJ hd (Array.getElem?_eq_some_iff.1 hl).1 ⟨_, hl⟩⟩
end Go.Proofs.Ytfbgbbbfpkpfkaa
