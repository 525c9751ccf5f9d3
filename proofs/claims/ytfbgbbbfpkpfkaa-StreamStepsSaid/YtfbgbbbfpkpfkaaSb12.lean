/- Lookups: the statement 'for i, k := range steps(x, g)'; marks among the deferred calls. -/
import Derived.Test.YtfbgbbbfpkpfkaaSb11
namespace Go.Proofs.Ytfbgbbbfpkpfkaa
open Go.RowKit

set_option maxHeartbeats 1000000 in
/-- for i, k := range steps(x, g) { .. } of a body that always goes on. -/
theorem range_steps {n : Nat} {gop : Operand} {ps : Array Tmp} {assign body : Code} {Q : Exit → Act → World → Prop} {a : Act} {w : World} (bg bx : Nat) (ga : Option Addr) (gn gc : Nat) (g : List Int) (xa : Option Addr) (xn xc : Nat) (x : List Sub)
    (hsm : Small x) (hgn : gn ≤ 1000000) (hgl : g.length = gn)
    (h1 : 3 ≤ n) (hg : a.eval gop = .func (.func 56) #[] #[.pointer (some ⟨bg, 0, none⟩), .pointer (some ⟨bx, 0, none⟩)]) (hps : 2 = ps.size)
    (J : List (Nat × Int) → World → Prop) (hJ : ∀ L A B, w.heap.size ≤ A.heap.size → J L A → Below A.heap.size A B → J L B) (hJp : ∀ L A l o o', A.heap[l]? = some o' → o'.isCells = false → w.heap.size ≤ l → J L A → J L (A.putObj l o)) (h0 : J [] w)
    (hJr : ∀ L A, w.heap.size ≤ A.heap.size → J L A → A.cell? ⟨bg, 0, none⟩ = some (.slice ga gn gc) ∧ A.cell? ⟨bx, 0, none⟩ = some (.slice xa xn xc) ∧ Lst Enc.int A (· < A.heap.size) ga gn g ∧ Lst Enc.sub A (· < A.heap.size) xa xn x)
    (hround : ∀ L (i : Nat) R W l, J L W → w.heap.size ≤ l → w.heap.size ≤ W.heap.size → stepsS x g = L ++ (i, matchS x g i) :: R → i < gn →
      ∃ a₁, (∀ (K : Act → World → Prop), K a₁ W → assign.wpIn (Fence.wide.inRound l) (n - 1 - 1) Try.prog (Exit.then K (fun _ _ _ => False)) { tmps := (ps.zip #[.int .i64 (i : Int), .int .i64 (matchS x g i)]).foldl (fun t (p, v) => t.setIfInBounds p v) a.tmps, defers := [] } W) ∧
        ∀ Wb, J L Wb → w.heap.size ≤ Wb.heap.size → body.wpIn (Fence.wide.inRound l) (n - 1 - 1) Try.prog (fun e _ W3 => e = .normal ∧ KeepsOthers Wb W3 ∧ J (L ++ [(i, matchS x g i)]) W3) a₁ Wb)
    (hdone : ∀ W' D, J (stepsS x g) W' → W'.heap[D]? = some (.deferred (some [])) → w.heap.size ≤ D → Q .normal { a with defers := { target := .collected D, args := #[] } :: a.defers } W') :
    (Code.rangeFunc gop ps assign body).wpIn Fence.wide n Try.prog Q a w := by
  refine range_on rfl (by omega) (gf := 56) (lb := #[.pointer (some ⟨bg, 0, none⟩), .pointer (some ⟨bx, 0, none⟩)]) hg trivial (enters_of Try.func56 (by kernel_rfl) rfl)
    (fun W => J (stepsS x g) W) ?call ?done
  case call =>
    intro fn W1 _ hL1 hb1 hs1
    obtain ⟨D, hD⟩ : ∃ D, w.heap.size = D := ⟨_, rfl⟩
    rw [hD] at hL1 hs1 ⊢
    refine (steps1_any (D + 1) bg bx (n - 1) ga gn gc g xa xn xc x W1 hsm hgn hgl (fun L W => LoopAt fn a.tmps ps assign body D (D + 1) W ∧ J L W ∧ D + 2 ≤ W.heap.size) ?_ ?_ ?_ ?_).mono ?_
    · rintro L A B ⟨q1, q2, q3⟩ hAB
      exact ⟨q1.kept (keeps_below hAB), hJ L A B (by omega) q2 hAB, Nat.le_trans q3 hAB.size⟩
    · exact ⟨hL1, hJ [] w W1 (Nat.le_refl _) h0 hb1, hs1⟩
    · rintro L A ⟨q1, q2, q3⟩
      exact hJr L A (by omega) q2
    · rintro L i R W3 ⟨q1, q2, q3⟩ hst hi
      obtain ⟨a₁, hasg, hbd⟩ := hround L i R W3 (D + 1) q2 (by omega) (by omega) hst hi
      refine (yield_on trivial q1 (by omega) (by exact hps) a₁ (fun W' => J (L ++ [(i, matchS x g i)]) W' ∧ W3.heap.size ≤ W'.heap.size) hasg ?bd).mono ?_
      case bd =>
        intro Wb o hWb ho
        have hJb : J L Wb := by rw [hWb]; exact hJp L W3 (D + 1) o _ q1.1 rfl (by omega) q2
        have hsb : Wb.heap.size = W3.heap.size := by rw [hWb]; simp
        refine wpIn_mono (hbd Wb hJb (by omega)) ?_
        rintro e a3 W4 ⟨rfl, hk, hJ4⟩
        have h4l := hk.same (D + 1) o (by rw [hWb]; exact World.putObj_heap_same (Array.getElem?_eq_some_iff.1 q1.1).1) ho
        refine ⟨rfl, hk, fun o3 => ⟨hJp _ W4 (D + 1) _ _ h4l ho (by omega) hJ4, ?_⟩⟩
        rw [World.putObj_size, ← hsb]; exact hk.size
      rintro e W' ⟨rfl, ⟨p1, p2⟩, p4⟩
      exact ⟨rfl, p4, p1, by omega⟩
    · rintro e W' ⟨hv, p1, p2, p3⟩
      exact ⟨hv, p1, p2⟩
  case done =>
    rintro W' o hJk hdef hsz ⟨o', ho'⟩
    have hne : w.heap.size ≠ w.heap.size + 1 := by omega
    exact hdone _ _ (hJp _ W' _ _ _ ho' rfl (by omega) hJk) ((World.putObj_heap_other hne).trans hdef) (Nat.le_refl _)

/-- marks: blocks of no deferred calls, each its own -/
def Marks (ds : List Deferred) (Dl : List Nat) (B : Nat) (w : World) : Prop := ds = Dl.map (fun D => { target := .collected D, args := #[] }) ∧ Dl.Nodup ∧ ∀ D ∈ Dl, B ≤ D ∧ w.heap[D]? = some (.deferred (some []))
theorem leaves_marks {F : Fence} {n : Nat} {P : Program} {fn : Func} {tmps : Array Value} {R : Ending → World → Prop} (B : Nat) (Pr : World → Prop) (hPr : ∀ w D o o', w.heap[D]? = some o' → o'.isCells = false → B ≤ D → Pr w → Pr (w.putObj D o))
    (hend : ∀ w, Pr w → LeavesInM F n P fn tmps R [] .returning w) : ∀ (Dl : List Nat) (ds : List Deferred) (w : World), Marks ds Dl B w → Pr w → LeavesInM F n P fn tmps R ds .returning w := by
  intro Dl
  induction Dl with
  | nil =>
    rintro ds w ⟨rfl, _, _⟩ hw
    exact hend w hw
  | cons D Dl ih =>
    rintro ds w ⟨rfl, hnd, hall⟩ hw
    obtain ⟨h1, h2⟩ := hall D (by simp)
    refine ⟨by simp, .inl ⟨D, _, rfl, run_takeDeferred h2, ?_⟩⟩
    refine ih _ _ ⟨rfl, (List.nodup_cons.1 hnd).2, fun E hE => ?_⟩ (hPr w D _ _ h2 rfl h1 hw)
    have hne : E ≠ D := fun e => (List.nodup_cons.1 hnd).1 (e ▸ hE)
    obtain ⟨k1, k2⟩ := hall E (by simp [hE])
    exact ⟨k1, (World.putObj_heap_other hne).trans k2⟩
end Go.Proofs.Ytfbgbbbfpkpfkaa
