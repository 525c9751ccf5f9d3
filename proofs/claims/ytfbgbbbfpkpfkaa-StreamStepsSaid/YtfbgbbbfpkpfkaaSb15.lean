/- Lookups: the law's sanity. -/
import Derived.Test.YtfbgbbbfpkpfkaaSb14
namespace Go.Proofs.Ytfbgbbbfpkpfkaa
open Go.RowKit
def sX : List Sub := [([], [1, 2], [], 7), ([1], [3], [], 8)]
def sY : List Sub := [([], [7, 7], [], 9), ([], [3], [3], 4)]
theorem lst_lits {w : World} {b T : Nat} {l : List Int} (h : w.heap[b]? = some (.cells (l.map (Value.int .i64)).toArray T (0, 0))) (hl : ∀ x ∈ l, I64 x) : Lst Enc.int w (· < w.heap.size) (some ⟨b, 0, none⟩) l.length l := lst_ints h hl (Array.getElem?_eq_some_iff.1 h).1
theorem lst_flatw {α : Type} {E : Enc α} {w : World} {b T : Nat} {cs : List Value} {l : List α} (h : w.heap[b]? = some (.cells cs.toArray T (0, 0))) (hf : Flat E w (· < w.heap.size) cs l) : Lst E w (· < w.heap.size) (some ⟨b, 0, none⟩) l.length l := lst_flat h hf (Array.getElem?_eq_some_iff.1 h).1
theorem rep_lits {w : World} {b T n : Nat} {l : List Int} (h : w.heap[b]? = some (.cells (l.map (Value.int .i64)).toArray T (0, 0))) (hn : l.length = n) (hn2 : n ≤ 1000) (hl : ∀ x ∈ l, I64 x) : (Enc.list Enc.int).rep w (· < w.heap.size) [.slice (some ⟨b, 0, none⟩) n n] l := rep_ints h hn hn2 hl (Array.getElem?_eq_some_iff.1 h).1
theorem check_lit {la : Option Addr} {ln lc : Nat} {l : List (List Sub)} {mg : Int} {w : World} (v : Int) (hl : Lst Enc.lk w (· < w.heap.size) la ln l) (hln : ln ≤ 1000) (hsm : ∀ x ∈ l, Small x) (hv : checkS l mg = v) :
    Calls Try.prog 27 #[.slice la ln lc, .int .i64 mg] w fun e w' => e = .returned (.int .i64 v) ∧ Below w.heap.size w w' := by
  subst hv
  exact check_any la ln lc l mg w hl hln hsm
theorem info_sub : (Try.prog.info? 56).map (fun i => (i.zero, i.size, i.bytes)) = some (some (.agg #[.slice none 0 0, .slice none 0 0, .slice none 0 0, .int .i64 0]), 4, 80) := by kernel_rfl
theorem make_subs (w : World) : (Instr.makeSlice 35 (.int .i64 25) (.int .i64 25)).run Try.prog w = .ok (.slice (some ⟨w.heap.size, 0, none⟩) 25 25) (w.alloc (Obj.cells (madeCells #[.slice none 0 0, .slice none 0 0, .slice none 0 0, .int .i64 0] 100) 56)) := by
  obtain ⟨i0, hi, hz0, hz1, hz2⟩ := info_parts info_sub
  have := run_make (P := Try.prog) w 35 56 i0 _ Try.underlying35 hi hz0 .i64 .i64 25 25 (by decide) (by decide) (by rw [hz2]; decide) (by decide)
  rw [hz1] at this
  exact this
theorem zero_cells : madeCells #[.slice none 0 0, .slice none 0 0, .slice none 0 0, .int .i64 0] 100 = ((List.replicate 25 [.slice none 0 0, .slice none 0 0, .slice none 0 0, .int .i64 0]).flatten).toArray := by kernel_rfl
theorem flat_zero {w : World} {S : Nat → Prop} (n : Nat) : Flat Enc.sub w S (List.replicate n [.slice none 0 0, .slice none 0 0, .slice none 0 0, .int .i64 0]).flatten (List.replicate n ([], [], [], 0)) := by
  induction n with
  | zero => rfl
  | succ n ih => exact ⟨_, _, rfl, rep_sub (s := ([], [], [], 0)) rep_nil rep_nil rep_nil ⟨by decide, by decide⟩, ih⟩
end Go.Proofs.Ytfbgbbbfpkpfkaa
