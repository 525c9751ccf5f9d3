/- Outlines: what the functions compute, in plain Lean; how outlines lie in memory. -/
import Derived.Test.YtbodidhggdggmaaSbM
import Derived.Laws.StructEq
namespace Go.Proofs.Ytbodidhggdggmaa
open Go.RowKit

/-- a point: X, Y, On -/
abbrev Pt := Int × (Int × Bool)
abbrev Enc.pt : Enc Pt := Enc.pair Enc.int (Enc.pair Enc.int Enc.bool)
abbrev Enc.ct : Enc (List Pt) := Enc.list Enc.pt
abbrev Ot := List (List Pt)
def pcell (p : Pt) : List Value := [.int .i64 p.1, .int .i64 p.2.1, .bool p.2.2]
/-- outlines whose counts stay far from the ends -/
def Sml (o : Ot) : Prop := o.length ≤ 1000 ∧ ∀ c ∈ o, c.length ≤ 1000
theorem lst_pt {w : World} {S : Nat → Prop} {a : Option Addr} {len : Nat} {l : List Pt} (h : Lst Enc.pt w S a len l) {k : Nat} (hk : k < len) :
    ∃ b off x y z, a = some ⟨b, off, none⟩ ∧ S b ∧ l[k]? = some (x, y, z) ∧ I64 x ∧ I64 y ∧
      w.cell? ⟨b, off + k * 3, none⟩ = some (.int .i64 x) ∧ w.cell? ⟨b, off + k * 3 + 1, none⟩ = some (.int .i64 y) ∧ w.cell? ⟨b, off + k * 3 + 2, none⟩ = some (.bool z) := by
  obtain ⟨h1, h2⟩ := h
  obtain ⟨b, off, rfl, hb, hc⟩ := h2 (by omega)
  have hx : l[k]? = some (l[k]'(by omega)) := List.getElem?_eq_getElem _
  obtain ⟨us, ⟨u1, v1, rfl, ⟨rfl, i1⟩, u2, v2, rfl, ⟨rfl, i2⟩, rfl⟩, hu⟩ := hc k _ hx
  exact ⟨b, off, _, _, _, rfl, hb, hx, i1, i2, hu 0 _ rfl, hu 1 _ rfl, hu 2 _ rfl⟩
theorem pt_rep {W : World} {S : Nat → Prop} {p : Pt} (h1 : I64 p.1) (h2 : I64 p.2.1) : Enc.pt.rep W S (pcell p) p := ⟨[.int .i64 p.1], _, rfl, ⟨rfl, h1⟩, [.int .i64 p.2.1], _, rfl, ⟨rfl, h2⟩, rfl⟩
theorem pt_inv {W : World} {S : Nat → Prop} {us : List Value} {p : Pt} (h : Enc.pt.rep W S us p) : us = pcell p ∧ I64 p.1 ∧ I64 p.2.1 := by
  obtain ⟨u1, v1, rfl, ⟨rfl, i1⟩, u2, v2, rfl, ⟨rfl, i2⟩, rfl⟩ := h
  exact ⟨rfl, i1, i2⟩
theorem info_pt : (Try.prog.info? 56).map (fun i => (i.zero, i.size, i.bytes)) = some (some (.agg #[.int .i64 0, .int .i64 0, .bool false]), 3, 24) := by kernel_rfl
theorem info_ct : (Try.prog.info? 54).map (fun i => (i.zero, i.size, i.bytes)) = some (some (.slice none 0 0), 1, 24) := by kernel_rfl
theorem pt_neq (w : World) (p q : Pt) : (binOp .neq 56 (.agg #[.int .i64 p.1, .int .i64 p.2.1, .bool p.2.2]) (.agg #[.int .i64 q.1, .int .i64 q.2.1, .bool q.2.2])).run Try.prog w = .ok (.bool (!decide (p = q))) w := by
  have u3 := Try.underlying3
  have a3 := Try.isAgg3
  have z3 := Try.sizeOf3
  have u4 := Try.underlying4
  have a4 := Try.isAgg4
  have z4 := Try.sizeOf4
  have hS : Try.prog.underlying 56 = some (.struct (Try.prog.fieldsOf 56)) := by kernel_rfl
  have hp : Try.prog.stoodInHeld 56 = false := by kernel_rfl
  rw [run_neq_struct, show (10000 : Nat) = 9999 + 1 from rfl, run_equalIn_agg w 9999 56 _ _ hS hp]
  simp only [Program.fieldsOf, Try.underlying56]
  obtain ⟨x, y, z⟩ := p
  obtain ⟨x', y', z'⟩ := q
  go_simp
  by_cases h1 : x = x' <;> by_cases h2 : y = y' <;> by_cases h3 : z = z' <;> simp [h1, h2, h3]

def countS (o : Ot) : Int := (o.flatten.length : Int)
def farP (p : Pt) : Bool := decide (p.1 < -512) || decide (512 < p.1) || decide (p.2.1 < -512) || decide (512 < p.2.1)
def onAt (c : List Pt) (i : Nat) : Bool := match c[i]? with | some p => p.2.2 | none => false
def ctErr (c : List Pt) : Int := if c.length < 3 ∨ onAt c 0 = false then 11 else if c.any farP then 10 else 0
def firstErr : Ot → Int
  | [] => 0
  | c :: o => if ctErr c = 0 then firstErr o else ctErr c
def checkO (o : Ot) : Int := if 8 < o.length ∨ 64 < countS o then 2 else firstErr o
abbrev Rct := Int × Int × Int × Int
def boxUp (r : Rct) (p : Pt) : Rct := (min r.1 p.1, min r.2.1 p.2.1, max r.2.2.1 p.1, max r.2.2.2 p.2.1)
def boxS (l : List Pt) : Rct := match l with | [] => (0, 0, 0, 0) | p :: t => t.foldl boxUp (p.1, p.2.1, p.1, p.2.1)
theorem boxS_one (p : Pt) : boxS [p] = boxUp (p.1, p.2.1, p.1, p.2.1) p := by simp [boxS, boxUp]
theorem boxS_snoc {l : List Pt} (h : l ≠ []) (p : Pt) : boxS (l ++ [p]) = boxUp (boxS l) p := by
  cases l with
  | nil => exact absurd rfl h
  | cons q t => simp [boxS, List.foldl_append]
theorem take_flat {o : Ot} {k : Nat} {c : List Pt} (h : o[k]? = some c) : (o.take (k + 1)).flatten = (o.take k).flatten ++ c := by
  rw [List.take_add_one, h]
  simp
theorem flat_len_le {o : Ot} (h : Sml o) : o.flatten.length ≤ 1000000 := by
  have : ∀ (l : Ot), (∀ c ∈ l, c.length ≤ 1000) → l.flatten.length ≤ 1000 * l.length := by
    intro l
    induction l with
    | nil => simp
    | cons c l ih =>
      intro h
      have h1 := h c (by simp)
      have h2 := ih (fun d hd => h d (by simp [hd]))
      rw [List.flatten_cons, List.length_append, List.length_cons]
      omega
  have := this o h.2
  have := h.1
  omega
theorem Sml.take {o : Ot} (h : Sml o) (k : Nat) : Sml (o.take k) := ⟨by rw [List.length_take]; have := h.1; omega, fun c hc => h.2 c (List.mem_of_mem_take hc)⟩
theorem Sml.ct {o : Ot} (h : Sml o) {k : Nat} {c : List Pt} (hc : o[k]? = some c) : c.length ≤ 1000 := h.2 c (List.mem_of_getElem? hc)
theorem countS_succ {o : Ot} {k : Nat} {c : List Pt} (h : o[k]? = some c) : countS (o.take (k + 1)) = countS (o.take k) + c.length := by
  unfold countS
  rw [take_flat h, List.length_append]
  push_cast
  rfl
theorem countS_le {o : Ot} (h : Sml o) : 0 ≤ countS o ∧ countS o ≤ 1000000 := by have := flat_len_le h; unfold countS; omega
theorem firstErr_skip {o : Ot} : ∀ {k : Nat} {c : List Pt}, o[k]? = some c → (∀ i d, i < k → o[i]? = some d → ctErr d = 0) → ctErr c ≠ 0 → firstErr o = ctErr c := by
  induction o with
  | nil => intro k c h; simp at h
  | cons d o ih =>
    intro k c h h0 hc
    cases k with
    | zero => simp at h; subst h; rw [firstErr, if_neg hc]
    | succ k =>
      rw [firstErr, if_pos (h0 0 d (by omega) rfl)]
      exact ih (k := k) (by simpa using h) (fun i e hi he => h0 (i + 1) e (by omega) (by simpa using he)) hc
theorem firstErr_none {o : Ot} : (∀ (i : Nat) (d : List Pt), o[i]? = some d → ctErr d = 0) → firstErr o = 0 := by
  induction o with
  | nil => intro _; rfl
  | cons d o ih =>
    intro h
    rw [firstErr, if_pos (h 0 d rfl)]
    exact ih (fun i e he => h (i + 1) e (by simpa using he))
theorem checkO_many {o : Ot} (h : 8 < o.length ∨ 64 < countS o) : checkO o = 2 := if_pos h
theorem checkO_few {o : Ot} (h : ¬ (8 < o.length ∨ 64 < countS o)) : checkO o = firstErr o := if_neg h
theorem ctErr_short {c : List Pt} (h : c.length < 3 ∨ onAt c 0 = false) : ctErr c = 11 := if_pos h
theorem ctErr_far {c : List Pt} (h : ¬ (c.length < 3 ∨ onAt c 0 = false)) (hf : c.any farP = true) : ctErr c = 10 := by rw [ctErr, if_neg h, if_pos hf]
theorem ctErr_ok {c : List Pt} (h : ¬ (c.length < 3 ∨ onAt c 0 = false)) (hf : c.any farP = false) : ctErr c = 0 := by rw [ctErr, if_neg h, hf]; simp
theorem onAt_some {c : List Pt} {i : Nat} {p : Pt} (h : c[i]? = some p) : onAt c i = p.2.2 := by rw [onAt, h]
theorem same_len {a b : Ot} (h : a.length ≠ b.length) : a ≠ b := fun e => h (by rw [e])
theorem same_row {a b : Ot} {k : Nat} {c d : List Pt} (h1 : a[k]? = some c) (h2 : b[k]? = some d) (h : c ≠ d) : a ≠ b := fun e => by rw [e, h2] at h1; injection h1 with h1; exact h h1.symm
theorem same_pt {c d : List Pt} {i : Nat} {p q : Pt} (h1 : c[i]? = some p) (h2 : d[i]? = some q) (h : p ≠ q) : c ≠ d := fun e => by rw [e, h2] at h1; injection h1 with h1; exact h h1.symm
theorem take_next {α : Type} {a b : List α} {k : Nat} {x : α} (h : a.take k = b.take k) (h1 : a[k]? = some x) (h2 : b[k]? = some x) : a.take (k + 1) = b.take (k + 1) := by
  rw [List.take_add_one, List.take_add_one, h, h1, h2]
theorem take_all {α : Type} {a b : List α} {n : Nat} (h : a.take n = b.take n) (h1 : a.length ≤ n) (h2 : b.length ≤ n) : a = b := by
  rwa [List.take_of_length_le h1, List.take_of_length_le h2] at h
end Go.Proofs.Ytbodidhggdggmaa
