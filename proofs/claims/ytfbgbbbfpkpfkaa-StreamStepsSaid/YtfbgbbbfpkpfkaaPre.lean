import Derived.WalkKit
import Derived.Deep.QuietTactic
import Derived.Deep.Slices
import Derived.BigQuiet
import Derived.ProofKit
import Derived.Deep.RegionHeld3
import Derived.Deep.DeepCutAuto
import Derived.Deep.RegionWith
import Derived.Deep.RegionLaw
import Derived.Deep.AppendLies
namespace Go.Proofs.Ytfbgbbbfpkpfkaa
open Go.RowKit

theorem hide {p : Prop} (h : p) : Hid p := h
theorem unhide {p : Prop} (h : Hid p) : p := h

theorem heap_new {w : World} {o : Obj} {n : Nat} (h : w.heap.size = n) : (w.alloc o).heap[n]? = some o := by subst h; exact heap_alloc_new w o

/-- A number of Go's type int. -/
def I64 (n : Int) : Prop := -9223372036854775808 ≤ n ∧ n ≤ 9223372036854775807

/-- How values of a Lean type stand in cells: 'rep w S cs x': the cells cs stand for x in the world w, and all blocks that are read lie in S. -/
structure Enc (α : Type) where
  n : Nat
  rep : World → (Nat → Prop) → List Value → α → Prop
  len : ∀ {w S cs x}, rep w S cs x → cs.length = n
  one : ∀ {w S cs x}, rep w S cs x → ∀ u ∈ cs, u.oneCell' = true
  same : ∀ {w w' S cs x}, (∀ b, S b → w'.heap[b]? = w.heap[b]?) → rep w S cs x → rep w' S cs x
  wide : ∀ {w S S' cs x}, (∀ b, S b → S' b) → rep w S cs x → rep w S' cs x

/-- A slice's elements. -/
def Lst {α : Type} (E : Enc α) (w : World) (S : Nat → Prop) (a : Option Addr) (len : Nat) (l : List α) : Prop :=
  l.length = len ∧ (0 < len → ∃ b off, a = some ⟨b, off, none⟩ ∧ S b ∧
    ∀ i x, l[i]? = some x → ∃ us, E.rep w S us x ∧ ∀ j u, us[j]? = some u → w.cell? ⟨b, off + i * E.n + j, none⟩ = some u)

theorem Lst.same {α : Type} {E : Enc α} {w w' : World} {S : Nat → Prop} {a : Option Addr} {len : Nat} {l : List α} (hk : ∀ b, S b → w'.heap[b]? = w.heap[b]?) (h : Lst E w S a len l) : Lst E w' S a len l := by
  refine ⟨h.1, fun hn => ?_⟩
  obtain ⟨b, off, rfl, hb, hc⟩ := h.2 hn
  refine ⟨b, off, rfl, hb, fun i x hx => ?_⟩
  obtain ⟨us, hr, hu⟩ := hc i x hx
  exact ⟨us, E.same hk hr, fun j u hj => (World.cell?_of_block (a := ⟨b, _, none⟩) (hk b hb)).trans (hu j u hj)⟩

theorem Lst.wide {α : Type} {E : Enc α} {w : World} {S S' : Nat → Prop} {a : Option Addr} {len : Nat} {l : List α} (hk : ∀ b, S b → S' b) (h : Lst E w S a len l) : Lst E w S' a len l := by
  refine ⟨h.1, fun hn => ?_⟩
  obtain ⟨b, off, rfl, hb, hc⟩ := h.2 hn
  refine ⟨b, off, rfl, hk b hb, fun i x hx => ?_⟩
  obtain ⟨us, hr, hu⟩ := hc i x hx
  exact ⟨us, E.wide hk hr, hu⟩

theorem Lst.below {α : Type} {E : Enc α} {w w' : World} {B : Nat} {a : Option Addr} {len : Nat} {l : List α} (hb : Below B w w') (h : Lst E w (· < B) a len l) : Lst E w' (· < B) a len l :=
  h.same fun b hlt => hb.block b hlt

theorem Lst.nil {α : Type} (E : Enc α) (w : World) (S : Nat → Prop) (a : Option Addr) : Lst E w S a 0 [] := ⟨rfl, fun h => absurd h (by omega)⟩

/-- Integers of a kind, within bounds. -/
def Enc.num (k : IntKind) (lo hi : Int) : Enc Int where
  n := 1
  rep _ _ cs x := cs = [.int k x] ∧ lo ≤ x ∧ x ≤ hi
  len h := by rw [h.1]; rfl
  one h := by intro u hu; rw [h.1] at hu; simp at hu; subst hu; rfl
  same _ h := h
  wide _ h := h

abbrev Enc.int : Enc Int := Enc.num .i64 (-9223372036854775808) 9223372036854775807

def Enc.bool : Enc Bool where
  n := 1
  rep _ _ cs x := cs = [.bool x]
  len h := by rw [h]; rfl
  one h := by intro u hu; rw [h] at hu; simp at hu; subst hu; rfl
  same _ h := h
  wide _ h := h

def Enc.str : Enc ByteArray where
  n := 1
  rep _ _ cs x := cs = [.string x] ∧ x.size ≤ maxLen
  len h := by rw [h.1]; rfl
  one h := by intro u hu; rw [h.1] at hu; simp at hu; subst hu; rfl
  same _ h := h
  wide _ h := h

/-- One cell of whatever value. -/
def Enc.any : Enc Unit where
  n := 1
  rep _ _ cs _ := ∃ u, cs = [u] ∧ u.oneCell' = true
  len h := by obtain ⟨u, rfl, _⟩ := h; rfl
  one h := by obtain ⟨u, rfl, h1⟩ := h; intro v hv; simp at hv; subst hv; exact h1
  same _ h := h
  wide _ h := h

def Enc.pair {α β : Type} (E : Enc α) (F : Enc β) : Enc (α × β) where
  n := E.n + F.n
  rep w S cs x := ∃ c d, cs = c ++ d ∧ E.rep w S c x.1 ∧ F.rep w S d x.2
  len h := by obtain ⟨c, d, rfl, h1, h2⟩ := h; rw [List.length_append, E.len h1, F.len h2]
  one h := by
    obtain ⟨c, d, rfl, h1, h2⟩ := h
    intro u hu
    rcases List.mem_append.1 hu with hu | hu
    · exact E.one h1 u hu
    · exact F.one h2 u hu
  same hk h := by obtain ⟨c, d, rfl, h1, h2⟩ := h; exact ⟨c, d, rfl, E.same hk h1, F.same hk h2⟩
  wide hk h := by obtain ⟨c, d, rfl, h1, h2⟩ := h; exact ⟨c, d, rfl, E.wide hk h1, F.wide hk h2⟩

def Enc.list {α : Type} (E : Enc α) : Enc (List α) where
  n := 1
  rep w S cs l := ∃ a len cap, cs = [.slice a len cap] ∧ len ≤ cap ∧ cap ≤ maxLen ∧ Lst E w S a len l
  len h := by obtain ⟨a, len, cap, rfl, _⟩ := h; rfl
  one h := by obtain ⟨a, len, cap, rfl, _⟩ := h; intro u hu; simp at hu; subst hu; rfl
  same hk h := by obtain ⟨a, len, cap, rfl, h1, h2, h3⟩ := h; exact ⟨a, len, cap, rfl, h1, h2, h3.same hk⟩
  wide hk h := by obtain ⟨a, len, cap, rfl, h1, h2, h3⟩ := h; exact ⟨a, len, cap, rfl, h1, h2, h3.wide hk⟩

/-! ### rows that the call itself makes -/

/-- The cells of a row, element by element. -/
def Flat {α : Type} (E : Enc α) (w : World) (S : Nat → Prop) : List Value → List α → Prop
  | cs, [] => cs = []
  | cs, x :: l => ∃ us cs', cs = us ++ cs' ∧ E.rep w S us x ∧ Flat E w S cs' l

theorem Flat.same {α : Type} {E : Enc α} {w w' : World} {S : Nat → Prop} (hk : ∀ b, S b → w'.heap[b]? = w.heap[b]?) {l : List α} : ∀ {cs}, Flat E w S cs l → Flat E w' S cs l := by
  induction l with
  | nil => intro cs h; exact h
  | cons x l ih => rintro cs ⟨us, cs', rfl, h1, h2⟩; exact ⟨us, cs', rfl, E.same hk h1, ih h2⟩

theorem Flat.wide {α : Type} {E : Enc α} {w : World} {S S' : Nat → Prop} (hk : ∀ b, S b → S' b) {l : List α} : ∀ {cs}, Flat E w S cs l → Flat E w S' cs l := by
  induction l with
  | nil => intro cs h; exact h
  | cons x l ih => rintro cs ⟨us, cs', rfl, h1, h2⟩; exact ⟨us, cs', rfl, E.wide hk h1, ih h2⟩

theorem Flat.len {α : Type} {E : Enc α} {w : World} {S : Nat → Prop} {l : List α} : ∀ {cs}, Flat E w S cs l → cs.length = l.length * E.n := by
  induction l with
  | nil => intro cs h; rw [show cs = [] from h]; simp
  | cons x l ih => rintro cs ⟨us, cs', rfl, h1, h2⟩; rw [List.length_append, E.len h1, ih h2, List.length_cons, Nat.add_mul]; omega

theorem Flat.append {α : Type} {E : Enc α} {w : World} {S : Nat → Prop} {l m : List α} : ∀ {cs ds}, Flat E w S cs l → Flat E w S ds m → Flat E w S (cs ++ ds) (l ++ m) := by
  induction l with
  | nil => intro cs ds h1 h2; rw [show cs = [] from h1]; exact h2
  | cons x l ih => rintro cs ds ⟨us, cs', rfl, h1, h2⟩ h3; exact ⟨us, cs' ++ ds, by rw [List.append_assoc], h1, ih h2 h3⟩

theorem Flat.single {α : Type} {E : Enc α} {w : World} {S : Nat → Prop} {us : List Value} {x : α} (h : E.rep w S us x) : Flat E w S us [x] := ⟨us, [], by simp, h, rfl⟩

theorem Flat.at_ {α : Type} {E : Enc α} {w : World} {S : Nat → Prop} {l : List α} : ∀ {cs} (i : Nat) (x : α), Flat E w S cs l → l[i]? = some x → ∃ us, E.rep w S us x ∧ ∀ j u, us[j]? = some u → cs[i * E.n + j]? = some u := by
  induction l with
  | nil => intro cs i x _ hx; simp at hx
  | cons y l ih =>
    rintro cs i x ⟨us, cs', rfl, h1, h2⟩ hx
    cases i with
    | zero =>
      simp at hx; subst hx
      exact ⟨us, h1, fun j u hu => by rw [Nat.zero_mul, Nat.zero_add, List.getElem?_append_left (List.getElem?_eq_some_iff.1 hu).1]; exact hu⟩
    | succ i =>
      obtain ⟨us', hr, hu⟩ := ih i x h2 (by simpa using hx)
      refine ⟨us', hr, fun j u hj => ?_⟩
      have e : (i + 1) * E.n + j = us.length + (i * E.n + j) := by rw [E.len h1, Nat.add_mul]; omega
      rw [e, List.getElem?_append_right (by omega), Nat.add_sub_cancel_left]
      exact hu j u hj

/-- A slice of the call's own: the row lies in a block from 'base' on, and its elements read nothing of that block. -/
def Own {α : Type} (E : Enc α) (w : World) (base : Nat) (e : TypeId) (v : Value) (l : List α) : Prop :=
  ∃ xs, w.ownsRow base e E.n v l.length xs ∧ Flat E w (fun b => b < w.heap.size ∧ v.ownBlock ≠ some b) xs l

theorem Own.nil {α : Type} (E : Enc α) (w : World) (base : Nat) (e : TypeId) : Own E w base e (.slice none 0 0) [] := ⟨[], World.ownsRow_nil _ _ _ _, rfl⟩

theorem Own.kept {α : Type} {E : Enc α} {w w' : World} {base : Nat} {e : TypeId} {v : Value} {l : List α} (h : Own E w base e v l) {row : Option Nat} (hg : w.grownBy w' row) (hr : ∀ g, row = some g → w.heap.size ≤ g) : Own E w' base e v l := by
  obtain ⟨xs, h1, h2⟩ := h
  have hlt := h1.lt
  refine ⟨xs, h1.kept hg ?_, (h2.same (fun b hb => hg.block b hb.1 (fun e => by have := hr b e.symm; omega))).wide (fun b hb => ⟨Nat.lt_of_lt_of_le hb.1 hg.size, hb.2⟩)⟩
  cases hv : v.ownBlock with
  | none => exact .inl rfl
  | some g =>
    refine .inr (fun he => ?_)
    have := hr g he.symm
    have := hlt g hv
    omega

theorem Own.alloc {α : Type} {E : Enc α} {w : World} {base : Nat} {e : TypeId} {v : Value} {l : List α} (h : Own E w base e v l) (o : Obj) : Own E (w.alloc o) base e v l :=
  h.kept (World.grownBy_alloc w o none) (by simp)

theorem Own.drewN {α : Type} {E : Enc α} {w : World} {base : Nat} {e : TypeId} {v : Value} {l : List α} (h : Own E w base e v l) (n : Nat) : Own E (w.drewN n) base e v l := by
  obtain ⟨xs, h1, h2⟩ := h
  have h3 : Flat E (w.drewN n) (fun b => b < w.heap.size ∧ v.ownBlock ≠ some b) xs l := Flat.same (w := w) (w' := w.drewN n) (fun _ _ => rfl) h2
  exact ⟨xs, h1, h3⟩
theorem Own.drew {α : Type} {E : Enc α} {w : World} {base : Nat} {e : TypeId} {v : Value} {l : List α} (h : Own E w base e v l) : Own E w.drew base e v l := h.drewN 1

/-- The whole of old memory is kept. -/
theorem Own.below {α : Type} {E : Enc α} {w w' : World} {base : Nat} {e : TypeId} {v : Value} {l : List α} (h : Own E w base e v l) (hb : Below w.heap.size w w') : Own E w' base e v l :=
  h.kept (row := none) ⟨hb.os, hb.tape, hb.output, hb.size, fun k hk _ => hb.block k hk⟩ (by simp)

/-- What is owned reads as a list. -/
theorem Own.lst {α : Type} {E : Enc α} {w : World} {base : Nat} {e : TypeId} {v : Value} {l : List α} (h : Own E w base e v l) :
    ∃ a cap, v = .slice a l.length cap ∧ l.length ≤ cap ∧ cap ≤ maxLen ∧ Lst E w (· < w.heap.size) a l.length l := by
  obtain ⟨xs, h1, h2⟩ := h
  rcases h1.2 with ⟨rfl, h0⟩ | ⟨g, cap, cur, rfl, hbg, hg, hn, hc, hcs, ht⟩
  · have hl : l = [] := List.eq_nil_of_length_eq_zero h0
    subst hl
    exact ⟨none, 0, rfl, Nat.le_refl _, Nat.zero_le _, Lst.nil _ _ _ _⟩
  · have hlt : g < w.heap.size := (Array.getElem?_eq_some_iff.1 hg).1
    refine ⟨_, cap, rfl, hn, hc, rfl, fun hpos => ⟨g, 0, rfl, hlt, fun i x hx => ?_⟩⟩
    obtain ⟨us, hr, hu⟩ := h2.at_ i x hx
    refine ⟨us, E.wide (fun b hb => hb.1) hr, fun j u hj => ?_⟩
    have hcell := h1.cells (g := g) rfl _ u (hu j u hj)
    rw [Addr.add_lit] at hcell
    rw [← hcell]
    congr 2
    omega

/-- Rows of different element types lie in different blocks. -/
theorem own_ne {w : World} {base base' : Nat} {e e' : TypeId} {s s' : Nat} {v v' : Value} {n n' : Nat} {xs xs' : List Value} (h : w.ownsRow base e s v n xs) (h' : w.ownsRow base' e' s' v' n' xs') (hne : e ≠ e') :
    v.ownBlock = none ∨ v.ownBlock ≠ v'.ownBlock := by
  rcases h.2 with ⟨rfl, _⟩ | ⟨g, cap, cur, rfl, _, hg, _⟩
  · exact .inl rfl
  · refine .inr fun he => ?_
    rcases h'.2 with ⟨rfl, _⟩ | ⟨g', cap', cur', rfl, _, hg', _⟩
    · simp [Value.ownBlock] at he
    · simp [Value.ownBlock] at he
      subst he
      rw [hg] at hg'
      injection hg' with hg'
      injection hg' with _ ht
      exact hne ht

/-- A row and a block of another element type. -/
theorem own_ne_blk {w : World} {base : Nat} {e t : TypeId} {s : Nat} {v : Value} {n : Nat} {xs : List Value} {b : Nat} {cs : Array Value} (h : w.ownsRow base e s v n xs) (hb : w.heap[b]? = some (.cells cs t (0, 0))) (hne : e ≠ t) :
    v.ownBlock ≠ some b := by
  rcases h.2 with ⟨rfl, _⟩ | ⟨g, cap, cur, rfl, _, hg, _⟩
  · simp [Value.ownBlock]
  · intro he
    simp [Value.ownBlock] at he
    subst he
    rw [hg] at hb
    injection hb with hb
    injection hb with _ ht
    exact hne ht

theorem grown_of_below {w w' : World} (h : Below w.heap.size w w') (row : Option Nat) : w.grownBy w' row := ⟨h.os, h.tape, h.output, h.size, fun i hi _ => h.block i hi⟩
theorem grown_trans {a b c : World} {row : Option Nat} (h : a.grownBy b row) (k : b.grownBy c row) : a.grownBy c row :=
  ⟨k.os.trans h.os, k.tape.trans h.tape, k.output.trans h.output, Nat.le_trans h.size k.size, fun i hi hne => (k.block i (Nat.lt_of_lt_of_le hi h.size) hne).trans (h.block i hi hne)⟩
/-- What is written beyond the old memory does not count. -/
theorem grown_own {a b c : World} {row row' : Option Nat} (h : a.grownBy b row) (k : b.grownBy c row') (hr : ∀ g, row' = some g → a.heap.size ≤ g) : a.grownBy c row :=
  ⟨k.os.trans h.os, k.tape.trans h.tape, k.output.trans h.output, Nat.le_trans h.size k.size, fun i hi hne => (k.block i (Nat.lt_of_lt_of_le hi h.size) (fun e => by have := hr i e.symm; omega)).trans (h.block i hi hne)⟩

theorem own_shape {w : World} {base : Nat} {e : TypeId} {s : Nat} {v : Value} {n : Nat} {xs : List Value} (h : w.ownsRow base e s v n xs) : ∃ a c, v = .slice a n c := by
  rcases h.2 with ⟨rfl, rfl⟩ | ⟨g, cap, cur, rfl, _⟩
  · exact ⟨_, _, rfl⟩
  · exact ⟨_, _, rfl⟩

theorem grown_drew {w w' : World} {row : Option Nat} (h : w.drew.grownBy w' row) : w.grownBy w' row := ⟨h.os, h.tape, h.output, h.size, h.block⟩
/-- A cell of a block that is known whole stays over writes elsewhere. -/
theorem cell_kept1 {w w' : World} {row : Option Nat} {g o : Nat} {cs : Array Value} {t : TypeId} {u : Value} (h : w.heap[g]? = some (.cells cs t (0, 0))) (hu : cs[o]? = some u) (hg : w.grownBy w' row) (hne : row ≠ some g) : w'.cell? ⟨g, o, none⟩ = some u := by
  have hlt : g < w.heap.size := (Array.getElem?_eq_some_iff.1 h).1
  rw [cell_of_row w' g o cs t (0, 0) ((hg.block g hlt (fun e => hne e.symm)).trans h), hu]

theorem frozen_kept1 {w w' : World} {row : Option Nat} {g o : Nat} {cs : Array Value} {t : TypeId} (h : w.heap[g]? = some (.cells cs t (0, 0))) (hg : w.grownBy w' row) (hne : row ≠ some g) : w'.frozen? ⟨g, o, none⟩ = false := by
  have hlt : g < w.heap.size := (Array.getElem?_eq_some_iff.1 h).1
  simp [World.frozen?, (hg.block g hlt (fun e => hne e.symm)).trans h]

/-- A row that a literal has just made. -/
theorem own_lit {w : World} {base g : Nat} {e : TypeId} {s n : Nat} {cs : Array Value} (hb : w.heap[g]? = some (.cells cs e (0, 0))) (hbase : base ≤ g) (hn : n ≤ maxLen) (hs : cs.size = n * s) :
    w.ownsRow base e s (.slice (some ⟨g, 0, none⟩) n n) n cs.toList :=
  ⟨by simpa using hs, .inr ⟨g, n, cs, rfl, hbase, hb, Nat.le_refl _, hn, hs, by rw [← hs, ← Array.length_toList]; exact List.take_length⟩⟩

/-- The cells of a block that has just been made. -/
theorem alloc_cells {w : World} {g : Nat} {t : TypeId} {cs : List Value} (hg : w.heap.size = g) : ∀ (j : Nat) (u : Value), cs[j]? = some u → (w.alloc (.cells cs.toArray t)).cell? ((⟨g, 0, none⟩ : Addr).add j) = some u := by
  intro j u hu
  rw [Addr.add_lit, Nat.zero_add, cell_of_row _ g j cs.toArray t (0, 0) (heap_new hg)]
  simpa using hu

/-- Numbers by threes. -/
theorem tri_at {w : World} {g : Nat} {t : TypeId} {l : List Int} (hb : w.heap[g]? = some (.cells (l.map (Value.int .i64)).toArray t (0, 0))) (n : Nat) (hn : n * 3 + 3 ≤ l.length) :
    ∃ x y z : Int, w.cell? ⟨g, n * 3, none⟩ = some (.int .i64 x) ∧ w.cell? ⟨g, n * 3 + 1, none⟩ = some (.int .i64 y) ∧ w.cell? ⟨g, n * 3 + 2, none⟩ = some (.int .i64 z) := by
  have h : ∀ i (hi : i < l.length), w.cell? ⟨g, i, none⟩ = some (.int .i64 (l[i]'hi)) := by
    intro i hi
    rw [cell_of_row w g i _ t (0, 0) hb]
    simp [List.getElem?_eq_getElem hi]
  exact ⟨_, _, _, h _ (by omega), h _ (by omega), h _ (by omega)⟩

/-- append in a region that draws its order. -/
theorem step_append_own {P : Program} (w : World) {ops : Array Oper} {o : Oper} {a : Act} {K : Act → World → Prop} {Q : Exit → Act → World → Prop} {E : Prop} (hgd : o.guard = none) (s x : Operand) (t : TypeId)
    (ho : o.op = .call { callee := .builtin .append, args := #[s, x], argTypes := #[t, t] })
    (base : Nat) (e : TypeId) (i : TypeInfo) (z : Value) (size bytes : Nat) (ht : P.underlying t = some (.slice e)) (hi : P.info? e = some i) (hz : i.zero = some z)
    (hsize : i.size = size) (hby : i.bytes = bytes) (hzs : z.cells.size = size) (hsz : 0 < size)
    (v : Value) (n : Nat) (xs : List Value) (hs : a.eval s = v) (hown : w.ownsRow base e size v n xs)
    (ad : Addr) (m c : Nat) (news : List Value) (hx : a.eval x = .slice (some ad) m c) (hl : news.length = m * size) (hnews : ∀ j u, news[j]? = some u → w.cell? (ad.add j) = some u) (h1 : ∀ u ∈ news, u.oneCell' = true)
    (h63 : n + m ≤ maxLen) (hbytes : (n + m) * bytes ≤ 140737488355328) (hbase : base ≤ w.heap.size)
    (h : ∀ v' w', w'.ownsRow base e size v' (n + m) (xs ++ news) → w.grownBy w' v.ownBlock → (v' = .slice none 0 0 ↔ v = .slice none 0 0 ∧ m = 0) → K (a.put o.dst v') w') :
    if Region.wanted o (yielded ops a.tmps) = true then Oper.wp P o a w K Q else E := by
  have hw : Region.wanted o (yielded ops a.tmps) = true := by simp [Region.wanted, hgd]
  rw [if_pos hw]
  exact wp_append_own w s x t ho base e i z size bytes ht hi hz hsize hby hzs hsz v n xs hs hown ad m c news hx hl hnews h1 h63 hbytes hbase h

/-! ### regions that draw their order and hold calls that make memory -/

/-- A later world: below the heap's size nothing has turned. -/
structure Ext (w : World) where
  get : World
  le : Below w.heap.size w get

instance (w : World) : Nonempty (Ext w) := ⟨⟨w, Below.refl _ _⟩⟩

theorem Ext.cell {w : World} (x : Ext w) {p : Addr} {v : Value} (h : w.cell? p = some v) : x.get.cell? p = some v :=
  (x.le.cell (World.block_lt_of_cell? w p h)).trans h

theorem Ext.calls {P : Program} {f : FuncId} {args : Array Value} {w : World} {x : Ext w} {v : Value}
    (h : Calls P f args x.get fun e w' => e = .returned v ∧ Below x.get.heap.size x.get w') : Calls P f args x.get fun e w'' => e = .returned v ∧ ∃ y : Ext w, w'' = y.get :=
  h.mono fun _ w' ⟨he, hb⟩ => ⟨he, ⟨w', x.le.trans (hb.mono x.le.size)⟩, rfl⟩

theorem wp_region_ext {P : Program} {id : Nat} {Q : Exit → Act → World → Prop} {a : Act} {w : World} {l : List Oper} (hm : P.follows .mixedOrders = true) (hB : Region.lexB .any l.toArray = true)
    (h : wpQuiet P l.toArray (fun w' => ∃ x : Ext w, w' = x.get) (fun a' => ∀ w', (∃ x : Ext w, w' = x.get) → Q .normal a' w') l a) : (Code.region id l.toArray true).wp P Q a w :=
  wp_region_quiet (C := fun w' => ∃ x : Ext w, w' = x.get) hm hB ⟨⟨w.drew, (Below.refl _ _).drew⟩, rfl⟩ (by simpa using h)
end Go.Proofs.Ytfbgbbbfpkpfkaa
