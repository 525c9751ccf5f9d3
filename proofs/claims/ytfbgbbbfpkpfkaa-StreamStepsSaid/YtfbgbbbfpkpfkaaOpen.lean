/- From what an argument reads as to how it stands in cells, by the shape of its type: the parts that all laws share. -/
import Derived.Test.YtfbgbbbfpkpfkaaLaw
namespace Go.Proofs.Ytfbgbbbfpkpfkaa
open Go.ChangeShapes Go.WideShapes Go.ChangeAt Go.RowKit Go.Deep

/-- A type whose values read as E says. -/
structure Opens (P : Program) (t : TypeId) {α : Type} (E : Enc α) : Prop where
  n : P.cellsOf t = E.n
  rd : ∀ {H : Type} {enc : TypeId × Value → H} {w : World} {base : Nat} {spare : Nat → Bool} {held : Bool} {fuel : Nat} {cs : List Value} {x : DataW H × List MemPlace},
    DataW.trod enc P w base spare held fuel t cs = some x → ∃ y, E.rep w (fun b => b < w.heap.size) cs y

theorem list_of_lt {α : Type} {n : Nat} {p : Nat → α → Prop} (h : ∀ i, i < n → ∃ x, p i x) : ∃ l : List α, l.length = n ∧ ∀ i x, l[i]? = some x → p i x := by
  induction n with
  | zero => exact ⟨[], rfl, fun i x hx => by simp at hx⟩
  | succ n ih =>
    obtain ⟨l, hl, hx⟩ := ih (fun i hi => h i (by omega))
    obtain ⟨y, hy⟩ := h n (by omega)
    refine ⟨l ++ [y], by simp [hl], fun i x hi => ?_⟩
    by_cases hin : i < n
    · rw [List.getElem?_append_left (by omega)] at hi
      exact hx i x hi
    · have : i < (l ++ [y]).length := (List.getElem?_eq_some_iff.1 hi).1
      simp only [List.length_append, List.length_cons, List.length_nil] at this
      obtain rfl : i = n := by omega
      rw [List.getElem?_append_right (by omega), hl, Nat.sub_self] at hi
      simp at hi
      subst hi
      exact hy

theorem opens_num {P : Program} {t : TypeId} {k : IntKind} {lo hi : Int} (hc : P.cellsOf t = 1) (ht : P.underlying t = some (.int k)) (hb : ∀ n, (Lit.int k n).wf = true → lo ≤ n ∧ n ≤ hi) : Opens P t (Enc.num k lo hi) where
  n := hc
  rd h := by
    obtain ⟨n, rfl, _, hw⟩ := DataW.trod_int ht h
    exact ⟨n, rfl, hb n hw⟩
theorem opens_bool {P : Program} {t : TypeId} (hc : P.cellsOf t = 1) (ht : P.underlying t = some .bool) : Opens P t Enc.bool where
  n := hc
  rd h := by
    obtain ⟨b, rfl, _⟩ := DataW.trod_bool ht h
    exact ⟨b, rfl⟩
theorem opens_str {P : Program} {t : TypeId} (hc : P.cellsOf t = 1) (ht : P.underlying t = some .string) : Opens P t Enc.str where
  n := hc
  rd h := by
    obtain ⟨s, rfl, _, hs⟩ := DataW.trod_string ht h
    exact ⟨s, rfl, hs⟩
theorem opens_list {P : Program} {t e : TypeId} {α : Type} {E : Enc α} (hc : P.cellsOf t = 1) (ht : P.underlying t = some (.slice e)) (he : Opens P e E) (h0 : 0 < E.n) : Opens P t (Enc.list E) where
  n := hc
  rd {H enc w base spare held fuel cs x} h := by
    rcases open_slice ht h with ⟨rfl, _⟩ | ⟨a, len, cap, m, n, D, Pl, rfl, hb, hl, hm, hmm, _, hx⟩
    · exact ⟨[], none, 0, 0, rfl, Nat.le_refl _, Nat.zero_le _, Lst.nil _ _ _ _⟩
    · have hlm : len ≤ m := by rw [hmm]; split <;> omega
      rw [he.n] at hx
      obtain ⟨l, hll, hlx⟩ := list_of_lt (n := len) (p := fun i y => ∃ cs', w.cells? base (a.add (i * E.n)) E.n = some cs' ∧ E.rep w (fun b => b < w.heap.size) cs' y) (fun i hi => by
        obtain ⟨cs', h1, h2⟩ := hx i (by omega)
        obtain ⟨y, hy⟩ := he.rd h2
        exact ⟨y, cs', h1, hy⟩)
      have hcell : ∀ i, i < len → ∀ j, j < E.n → ∃ u, w.cell? ((a.add (i * E.n)).add j) = some u := by
        intro i hi j hj
        obtain ⟨cs', h1, _⟩ := hx i (by omega)
        obtain ⟨_, hlen, hc'⟩ := World.cells?_some h1
        exact ⟨_, (hc' j hj).trans (List.getElem?_eq_getElem (by omega))⟩
      refine ⟨l, some a, len, cap, rfl, hl, hm, hll, fun hpos => ?_⟩
      obtain ⟨u, hu⟩ := hcell 0 hpos 0 h0
      obtain ⟨b, off, spot⟩ := a
      have hspot : spot = none := by simpa [Addr.add] using World.cell?_spot hu
      subst hspot
      refine ⟨b, off, rfl, ?_, fun i y hy => ?_⟩
      · have := World.block_lt_of_cell? w _ hu
        simpa [Addr.add] using this
      · obtain ⟨cs', h1, h2⟩ := hlx i y hy
        refine ⟨cs', h2, fun j u hu => ?_⟩
        obtain ⟨_, hlen, hc'⟩ := World.cells?_some h1
        have hj : j < E.n := by have := (List.getElem?_eq_some_iff.1 hu).1; omega
        have := hc' j hj
        rw [hu, Addr.add_lit, Addr.add_lit] at this
        exact this

/-- The fields of a struct from the one on that lies at 'off'. -/
structure OpensF (P : Program) (fs : List Field) (off : Nat) {α : Type} (E : Enc α) : Prop where
  rd : ∀ {H : Type} {enc : TypeId × Value → H} {w : World} {base : Nat} {spare : Nat → Bool} {held : Bool} {n : Nat} {cs : List Value}, cs.length = off + E.n →
    (∀ (i : Nat) (f : Field), fs[i]? = some f → ∃ x, DataW.trod enc P w base spare held n f.type ((cs.drop f.offset).take (P.cellsOf f.type)) = some x) → ∃ y, E.rep w (fun b => b < w.heap.size) (cs.drop off) y
theorem opensF_one {P : Program} {f : Field} {off : Nat} {α : Type} {E : Enc α} (ho : f.offset = off) (hf : Opens P f.type E) : OpensF P [f] off E := by
  constructor
  intro H enc w base spare held n cs hl h
  obtain ⟨x, hx⟩ := h 0 f rfl
  rw [ho, hf.n, List.take_of_length_le (by rw [List.length_drop]; omega)] at hx
  exact hf.rd hx
theorem opensF_cons {P : Program} {f : Field} {fs : List Field} {off : Nat} {α β : Type} {E : Enc α} {F : Enc β} (ho : f.offset = off) (hf : Opens P f.type E) (hfs : OpensF P fs (off + E.n) F) : OpensF P (f :: fs) off (Enc.pair E F) := by
  constructor
  intro H enc w base spare held n cs hl h
  obtain ⟨x, hx⟩ := h 0 f rfl
  rw [ho, hf.n] at hx
  obtain ⟨y, hy⟩ := hf.rd hx
  have hl' : cs.length = off + E.n + F.n := by have : (Enc.pair E F).n = E.n + F.n := rfl; omega
  obtain ⟨z, hz⟩ := hfs.rd (enc := enc) (w := w) (base := base) (spare := spare) (held := held) (n := n) hl' (fun i g hg => h (i + 1) g (by simpa using hg))
  refine ⟨(y, z), (cs.drop off).take E.n, cs.drop (off + E.n), ?_, hy, hz⟩
  rw [← List.drop_drop, List.take_append_drop]
theorem opens_struct {P : Program} {t : TypeId} {fs : Array Field} {α : Type} {E : Enc α} (hc : P.cellsOf t = E.n) (ht : P.underlying t = some (.struct fs)) (hf : OpensF P fs.toList 0 E) : Opens P t E where
  n := hc
  rd {H enc w base spare held fuel cs x} h := by
    obtain ⟨xs, n, _, _, hl, hlen, hx⟩ := DataW.trod_struct ht h
    have := hf.rd (enc := enc) (w := w) (base := base) (spare := spare) (held := held) (n := n) (cs := cs) (by omega) (fun i f hf => by
      have hi : i < fs.size := by simpa using (List.getElem?_eq_some_iff.1 hf).1
      exact ⟨_, (hx i f (by simpa using hf)).trans (List.getElem?_eq_getElem (by omega))⟩)
    simpa using this

/-! ### arguments -/
section
variable {H : Type} {enc : TypeId × Value → H} {P : Program} {w : World} {base b0 : Nat} {spare : Nat → Bool} {held : Bool} {t : TypeId} {v : Value} {d : DataW H} {ps : List MemPlace} {r : Reach} {α : Type} {E : Enc α}
theorem okWide_slice {e : TypeId} (ht : P.underlying t = some (.slice e)) (h : Value.okWide P w r b0 t v) : ∃ a n c, v = .slice a n c := by
  simp only [Value.okWide, ht, Cell.okWide] at h
  cases v <;> simp_all [Cell.ok]
theorem okWide_struct {fs : Array Field} (ht : P.underlying t = some (.struct fs)) (h : Value.okWide P w r b0 t v) : ∃ cs, v = .agg cs := by
  simp only [Value.okWide, ht] at h
  obtain ⟨cs, rfl, _⟩ := h
  exact ⟨cs, rfl⟩
theorem okWide_array {n : Nat} {e : TypeId} (ht : P.underlying t = some (.array n e)) (h : Value.okWide P w r b0 t v) : ∃ cs, v = .agg cs := by
  simp only [Value.okWide, ht] at h
  obtain ⟨cs, rfl, _⟩ := h
  exact ⟨cs, rfl⟩
theorem arg_num {k : IntKind} {lo hi : Int} (ht : P.underlying t = some (.int k)) (ho : Opens P t (Enc.num k lo hi)) (hval : Value.okWide P w r b0 t v) (h : DataW.Trod enc P w base spare held t v d ps) :
    ∃ n : Int, v = .int k n ∧ lo ≤ n ∧ n ≤ hi := by
  obtain ⟨n, rfl⟩ := okWide_int ht hval
  obtain ⟨fuel, hf⟩ := h
  obtain ⟨y, hy, h1, h2⟩ := ho.rd hf
  simp [Value.cells] at hy
  subst hy
  exact ⟨n, rfl, h1, h2⟩
theorem arg_bool (ht : P.underlying t = some .bool) (hval : Value.okWide P w r b0 t v) : ∃ b : Bool, v = .bool b := okWide_bool ht hval
theorem arg_str (ht : P.underlying t = some .string) (ho : Opens P t Enc.str) (hval : Value.okWide P w r b0 t v) (h : DataW.Trod enc P w base spare held t v d ps) :
    ∃ s : ByteArray, v = .string s ∧ s.size ≤ maxLen := by
  obtain ⟨s, rfl⟩ := okWide_string ht hval
  obtain ⟨fuel, hf⟩ := h
  obtain ⟨y, hy, h1⟩ := ho.rd hf
  simp [Value.cells] at hy
  subst hy
  exact ⟨s, rfl, h1⟩
theorem arg_list {e : TypeId} (ht : P.underlying t = some (.slice e)) (ho : Opens P t (Enc.list E)) (hval : Value.okWide P w r b0 t v) (h : DataW.Trod enc P w base spare held t v d ps) :
    ∃ (a : Option Addr) (len cap : Nat) (l : List α), v = .slice a len cap ∧ len ≤ cap ∧ cap ≤ maxLen ∧ Lst E w (fun b => b < w.heap.size) a len l := by
  obtain ⟨a, n, c, rfl⟩ := okWide_slice ht hval
  obtain ⟨fuel, hf⟩ := h
  obtain ⟨y, a', n', c', hy, h1, h2, h3⟩ := ho.rd hf
  simp [Value.cells] at hy
  obtain ⟨rfl, rfl, rfl⟩ := hy
  exact ⟨a, n, c, y, rfl, h1, h2, h3⟩
theorem arg_struct {fs : Array Field} (ht : P.underlying t = some (.struct fs)) (ho : Opens P t E) (hval : Value.okWide P w r b0 t v) (h : DataW.Trod enc P w base spare held t v d ps) :
    ∃ (cs : Array Value) (y : α), v = .agg cs ∧ E.rep w (fun b => b < w.heap.size) cs.toList y := by
  obtain ⟨cs, rfl⟩ := okWide_struct ht hval
  obtain ⟨fuel, hf⟩ := h
  obtain ⟨y, hy⟩ := ho.rd hf
  exact ⟨cs, y, rfl, by simpa [Value.cells] using hy⟩
end
/-- The arguments read as they did. -/
theorem trodAll_below {H : Type} {enc : TypeId × Value → H} {P : Program} (hl : laidOutB P = true) {W W' : World} (hb : Below W.heap.size W W') : ∀ {ts : List TypeId} {vs : List Value} {ds : List (DataW H)} {ps : List MemPlace},
    (∀ t ∈ ts, P.readableRec t = true ∧ t < P.types.size) → DataW.TrodAll enc P W 0 (fun _ => true) true ts vs ds ps → (∀ x ∈ ps, x.block < W.heap.size) → DataW.TrodAll enc P W' 0 (fun b => decide (b < W.heap.size)) true ts vs ds ps
  | [], [], [], _, _, h, _ => h
  | t :: ts, v :: vs, d :: ds, _, hts, ⟨p, q, h1, h2, e⟩, hlt => by
    subst e
    exact ⟨p, q, Below.trod hl (hts t (by simp)).1 (hts t (by simp)).2 h1 hb (fun x hx => hlt x (List.mem_append_left _ hx)),
      trodAll_below hl hb (fun u hu => hts u (by simp [hu])) h2 (fun x hx => hlt x (List.mem_append_right _ hx)), rfl⟩
  | [], _ :: _, _, _, _, h, _ => by cases h
  | [], [], _ :: _, _, _, h, _ => by cases h
  | _ :: _, [], _, _, _, h, _ => by cases h
  | _ :: _, _ :: _, [], _, _, h, _ => by cases h
/-- A law's post, of arguments of whatever types. -/
theorem law_post_all {H : Type} {enc : TypeId × Value → H} {P : Program} (hl : laidOutB P = true) {f : Func} {s : ChangeSpec} {W W' : World} {args : Array Value} {ds : List (DataW H)} {before : List MemPlace} {tb : TypeId}
    (hW : DataW.Whole enc P f.params.toList s.vars false W args.toList ds [] before) (hv : s.vars = []) (hr : f.resultTypes = #[tb]) (htb : P.underlying tb = some .bool)
    (hfn : s.fn H ds = { results := [.lit (.bool true)], args := ds })
    (hts : ∀ t ∈ f.params.toList, P.readableRec t = true ∧ t < P.types.size)
    (hb : Below W.heap.size W W') : s.post enc P f false true false false W args (.bool true) W' := by
  have hlt := DataW.Whole.lt hW
  have hW2 := hW
  obtain ⟨p, q, hA, hV, hpq, _⟩ := hW2
  rw [hv] at hV
  obtain ⟨_, rfl⟩ := trodVars_none hV
  rw [List.append_nil] at hpq
  subst hpq
  exact law_post hW hv hr htb hfn (trodAll_below hl hb hts hA hlt) hb
end Go.Proofs.Ytfbgbbbfpkpfkaa
