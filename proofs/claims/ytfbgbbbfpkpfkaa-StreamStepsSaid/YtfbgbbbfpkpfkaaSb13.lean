/- Lookups: the program's Apply, up to its loop over the lookups. -/
import Derived.Test.YtfbgbbbfpkpfkaaSb12
import Derived.Deep.LoopGhost
import Derived.Test.YtfbgbbbfpkpfkaaFrontG
namespace Go.Proofs.Ytfbgbbbfpkpfkaa
open Go.RowKit
attribute [local go_sem] Oper.semAt_some

/-- numbers from 0 on, so far -/
def fillI (n k : Nat) : List Int := iota k ++ List.replicate (n - k) 0
theorem fillI_len (n k : Nat) (h : k ≤ n) : (fillI n k).length = n := by unfold fillI; rw [List.length_append, iota_len, List.length_replicate]; omega
theorem fillI_set (n k : Nat) (h : k < n) : (vints (fillI n k)).set k (.int .i64 (k : Int)) = vints (fillI n (k + 1)) := by
  unfold fillI vints
  rw [List.map_append, List.set_append_right _ _ (by rw [List.length_map, iota_len]; exact Nat.le_refl _), List.length_map, iota_len, Nat.sub_self, show n - k = (n - (k + 1)) + 1 by omega, List.replicate_succ, ← iota_snoc]
  simp
theorem fillI_full (n : Nat) : fillI n n = iota n := by unfold fillI; simp
theorem make_ints (n : Nat) (hn : n ≤ 1000000) (w : World) : (Instr.makeSlice 22 (.int .i64 (n : Int)) (.int .i64 (n : Int))).run Try.prog w = .ok (.slice (some ⟨w.heap.size, 0, none⟩) n n) (w.alloc (.cells (madeCells #[Value.int .i64 0] n) 3)) := by
  obtain ⟨i0, hi, hz0, hz1, hz2⟩ := info_parts info_int
  have := run_make (P := Try.prog) w 22 3 i0 (.int .i64 0) Try.underlying22 hi hz0 .i64 .i64 (n : Int) (n : Int) (by omega) (by omega) (by rw [hz2]; omega) (by omega)
  have h2 : (Instr.makeSlice 22 (.int .i64 (n : Int)) (.int .i64 (n : Int))).run Try.prog w = .ok (.slice (some ⟨w.heap.size, 0, none⟩) n n) (w.alloc (.cells (madeCells (Value.int .i64 0).cells (n * 1)) 3)) := by simpa [hz1] using this
  rw [Nat.mul_one] at h2
  exact h2
theorem made_row (n : Nat) (hn : n ≤ 1000000) (w : World) : (w.alloc (.cells (madeCells #[Value.int .i64 0] n) 3)).ownsRow w.heap.size 3 1 (.slice (some ⟨w.heap.size, 0, none⟩) n n) n (vints (fillI n 0)) := by
  have := World.ownsRow_lit (base := w.heap.size) (e := 3) (size := 1) w (madeCells #[Value.int .i64 0] n) n (Nat.le_refl _) (by unfold maxLen; omega) (by rw [size_madeCells]; omega)
  rw [toList_madeCells_one] at this
  have e : vints (fillI n 0) = List.replicate n (Value.int .i64 0) := by unfold fillI vints iota; simp
  rw [e]
  exact this
/-- what Apply holds between two lookups -/
structure Ap (w W : World) (bg bf : Nat) (v0 : Value) (G : List Int) (v1 : Value) (F : List Int) : Prop where
  bel : Below w.heap.size w W
  cg : W.heap[bg]? = some (.cells #[v0] 22 (0, 0))
  cf : W.heap[bf]? = some (.cells #[v1] 22 (0, 0))
  two : Two W w.heap.size v0 G v1 F
  lo : w.heap.size ≤ bg ∧ w.heap.size ≤ bf ∧ bg ≠ bf
theorem Ap.below {w W W' : World} {bg bf : Nat} {v0 v1 : Value} {G F : List Int} (h : Ap w W bg bf v0 G v1 F) (hb : Below W.heap.size W W') : Ap w W' bg bf v0 G v1 F :=
  ⟨h.bel.trans (hb.mono h.bel.size), (hb.block _ (Array.getElem?_eq_some_iff.1 h.cg).1).trans h.cg, (hb.block _ (Array.getElem?_eq_some_iff.1 h.cf).1).trans h.cf, h.two.below hb, h.lo⟩
theorem arr_of {T : Array Value} {n : Nat} (h : T.size = n) : T = Array.ofFn (n := n) (fun i => T.getD i undef) := by
  subst h
  refine Array.ext (by simp) (fun i h1 h2 => ?_)
  simp [Array.getD]
set_option maxRecDepth 100000 in
theorem ofFn70 (e : Nat → Value) : Array.ofFn (n := 70) (fun i => e i) = #[e 0, e 1, e 2, e 3, e 4, e 5, e 6, e 7, e 8, e 9, e 10, e 11, e 12, e 13, e 14, e 15, e 16, e 17, e 18, e 19, e 20, e 21, e 22, e 23, e 24, e 25, e 26, e 27, e 28, e 29, e 30, e 31, e 32, e 33, e 34, e 35, e 36, e 37, e 38, e 39, e 40, e 41, e 42, e 43, e 44, e 45, e 46, e 47, e 48, e 49, e 50, e 51, e 52, e 53, e 54, e 55, e 56, e 57, e 58, e 59, e 60, e 61, e 62, e 63, e 64, e 65, e 66, e 67, e 68, e 69] := by kernel_rfl
theorem arr70 {T : Array Value} (h : T.size = 70) : ∃ e : Nat → Value, T = #[e 0, e 1, e 2, e 3, e 4, e 5, e 6, e 7, e 8, e 9, e 10, e 11, e 12, e 13, e 14, e 15, e 16, e 17, e 18, e 19, e 20, e 21, e 22, e 23, e 24, e 25, e 26, e 27, e 28, e 29, e 30, e 31, e 32, e 33, e 34, e 35, e 36, e 37, e 38, e 39, e 40, e 41, e 42, e 43, e 44, e 45, e 46, e 47, e 48, e 49, e 50, e 51, e 52, e 53, e 54, e 55, e 56, e 57, e 58, e 59, e 60, e 61, e 62, e 63, e 64, e 65, e 66, e 67, e 68, e 69] := by
  obtain ⟨e, he⟩ : ∃ e : Nat → Value, (fun j => T.getD j undef) = e := ⟨_, rfl⟩
  have h1 := arr_of h
  have h2 : T = Array.ofFn (n := 70) (fun i => e i) := by rw [← he]; exact h1
  exact ⟨e, by rw [← ofFn70 e]; exact h2⟩
theorem allocs5 (W : World) (o1 o2 o3 o4 o5 : Obj) : Below W.heap.size W (((((W.alloc o1).alloc o2).alloc o3).alloc o4).alloc o5) ∧ (((((W.alloc o1).alloc o2).alloc o3).alloc o4).alloc o5).heap.size = W.heap.size + 5 ∧
    (((((W.alloc o1).alloc o2).alloc o3).alloc o4).alloc o5).heap[W.heap.size]? = some o1 ∧ (((((W.alloc o1).alloc o2).alloc o3).alloc o4).alloc o5).heap[W.heap.size + 1]? = some o2 ∧ (((((W.alloc o1).alloc o2).alloc o3).alloc o4).alloc o5).heap[W.heap.size + 2]? = some o3 ∧
    (((((W.alloc o1).alloc o2).alloc o3).alloc o4).alloc o5).heap[W.heap.size + 3]? = some o4 ∧ (((((W.alloc o1).alloc o2).alloc o3).alloc o4).alloc o5).heap[W.heap.size + 4]? = some o5 := by
  have h1 := heap_alloc_new W o1
  have h2 := heap_alloc_new (W.alloc o1) o2
  have h3 := heap_alloc_new ((W.alloc o1).alloc o2) o3
  have h4 := heap_alloc_new (((W.alloc o1).alloc o2).alloc o3) o4
  have h5 := heap_alloc_new ((((W.alloc o1).alloc o2).alloc o3).alloc o4) o5
  simp only [World.size_alloc] at h1 h2 h3 h4 h5
  have up : ∀ (w : World) (o : Obj) (k : Nat) (q : Obj), w.heap[k]? = some q → (w.alloc o).heap[k]? = some q := fun w o k q h => (Below.heap_alloc w o k (Array.getElem?_eq_some_iff.1 h).1).trans h
  refine ⟨(((((Below.refl _ _).alloc (Nat.le_refl _) _).alloc (by simp) _).alloc (by simp; omega) _).alloc (by simp; omega) _).alloc (by simp; omega) _, by simp only [World.size_alloc], up _ _ _ _ (up _ _ _ _ (up _ _ _ _ (up _ _ _ _ h1))), up _ _ _ _ (up _ _ _ _ (up _ _ _ _ h2)), up _ _ _ _ (up _ _ _ _ h3), up _ _ _ _ h4, h5⟩
/-- the call of steps -/
theorem steps_any (xa : Option Addr) (xn xc : Nat) (ga : Option Addr) (gn gc : Nat) (w : World) :
    Calls Try.prog 36 #[.agg #[.slice xa xn xc], .slice ga gn gc] w fun e w' => e = .returned (.func (.func 56) #[] #[.pointer (some ⟨w.heap.size + 1, 0, none⟩), .pointer (some ⟨w.heap.size, 0, none⟩)]) ∧
      w' = (w.alloc (.cells #[.slice xa xn xc] 37)).alloc (.cells #[.slice ga gn gc] 22) := by
  go_enter Try.func36, Try.ntmps36
  go_wp2
  exact bodyPost_ret (v := .func (.func 56) #[] #[.pointer (some ⟨w.heap.size + 1, 0, none⟩), .pointer (some ⟨w.heap.size, 0, none⟩)]) (by simp [results, Try.results36, go_sem]) rfl ⟨rfl, rfl⟩
/-- what a round over steps holds -/
structure Rn (V W : World) (bn bs : Nat) (A C : List Int) (nv sv : Value) : Prop where
  keep : ∀ b, b < V.heap.size → b ≠ bn → b ≠ bs → W.heap[b]? = V.heap[b]?
  os : W.os = V.os
  tape : W.tape = V.tape
  output : W.output = V.output
  size : V.heap.size ≤ W.heap.size
  cn : W.heap[bn]? = some (.cells #[nv] 22 (0, 0))
  cs : W.heap[bs]? = some (.cells #[sv] 22 (0, 0))
  two : Two W V.heap.size nv A sv C
theorem Rn.swap {V W : World} {bn bs : Nat} {A C : List Int} {nv sv : Value} (h : Rn V W bn bs A C nv sv) : Rn V W bs bn C A sv nv :=
  ⟨fun b h1 h2 h3 => h.keep b h1 h3 h2, h.os, h.tape, h.output, h.size, h.cs, h.cn, h.two.swap⟩
theorem Rn.below {V W W' : World} {bn bs : Nat} {A C : List Int} {nv sv : Value} (h : Rn V W bn bs A C nv sv) (hb : Below W.heap.size W W') : Rn V W' bn bs A C nv sv :=
  ⟨fun b h1 h2 h3 => (hb.block b (Nat.lt_of_lt_of_le h1 h.size)).trans (h.keep b h1 h2 h3), hb.os.trans h.os, hb.tape.trans h.tape, hb.output.trans h.output, Nat.le_trans h.size hb.size, (hb.block _ (Array.getElem?_eq_some_iff.1 h.cn).1).trans h.cn, (hb.block _ (Array.getElem?_eq_some_iff.1 h.cs).1).trans h.cs, h.two.below hb⟩
theorem Rn.put {V W : World} {bn bs : Nat} {A C : List Int} {nv sv : Value} (h : Rn V W bn bs A C nv sv) {l : Nat} {o o' : Obj} (hl : W.heap[l]? = some o') (ho : o'.isCells = false) (hV : V.heap.size ≤ l) (hbn : bn < V.heap.size) (hbs : bs < V.heap.size) : Rn V (W.putObj l o) bn bs A C nv sv :=
  ⟨fun b h1 h2 h3 => (World.putObj_heap_other (by omega)).trans (h.keep b h1 h2 h3), h.os, h.tape, h.output, by rw [World.putObj_size]; exact h.size, (World.putObj_heap_other (by omega)).trans h.cn, (World.putObj_heap_other (by omega)).trans h.cs, ⟨ownsRow_putObj h.two.r1 _ hl ho, ownsRow_putObj h.two.r2 _ hl ho, h.two.ap⟩⟩
theorem Rn.lst {V W W0 : World} {bn bs B : Nat} {A C : List Int} {nv sv : Value} (h : Rn V W bn bs A C nv sv) (hb : Below B W0 V) (hB : W0.heap.size = B) (hBV : B ≤ V.heap.size) (h1 : B ≤ bn) (h2 : B ≤ bs) {α : Type} {E : Enc α} {a : Option Addr} {len : Nat} {l : List α} (hl : Lst E W0 (· < W0.heap.size) a len l) : Lst E W (· < W.heap.size) a len l := by
  rw [hB] at hl
  exact ((hl.below hb).same (fun b (hlt : b < B) => h.keep b (by omega) (by omega) (by omega))).wide (fun b (hlt : b < B) => by have := h.size; omega)
/-- behind an append to the first one's row, and its store -/
theorem Rn.push {V W W5 : World} {bn bs : Nat} {A C : List Int} {nv nv' sv : Value} {y : Int} (h : Rn V W bn bs A C nv sv) (_ : bn < V.heap.size) (_ : bs < V.heap.size) (hne : bn ≠ bs)
    (ho : W5.ownsRow V.heap.size 3 1 nv' (A.length + 1) (vints (A ++ [y]))) (hg : W.grownBy W5 nv.ownBlock) (hb : nv'.ownBlock = nv.ownBlock ∨ nv'.ownBlock = some W.heap.size) :
    Rn V (W5.setCell ⟨bn, 0, none⟩ nv') bn bs (A ++ [y]) C nv' sv ∧ KeepsOthers W (W5.setCell ⟨bn, 0, none⟩ nv') ∧ W5.cell? ⟨bn, 0, none⟩ = some nv ∧ W5.frozen? ⟨bn, 0, none⟩ = false := by
  have n1 := own_ne_blk h.two.r1 h.cn (by decide)
  have n2 := own_ne_blk h.two.r1 h.cs (by decide)
  have two5 := h.two.app (m := A ++ [y]) (by rw [List.length_append]; exact ho) hg hb
  have cn5 := (hg.block bn (Array.getElem?_eq_some_iff.1 h.cn).1 (fun e => n1 e.symm)).trans h.cn
  have cs5 := (hg.block bs (Array.getElem?_eq_some_iff.1 h.cs).1 (fun e => n2 e.symm)).trans h.cs
  have hg6 : W5.grownBy (W5.setCell ⟨bn, 0, none⟩ nv') (some bn) := grown_set bn 0 _
  refine ⟨⟨fun b h1 h2 h3 => ?_, hg6.os.trans (hg.os.trans h.os), hg6.tape.trans (hg.tape.trans h.tape), hg6.output.trans (hg.output.trans h.output), Nat.le_trans h.size (Nat.le_trans hg.size hg6.size), heap_set (off := 0) cn5 _, (hg6.block bs (Array.getElem?_eq_some_iff.1 cs5).1 (fun e => hne (Option.some.inj e).symm)).trans cs5, ⟨two5.r1.kept hg6 (.inr (own_ne_blk two5.r1 cn5 (by decide))), two5.r2.kept hg6 (.inr (own_ne_blk two5.r2 cn5 (by decide))), two5.ap⟩⟩, ?_, (cell_of_row _ _ 0 _ _ _ cn5).trans rfl, by simp [World.frozen?, cn5]⟩
  · have hbW : b < W.heap.size := Nat.lt_of_lt_of_le h1 h.size
    have e1 := hg.block b hbW (fun e => by have := (h.two.r1.lt b e.symm).1; omega)
    have e2 := hg6.block b (Nat.lt_of_lt_of_le hbW hg.size) (fun e => h2 (Option.some.inj e))
    exact e2.trans (e1.trans (h.keep b h1 h2 h3))
  · refine (KeepsOthers.of_grownBy hg (fun j o e hj => ?_)).trans (KeepsOthers.setCell _ _ _)
    obtain ⟨_, ⟨hv, _⟩ | ⟨g', cap', cur, hv, _, hgc, _⟩⟩ := h.two.r1
    · rw [hv] at e; cases e
    · rw [hv] at e
      injection e with e
      subst e
      rw [hgc] at hj
      injection hj with hj
      subst hj
      rfl
theorem below_put {B l : Nat} {w W : World} {o : Obj} (h : Below B w W) (hl : B ≤ l) : Below B w (W.putObj l o) :=
  ⟨h.os, h.tape, h.output, by have := h.size; simp [World.putObj]; omega, fun k hk => (World.putObj_heap_other (by omega)).trans (h.block k hk)⟩
theorem Ap.next {w W V W' wq : World} {bg bf bn bs : Nat} {v0 v1 nv sv : Value} {G F A C : List Int} (hap : Ap w W bg bf v0 G v1 F) (hbV : Below W.heap.size W V) (hRn : Rn V W' bn bs A C nv sv) (hb : Below W'.heap.size W' wq) (h1 : W.heap.size ≤ bn) (h2 : W.heap.size ≤ bs) :
    Ap w ((wq.setCell ⟨bg, 0, none⟩ nv).setCell ⟨bf, 0, none⟩ sv) bg bf nv A sv C ∧ wq.cell? ⟨bg, 0, none⟩ = some v0 ∧ wq.frozen? ⟨bg, 0, none⟩ = false ∧ (wq.setCell ⟨bg, 0, none⟩ nv).cell? ⟨bf, 0, none⟩ = some v1 ∧ (wq.setCell ⟨bg, 0, none⟩ nv).frozen? ⟨bf, 0, none⟩ = false ∧
      (∀ (E : Nat) q, W.heap[E]? = some (Obj.deferred q) → ((wq.setCell ⟨bg, 0, none⟩ nv).setCell ⟨bf, 0, none⟩ sv).heap[E]? = some (Obj.deferred q)) ∧ (∀ (D : Nat) (o : Obj), V.heap.size ≤ D → W'.heap[D]? = some o → ((wq.setCell ⟨bg, 0, none⟩ nv).setCell ⟨bf, 0, none⟩ sv).heap[D]? = some o) := by
  have lg := (Array.getElem?_eq_some_iff.1 hap.cg).1
  have lf := (Array.getElem?_eq_some_iff.1 hap.cf).1
  have hVs := hbV.size
  have hWs := hRn.size
  have old : ∀ b, b < W.heap.size → wq.heap[b]? = W.heap[b]? := fun b hlt => (hb.block b (by omega)).trans ((hRn.keep b (by omega) (by omega) (by omega)).trans (hbV.block b hlt))
  have cg := (old bg lg).trans hap.cg
  have cf := (old bf lf).trans hap.cf
  obtain ⟨l1, l2, l3⟩ := hap.lo
  have g5 : wq.grownBy (wq.setCell ⟨bg, 0, none⟩ nv) (some bg) := grown_set bg 0 _
  have g6 : (wq.setCell ⟨bg, 0, none⟩ nv).grownBy ((wq.setCell ⟨bg, 0, none⟩ nv).setCell ⟨bf, 0, none⟩ sv) (some bf) := grown_set bf 0 _
  have cg5 : (wq.setCell ⟨bg, 0, none⟩ nv).heap[bg]? = some (.cells #[nv] 22 (0, 0)) := heap_set (off := 0) cg _
  have cf5 := (g5.block bf (Array.getElem?_eq_some_iff.1 cf).1 (fun e => l3 (Option.some.inj e).symm)).trans cf
  have cg6 := (g6.block bg (Array.getElem?_eq_some_iff.1 cg5).1 (fun e => l3 (Option.some.inj e))).trans cg5
  have cf6 : ((wq.setCell ⟨bg, 0, none⟩ nv).setCell ⟨bf, 0, none⟩ sv).heap[bf]? = some (.cells #[sv] 22 (0, 0)) := heap_set (off := 0) cf5 _
  have two := hRn.two.below hb
  have two5 : Two (wq.setCell ⟨bg, 0, none⟩ nv) V.heap.size nv A sv C := ⟨two.r1.kept g5 (.inr (own_ne_blk two.r1 cg (by decide))), two.r2.kept g5 (.inr (own_ne_blk two.r2 cg (by decide))), two.ap⟩
  have two6 : Two ((wq.setCell ⟨bg, 0, none⟩ nv).setCell ⟨bf, 0, none⟩ sv) V.heap.size nv A sv C := ⟨two5.r1.kept g6 (.inr (own_ne_blk two5.r1 cf5 (by decide))), two5.r2.kept g6 (.inr (own_ne_blk two5.r2 cf5 (by decide))), two5.ap⟩
  have bw := hap.bel.size
  have bel : Below w.heap.size w wq := hap.bel.trans ⟨hb.os.trans (hRn.os.trans hbV.os), hb.tape.trans (hRn.tape.trans hbV.tape), hb.output.trans (hRn.output.trans hbV.output), Nat.le_trans hVs (Nat.le_trans hWs hb.size), fun b hlt => old b (by omega)⟩
  have keep6 : ∀ b, b < wq.heap.size → b ≠ bg → b ≠ bf → ((wq.setCell ⟨bg, 0, none⟩ nv).setCell ⟨bf, 0, none⟩ sv).heap[b]? = wq.heap[b]? := fun b hlt h3 h4 => (g6.block b (Nat.lt_of_lt_of_le hlt g5.size) (fun e => h4 (Option.some.inj e))).trans (g5.block b hlt (fun e => h3 (Option.some.inj e)))
  refine ⟨⟨(bel.setCell (p := ⟨bg, 0, none⟩) l1 _).setCell (p := ⟨bf, 0, none⟩) l2 _, cg6, cf6, ⟨own_mono two6.r1 (by omega), own_mono two6.r2 (by omega), two6.ap⟩, l1, l2, l3⟩, (cell_of_row _ _ 0 _ _ _ cg).trans rfl, by simp [World.frozen?, cg], (cell_of_row _ _ 0 _ _ _ cf5).trans rfl, by simp [World.frozen?, cf5], fun E q hE => ?_, fun D o hD hd => ?_⟩
  · have lE := (Array.getElem?_eq_some_iff.1 hE).1
    rw [keep6 E (by have := hb.size; omega) (fun e => by rw [e, hap.cg] at hE; cases hE) (fun e => by rw [e, hap.cf] at hE; cases hE), old E lE, hE]
  · have lD := (Array.getElem?_eq_some_iff.1 hd).1
    rw [keep6 D (by have := hb.size; omega) (by omega) (by omega), hb.block D lD, hd]
set_option maxRecDepth 100000 in
set_option maxHeartbeats 8000000 in
theorem apply_any (la : Option Addr) (ln lc : Nat) (l : List (List Sub)) (ga : Option Addr) (gn gc : Nat) (g : List Int) (w : World) (hl : Lst Enc.lk w (· < w.heap.size) la ln l) (hg : Lst Enc.int w (· < w.heap.size) ga gn g) (hln : ln ≤ 1000) (hsm : ∀ x ∈ l, Small x) (hto : ∀ x ∈ l, ToI x) (hgn : gn ≤ 1000000) :
    Calls Try.prog 16 #[.slice la ln lc, .slice ga gn gc] w fun e w' => ∃ v1 v2, e = .returned (.tuple #[v1, v2]) ∧ Two w' w.heap.size v1 (applyS l g).1 v2 (applyS l g).2 ∧ Below w.heap.size w w' := by
  have hgl := hg.1
  have hll := hl.1
  have hgi := hg.i64
  refine (callsIn_wide (n := 8)).1 ?_
  refine callsIn_of_wp_marks Try.func16 rfl trivial ?_ rfl
  simp only [Try.ntmps16, List.size_toArray, List.length_cons, List.length_nil, Nat.reduceAdd, Nat.reduceSub, Array.replicate_succ, Array.replicate_zero, List.push_toArray, List.append_toArray, List.nil_append, List.cons_append]
  refine wpIn_wide.2 ?_
  obtain ⟨bg, hbg⟩ : ∃ bg, bg = w.heap.size := ⟨_, rfl⟩
  obtain ⟨V, hV⟩ : ∃ V, V = w.alloc (Obj.cells #[.slice ga gn gc] 22) := ⟨_, rfl⟩
  have hr0 : V.heap[bg]? = some (.cells #[.slice ga gn gc] 22 (0, 0)) := by rw [hV, hbg]; exact heap_alloc_new w _
  have hb0 : Below w.heap.size w V := by rw [hV]; exact (Below.refl _ _).alloc (Nat.le_refl _) _
  have hclo := clone_any ga gn gc g V (hg.under hb0) hgn
  have hlV := hl.under hb0
  clear hg
  replace hV := hide hV; replace hbg := hide hbg; replace hr0 := hide hr0; replace hb0 := hide hb0; replace hclo := hide hclo; replace hlV := hide hlV; replace hll := hide hll; replace hgl := hide hgl; replace hl := hide hl; replace hsm := hide hsm; replace hto := hide hto; replace hgi := hide hgi
  go_wp2_with fail
  rw [← unhide hV, ← unhide hbg]
  refine (unhide hclo).mono ?_
  rintro e w1 ⟨v0, rfl, hown0, hb1⟩
  have hr1 := (hb1.block _ (Array.getElem?_eq_some_iff.1 (unhide hr0)).1).trans (unhide hr0)
  have hbw1 := (unhide hb0).trans (hb1.mono (unhide hb0).size)
  have hne : some bg ≠ v0.ownBlock := fun he => by
    have := (hown0.lt bg he.symm).1
    have := (Array.getElem?_eq_some_iff.1 (unhide hr0)).1
    omega
  obtain ⟨va, vc, rfl⟩ := own_shape hown0
  have hfz : w1.frozen? ⟨bg, 0, none⟩ = false := by simp [World.frozen?, hr1]
  have hcl : w1.cell? ⟨bg, 0, none⟩ = some (.slice ga gn gc) := (cell_of_row _ _ 0 _ _ _ hr1).trans rfl
  obtain ⟨w2, hw2⟩ : ∃ w2, w2 = w1.setCell ⟨bg, 0, none⟩ (.slice va gn vc) := ⟨_, rfl⟩
  have hr2 : w2.heap[bg]? = some (.cells #[.slice va gn vc] 22 (0, 0)) := by rw [hw2]; exact heap_set (off := 0) hr1 _
  have hg2 : w1.grownBy w2 (some bg) := by rw [hw2]; exact grown_set bg 0 _
  have hown2 : w2.ownsRow w.heap.size 3 1 (.slice va gn vc) gn (vints g) := own_mono (hown0.kept hg2 (.inr (fun e => hne e.symm))) (unhide hb0).size
  have hbw2 : Below w.heap.size w w2 := by rw [hw2]; exact hbw1.setCell (p := ⟨bg, 0, none⟩) (by show w.heap.size ≤ bg; rw [unhide hbg]; exact Nat.le_refl _) _
  have hc2 : w2.cell? ⟨bg, 0, none⟩ = some (.slice va gn vc) := (cell_of_row _ _ 0 _ _ _ hr2).trans rfl
  obtain ⟨bm, hbm⟩ : ∃ bm, bm = w2.heap.size := ⟨_, rfl⟩
  obtain ⟨w3, hw3⟩ : ∃ w3, w3 = w2.alloc (.cells (madeCells #[Value.int .i64 0] gn) 3) := ⟨_, rfl⟩
  have hrm := made_row gn hgn w2
  rw [← hw3] at hrm
  have hb23 : Below w2.heap.size w2 w3 := by rw [hw3]; exact (Below.refl _ _).alloc (Nat.le_refl _) _
  have hw3s : w3.heap.size = bm + 1 := by rw [hw3, hbm]; simp
  obtain ⟨bf, hbf⟩ : ∃ bf, bf = w3.heap.size := ⟨_, rfl⟩
  obtain ⟨w4, hw4⟩ : ∃ w4, w4 = w3.alloc (.cells #[.slice (some ⟨bm, 0, none⟩) gn gn] 22) := ⟨_, rfl⟩
  have hr4 : w4.heap[bf]? = some (.cells #[.slice (some ⟨bm, 0, none⟩) gn gn] 22 (0, 0)) := by rw [hw4, hbf]; exact heap_alloc_new w3 _
  have hb34 : Below w3.heap.size w3 w4 := by rw [hw4]; exact (Below.refl _ _).alloc (Nat.le_refl _) _
  have hb24 := hb23.trans (hb34.mono hb23.size)
  have hap : Ap w w4 bg bf (.slice va gn vc) g (.slice (some ⟨bm, 0, none⟩) gn gn) (fillI gn 0) := by
    refine ⟨hbw2.trans (hb24.mono hbw2.size), (hb24.block _ (Array.getElem?_eq_some_iff.1 hr2).1).trans hr2, hr4, ⟨?_, ?_, ?_⟩, ?_, ?_, ?_⟩
    · rw [unhide hgl]; exact own_belowb hown2 hb24
    · rw [fillI_len gn 0 (Nat.zero_le _)]
      have := own_mono (own_belowb hrm hb34) (show w.heap.size ≤ w2.heap.size from hbw2.size)
      rw [← hbm] at this
      exact this
    · intro b h1 h2
      have := (hown2.lt b h1).2
      simp [Value.ownBlock] at h2
      omega
    · rw [unhide hbg]; exact Nat.le_refl _
    · rw [hbf]; exact Nat.le_trans hbw2.size hb23.size
    · have := (Array.getElem?_eq_some_iff.1 hr2).1
      have := hb23.size
      omega
  clear hr0 hb1 hr1 hbw1 hne hown0 hr2 hg2 hown2 hbw2 hrm hb23 hr4 hb34 hb24 hclo
  replace hap := hide hap; replace hw2 := hide hw2; replace hw3 := hide hw3; replace hw4 := hide hw4; replace hbm := hide hbm; replace hbf := hide hbf; replace hc2 := hide hc2; replace hw3s := hide hw3s
  have hmk := make_ints gn hgn
  go_wp2_with fail
  have e1 : w1.heap.size = bm := by rw [unhide hbm, unhide hw2]; simp [World.setCell]
  have e2 : bm + 1 = bf := by rw [unhide hbf, unhide hw3s]
  rw [e1, ← unhide hw2, ← unhide hw3, ← unhide hw4, e2]
  clear hmk e1 e2 hcl hfz
  go_loopw [21] (fun v wr => ∃ k : Nat, k ≤ gn ∧ v = .int .i64 (k : Int) ∧ Ap w wr bg bf (.slice va gn vc) g (.slice (some ⟨bm, 0, none⟩) gn gn) (fillI gn k)) (fun v _ => gn - (intOf v).toNat)
  case atStart => exact ⟨0, by omega, rfl, unhide hap⟩
  case round =>
    clear hap
    obtain ⟨k, hk, rfl, hap⟩ := hrel
    by_cases hlt : k < gn
    · obtain ⟨wo, rfl⟩ : ∃ wo : World, wo = wr := ⟨_, rfl⟩
      have hc := (cell_of_row _ _ 0 _ _ _ hap.cf).trans rfl
      have hrow := hap.two.r2
      rw [fillI_len gn k hk] at hrow
      have hfz := hrow.frozenAt k
      obtain ⟨v0, hcM⟩ : ∃ v0, wo.cell? ⟨bm, k, none⟩ = some v0 := ⟨_, (hrow.cellAt k (by omega)).trans (List.getElem?_eq_getElem (by rw [vints_len, fillI_len gn k hk]; omega))⟩
      obtain ⟨hrow2, hgr2⟩ := hrow.stored k (.int .i64 (k : Int))
      rw [fillI_set gn k hlt] at hrow2
      have hbmb := (hrow.lt bm rfl)
      have hap2 : Ap w (wo.setCell ⟨bm, k, none⟩ (.int .i64 (k : Int))) bg bf (.slice va gn vc) g (.slice (some ⟨bm, 0, none⟩) gn gn) (fillI gn (k + 1)) := by
        have hne1 : bg ≠ bm := fun e => by
          have := own_ne_blk hrow (e ▸ hap.cg) (by decide)
          exact this rfl
        have hne2 : bf ≠ bm := fun e => by
          have := own_ne_blk hrow (e ▸ hap.cf) (by decide)
          exact this rfl
        refine ⟨hap.bel.grown hgr2 hap.bel.size (fun j hj => by cases hj; exact hbmb.1), (hgr2.block _ (Array.getElem?_eq_some_iff.1 hap.cg).1 (fun e => hne1 (Option.some.inj e))).trans hap.cg, (hgr2.block _ (Array.getElem?_eq_some_iff.1 hap.cf).1 (fun e => hne2 (Option.some.inj e))).trans hap.cf, ⟨hap.two.r1.kept hgr2 (.inr (fun e => hap.two.ap bm e rfl)), ?_, hap.two.ap⟩, hap.lo⟩
        rw [fillI_len gn (k + 1) hlt]
        exact hrow2
      clear hrow hrow2 hgr2 hap hbmb
      replace hap2 := hide hap2
      go_wp2_with fail
      go_roundw
      case rel => exact ⟨k + 1, by omega, by go_num, unhide hap2⟩
      case measure => simp [intOf]; omega
    · obtain rfl : k = gn := by omega
      rw [fillI_full] at hap
      replace hap := hide hap
      -- the lookups
      obtain ⟨gn, rfl⟩ : ∃ gn, gn = k := ⟨_, rfl⟩
      have hap0 : ∃ v0 v1, Ap w wr bg bf v0 (applyS (l.take 0) g).1 v1 (applyS (l.take 0) g).2 := ⟨_, _, by
        show Ap w wr bg bf _ g _ (iota g.length)
        rw [unhide hgl]
        exact hap⟩
      clear hap hlt hk hc2
      replace hap0 := hide hap0
      go_wp2_with fail
      refine wp_loop_ghost_k (fun q a W => ∃ (k : Nat) (Dl : List Nat) (v0 v1 : Value), a.tmps.size = 70 ∧ (a.tmps.getD 0 undef = .slice la ln lc ∧ a.tmps.getD 3 undef = .pointer (some ⟨bg, 0, none⟩) ∧ a.tmps.getD 6 undef = .pointer (some ⟨bf, 0, none⟩) ∧ a.tmps.getD 29 undef = .slice la ln lc ∧ a.tmps.getD 30 undef = .int .i64 (ln : Int) ∧ a.tmps.getD 31 undef = .int .i64 (k : Int)) ∧ k + q = ln ∧ Marks a.defers Dl w.heap.size W ∧ Ap w W bg bf v0 (applyS (l.take k) g).1 v1 (applyS (l.take k) g).2) ln ?start ?round
      case start =>
        obtain ⟨v0, v1, h⟩ := unhide hap0
        exact ⟨0, [], v0, v1, rfl, ⟨rfl, rfl, rfl, rfl, rfl, rfl⟩, by omega, ⟨rfl, List.nodup_nil, fun D hD => by cases hD⟩, h⟩
      case round =>
        clear hap0
        intro gk a W hI J K hJ hK
        obtain ⟨tm, ds⟩ := a
        obtain ⟨k, Dl, v0, v1, hsz, ⟨h0, h3, h6, h29, h30, h31⟩, hkq, hmk, hap⟩ := hI
        obtain ⟨e, he⟩ := arr70 hsz
        subst he
        clear hsz
        have k0 : e 0 = .slice la ln lc := h0
        have k3 : e 3 = .pointer (some ⟨bg, 0, none⟩) := h3
        have k6 : e 6 = .pointer (some ⟨bf, 0, none⟩) := h6
        have k29 : e 29 = .slice la ln lc := h29
        have k30 : e 30 = .int .i64 (ln : Int) := h30
        have k31 : e 31 = .int .i64 (k : Int) := h31
        simp only [k0, k3, k6, k29, k30, k31]
        clear h0 k0 h3 k3 h6 k6 h29 k29 h30 k30 h31 k31
        replace hmk : Marks ds Dl w.heap.size W := hmk
        by_cases hlt : k < ln
        · obtain ⟨gq, rfl⟩ : ∃ q, gk = q + 1 := ⟨gk - 1, by omega⟩
          obtain ⟨b, off, x, xa, xn, xc, rfl, hSb, hx, _, _, hlx, hcx⟩ := lst_list ((unhide hl).under hap.bel) hlt
          have hxm := List.mem_of_getElem? hx
          have hxs := unhide hsm x hxm
          have hsucc := applyS_succ (g := g) hx
          have hlens := applyS_len (l.take k) g
          have hi64 := applyS_i64 (l := l.take k) (g := g) (fun y hy => unhide hto y (List.mem_of_mem_take hy)) (unhide hgi) (by rw [unhide hgl]; omega)
          have hxl := hlx.1
          obtain ⟨st, hst⟩ : ∃ st, applyS (l.take k) g = st := ⟨_, rfl⟩
          rw [hst] at hsucc hlens hi64 hap
          obtain ⟨G, F⟩ := st
          simp only at hap hlens hi64
          obtain ⟨n, hn⟩ : ∃ n, G.length = n := ⟨_, rfl⟩
          have hnb : n ≤ 1000000 := by have := hlens.2; rw [hn, unhide hgl] at this; omega
          obtain ⟨oa, oc, rfl, _, hGl⟩ := own_lst hap.two.r1 hi64.1
          obtain ⟨fa, fc, rfl, _, hFl⟩ := own_lst hap.two.r2 hi64.2
          have hFn : F.length = n := by rw [← hlens.1, hn]
          rw [hn] at hGl hap
          rw [hFn] at hFl hap
          have hcg := (cell_of_row _ _ 0 _ _ _ hap.cg).trans rfl
          have hcf := (cell_of_row _ _ 0 _ _ _ hap.cf).trans rfl
          clear hst hlens hxm hSb
          have hstp := steps_any xa xn xc oa n oc (((W.alloc (Obj.cells #[.slice xa xn xc] 37)).alloc (Obj.cells #[.slice none 0 0] 22)).alloc (Obj.cells #[.slice none 0 0] 22))
          have h5 := allocs5 W (Obj.cells #[.slice xa xn xc] 37) (Obj.cells #[.slice none 0 0] 22) (Obj.cells #[.slice none 0 0] 22) (Obj.cells #[.slice xa xn xc] 37) (Obj.cells #[.slice oa n oc] 22)
          have hcg3 : (((W.alloc (Obj.cells #[.slice xa xn xc] 37)).alloc (Obj.cells #[.slice none 0 0] 22)).alloc (Obj.cells #[.slice none 0 0] 22)).cell? ⟨bg, 0, none⟩ = some (.slice oa n oc) := cell_under hcg ((((Below.refl _ _).alloc (Nat.le_refl _) _).alloc (by simp) _).alloc (by simp; omega) _)
          clear hcg hcf
          replace h5 := hide h5
          replace hsucc := hide hsucc; replace hx := hide hx; replace hlx := hide hlx; replace hxl := hide hxl; replace hGl := hide hGl; replace hFl := hide hFl; replace hap := hide hap; replace hn := hide hn; replace hFn := hide hFn; replace hi64 := hide hi64; replace hmk := hide hmk; replace hstp := hide hstp; replace hxs := hide hxs
          go_wp2_with fail
          refine (unhide hstp).mono ?_
          rintro e V ⟨rfl, hV⟩
          have h5' := unhide h5
          rw [← hV] at h5'
          obtain ⟨hbV, hVs, hb9, hbn0, hbs0, hxi0, hgi0⟩ := h5'
          obtain ⟨B, hB⟩ : ∃ B, W.heap.size = B := ⟨_, rfl⟩
          simp only [World.size_alloc, hB]
          rw [hB] at hbV hVs hb9 hbn0 hbs0 hxi0 hgi0
          obtain ⟨bn, hbn⟩ : ∃ bn, B + 1 = bn := ⟨_, rfl⟩
          obtain ⟨bs, hbs⟩ : ∃ bs, bn + 1 = bs := ⟨_, rfl⟩
          obtain ⟨xi, hxi⟩ : ∃ xi, bs + 1 = xi := ⟨_, rfl⟩
          obtain ⟨gi, hgi'⟩ : ∃ gi, xi + 1 = gi := ⟨_, rfl⟩
          simp only [hbn, hbs, hxi, hgi']
          rw [hbn] at hbn0
          rw [show B + 2 = bs by omega] at hbs0
          rw [show B + 3 = xi by omega] at hxi0
          rw [show B + 4 = gi by omega] at hgi0
          have hord : B < bn ∧ bn < bs ∧ bs < xi ∧ xi < gi ∧ gi < V.heap.size := by omega
          clear hV h5 hstp hcg3 hbn hbs hxi hgi' hcx
          replace hbV := hide hbV; replace hVs := hide hVs; replace hb9 := hide hb9; replace hbn0 := hide hbn0; replace hbs0 := hide hbs0; replace hxi0 := hide hxi0; replace hgi0 := hide hgi0; replace hord := hide hord; replace hB := hide hB
          have hbg1 : V.heap[bg]? = some (.cells #[.slice oa n oc] 22 (0, 0)) := ((unhide hbV).block bg (by rw [← unhide hB]; exact (Array.getElem?_eq_some_iff.1 (unhide hap).cg).1)).trans (unhide hap).cg
          have hbf1 : V.heap[bf]? = some (.cells #[.slice fa n fc] 22 (0, 0)) := ((unhide hbV).block bf (by rw [← unhide hB]; exact (Array.getElem?_eq_some_iff.1 (unhide hap).cf).1)).trans (unhide hap).cf
          replace hbg1 := hide hbg1; replace hbf1 := hide hbf1
          go_wp2_with fail
          refine (wpIn_wide (n := 8)).1 ?_
          refine range_steps gi xi oa n oc G xa xn xc x (unhide hxs) hnb (unhide hn) (by omega) rfl rfl (fun L W' => ∃ nv sv, Rn V W' bn bs (outS x G L) (fstS F L) nv sv) ?hJ ?hJp ?h0 ?hJr ?hround ?hdone
          case hJ =>
            rintro L A C - ⟨nv, sv, h⟩ hAC
            exact ⟨nv, sv, h.below hAC⟩
          case hJp =>
            rintro L A l o o' hl ho hV ⟨nv, sv, h⟩
            have hq := unhide hord
            exact ⟨nv, sv, h.put hl ho hV (by omega) (by omega)⟩
          case h0 => exact ⟨_, _, ⟨fun b _ _ _ => rfl, rfl, rfl, rfl, Nat.le_refl _, unhide hbn0, unhide hbs0, Two.start _ _⟩⟩
          case hJr =>
            rintro L A hA ⟨nv, sv, h⟩
            have hq := unhide hord
            have g1 := (h.keep gi (by omega) (by omega) (by omega)).trans (unhide hgi0)
            have x1 := (h.keep xi (by omega) (by omega) (by omega)).trans (unhide hxi0)
            exact ⟨(cell_of_row _ _ 0 _ _ _ g1).trans rfl, (cell_of_row _ _ 0 _ _ _ x1).trans rfl, h.lst (unhide hbV) (unhide hB) (by omega) (by omega) (by omega) (unhide hGl), h.lst (unhide hbV) (unhide hB) (by omega) (by omega) (by omega) (unhide hlx)⟩
          case hround =>
            rintro L i R W1 lr - hlr hW1 hst hi
            have hLn : L.length ≤ 1000000000 := by
              have h1 := stepL_len x G G.length 0
              have h2 : (stepsS x G).length = L.length + (R.length + 1) := by rw [hst, List.length_append]; rfl
              have h3 : (stepsS x G).length ≤ n := by rw [← unhide hn]; exact h1
              omega
            have hinv := matchS_inv (x := x) (g := G) (i := (i : Int))
            obtain ⟨m, hm⟩ : ∃ m, matchS x G (i : Int) = m := ⟨_, rfl⟩
            rw [hm] at hinv ⊢
            clear hst hm hlr hW1
            replace hinv := hide hinv
            refine ⟨⟨#[.slice (some ⟨b, off, none⟩) ln lc, e 1, e 2, .pointer (some ⟨bg, 0, none⟩), e 4, e 5, .pointer (some ⟨bf, 0, none⟩), e 7, e 8, .pointer (some ⟨B, 0, none⟩), .pointer (some ⟨bn, 0, none⟩), .pointer (some ⟨bs, 0, none⟩), .int .i64 (i : Int), .int .i64 m, e 14, e 15, e 16, e 17, e 18, e 19, e 20, e 21, e 22, e 23, e 24, e 25, e 26, e 27, e 28, .slice (some ⟨b, off, none⟩) ln lc, .int .i64 (ln : Int), .int .i64 (k : Int), .bool true, .pointer (some ⟨b, off + k, none⟩), .agg #[.slice xa xn xc], .agg #[.slice xa xn xc], .slice oa n oc, .func (.func 56) #[] #[.pointer (some ⟨gi, 0, none⟩), .pointer (some ⟨xi, 0, none⟩)], .int .i64 (i : Int), .int .i64 m, e 40, e 41, e 42, e 43, e 44, e 45, e 46, e 47, e 48, e 49, e 50, e 51, e 52, e 53, e 54, e 55, e 56, e 57, e 58, e 59, e 60, e 61, e 62, e 63, e 64, e 65, e 66, e 67, e 68, e 69], []⟩, ?asg, ?body⟩
            case asg =>
              intro K hK
              gi_wp2
              exact hK
            case body =>
              intro Wb hJb hWb
              obtain ⟨nv, sv, hRn⟩ := hJb
              have hq := unhide hord
              have hBle : w.heap.size ≤ B := by rw [← unhide hB]; exact (unhide hap).bel.size
              have hlo := (unhide hap).lo
              have hbgB : bg < B := by rw [← unhide hB]; exact (Array.getElem?_eq_some_iff.1 (unhide hap).cg).1
              have hbfB : bf < B := by rw [← unhide hB]; exact (Array.getElem?_eq_some_iff.1 (unhide hap).cf).1
              have cS := (cell_of_row _ _ 0 _ _ _ hRn.cs).trans rfl
              have hf1 := (hRn.keep bf (by omega) (by omega) (by omega)).trans (unhide hbf1)
              have cF := (cell_of_row _ _ 0 _ _ _ hf1).trans rfl
              obtain ⟨fb, fo, y, hfe, _, hy, hyi, cY⟩ := lst_int (hRn.lst (unhide hbV) (unhide hB) (by omega) (by omega) (by omega) (unhide hFl)) hi
              subst hfe
              clear hf1
              replace hy := hide hy
              rcases unhide hinv with hm1 | ⟨q, s, hm1, hs, _, _⟩
              · subst hm1
                clear hinv
                gi_wp2
                refine wpIn_region_frontR 6 (fun _ _ w' => Below Wb.heap.size Wb w') (fun wa wb => Below wa.heap.size wa wb)
                  (fun ix v w' => match ix with
                    | 0 => v = sv
                    | 1 => v = .slice (some ⟨fb, fo, none⟩) n fc
                    | 2 => v = .int .i64 (i : Int)
                    | 3 => v = .pointer (some ⟨fb, fo + i, none⟩)
                    | 4 => v = .int .i64 y
                    | 5 => ∃ b, v = .slice (some ⟨b, 0, none⟩) 1 1 ∧ w'.heap[b]? = some (.cells #[.int .i64 y] 3 (0, 0))
                    | _ => True) (by omega) (by rfl) (by kernel_rfl) (by rfl) ?_ ?_ ?_ ?_
                · exact (Below.refl _ _).drew
                · intro wa wb hR ix v hv
                  match ix, hv with
                  | 0, h => exact h
                  | 1, h => exact h
                  | 2, h => exact h
                  | 3, h => exact h
                  | 4, h => exact h
                  | 5, h => obtain ⟨b, h1, h2⟩ := h; exact ⟨b, h1, (hR.block b (Array.getElem?_eq_some_iff.1 h2).1).trans h2⟩
                  | _ + 6, _ => trivial
                · intro ix hix
                  obtain rfl | rfl | rfl | rfl | rfl | rfl : ix = 0 ∨ ix = 1 ∨ ix = 2 ∨ ix = 3 ∨ ix = 4 ∨ ix = 5 := by omega
                  · refine FrontStep.of [] _ rfl (by kernel_rfl) ?_
                    intro vs LL wq hLL hC hf
                    simp only [putL, List.foldl_nil]
                    have hcq := cell_under cS hC
                    go_wp2_with fail
                    first | exact Below.refl _ _ | exact ⟨Below.refl _ _, by omega⟩
                  · refine FrontStep.of [] _ rfl (by kernel_rfl) ?_
                    intro vs LL wq hLL hC hf
                    simp only [putL, List.foldl_nil]
                    have hcq := cell_under cF hC
                    go_wp2_with fail
                    first | exact Below.refl _ _ | exact ⟨Below.refl _ _, by omega⟩
                  · refine FrontStep.of [] _ rfl (by kernel_rfl) ?_
                    intro vs LL wq hLL hC hf
                    simp only [putL, List.foldl_nil]
                    go_wp2_with fail
                    first | exact Below.refl _ _ | exact ⟨Below.refl _ _, by omega⟩
                  · refine FrontStep.of [1, 2] _ rfl (by kernel_rfl) ?_
                    intro vs LL wq hLL hC hf
                    simp only [putL, List.foldl_nil, List.foldl_cons, List.getElem?_cons_zero, List.getElem?_cons_succ]
                    have e1 : vs 1 = _ := hf 1 (by simp)
                    rw [e1]
                    have e2 : vs 2 = _ := hf 2 (by simp)
                    rw [e2]
                    go_wp2_with fail
                    first | exact Below.refl _ _ | exact ⟨Below.refl _ _, by omega⟩
                  · refine FrontStep.of [3] _ rfl (by kernel_rfl) ?_
                    intro vs LL wq hLL hC hf
                    simp only [putL, List.foldl_nil, List.foldl_cons, List.getElem?_cons_zero, List.getElem?_cons_succ]
                    have e3 : vs 3 = _ := hf 3 (by simp)
                    rw [e3]
                    have hcq := cell_under cY hC
                    go_wp2_with fail
                    first | exact Below.refl _ _ | exact ⟨Below.refl _ _, by omega⟩
                  · refine FrontStep.of [4] _ rfl (by kernel_rfl) ?_
                    intro vs LL wq hLL hC hf
                    simp only [putL, List.foldl_nil, List.foldl_cons, List.getElem?_cons_zero, List.getElem?_cons_succ]
                    have e4 : vs 4 = _ := hf 4 (by simp)
                    rw [e4]
                    go_wp2_with fail
                    first | exact ⟨hC.alloc hC.size _, (Below.refl _ _).alloc (Nat.le_refl _) _, (Array.getElem?_eq_some_iff.1 (heap_alloc_new _ _)).2⟩ | exact ⟨hC.alloc hC.size _, (Below.refl _ _).alloc (Nat.le_refl _) _, heap_alloc_new _ _⟩
                · intro vs LL wq hLL hC hf
                  have e0 : vs 0 = _ := hf 0 (by omega)
                  obtain ⟨bb, e5, hbb⟩ := hf 5 (by omega)
                  rw [putSome_all]
                  simp only [putL, List.range, List.range.loop, List.foldl_nil, List.foldl_cons, List.getElem?_cons_zero, List.getElem?_cons_succ, List.drop_succ_cons, List.drop_zero]
                  rw [e0, e5]
                  clear e0 e5 hf hLL
                  have hRq := hRn.below hC
                  have hro := hRq.two.r2
                  rw [fstS_len] at hro
                  have hszq := hRq.size
                  have hbq := hC
                  clear hC
                  replace hRq := hide hRq; replace hbq := hide hbq; replace hro := hide hro
                  go_simp
                  go_wp2_with (at_builtin; refine wpList_append_one rfl _ _ rfl V.heap.size _ _ _ rfl (unhide hro) _ _ rfl hbb ?ps1 ?qs1 ?_)
                  case ps1 => omega
                  case qs1 => exact hszq
                  intro sv2 w5 hown5 hg5 hbl5
                  obtain ⟨svp, svc, rfl⟩ := own_shape hown5
                  have hps := ((unhide hRq).swap.push (y := y) (by omega) (by omega) (by omega) (by rw [fstS_len]; exact hown5) hg5 hbl5)
                  have hR6 := hps.1.swap
                  have hK6 := (keeps_below (unhide hbq)).trans hps.2.1
                  have hcs5 := hps.2.2.1
                  have hfs5 := hps.2.2.2
                  have hfe := fstS_snoc F L i (-1)
                  rw [getD_some (unhide hy)] at hfe
                  rw [← hfe] at hR6
                  clear hown5 hg5 hbl5 hps hfe hRq hbq hro hszq hbb hRn
                  obtain ⟨w6, hw6⟩ : ∃ w6, w5.setCell ⟨bs, 0, none⟩ (.slice svp (L.length + 1) svc) = w6 := ⟨_, rfl⟩
                  rw [hw6] at hR6 hK6
                  replace hR6 := hide hR6; replace hK6 := hide hK6; replace hw6 := hide hw6
                  go_wp2_with fail
                  gi_wp2
                  rw [unhide hw6]
                  clear hcs5 hfs5 hw6
                  have hRn := unhide hR6
                  clear hR6
                  have cN := (cell_of_row _ _ 0 _ _ _ hRn.cn).trans rfl
                  have hg1 := (hRn.keep bg (by omega) (by omega) (by omega)).trans (unhide hbg1)
                  have cG := (cell_of_row _ _ 0 _ _ _ hg1).trans rfl
                  obtain ⟨zb, zo, z, hze, _, hz, hzi, cZ⟩ := lst_int (hRn.lst (unhide hbV) (unhide hB) (by omega) (by omega) (by omega) (unhide hGl)) hi
                  subst hze
                  replace hz := hide hz
                  clear hg1
                  refine wpIn_region_frontR 6 (fun _ _ w' => Below w6.heap.size w6 w') (fun wa wb => Below wa.heap.size wa wb)
                    (fun ix v w' => match ix with
                      | 0 => v = nv
                      | 1 => v = .slice (some ⟨zb, zo, none⟩) n oc
                      | 2 => v = .int .i64 (i : Int)
                      | 3 => v = .pointer (some ⟨zb, zo + i, none⟩)
                      | 4 => v = .int .i64 z
                      | 5 => ∃ b, v = .slice (some ⟨b, 0, none⟩) 1 1 ∧ w'.heap[b]? = some (.cells #[.int .i64 z] 3 (0, 0))
                      | _ => True) (by omega) (by rfl) (by kernel_rfl) (by rfl) ?_ ?_ ?_ ?_
                  · exact (Below.refl _ _).drew
                  · intro wa wb hR ix v hv
                    match ix, hv with
                    | 0, h => exact h
                    | 1, h => exact h
                    | 2, h => exact h
                    | 3, h => exact h
                    | 4, h => exact h
                    | 5, h => obtain ⟨b, h1, h2⟩ := h; exact ⟨b, h1, (hR.block b (Array.getElem?_eq_some_iff.1 h2).1).trans h2⟩
                    | _ + 6, _ => trivial
                  · intro ix hix
                    obtain rfl | rfl | rfl | rfl | rfl | rfl : ix = 0 ∨ ix = 1 ∨ ix = 2 ∨ ix = 3 ∨ ix = 4 ∨ ix = 5 := by omega
                    · refine FrontStep.of [] _ rfl (by kernel_rfl) ?_
                      intro vs LL wq hLL hC hf
                      simp only [putL, List.foldl_nil]
                      have hcq := cell_under cN hC
                      go_wp2_with fail
                      first | exact Below.refl _ _ | exact ⟨Below.refl _ _, by omega⟩
                    · refine FrontStep.of [] _ rfl (by kernel_rfl) ?_
                      intro vs LL wq hLL hC hf
                      simp only [putL, List.foldl_nil]
                      have hcq := cell_under cG hC
                      go_wp2_with fail
                      first | exact Below.refl _ _ | exact ⟨Below.refl _ _, by omega⟩
                    · refine FrontStep.of [] _ rfl (by kernel_rfl) ?_
                      intro vs LL wq hLL hC hf
                      simp only [putL, List.foldl_nil]
                      go_wp2_with fail
                      first | exact Below.refl _ _ | exact ⟨Below.refl _ _, by omega⟩
                    · refine FrontStep.of [1, 2] _ rfl (by kernel_rfl) ?_
                      intro vs LL wq hLL hC hf
                      simp only [putL, List.foldl_nil, List.foldl_cons, List.getElem?_cons_zero, List.getElem?_cons_succ]
                      have e1 : vs 1 = _ := hf 1 (by simp)
                      rw [e1]
                      have e2 : vs 2 = _ := hf 2 (by simp)
                      rw [e2]
                      go_wp2_with fail
                      first | exact Below.refl _ _ | exact ⟨Below.refl _ _, by omega⟩
                    · refine FrontStep.of [3] _ rfl (by kernel_rfl) ?_
                      intro vs LL wq hLL hC hf
                      simp only [putL, List.foldl_nil, List.foldl_cons, List.getElem?_cons_zero, List.getElem?_cons_succ]
                      have e3 : vs 3 = _ := hf 3 (by simp)
                      rw [e3]
                      have hcq := cell_under cZ hC
                      go_wp2_with fail
                      first | exact Below.refl _ _ | exact ⟨Below.refl _ _, by omega⟩
                    · refine FrontStep.of [4] _ rfl (by kernel_rfl) ?_
                      intro vs LL wq hLL hC hf
                      simp only [putL, List.foldl_nil, List.foldl_cons, List.getElem?_cons_zero, List.getElem?_cons_succ]
                      have e4 : vs 4 = _ := hf 4 (by simp)
                      rw [e4]
                      go_wp2_with fail
                      first | exact ⟨hC.alloc hC.size _, (Below.refl _ _).alloc (Nat.le_refl _) _, (Array.getElem?_eq_some_iff.1 (heap_alloc_new _ _)).2⟩ | exact ⟨hC.alloc hC.size _, (Below.refl _ _).alloc (Nat.le_refl _) _, heap_alloc_new _ _⟩
                  · intro vs LL wq hLL hC hf
                    have e0 : vs 0 = _ := hf 0 (by omega)
                    obtain ⟨bb, e5, hbb⟩ := hf 5 (by omega)
                    rw [putSome_all]
                    simp only [putL, List.range, List.range.loop, List.foldl_nil, List.foldl_cons, List.getElem?_cons_zero, List.getElem?_cons_succ, List.drop_succ_cons, List.drop_zero]
                    rw [e0, e5]
                    clear e0 e5 hf hLL
                    have hRq := hRn.below hC
                    have hro := hRq.two.r1
                    rw [outS_len] at hro
                    have hszq := hRq.size
                    have hbq := hC
                    clear hC
                    replace hRq := hide hRq; replace hbq := hide hbq; replace hro := hide hro
                    go_simp
                    go_wp2_with (at_builtin; refine wpList_append_one rfl _ _ rfl V.heap.size _ _ _ rfl (unhide hro) _ _ rfl hbb ?pn2 ?qn2 ?_)
                    case pn2 => omega
                    case qn2 => exact hszq
                    intro nv2 w7 hown7 hg7 hbl7
                    obtain ⟨nvp, nvc, rfl⟩ := own_shape hown7
                    have hps := ((unhide hRq).push (y := z) (by omega) (by omega) (by omega) (by rw [outS_len]; exact hown7) hg7 hbl7)
                    have hR8 := hps.1
                    have hK8 := (unhide hK6).trans ((keeps_below (unhide hbq)).trans hps.2.1)
                    have hcs7 := hps.2.2.1
                    have hfs7 := hps.2.2.2
                    have hoe := outS_snoc x G L i (-1)
                    rw [if_neg (by decide), getD_some (unhide hz)] at hoe
                    rw [← hoe] at hR8
                    clear hown7 hg7 hbl7 hps hoe hRq hbq hro hszq hbb hRn hK6
                    obtain ⟨w8, hw8⟩ : ∃ w8, w7.setCell ⟨bn, 0, none⟩ (.slice nvp (L.length + 1) nvc) = w8 := ⟨_, rfl⟩
                    rw [hw8] at hR8 hK8
                    replace hR8 := hide hR8; replace hK8 := hide hK8; replace hw8 := hide hw8
                    go_wp2_with fail
                    gi_wp2
                    rw [unhide hw8]
                    exact ⟨unhide hK8, _, _, unhide hR8⟩
              · subst hm1
                have hql : q < xn := by rw [← unhide hxl]; exact (List.getElem?_eq_some_iff.1 hs).1
                have t0 : (0 : Int) ≤ (q : Int) := by omega
                clear hinv
                replace hs := hide hs
                gi_wp2
                refine wpIn_region_frontR 6 (fun _ _ w' => Below Wb.heap.size Wb w') (fun wa wb => Below wa.heap.size wa wb)
                  (fun ix v w' => match ix with
                    | 0 => v = sv
                    | 1 => v = .slice (some ⟨fb, fo, none⟩) n fc
                    | 2 => v = .int .i64 (i : Int)
                    | 3 => v = .pointer (some ⟨fb, fo + i, none⟩)
                    | 4 => v = .int .i64 y
                    | 5 => ∃ b, v = .slice (some ⟨b, 0, none⟩) 1 1 ∧ w'.heap[b]? = some (.cells #[.int .i64 y] 3 (0, 0))
                    | _ => True) (by omega) (by rfl) (by kernel_rfl) (by rfl) ?_ ?_ ?_ ?_
                · exact (Below.refl _ _).drew
                · intro wa wb hR ix v hv
                  match ix, hv with
                  | 0, h => exact h
                  | 1, h => exact h
                  | 2, h => exact h
                  | 3, h => exact h
                  | 4, h => exact h
                  | 5, h => obtain ⟨b, h1, h2⟩ := h; exact ⟨b, h1, (hR.block b (Array.getElem?_eq_some_iff.1 h2).1).trans h2⟩
                  | _ + 6, _ => trivial
                · intro ix hix
                  obtain rfl | rfl | rfl | rfl | rfl | rfl : ix = 0 ∨ ix = 1 ∨ ix = 2 ∨ ix = 3 ∨ ix = 4 ∨ ix = 5 := by omega
                  · refine FrontStep.of [] _ rfl (by kernel_rfl) ?_
                    intro vs LL wq hLL hC hf
                    simp only [putL, List.foldl_nil]
                    have hcq := cell_under cS hC
                    go_wp2_with fail
                    first | exact Below.refl _ _ | exact ⟨Below.refl _ _, by omega⟩
                  · refine FrontStep.of [] _ rfl (by kernel_rfl) ?_
                    intro vs LL wq hLL hC hf
                    simp only [putL, List.foldl_nil]
                    have hcq := cell_under cF hC
                    go_wp2_with fail
                    first | exact Below.refl _ _ | exact ⟨Below.refl _ _, by omega⟩
                  · refine FrontStep.of [] _ rfl (by kernel_rfl) ?_
                    intro vs LL wq hLL hC hf
                    simp only [putL, List.foldl_nil]
                    go_wp2_with fail
                    first | exact Below.refl _ _ | exact ⟨Below.refl _ _, by omega⟩
                  · refine FrontStep.of [1, 2] _ rfl (by kernel_rfl) ?_
                    intro vs LL wq hLL hC hf
                    simp only [putL, List.foldl_nil, List.foldl_cons, List.getElem?_cons_zero, List.getElem?_cons_succ]
                    have e1 : vs 1 = _ := hf 1 (by simp)
                    rw [e1]
                    have e2 : vs 2 = _ := hf 2 (by simp)
                    rw [e2]
                    go_wp2_with fail
                    first | exact Below.refl _ _ | exact ⟨Below.refl _ _, by omega⟩
                  · refine FrontStep.of [3] _ rfl (by kernel_rfl) ?_
                    intro vs LL wq hLL hC hf
                    simp only [putL, List.foldl_nil, List.foldl_cons, List.getElem?_cons_zero, List.getElem?_cons_succ]
                    have e3 : vs 3 = _ := hf 3 (by simp)
                    rw [e3]
                    have hcq := cell_under cY hC
                    go_wp2_with fail
                    first | exact Below.refl _ _ | exact ⟨Below.refl _ _, by omega⟩
                  · refine FrontStep.of [4] _ rfl (by kernel_rfl) ?_
                    intro vs LL wq hLL hC hf
                    simp only [putL, List.foldl_nil, List.foldl_cons, List.getElem?_cons_zero, List.getElem?_cons_succ]
                    have e4 : vs 4 = _ := hf 4 (by simp)
                    rw [e4]
                    go_wp2_with fail
                    first | exact ⟨hC.alloc hC.size _, (Below.refl _ _).alloc (Nat.le_refl _) _, (Array.getElem?_eq_some_iff.1 (heap_alloc_new _ _)).2⟩ | exact ⟨hC.alloc hC.size _, (Below.refl _ _).alloc (Nat.le_refl _) _, heap_alloc_new _ _⟩
                · intro vs LL wq hLL hC hf
                  have e0 : vs 0 = _ := hf 0 (by omega)
                  obtain ⟨bb, e5, hbb⟩ := hf 5 (by omega)
                  rw [putSome_all]
                  simp only [putL, List.range, List.range.loop, List.foldl_nil, List.foldl_cons, List.getElem?_cons_zero, List.getElem?_cons_succ, List.drop_succ_cons, List.drop_zero]
                  rw [e0, e5]
                  clear e0 e5 hf hLL
                  have hRq := hRn.below hC
                  have hro := hRq.two.r2
                  rw [fstS_len] at hro
                  have hszq := hRq.size
                  have hbq := hC
                  clear hC
                  replace hRq := hide hRq; replace hbq := hide hbq; replace hro := hide hro
                  go_simp
                  go_wp2_with (at_builtin; refine wpList_append_one rfl _ _ rfl V.heap.size _ _ _ rfl (unhide hro) _ _ rfl hbb ?ps3 ?qs3 ?_)
                  case ps3 => omega
                  case qs3 => exact hszq
                  intro sv2 w5 hown5 hg5 hbl5
                  obtain ⟨svp, svc, rfl⟩ := own_shape hown5
                  have hps := ((unhide hRq).swap.push (y := y) (by omega) (by omega) (by omega) (by rw [fstS_len]; exact hown5) hg5 hbl5)
                  have hR6 := hps.1.swap
                  have hK6 := (keeps_below (unhide hbq)).trans hps.2.1
                  have hcs5 := hps.2.2.1
                  have hfs5 := hps.2.2.2
                  have hfe := fstS_snoc F L i (q : Int)
                  rw [getD_some (unhide hy)] at hfe
                  rw [← hfe] at hR6
                  clear hown5 hg5 hbl5 hps hfe hRq hbq hro hszq hbb hRn
                  obtain ⟨w6, hw6⟩ : ∃ w6, w5.setCell ⟨bs, 0, none⟩ (.slice svp (L.length + 1) svc) = w6 := ⟨_, rfl⟩
                  rw [hw6] at hR6 hK6
                  replace hR6 := hide hR6; replace hK6 := hide hK6; replace hw6 := hide hw6
                  go_wp2_with fail
                  gi_wp2
                  rw [unhide hw6]
                  clear hcs5 hfs5 hw6
                  have hRn := unhide hR6
                  clear hR6
                  have cN := (cell_of_row _ _ 0 _ _ _ hRn.cn).trans rfl
                  have hb1 := (hRn.keep B (by omega) (by omega) (by omega)).trans (unhide hb9)
                  have cB := (cell_of_row _ _ 0 _ _ _ hb1).trans rfl
                  obtain ⟨xb, xo, s', a1, n1, c1, a2, n2, c2, a3, n3, c3, hxe, _, hs', ⟨_, _, _⟩, ⟨_, _, _⟩, ⟨_, _, _⟩, hti, k1, k2, k3, cT⟩ := lst_sub (hRn.lst (unhide hbV) (unhide hB) (by omega) (by omega) (by omega) (unhide hlx)) hql
                  subst hxe
                  rw [unhide hs] at hs'
                  cases hs'
                  obtain ⟨tv, htv⟩ : ∃ tv, s.2.2.2 = tv := ⟨_, rfl⟩
                  have htS : toS x (q : Int) = tv := by unfold toS; rw [Int.toNat_natCast, unhide hs]; exact htv
                  rw [htv] at cT
                  clear k1 k2 k3 hti htv hb1
                  replace htS := hide htS
                  refine wpIn_region_frontR 8 (fun _ _ w' => Below w6.heap.size w6 w') (fun wa wb => Below wa.heap.size wa wb)
                    (fun ix v w' => match ix with
                      | 0 => v = nv
                      | 1 => v = .pointer (some ⟨B, 0, none⟩)
                      | 2 => v = .slice (some ⟨xb, xo, none⟩) xn xc
                      | 3 => v = .int .i64 (q : Int)
                      | 4 => v = .pointer (some ⟨xb, xo + q * 4, none⟩)
                      | 5 => v = .pointer (some ⟨xb, xo + q * 4 + 3, none⟩)
                      | 6 => v = .int .i64 tv
                      | 7 => ∃ b, v = .slice (some ⟨b, 0, none⟩) 1 1 ∧ w'.heap[b]? = some (.cells #[.int .i64 tv] 3 (0, 0))
                      | _ => True) (by omega) (by rfl) (by kernel_rfl) (by rfl) ?_ ?_ ?_ ?_
                  · exact (Below.refl _ _).drew
                  · intro wa wb hR ix v hv
                    match ix, hv with
                    | 0, h => exact h
                    | 1, h => exact h
                    | 2, h => exact h
                    | 3, h => exact h
                    | 4, h => exact h
                    | 5, h => exact h
                    | 6, h => exact h
                    | 7, h => obtain ⟨b, h1, h2⟩ := h; exact ⟨b, h1, (hR.block b (Array.getElem?_eq_some_iff.1 h2).1).trans h2⟩
                    | _ + 8, _ => trivial
                  · intro ix hix
                    obtain rfl | rfl | rfl | rfl | rfl | rfl | rfl | rfl : ix = 0 ∨ ix = 1 ∨ ix = 2 ∨ ix = 3 ∨ ix = 4 ∨ ix = 5 ∨ ix = 6 ∨ ix = 7 := by omega
                    · refine FrontStep.of [] _ rfl (by kernel_rfl) ?_
                      intro vs LL wq hLL hC hf
                      simp only [putL, List.foldl_nil]
                      have hcq := cell_under cN hC
                      go_wp2_with fail
                      first | exact Below.refl _ _ | exact ⟨Below.refl _ _, by omega⟩
                    · refine FrontStep.of [] _ rfl (by kernel_rfl) ?_
                      intro vs LL wq hLL hC hf
                      simp only [putL, List.foldl_nil]
                      go_wp2_with fail
                      first | exact Below.refl _ _ | exact ⟨Below.refl _ _, by omega⟩
                    · refine FrontStep.of [1] _ rfl (by kernel_rfl) ?_
                      intro vs LL wq hLL hC hf
                      simp only [putL, List.foldl_nil, List.foldl_cons, List.getElem?_cons_zero, List.getElem?_cons_succ]
                      have e1 : vs 1 = _ := hf 1 (by simp)
                      rw [e1]
                      have hcq := cell_under cB hC
                      go_wp2_with fail
                      first | exact Below.refl _ _ | exact ⟨Below.refl _ _, by omega⟩
                    · refine FrontStep.of [] _ rfl (by kernel_rfl) ?_
                      intro vs LL wq hLL hC hf
                      simp only [putL, List.foldl_nil]
                      go_wp2_with fail
                      first | exact Below.refl _ _ | exact ⟨Below.refl _ _, by omega⟩
                    · refine FrontStep.of [2, 3] _ rfl (by kernel_rfl) ?_
                      intro vs LL wq hLL hC hf
                      simp only [putL, List.foldl_nil, List.foldl_cons, List.getElem?_cons_zero, List.getElem?_cons_succ]
                      have e2 : vs 2 = _ := hf 2 (by simp)
                      rw [e2]
                      have e3 : vs 3 = _ := hf 3 (by simp)
                      rw [e3]
                      go_wp2_with fail
                      first | exact Below.refl _ _ | exact ⟨Below.refl _ _, by omega⟩
                    · refine FrontStep.of [4] _ rfl (by kernel_rfl) ?_
                      intro vs LL wq hLL hC hf
                      simp only [putL, List.foldl_nil, List.foldl_cons, List.getElem?_cons_zero, List.getElem?_cons_succ]
                      have e4 : vs 4 = _ := hf 4 (by simp)
                      rw [e4]
                      go_wp2_with fail
                      first | exact Below.refl _ _ | exact ⟨Below.refl _ _, by omega⟩
                    · refine FrontStep.of [5] _ rfl (by kernel_rfl) ?_
                      intro vs LL wq hLL hC hf
                      simp only [putL, List.foldl_nil, List.foldl_cons, List.getElem?_cons_zero, List.getElem?_cons_succ]
                      have e5 : vs 5 = _ := hf 5 (by simp)
                      rw [e5]
                      have hcq := cell_under cT hC
                      go_wp2_with fail
                      first | exact Below.refl _ _ | exact ⟨Below.refl _ _, by omega⟩
                    · refine FrontStep.of [6] _ rfl (by kernel_rfl) ?_
                      intro vs LL wq hLL hC hf
                      simp only [putL, List.foldl_nil, List.foldl_cons, List.getElem?_cons_zero, List.getElem?_cons_succ]
                      have e6 : vs 6 = _ := hf 6 (by simp)
                      rw [e6]
                      go_wp2_with fail
                      first | exact ⟨hC.alloc hC.size _, (Below.refl _ _).alloc (Nat.le_refl _) _, (Array.getElem?_eq_some_iff.1 (heap_alloc_new _ _)).2⟩ | exact ⟨hC.alloc hC.size _, (Below.refl _ _).alloc (Nat.le_refl _) _, heap_alloc_new _ _⟩
                  · intro vs LL wq hLL hC hf
                    have e0 : vs 0 = _ := hf 0 (by omega)
                    obtain ⟨bb, e7, hbb⟩ := hf 7 (by omega)
                    rw [putSome_all]
                    simp only [putL, List.range, List.range.loop, List.foldl_nil, List.foldl_cons, List.getElem?_cons_zero, List.getElem?_cons_succ, List.drop_succ_cons, List.drop_zero]
                    rw [e0, e7]
                    clear e0 e7 hf hLL
                    have hRq := hRn.below hC
                    have hro := hRq.two.r1
                    rw [outS_len] at hro
                    have hszq := hRq.size
                    have hbq := hC
                    clear hC
                    replace hRq := hide hRq; replace hbq := hide hbq; replace hro := hide hro
                    go_simp
                    go_wp2_with (at_builtin; refine wpList_append_one rfl _ _ rfl V.heap.size _ _ _ rfl (unhide hro) _ _ rfl hbb ?pn4 ?qn4 ?_)
                    case pn4 => omega
                    case qn4 => exact hszq
                    intro nv2 w7 hown7 hg7 hbl7
                    obtain ⟨nvp, nvc, rfl⟩ := own_shape hown7
                    have hps := ((unhide hRq).push (y := tv) (by omega) (by omega) (by omega) (by rw [outS_len]; exact hown7) hg7 hbl7)
                    have hR8 := hps.1
                    have hK8 := (unhide hK6).trans ((keeps_below (unhide hbq)).trans hps.2.1)
                    have hcs7 := hps.2.2.1
                    have hfs7 := hps.2.2.2
                    have hoe := outS_snoc x G L i (q : Int)
                    rw [if_pos (by omega), unhide htS] at hoe
                    rw [← hoe] at hR8
                    clear hown7 hg7 hbl7 hps hoe hRq hbq hro hszq hbb hRn hK6
                    obtain ⟨w8, hw8⟩ : ∃ w8, w7.setCell ⟨bn, 0, none⟩ (.slice nvp (L.length + 1) nvc) = w8 := ⟨_, rfl⟩
                    rw [hw8] at hR8 hK8
                    replace hR8 := hide hR8; replace hK8 := hide hK8; replace hw8 := hide hw8
                    go_wp2_with fail
                    gi_wp2
                    rw [unhide hw8]
                    exact ⟨unhide hK8, _, _, unhide hR8⟩
          case hdone =>
            rintro W' D ⟨nv, sv, hRn⟩ hdef hD
            have hq := unhide hord
            have hn1 : W.heap.size ≤ bn := by rw [unhide hB]; omega
            have hn2 : W.heap.size ≤ bs := by rw [unhide hB]; omega
            have hbV1 : Below W.heap.size W V := by rw [unhide hB]; exact unhide hbV
            obtain ⟨np, nc, rfl⟩ := own_shape hRn.two.r1
            obtain ⟨sp, sc, rfl⟩ := own_shape hRn.two.r2
            have cN := (cell_of_row _ _ 0 _ _ _ hRn.cn).trans rfl
            have cS := (cell_of_row _ _ 0 _ _ _ hRn.cs).trans rfl
            have hnx := fun wq hb => Ap.next (wq := wq) (unhide hap) hbV1 hRn hb hn1 hn2
            have hs2 : applyS (l.take (k + 1)) g = (outS x G (stepsS x G), fstS F (stepsS x G)) := (unhide hsucc).trans rfl
            have hDW : W.heap.size ≤ D := Nat.le_trans hbV1.size hD
            obtain ⟨A, hA⟩ : ∃ A, outS x G (stepsS x G) = A := ⟨_, rfl⟩
            obtain ⟨C, hC'⟩ : ∃ C, fstS F (stepsS x G) = C := ⟨_, rfl⟩
            rw [hA, hC'] at hs2
            simp only [hA, hC'] at hnx cN cS
            obtain ⟨An, hAn⟩ : ∃ An, A.length = An := ⟨_, rfl⟩
            obtain ⟨Cn, hCn⟩ : ∃ Cn, C.length = Cn := ⟨_, rfl⟩
            simp only [hAn, hCn] at hnx cN cS
            clear hRn hbV1 hn1 hn2 hA hC' hAn hCn
            replace hnx := hide hnx; replace hs2 := hide hs2; replace hdef := hide hdef; replace hD := hide hD
            go_wp2_with fail
            have wr0 : W'.cell? ⟨bg, 0, none⟩ = some _ := (unhide hnx W' (Below.refl _ _)).2.1
            have wr1 := (unhide hnx W' (Below.refl _ _)).2.2.1
            have hne1 : (⟨bg, 0, none⟩ : Addr) ≠ ⟨bn, 0, none⟩ := fun e => by injection e with e1; have := (Array.getElem?_eq_some_iff.1 (unhide hap).cg).1; rw [unhide hB] at this; omega
            have hne2 : (⟨bg, 0, none⟩ : Addr) ≠ ⟨bs, 0, none⟩ := fun e => by injection e with e1; have := (Array.getElem?_eq_some_iff.1 (unhide hap).cg).1; rw [unhide hB] at this; omega
            have cN2 : (W'.setCell ⟨bg, 0, none⟩ (.slice np An nc)).cell? ⟨bn, 0, none⟩ = some (.slice np An nc) := by rw [World.cell?_setCell_other] <;> first | exact cN | exact hne1
            have cS2 : (W'.setCell ⟨bg, 0, none⟩ (.slice np An nc)).cell? ⟨bs, 0, none⟩ = some (.slice sp Cn sc) := by rw [World.cell?_setCell_other] <;> first | exact cS | exact hne2
            refine wp_region_frontG 3 (fun LL _ w' => ∃ j, w' = if LL 2 = true then (W'.setCell ⟨bg, 0, none⟩ (.slice np An nc)).drewN j else W'.drewN j) (fun _ _ => True)
              (fun ix v _ => match ix with
                | 0 => v = .slice np An nc
                | 1 => v = .slice sp Cn sc
                | _ => True) (by rfl) (by kernel_rfl) ?_ ?_ ?_ ?_
            · exact ⟨1, rfl⟩
            · intro wa wb hR ix v hv
              match ix, hv with
              | 0, h => exact h
              | 1, h => exact h
              | _ + 2, _ => trivial
            · intro ix hix
              obtain rfl | rfl | rfl : ix = 0 ∨ ix = 1 ∨ ix = 2 := by omega
              · refine FrontStep.of [] _ rfl (by kernel_rfl) ?_
                intro vs LL wq hLL hC hf
                simp only [putL, List.foldl_nil]
                obtain ⟨j, hj⟩ := hC
                by_cases h2 : LL 2 = true
                · rw [if_pos h2] at hj
                  subst hj
                  have hcq : ((W'.setCell ⟨bg, 0, none⟩ (.slice np An nc)).drewN j).cell? ⟨bn, 0, none⟩ = _ := cN2
                  go_wp2_with fail
                  first | exact ⟨j, by simp⟩ | exact ⟨j, rfl⟩
                · rw [if_neg h2] at hj
                  subst hj
                  have hcq : (W'.drewN j).cell? ⟨bn, 0, none⟩ = _ := cN
                  go_wp2_with fail
                  first | exact ⟨j, by simp⟩ | exact ⟨j, rfl⟩
              · refine FrontStep.of [] _ rfl (by kernel_rfl) ?_
                intro vs LL wq hLL hC hf
                simp only [putL, List.foldl_nil]
                obtain ⟨j, hj⟩ := hC
                by_cases h2 : LL 2 = true
                · rw [if_pos h2] at hj
                  subst hj
                  have hcq : ((W'.setCell ⟨bg, 0, none⟩ (.slice np An nc)).drewN j).cell? ⟨bs, 0, none⟩ = _ := cS2
                  go_wp2_with fail
                  first | exact ⟨j, by simp⟩ | exact ⟨j, rfl⟩
                · rw [if_neg h2] at hj
                  subst hj
                  have hcq : (W'.drewN j).cell? ⟨bs, 0, none⟩ = _ := cS
                  go_wp2_with fail
                  first | exact ⟨j, by simp⟩ | exact ⟨j, rfl⟩
              · refine FrontStep.of [0] _ rfl (by kernel_rfl) ?_
                intro vs LL wq hLL hC hf
                simp only [putL, List.foldl_nil, List.foldl_cons, List.getElem?_cons_zero]
                have e0 : vs 0 = _ := hf 0 (by simp)
                rw [e0]
                obtain ⟨j, hj⟩ := hC
                rw [if_neg (by rw [hLL]; decide)] at hj
                subst hj
                have hcq : (W'.drewN j).cell? ⟨bg, 0, none⟩ = _ := wr0
                have hfq : (W'.drewN j).frozen? ⟨bg, 0, none⟩ = false := wr1
                go_wp2_with fail
                exact ⟨j, rfl⟩
            · intro vs LL wq hLL hC hf
              have e0 : vs 0 = _ := hf 0 (by omega)
              have e1 : vs 1 = _ := hf 1 (by omega)
              have hL2 := hLL 2 (by omega)
              obtain ⟨j, hj⟩ := hC
              rw [if_pos hL2] at hj
              subst hj
              rw [putSome_all]
              simp only [putL, List.range, List.range.loop, List.foldl_nil, List.foldl_cons, List.getElem?_cons_zero, List.getElem?_cons_succ, List.drop_succ_cons, List.drop_zero]
              rw [e0, e1]
              clear e0 e1 hf hLL hL2
              obtain ⟨hap6, -, -, c2, f2, hE6, hD6⟩ := unhide hnx (W'.drewN j) (blw_drewN (Below.refl _ _) j)
              have c2' : ((W'.setCell ⟨bg, 0, none⟩ (.slice np An nc)).drewN j).cell? ⟨bf, 0, none⟩ = _ := c2
              have f2' : ((W'.setCell ⟨bg, 0, none⟩ (.slice np An nc)).drewN j).frozen? ⟨bf, 0, none⟩ = false := f2
              clear c2 f2
              replace hap6 := hide hap6; replace hE6 := hide hE6; replace hD6 := hide hD6
              go_wp2_with fail
              refine Handed.intro gq (by omega) (hJ _ _ _ ?_)
              refine ⟨k + 1, D :: Dl, .slice np An nc, .slice sp Cn sc, rfl, ⟨rfl, rfl, rfl, rfl, rfl, by first | (show Value.int .i64 (wrap64 ((k : Int) + 1)) = _; go_num) | (show Value.int .i64 ((k : Int) + 1) = _; go_num)⟩, by omega, ?_, ?_⟩
              · obtain ⟨m1, m2, m3⟩ := unhide hmk
                refine ⟨by rw [m1]; rfl, List.nodup_cons.2 ⟨fun hin => ?_, m2⟩, fun E hE => ?_⟩
                · have := (Array.getElem?_eq_some_iff.1 (m3 D hin).2).1
                  omega
                · rcases List.mem_cons.1 hE with rfl | hE
                  · exact ⟨Nat.le_trans (unhide hap).bel.size hDW, unhide hD6 _ _ (unhide hD) (unhide hdef)⟩
                  · exact ⟨(m3 E hE).1, unhide hE6 _ _ (m3 E hE).2⟩
              · rw [unhide hs2]
                exact unhide hap6
        · obtain rfl : k = ln := by omega
          have htk : l.take k = l := List.take_of_length_le (by rw [unhide hll]; exact Nat.le_refl _)
          rw [htk] at hap
          have cg := (cell_of_row _ _ 0 _ _ _ hap.cg).trans rfl
          have cf := (cell_of_row _ _ 0 _ _ _ hap.cf).trans rfl
          obtain ⟨p0, q0, rfl⟩ := own_shape hap.two.r1
          obtain ⟨p1, q1, rfl⟩ := own_shape hap.two.r2
          obtain ⟨A, hA⟩ : ∃ A, applyS l g = A := ⟨_, rfl⟩
          rw [hA] at hap cg cf
          obtain ⟨An, hAn⟩ : ∃ An, A.1.length = An := ⟨_, rfl⟩
          obtain ⟨Cn, hCn⟩ : ∃ Cn, A.2.length = Cn := ⟨_, rfl⟩
          rw [hAn] at cg
          rw [hCn] at cf
          clear htk
          replace hap := hide hap; replace hmk := hide hmk; replace hA := hide hA; replace hAn := hide hAn; replace hCn := hide hCn
          go_wp2_with fail
          go_quiet (fail)
          go_wp2_with fail
          refine leaves_marks w.heap.size (fun W' => Two W' w.heap.size (.slice p0 An q0) A.1 (.slice p1 Cn q1) A.2 ∧ Below w.heap.size w W') ?_ ?_ Dl ds _ ?_ ?_
          · rintro W' D o o' hd ho hD ⟨h1, h2⟩
            exact ⟨⟨ownsRow_putObj h1.r1 _ hd ho, ownsRow_putObj h1.r2 _ hd ho, h1.ap⟩, below_put h2 hD⟩
          · rintro W' ⟨h1, h2⟩
            refine ⟨_, results_tmp2 rfl _ _ _, _, _, rfl, ?_, h2⟩
            rw [unhide hA]
            exact h1
          · exact unhide hmk
          · rw [← unhide hAn, ← unhide hCn]
            exact ⟨(unhide hap).two.below (blw_drewN (Below.refl _ _) _), blw_drewN (unhide hap).bel _⟩
end Go.Proofs.Ytfbgbbbfpkpfkaa
