/- Lookups: Made. -/
import Derived.Test.YtfbgbbbfpkpfkaaSb16
namespace Go.Proofs.Ytfbgbbbfpkpfkaa
open Go.RowKit
def GoodS (s : Sub) (gm : Int) : Prop := (1 ≤ s.2.1.length ∧ s.2.1.length ≤ 3 ∧ s.1.length ≤ 2 ∧ s.2.2.1.length ≤ 2) ∧ (∀ x ∈ s.1, 0 ≤ x ∧ x < gm) ∧ (∀ x ∈ s.2.1, 0 ≤ x ∧ x < gm) ∧ (∀ x ∈ s.2.2.1, 0 ≤ x ∧ x < gm) ∧ 0 ≤ s.2.2.2 ∧ s.2.2.2 < gm
def GoodL (l : List (List Sub)) (gm : Int) : Prop := l.length ≤ 3 ∧ ∀ x ∈ l, x.length ≤ 3 ∧ ∀ s ∈ x, GoodS s gm
/-- the lookup in the making -/
structure MI (w wo W : World) (B b0 bx : Nat) (vx : Value) (lx : List Sub) : Prop where
  bel : Below B w W
  draw : DrawAt W b0 (· < B)
  old : ∀ b, b0 < b → b < bx → W.heap[b]? = wo.heap[b]?
  cx : W.heap[bx]? = some (.cells #[vx] 37 (0, 0))
  row : OwX Enc.sub W bx 56 vx lx
  ord : B ≤ b0 ∧ b0 < bx
theorem MI.lt {w wo W : World} {B b0 bx : Nat} {vx : Value} {lx : List Sub} (h : MI w wo W B b0 bx vx lx) : bx < W.heap.size := (Array.getElem?_eq_some_iff.1 h.cx).1
theorem MI.kept {w wo W W' : World} {B b0 bx : Nat} {vx : Value} {lx : List Sub} (h : MI w wo W B b0 bx vx lx) (hb : Below B w W') (hd : DrawAt W' b0 (· < B)) (hk : ∀ b, b0 < b → b < W.heap.size → W'.heap[b]? = W.heap[b]?) (hs : W.heap.size ≤ W'.heap.size) : MI w wo W' B b0 bx vx lx := by
  have hl := h.lt
  obtain ⟨o1, o2⟩ := h.ord
  exact ⟨hb, hd, fun b h1 h2 => (hk b h1 (by omega)).trans (h.old b h1 h2), (hk bx o2 hl).trans h.cx, h.row.kept (fun b h1 h2 => hk b (by omega) h2) hs, o1, o2⟩
theorem MI.next {w wo W W' : World} {B b0 bx : Nat} {vx : Value} {lx : List Sub} (h : MI w wo W B b0 bx vx lx) (hB : w.heap.size = B) (hg : W.grownBy W' (some b0)) (hd : DrawAt W' b0 (· < B)) : MI w wo W' B b0 bx vx lx :=
  h.kept (h.bel.grown hg (by have := h.bel.size; omega) (fun k e => by cases e; exact h.ord.1)) hd (fun b h1 h2 => hg.block b h2 (fun e => by injection e; omega)) hg.size
/-- the substitution in the making: its box -/
structure MB (w Wp W : World) (B b0 bs : Nat) (cs : Array Value) : Prop where
  bel : Below B w W
  draw : DrawAt W b0 (· < B)
  old : ∀ b, b0 < b → b < Wp.heap.size → W.heap[b]? = Wp.heap[b]?
  cb : W.heap[bs]? = some (.cells cs 56 (0, 0))
  ord : B ≤ b0 ∧ b0 < Wp.heap.size ∧ bs = Wp.heap.size
theorem MB.lt {w Wp W : World} {B b0 bs : Nat} {cs : Array Value} (h : MB w Wp W B b0 bs cs) : bs < W.heap.size := (Array.getElem?_eq_some_iff.1 h.cb).1
theorem MB.next {w Wp W W' : World} {B b0 bs : Nat} {cs : Array Value} (h : MB w Wp W B b0 bs cs) (hB : w.heap.size = B) (hg : W.grownBy W' (some b0)) (hd : DrawAt W' b0 (· < B)) : MB w Wp W' B b0 bs cs := by
  obtain ⟨o1, o2, o3⟩ := h.ord
  have hl := h.lt
  exact ⟨h.bel.grown hg (by have := h.bel.size; omega) (fun k e => by cases e; exact o1), hd, fun b h1 h2 => (hg.block b (by omega) (fun e => by injection e; omega)).trans (h.old b h1 h2), (hg.block bs hl (fun e => by injection e; omega)).trans h.cb, o1, o2, o3⟩
/-- a row of the substitution in the making -/
structure MQ (w W0 W : World) (B b0 bs : Nat) (gm : Int) (cs : Array Value) (v : Value) (xs : List Int) : Prop where
  bel : Below B w W
  draw : DrawAt W b0 (· < B)
  old : ∀ b, b0 < b → b < W0.heap.size → b ≠ bs → W.heap[b]? = W0.heap[b]?
  cb : W.heap[bs]? = some (.cells cs 56 (0, 0))
  row : W.ownsRow W0.heap.size 3 1 v xs.length (vints xs)
  good : ∀ x ∈ xs, 0 ≤ x ∧ x < gm
  ord : B ≤ b0 ∧ b0 < bs ∧ bs < W0.heap.size ∧ W0.heap.size ≤ W.heap.size
theorem MQ.start {w Wp W0 : World} {B b0 bs : Nat} {cs : Array Value} (h : MB w Wp W0 B b0 bs cs) (gm : Int) : MQ w W0 W0 B b0 bs gm cs (.slice none 0 0) [] := by
  obtain ⟨o1, o2, o3⟩ := h.ord
  exact ⟨h.bel, h.draw, fun b _ _ _ => rfl, h.cb, World.ownsRow_nil _ _ _ _, fun x hx => (by cases hx), o1, by omega, h.lt, Nat.le_refl _⟩
theorem MQ.back {w Wp W0 W : World} {B b0 bs : Nat} {gm : Int} {cs cs' : Array Value} {v : Value} {xs : List Int} (h : MQ w W0 W B b0 bs gm cs' v xs) (hb : MB w Wp W0 B b0 bs cs) : MB w Wp W B b0 bs cs' := by
  obtain ⟨o1, o2, o3⟩ := hb.ord
  have hl := hb.lt
  exact ⟨h.bel, h.draw, fun b h1 h2 => (h.old b h1 (by omega) (by omega)).trans (hb.old b h1 h2), h.cb, o1, o2, o3⟩
/-- a row that was ready before stays -/
theorem MQ.stays {w W0 W : World} {B b0 bs Br n : Nat} {gm : Int} {cs : Array Value} {v u : Value} {xs ys : List Int} (h : MQ w W0 W B b0 bs gm cs v xs) (hu : W0.ownsRow Br 3 1 u n (vints ys)) (hBr : b0 < Br) (hcb : ∃ cs0, W0.heap[bs]? = some (.cells cs0 56 (0, 0))) : W.ownsRow Br 3 1 u n (vints ys) := by
  obtain ⟨cs0, hc⟩ := hcb
  have hne := own_ne_blk hu hc (by decide)
  exact own_same hu (fun b hb => h.old b (by have := (hu.lt b hb).1; omega) (hu.lt b hb).2 (fun e => hne (by rw [hb, e])))
/-- a round -/
theorem MQ.push {w W0 W wq W5 : World} {B b0 bs q : Nat} {gm : Int} {cs : Array Value} {v v' : Value} {xs : List Int} {y : Int} (h : MQ w W0 W B b0 bs gm cs v xs) (_ : w.heap.size = B) (ho : Old W wq b0 v) (hd : DrawAt wq b0 (· < B)) (hy : 0 ≤ y ∧ y < gm) (hr : wq.ownsRow W0.heap.size 3 1 v' (xs.length + 1) (vints (xs ++ [y]))) (h5 : wq.setCell ⟨bs, q, none⟩ v' = W5) :
    MQ w W0 W5 B b0 bs gm (cs.setIfInBounds q v') v' (xs ++ [y]) ∧ wq.heap[bs]? = some (.cells cs 56 (0, 0)) := by
  subst h5
  obtain ⟨o1, o2, o3, o4⟩ := h.ord
  have hne := own_ne_blk h.row h.cb (by decide)
  have hlt := (Array.getElem?_eq_some_iff.1 h.cb).1
  have cq : wq.heap[bs]? = some (.cells cs 56 (0, 0)) := (ho.block bs hlt hne (by omega)).trans h.cb
  have g6 : wq.grownBy (wq.setCell ⟨bs, q, none⟩ v') (some bs) := grown_set bs q _
  have hbw := h.bel.size
  have own_lt : ∀ b, v.ownBlock = some b → W0.heap.size ≤ b := fun b hb => (h.row.lt b hb).1
  refine ⟨⟨?_, ?_, fun b h1 h2 h3 => ?_, heap_set cq v', ?_, fun x hx => ?_, o1, o2, o3, ?_⟩, cq⟩
  · refine h.bel.trans ⟨ho.os, ho.tape, ho.output, Nat.le_trans ho.size g6.size, fun k hk => ?_⟩
    have e1 := ho.block k (by omega) (fun e => by have := own_lt k e; omega) (by omega)
    exact (g6.block k (by have := ho.size; omega) (fun e => by injection e; omega)).trans e1
  · exact hd.same (g6.block b0 hd.lt (fun e => by injection e; omega)) (fun c hc => g6.block c (by have := ho.size; omega) (fun e => by injection e; omega))
  · have e1 := ho.block b (by omega) (fun e => by have := own_lt b e; omega) (by omega)
    exact (g6.block b (by have := ho.size; omega) (fun e => by injection e with e; exact h3 e)).trans (e1.trans (h.old b h1 h2 h3))
  · rw [List.length_append]
    exact hr.kept g6 (.inr (own_ne_blk hr cq (by decide)))
  · rcases List.mem_append.1 hx with hx | hx
    · exact h.good x hx
    · simp at hx
      subst hx
      exact hy
  · exact Nat.le_trans o4 (Nat.le_trans ho.size g6.size)
theorem own_lst2 {w : World} {base n : Nat} {v : Value} {l : List Int} (h : w.ownsRow base 3 1 v n (vints l)) (hl : ∀ x ∈ l, I64 x) : ∃ a c, v = .slice a l.length c ∧ l.length ≤ c ∧ c ≤ maxLen ∧ Lst Enc.int w (fun b => base ≤ b ∧ b < w.heap.size) a l.length l := by
  have hn : n = l.length := by have := h.1; rw [vints_len] at this; omega
  subst hn
  have h0 := h
  rcases h.2 with ⟨rfl, h0'⟩ | ⟨g, cap, cur, rfl, hb, hg, hnc, hcm, _⟩
  · have : l = [] := List.eq_nil_of_length_eq_zero h0'
    subst this
    exact ⟨none, 0, rfl, Nat.le_refl _, Nat.zero_le _, Lst.nil _ _ _ _⟩
  · have h1 := (lst_own h0 hl).1
    refine ⟨_, cap, rfl, hnc, hcm, rfl, fun hpos => ?_⟩
    obtain ⟨b, off, he, _, hc⟩ := h1.2 hpos
    have hbg : b = g := by injection he with he; injection he with he _; exact he.symm
    exact ⟨b, off, he, by rw [hbg]; exact ⟨hb, (Array.getElem?_eq_some_iff.1 hg).1⟩, hc⟩
theorem good_i64 {l : List Int} {gm : Nat} (hg : gm ≤ 100) (h : ∀ x ∈ l, 0 ≤ x ∧ x < (gm : Int)) : ∀ x ∈ l, I64 x := fun x hx => by have := h x hx; exact ⟨by omega, by omega⟩
theorem MI.push {w wo W w' : World} {B b0 bx : Nat} {vx v' : Value} {lx : List Sub} {s : Sub} {o : Obj} (h : MI w wo W B b0 bx vx lx) (hB : w.heap.size = B) (ho : OwX Enc.sub w' bx 56 v' (lx ++ [s])) (hg : (W.alloc o).grownBy w' vx.ownBlock) :
    MI w wo (w'.setCell ⟨bx, 0, none⟩ v') B b0 bx v' (lx ++ [s]) ∧ w'.cell? ⟨bx, 0, none⟩ = some vx ∧ w'.frozen? ⟨bx, 0, none⟩ = false := by
  have hl := h.lt
  obtain ⟨o1, o2⟩ := h.ord
  have hvx : ∀ b, vx.ownBlock = some b → bx < b := fun b hb => by
    obtain ⟨ys, q1, _⟩ := h.row
    exact (q1.lt b hb).1
  have hsz := hg.size
  rw [World.size_alloc] at hsz
  have e1 : ∀ b, b < W.heap.size → b ≤ bx → w'.heap[b]? = W.heap[b]? := fun b hb hle => (hg.block b (by rw [World.size_alloc]; omega) (fun e => by have := hvx b e.symm; omega)).trans (Below.heap_alloc W _ _ hb)
  have cx := (e1 bx hl (Nat.le_refl _)).trans h.cx
  have g6 : w'.grownBy (w'.setCell ⟨bx, 0, none⟩ v') (some bx) := grown_set bx 0 _
  have e2 : ∀ b, b < W.heap.size → b < bx → (w'.setCell ⟨bx, 0, none⟩ v').heap[b]? = W.heap[b]? := fun b hb hlt => (g6.block b (by omega) (fun e => by injection e; omega)).trans (e1 b hb (by omega))
  have hbs := h.bel.size
  refine ⟨⟨⟨?_, ?_, ?_, ?_, fun k hk => ?_⟩, ?_, fun b h1 h2 => ?_, heap_set (off := 0) cx _, ho.kept (fun b h1 h2 => g6.block b h2 (fun e => by injection e; omega)) g6.size, o1, o2⟩, (cell_of_row _ _ 0 _ _ _ cx).trans rfl, by simp [World.frozen?, cx]⟩
  · exact g6.os.trans (hg.os.trans h.bel.os)
  · exact g6.tape.trans (hg.tape.trans h.bel.tape)
  · exact g6.output.trans (hg.output.trans h.bel.output)
  · exact Nat.le_trans hbs (Nat.le_trans (by omega) g6.size)
  · exact (e2 k (by omega) (by omega)).trans (h.bel.block k hk)
  · exact h.draw.same (e2 b0 (by omega) o2) (fun c hc => e2 c (by omega) (by omega))
  · exact (e2 b (by omega) h2).trans (h.old b h1 h2)
theorem info_lk : (Try.prog.info? 37).map (fun i => (i.zero, i.size, i.bytes)) = some (some (.agg #[.slice none 0 0]), 1, 24) := by kernel_rfl
set_option maxRecDepth 100000 in
set_option maxHeartbeats 8000000 in
theorem made_any (a : Option Addr) (n c : Nat) (L : List Int) (gm : Nat) (w : World) (hl : Lst Enc.int w (· < w.heap.size) a n L) (hn : n ≤ maxLen) (hg1 : 1 ≤ gm) (hg2 : gm ≤ 100) :
    Calls Try.prog 10 #[.slice a n c, .int .i64 (gm : Int)] w fun e w' => ∃ a' c' l, e = .returned (.slice a' l.length c') ∧ Lst Enc.lk w' (· < w'.heap.size) a' l.length l ∧ GoodL l gm ∧ Below w.heap.size w w' := by
  obtain ⟨B, hB⟩ : ∃ B, w.heap.size = B := ⟨_, rfl⟩
  obtain ⟨b0, hb0⟩ : ∃ b0, b0 = w.heap.size := ⟨_, rfl⟩
  obtain ⟨V, hV⟩ : ∃ V, V = w.alloc (Obj.cells #[.slice a n c, .int .i64 0] 59) := ⟨_, rfl⟩
  have hr0 : V.heap[b0]? = some (.cells #[.slice a n c, .int .i64 0] 59 (0, 0)) := by rw [hV, hb0]; exact heap_alloc_new w _
  have hbel : Below w.heap.size w V := by rw [hV]; exact (Below.refl _ _).alloc (Nat.le_refl _) _
  have hdr : DrawAt V b0 (· < B) := ⟨a, n, c, 0, L, hr0, Nat.zero_le _, hn, by rw [← hB]; exact hl.below hbel, fun h => by omega⟩
  have hBb : B ≤ b0 := by omega
  clear hl hr0
  have hc0 := next_nat b0 (· < B) 4 V hdr (by omega) (by omega)
  rw [hB]
  replace hB := hide hB; replace hb0 := hide hb0; replace hV := hide hV; replace hdr := hide hdr; replace hbel := hide hbel; replace hc0 := hide hc0
  go_enter Try.func10, Try.ntmps10
  go_wp2_with fail
  rw [← unhide hV, ← unhide hb0]
  refine (unhide hc0).mono ?_
  rintro e W1 ⟨many, rfl, hmany, hd1, hg1', hs1⟩
  have hbel1 : Below B w W1 := by
    have := (unhide hbel).grown hg1' (unhide hbel).size (fun k e => by cases e; rw [unhide hB]; exact hBb)
    rwa [unhide hB] at this
  clear hc0 hdr hbel hg1' hs1 hV
  replace hd1 := hide hd1; replace hbel1 := hide hbel1
  go_wp2_with fail
  go_loopw [6, 8] (fun vo v wr => ∃ (k : Nat) (l : List (List Sub)), k ≤ many ∧ v = .int .i64 (k : Int) ∧ l.length = k ∧ OwX Enc.lk wr b0 37 vo l ∧ (∀ x ∈ l, x.length ≤ 3 ∧ ∀ s ∈ x, GoodS s gm) ∧ DrawAt wr b0 (· < B) ∧ Below B w wr) (fun _ v _ => many - (intOf v).toNat)
  case atStart => exact ⟨0, [], by omega, rfl, rfl, OwX.nil _ _ _ _, fun x hx => (by cases hx), unhide hd1, unhide hbel1⟩
  case round =>
    clear hd1 hbel1
    obtain ⟨k, l, hk, rfl, hlk, hox, hgood, hd, hbw⟩ := hrel
    obtain ⟨wo, rfl⟩ : ∃ wo : World, wo = wr := ⟨_, rfl⟩
    by_cases hlt : k < many
    · obtain ⟨bx, hbx⟩ : ∃ bx, bx = wo.heap.size := ⟨_, rfl⟩
      obtain ⟨V1, hV1⟩ : ∃ V1, V1 = wo.alloc (Obj.cells #[.slice none 0 0] 37) := ⟨_, rfl⟩
      have hbo : Below wo.heap.size wo V1 := by rw [hV1]; exact (Below.refl _ _).alloc (Nat.le_refl _) _
      have hMI : MI w wo V1 B b0 bx (.slice none 0 0) [] := ⟨hbw.trans (hbo.mono (by have := hbw.size; have := unhide hB; omega)), hd.below (fun c hc => by have := hbw.size; have := unhide hB; omega) hbo, fun b h1 h2 => hbo.block b (by omega), by rw [hV1, hbx]; exact heap_alloc_new wo _, OwX.nil _ _ _ _, hBb, by rw [hbx]; exact hd.lt⟩
      clear hbo
      replace hbx := hide hbx; replace hV1 := hide hV1; replace hMI := hide hMI; replace hox := hide hox; replace hgood := hide hgood; replace hd := hide hd; replace hbw := hide hbw
      go_wp2_with fail
      rw [← unhide hV1, ← unhide hbx]
      have hc := next_nat b0 (· < B) 4 V1 (unhide hMI).draw (by omega) (by omega)
      refine hc.mono ?_
      rintro e W2 ⟨sn, rfl, hsn, hdn, hgn, hsn⟩
      have hMIn := (unhide hMI).next (unhide hB) hgn hdn
      clear hMI hc hdn hgn hsn
      have hMI := hide hMIn
      clear hMIn
      go_wp2_with fail
      go_loopw [11] (fun v wr => ∃ (i : Nat) (vx : Value) (lx : List Sub), i ≤ sn ∧ v = .int .i64 (i : Int) ∧ lx.length = i ∧ (∀ s ∈ lx, GoodS s gm) ∧ MI w wo wr B b0 bx vx lx) (fun v _ => sn - (intOf v).toNat)
      case atStart => exact ⟨0, _, [], by omega, rfl, rfl, fun s hs => (by cases hs), unhide hMI⟩
      case round =>
        clear hMI
        obtain ⟨i, vx, lx, hi, rfl, hlx, hgx, hMI⟩ := hrel
        obtain ⟨wp, rfl⟩ : ∃ wp : World, wp = wr := ⟨_, rfl⟩
        replace hMI := hide hMI; replace hgx := hide hgx
        by_cases hil : i < sn
        · go_wp2_with fail
          have hc := next_nat b0 (· < B) gm wp (unhide hMI).draw (by omega) (by omega)
          refine hc.mono ?_
          rintro e Wp ⟨tv, rfl, htv, hdn, hgn, hsn⟩
          have hMIn := (unhide hMI).next (unhide hB) hgn hdn
          clear hMI hc hdn hgn hsn
          have hMI := hide hMIn
          clear hMIn
          obtain ⟨bs, hbs⟩ : ∃ bs, bs = Wp.heap.size := ⟨_, rfl⟩
          obtain ⟨V2, hV2⟩ : ∃ V2, V2 = Wp.alloc (Obj.cells #[.slice none 0 0, .slice none 0 0, .slice none 0 0, .int .i64 (tv : Int)] 56) := ⟨_, rfl⟩
          have hMB : MB w Wp V2 B b0 bs #[.slice none 0 0, .slice none 0 0, .slice none 0 0, .int .i64 (tv : Int)] := by
            have hbo : Below Wp.heap.size Wp V2 := by rw [hV2]; exact (Below.refl _ _).alloc (Nat.le_refl _) _
            have hm := unhide hMI
            have hsz := hm.bel.size
            have hB' := unhide hB
            exact ⟨hm.bel.trans (hbo.mono (by omega)), hm.draw.below (fun c hc => by omega) hbo, fun b h1 h2 => hbo.block b h2, by rw [hV2, hbs]; exact heap_alloc_new Wp _, hBb, hm.draw.lt, hbs⟩
          replace hbs := hide hbs; replace hV2 := hide hV2; replace hMB := hide hMB
          go_wp2_with fail
          rw [← unhide hV2, ← unhide hbs]
          have hc := next_nat b0 (· < B) 3 V2 (unhide hMB).draw (by omega) (by omega)
          refine hc.mono ?_
          rintro e W3 ⟨fr, rfl, hfr, hdn, hgn, hsn⟩
          have hMBn := (unhide hMB).next (unhide hB) hgn hdn
          clear hMB hc hdn hgn hsn
          have hMB := hide hMBn
          clear hMBn
          obtain ⟨fn, hfn⟩ : ∃ fn, 1 + fr = fn := ⟨_, rfl⟩
          have tf : IntKind.i64.wrap (1 + (fr : Int)) = (fn : Int) := by rw [IntWalk.i64_in _ (by omega)]; omega
          have hfn' : 1 ≤ fn ∧ fn ≤ 3 := by omega
          clear hfn
          go_wp2_with fail
          have hc := next_nat b0 (· < B) 4 W3 (unhide hMB).draw (by omega) (by omega)
          refine hc.mono ?_
          rintro e W4 ⟨p1, rfl, hp1, hdn, hgn, hsn⟩
          have hMBn := (unhide hMB).next (unhide hB) hgn hdn
          clear hMB hc hdn hgn hsn
          have hMB := hide hMBn
          clear hMBn
          obtain ⟨h1, hh1⟩ : ∃ h1, p1 / 2 = h1 := ⟨_, rfl⟩
          have td1 : Int.tdiv (p1 : Int) 2 = (h1 : Int) := by rw [← hh1]; rfl
          have hh1' : h1 ≤ 1 := by omega
          clear hh1
          go_wp2_with fail
          have hc := next_nat b0 (· < B) 3 W4 (unhide hMB).draw (by omega) (by omega)
          refine hc.mono ?_
          rintro e W5 ⟨p2, rfl, hp2, hdn, hgn, hsn⟩
          have hMBn := (unhide hMB).next (unhide hB) hgn hdn
          clear hMB hc hdn hgn hsn
          have hMB := hide hMBn
          clear hMBn
          obtain ⟨bn, hbn⟩ : ∃ bn, h1 * p2 = bn := ⟨_, rfl⟩
          have hbn2 : bn ≤ 2 := by
            rw [← hbn]
            exact Nat.le_trans (Nat.mul_le_mul hh1' (show p2 ≤ 2 by omega)) (by decide)
          have tm1 : IntKind.i64.wrap ((h1 : Int) * (p2 : Int)) = (bn : Int) := by rw [show (h1 : Int) * (p2 : Int) = (bn : Int) by rw [← hbn]; exact (Int.natCast_mul _ _).symm]; exact IntWalk.i64_in _ (by omega)
          clear hbn
          go_wp2_with fail
          have hc := next_nat b0 (· < B) 4 W5 (unhide hMB).draw (by omega) (by omega)
          refine hc.mono ?_
          rintro e W6 ⟨p3, rfl, hp3, hdn, hgn, hsn⟩
          have hMBn := (unhide hMB).next (unhide hB) hgn hdn
          clear hMB hc hdn hgn hsn
          have hMB := hide hMBn
          clear hMBn
          obtain ⟨h2, hh2⟩ : ∃ h2, p3 / 2 = h2 := ⟨_, rfl⟩
          have td2 : Int.tdiv (p3 : Int) 2 = (h2 : Int) := by rw [← hh2]; rfl
          have hh2' : h2 ≤ 1 := by omega
          clear hh2
          go_wp2_with fail
          have hc := next_nat b0 (· < B) 3 W6 (unhide hMB).draw (by omega) (by omega)
          refine hc.mono ?_
          rintro e W7 ⟨p4, rfl, hp4, hdn, hgn, hsn⟩
          have hMBn := (unhide hMB).next (unhide hB) hgn hdn
          clear hMB hc hdn hgn hsn
          have hMB := hide hMBn
          clear hMBn
          obtain ⟨an, han⟩ : ∃ an, h2 * p4 = an := ⟨_, rfl⟩
          have han2 : an ≤ 2 := by
            rw [← han]
            exact Nat.le_trans (Nat.mul_le_mul hh2' (show p4 ≤ 2 by omega)) (by decide)
          have tm2 : IntKind.i64.wrap ((h2 : Int) * (p4 : Int)) = (an : Int) := by rw [show (h2 : Int) * (p4 : Int) = (an : Int) by rw [← han]; exact (Int.natCast_mul _ _).symm]; exact IntWalk.i64_in _ (by omega)
          clear han
          go_wp2_with fail
          clear td1 td2 tm1 tm2 tf
          go_loopw [16] (fun v wr => ∃ (j : Nat) (xs : List Int) (vq : Value), j ≤ fn ∧ v = .int .i64 (j : Int) ∧ xs.length = j ∧ MQ w W7 wr B b0 bs (gm : Int) #[.slice none 0 0, vq, .slice none 0 0, .int .i64 (tv : Int)] vq xs) (fun v _ => fn - (intOf v).toNat)
          case atStart => exact ⟨0, [], _, by omega, rfl, rfl, MQ.start (unhide hMB) _⟩
          case round =>
            obtain ⟨j, xs, vq, hj, rfl, hxl, hMQ⟩ := hrel
            replace hxl := hide hxl
            by_cases hjl : j < fn
            · have hMQcb := hMQ.cb
              obtain ⟨o1, o2, o3, o4⟩ := hMQ.ord
              have hb0r : b0 < W7.heap.size := by omega
              have hMQo : B ≤ wr.heap.size := by omega
              have hbsl : bs < wr.heap.size := by omega
              have hvbs := own_ne_blk hMQ.row hMQ.cb (by decide)
              have hvlt : ∀ g, vq.ownBlock = some g → g < wr.heap.size := fun g e => (hMQ.row.lt g e).2
              go_wp2_with fail
              refine wp_region_frontG 8 (fun LL vs w' => C8 wr b0 B W7.heap.size vq (gm : Int) xs LL vs w') (RN wr)
                (fun ix v w' => match ix with
                  | 0 => v = .pointer (some ⟨bs, 1, none⟩)
                  | 1 => v = vq
                  | 2 => v = .pointer (some ⟨b0, 0, none⟩)
                  | 3 => v = .int .i64 (gm : Int)
                  | 4 => ∃ y : Nat, v = .int .i64 (y : Int) ∧ y < gm
                  | 5 => ∃ (b y : Nat), v = .slice (some ⟨b, 0, none⟩) 1 1 ∧ y < gm ∧ wr.heap.size ≤ b ∧ w'.heap[b]? = some (.cells #[.int .i64 (y : Int)] 3 (0, 0))
                  | 6 => ∃ a n c, v = .slice a n c
                  | 7 => v = .pointer (some ⟨bs, 1, none⟩)
                  | _ => True) (by rfl) (by kernel_rfl) ?_ ?_ ?_ ?_
              · exact (C8.start hMQ.draw hMQ.row)
              · intro wa wb hR ix v hv
                match ix, hv with
                | 0, h => exact h
                | 1, h => exact h
                | 2, h => exact h
                | 3, h => exact h
                | 4, h => exact h
                | 5, h => obtain ⟨b, y, h1, h2, h3, h4⟩ := h; exact ⟨b, y, h1, h2, h3, hR.blk h3 h4⟩
                | 6, h => exact h
                | 7, h => exact h
                | _ + 8, _ => trivial
              · intro ix hix
                obtain rfl | rfl | rfl | rfl | rfl | rfl | rfl | rfl : ix = 0 ∨ ix = 1 ∨ ix = 2 ∨ ix = 3 ∨ ix = 4 ∨ ix = 5 ∨ ix = 6 ∨ ix = 7 := by omega
                · refine FrontStep.of [] _ rfl (by kernel_rfl) ?_
                  intro vs LL wq hLL hC hf
                  simp only [putL, List.foldl_nil]
                  go_wp2_with fail
                  first | exact ⟨hC.keep 0 _ (by decide) (fun c hc => by have := hC.1.size; have := hMQo; omega) (Below.refl _ _), RN.below (Below.refl _ _)⟩ | exact ⟨hC.keep 0 _ (by decide) (fun c hc => by have := hC.1.size; have := hMQo; omega) (Below.refl _ _), RN.below (Below.refl _ _), by omega⟩
                · refine FrontStep.of [0] _ rfl (by kernel_rfl) ?_
                  intro vs LL wq hLL hC hf
                  simp only [putL, List.foldl_nil, List.foldl_cons, List.getElem?_cons_zero]
                  have e0 : vs 0 = _ := hf 0 (by simp)
                  rw [e0]
                  have hcb := (hC.1.block bs hbsl hvbs (by omega)).trans hMQcb
                  have hcq := (cell_of_row _ _ 1 _ _ _ hcb).trans rfl
                  clear hcb
                  go_wp2_with fail
                  first | exact ⟨hC.keep 1 _ (by decide) (fun c hc => by have := hC.1.size; have := hMQo; omega) (Below.refl _ _), RN.below (Below.refl _ _)⟩ | exact ⟨hC.keep 1 _ (by decide) (fun c hc => by have := hC.1.size; have := hMQo; omega) (Below.refl _ _), RN.below (Below.refl _ _), by omega⟩
                · refine FrontStep.of [] _ rfl (by kernel_rfl) ?_
                  intro vs LL wq hLL hC hf
                  simp only [putL, List.foldl_nil]
                  go_wp2_with fail
                  first | exact ⟨hC.keep 2 _ (by decide) (fun c hc => by have := hC.1.size; have := hMQo; omega) (Below.refl _ _), RN.below (Below.refl _ _)⟩ | exact ⟨hC.keep 2 _ (by decide) (fun c hc => by have := hC.1.size; have := hMQo; omega) (Below.refl _ _), RN.below (Below.refl _ _), by omega⟩
                · refine FrontStep.of [] _ rfl (by kernel_rfl) ?_
                  intro vs LL wq hLL hC hf
                  simp only [putL, List.foldl_nil]
                  go_wp2_with fail
                  first | exact ⟨hC.keep 3 _ (by decide) (fun c hc => by have := hC.1.size; have := hMQo; omega) (Below.refl _ _), RN.below (Below.refl _ _)⟩ | exact ⟨hC.keep 3 _ (by decide) (fun c hc => by have := hC.1.size; have := hMQo; omega) (Below.refl _ _), RN.below (Below.refl _ _), by omega⟩
                · refine FrontStep.of [2, 3] _ rfl (by kernel_rfl) ?_
                  intro vs LL wq hLL hC hf
                  simp only [putL, List.foldl_nil, List.foldl_cons, List.getElem?_cons_zero, List.getElem?_cons_succ]
                  have e2 : vs 2 = _ := hf 2 (by simp)
                  rw [e2]
                  have e3 : vs 3 = _ := hf 3 (by simp)
                  rw [e3]
                  have hcn := next_nat b0 (· < B) gm wq hC.2.1 (by omega) (by omega)
                  replace hcn := hide hcn
                  go_wp2_with fail
                  refine (unhide hcn).mono ?_
                  rintro e wz ⟨y, rfl, hy, hdn, hgn, hsn⟩
                  go_wp2_with fail
                  first | exact ⟨hC.next 4 _ (by decide) hgn hdn hb0r, RN.grown hgn (fun g e => by injection e; omega), y, rfl, hy⟩ | exact ⟨hC.next 4 _ (by decide) hgn hdn hb0r, RN.grown hgn (fun g e => by injection e; omega), hy⟩
                · refine FrontStep.of [4] _ rfl (by kernel_rfl) ?_
                  intro vs LL wq hLL hC hf
                  simp only [putL, List.foldl_nil, List.foldl_cons, List.getElem?_cons_zero, List.getElem?_cons_succ]
                  obtain ⟨y, e64, hy⟩ := hf 4 (by simp)
                  rw [e64]
                  have hsq := hC.1.size
                  go_wp2_with fail
                  have hCk := hC.keep (w2 := wq.alloc (Obj.cells #[.int .i64 (y : Int)] 3)) 5 (.slice (some ⟨wq.heap.size, 0, none⟩) 1 1) (by decide) (fun c hc => by have := hMQo; omega) ((Below.refl _ _).alloc (Nat.le_refl _) _)
                  have hRk := RN.below (W0 := wr) ((Below.refl wq.heap.size wq).alloc (Nat.le_refl _) (Obj.cells #[.int .i64 (y : Int)] 3))
                  have hnk := heap_alloc_new wq (Obj.cells #[.int .i64 (y : Int)] 3)
                  first | exact ⟨hCk, hRk, hy, hsq, (Array.getElem?_eq_some_iff.1 hnk).2⟩ | exact ⟨hCk, hRk, hy, hsq⟩ | exact ⟨hCk, hRk, hy, hsq, hnk⟩ | exact ⟨hCk, hRk, y, hy, (Array.getElem?_eq_some_iff.1 hnk).2⟩ | exact ⟨hCk, hRk, _, y, rfl, hy, hsq, hnk⟩
                · refine FrontStep.of [1, 4, 5] _ rfl (by kernel_rfl) ?_
                  intro vs LL wq hLL hC hf
                  simp only [putL, List.foldl_nil, List.foldl_cons, List.getElem?_cons_zero, List.getElem?_cons_succ]
                  have e1 : vs 1 = _ := hf 1 (by simp)
                  rw [e1]
                  obtain ⟨y, e64, hy⟩ := hf 4 (by simp)
                  rw [e64]
                  obtain ⟨bb, y, e65, hy, hbb1, hbb⟩ := hf 5 (by simp)
                  rw [e65]
                  have hro := hC.2.2.2.1 (hC.2.2.1 6 hLL)
                  have hsq := hC.1.size
                  replace hro := hide hro
                  go_wp2_with (at_builtin; refine wpList_append_one rfl _ _ rfl W7.heap.size _ _ _ rfl (unhide hro) _ _ rfl hbb ?raa ?rab ?_)
                  case raa => rw [unhide hxl]; omega
                  case rab => have := hMQo; omega
                  intro v' wz hownz hgz _
                  obtain ⟨za, zc, rfl⟩ := own_shape hownz
                  go_wp2_with fail
                  first | exact ⟨hC.app _ (by intro h; cases h) (fun c hc => ⟨by have := hMQo; omega, fun e => by have := ((unhide hro).lt c e).1; have := hMQo; omega⟩) hgz (fun e => by have := ((unhide hro).lt b0 e).1; omega) (y : Int) ⟨by omega, by omega⟩ hownz, RN.grown hgz (fun g e => hvlt g e), _, _, _, rfl⟩ | exact ⟨hC.app _ (by intro h; cases h) (fun c hc => ⟨by have := hMQo; omega, fun e => by have := ((unhide hro).lt c e).1; have := hMQo; omega⟩) hgz (fun e => by have := ((unhide hro).lt b0 e).1; omega) (y : Int) ⟨by omega, by omega⟩ hownz, RN.grown hgz (fun g e => hvlt g e)⟩
                · refine FrontStep.of [0, 1, 2, 3, 4, 5, 6] _ rfl (by kernel_rfl) ?_
                  intro vs LL wq hLL hC hf
                  simp only [putL, List.foldl_nil, List.foldl_cons, List.getElem?_cons_zero, List.getElem?_cons_succ]
                  have e0 : vs 0 = _ := hf 0 (by simp)
                  rw [e0]
                  have e1 : vs 1 = _ := hf 1 (by simp)
                  rw [e1]
                  have e2 : vs 2 = _ := hf 2 (by simp)
                  rw [e2]
                  have e3 : vs 3 = _ := hf 3 (by simp)
                  rw [e3]
                  obtain ⟨y, e64, hy⟩ := hf 4 (by simp)
                  rw [e64]
                  obtain ⟨bb, y, e65, hy, hbb1, hbb⟩ := hf 5 (by simp)
                  rw [e65]
                  obtain ⟨za, zn, zc, e66⟩ := hf 6 (by simp)
                  rw [e66]
                  go_wp2_with fail
                  first | exact ⟨hC.keep 7 _ (by decide) (fun c hc => by have := hC.1.size; have := hMQo; omega) (Below.refl _ _), RN.below (Below.refl _ _)⟩ | exact ⟨hC.keep 7 _ (by decide) (fun c hc => by have := hC.1.size; have := hMQo; omega) (Below.refl _ _), RN.below (Below.refl _ _), by omega⟩
              · intro vs LL wq hLL hC hf
                obtain ⟨za, zn, zc, e6⟩ := hf 6 (by omega)
                have e7 : vs 7 = _ := hf 7 (by omega)
                rw [putSome_all]
                simp only [putL, List.range, List.range.loop, List.foldl_nil, List.foldl_cons, List.getElem?_cons_zero, List.getElem?_cons_succ, List.drop_succ_cons, List.drop_zero]
                obtain ⟨hOld, hDr, -, -, hrow⟩ := hC
                rw [e6] at hrow
                obtain ⟨y, hy0, hy1, hrw⟩ := hrow (by intro h; cases h)
                rw [e6, e7]
                clear e6 e7 hf hLL hrow
                obtain ⟨w5, hw5⟩ : ∃ w5, wq.setCell ⟨bs, 1, none⟩ (.slice za zn zc) = w5 := ⟨_, rfl⟩
                have hps := hMQ.push (q := 1) (unhide hB) hOld hDr ⟨hy0, hy1⟩ hrw hw5
                obtain ⟨hM5, hcb5⟩ := hps
                have hcq := (cell_of_row _ _ 1 _ _ _ hcb5).trans rfl
                have hfq : wq.frozen? ⟨bs, 1, none⟩ = false := by simp [World.frozen?, hcb5]
                clear hOld hDr hrw hcb5 hMQ hMQcb hMQo hbsl hvbs hvlt
                replace hM5 := hide hM5; replace hw5 := hide hw5
                go_wp2_with fail
                try rw [unhide hw5]
                have hM6 := unhide hM5
                go_roundw
                case rel =>
                  try rw [unhide hw5]
                  exact ⟨j + 1, xs ++ [y], _, by omega, by go_num, by rw [List.length_append, unhide hxl]; rfl, hM6⟩
                case measure => simp [intOf]; omega
            · obtain rfl : j = fn := by omega
              obtain ⟨Wa, rfl⟩ : ∃ W : World, W = wr := ⟨_, rfl⟩
              obtain ⟨vF, rfl⟩ : ∃ v, v = vq := ⟨_, rfl⟩
              obtain ⟨xF, rfl⟩ : ∃ x, x = xs := ⟨_, rfl⟩
              have hMBa := hMQ.back (unhide hMB)
              have hrF := hMQ.row
              have hxF := hMQ.good
              have hlxF := unhide hxl
              have hwa := hMQ.ord.2.2.2
              clear hMQ hxl hjl hj
              replace hMBa := hide hMBa; replace hrF := hide hrF; replace hxF := hide hxF; replace hlxF := hide hlxF
              go_wp2_with fail
              go_loopw [17] (fun v wr => ∃ (j : Nat) (xs : List Int) (vq : Value), j ≤ bn ∧ v = .int .i64 (j : Int) ∧ xs.length = j ∧ MQ w Wa wr B b0 bs (gm : Int) #[vq, vF, .slice none 0 0, .int .i64 (tv : Int)] vq xs) (fun v _ => bn - (intOf v).toNat)
              case atStart => exact ⟨0, [], _, by omega, rfl, rfl, MQ.start (unhide hMBa) _⟩
              case round =>
                obtain ⟨j, xs, vq, hj, rfl, hxl, hMQ⟩ := hrel
                replace hxl := hide hxl
                by_cases hjl : j < bn
                · have hMQcb := hMQ.cb
                  obtain ⟨o1, o2, o3, o4⟩ := hMQ.ord
                  have hb0r : b0 < Wa.heap.size := by omega
                  have hMQo : B ≤ wr.heap.size := by omega
                  have hbsl : bs < wr.heap.size := by omega
                  have hvbs := own_ne_blk hMQ.row hMQ.cb (by decide)
                  have hvlt : ∀ g, vq.ownBlock = some g → g < wr.heap.size := fun g e => (hMQ.row.lt g e).2
                  go_wp2_with fail
                  refine wp_region_frontG 8 (fun LL vs w' => C8 wr b0 B Wa.heap.size vq (gm : Int) xs LL vs w') (RN wr)
                    (fun ix v w' => match ix with
                      | 0 => v = .pointer (some ⟨bs, 0, none⟩)
                      | 1 => v = vq
                      | 2 => v = .pointer (some ⟨b0, 0, none⟩)
                      | 3 => v = .int .i64 (gm : Int)
                      | 4 => ∃ y : Nat, v = .int .i64 (y : Int) ∧ y < gm
                      | 5 => ∃ (b y : Nat), v = .slice (some ⟨b, 0, none⟩) 1 1 ∧ y < gm ∧ wr.heap.size ≤ b ∧ w'.heap[b]? = some (.cells #[.int .i64 (y : Int)] 3 (0, 0))
                      | 6 => ∃ a n c, v = .slice a n c
                      | 7 => v = .pointer (some ⟨bs, 0, none⟩)
                      | _ => True) (by rfl) (by kernel_rfl) ?_ ?_ ?_ ?_
                  · exact (C8.start hMQ.draw hMQ.row)
                  · intro wa wb hR ix v hv
                    match ix, hv with
                    | 0, h => exact h
                    | 1, h => exact h
                    | 2, h => exact h
                    | 3, h => exact h
                    | 4, h => exact h
                    | 5, h => obtain ⟨b, y, h1, h2, h3, h4⟩ := h; exact ⟨b, y, h1, h2, h3, hR.blk h3 h4⟩
                    | 6, h => exact h
                    | 7, h => exact h
                    | _ + 8, _ => trivial
                  · intro ix hix
                    obtain rfl | rfl | rfl | rfl | rfl | rfl | rfl | rfl : ix = 0 ∨ ix = 1 ∨ ix = 2 ∨ ix = 3 ∨ ix = 4 ∨ ix = 5 ∨ ix = 6 ∨ ix = 7 := by omega
                    · refine FrontStep.of [] _ rfl (by kernel_rfl) ?_
                      intro vs LL wq hLL hC hf
                      simp only [putL, List.foldl_nil]
                      go_wp2_with fail
                      first | exact ⟨hC.keep 0 _ (by decide) (fun c hc => by have := hC.1.size; have := hMQo; omega) (Below.refl _ _), RN.below (Below.refl _ _)⟩ | exact ⟨hC.keep 0 _ (by decide) (fun c hc => by have := hC.1.size; have := hMQo; omega) (Below.refl _ _), RN.below (Below.refl _ _), by omega⟩
                    · refine FrontStep.of [0] _ rfl (by kernel_rfl) ?_
                      intro vs LL wq hLL hC hf
                      simp only [putL, List.foldl_nil, List.foldl_cons, List.getElem?_cons_zero]
                      have e0 : vs 0 = _ := hf 0 (by simp)
                      rw [e0]
                      have hcb := (hC.1.block bs hbsl hvbs (by omega)).trans hMQcb
                      have hcq := (cell_of_row _ _ 0 _ _ _ hcb).trans rfl
                      clear hcb
                      go_wp2_with fail
                      first | exact ⟨hC.keep 1 _ (by decide) (fun c hc => by have := hC.1.size; have := hMQo; omega) (Below.refl _ _), RN.below (Below.refl _ _)⟩ | exact ⟨hC.keep 1 _ (by decide) (fun c hc => by have := hC.1.size; have := hMQo; omega) (Below.refl _ _), RN.below (Below.refl _ _), by omega⟩
                    · refine FrontStep.of [] _ rfl (by kernel_rfl) ?_
                      intro vs LL wq hLL hC hf
                      simp only [putL, List.foldl_nil]
                      go_wp2_with fail
                      first | exact ⟨hC.keep 2 _ (by decide) (fun c hc => by have := hC.1.size; have := hMQo; omega) (Below.refl _ _), RN.below (Below.refl _ _)⟩ | exact ⟨hC.keep 2 _ (by decide) (fun c hc => by have := hC.1.size; have := hMQo; omega) (Below.refl _ _), RN.below (Below.refl _ _), by omega⟩
                    · refine FrontStep.of [] _ rfl (by kernel_rfl) ?_
                      intro vs LL wq hLL hC hf
                      simp only [putL, List.foldl_nil]
                      go_wp2_with fail
                      first | exact ⟨hC.keep 3 _ (by decide) (fun c hc => by have := hC.1.size; have := hMQo; omega) (Below.refl _ _), RN.below (Below.refl _ _)⟩ | exact ⟨hC.keep 3 _ (by decide) (fun c hc => by have := hC.1.size; have := hMQo; omega) (Below.refl _ _), RN.below (Below.refl _ _), by omega⟩
                    · refine FrontStep.of [2, 3] _ rfl (by kernel_rfl) ?_
                      intro vs LL wq hLL hC hf
                      simp only [putL, List.foldl_nil, List.foldl_cons, List.getElem?_cons_zero, List.getElem?_cons_succ]
                      have e2 : vs 2 = _ := hf 2 (by simp)
                      rw [e2]
                      have e3 : vs 3 = _ := hf 3 (by simp)
                      rw [e3]
                      have hcn := next_nat b0 (· < B) gm wq hC.2.1 (by omega) (by omega)
                      replace hcn := hide hcn
                      go_wp2_with fail
                      refine (unhide hcn).mono ?_
                      rintro e wz ⟨y, rfl, hy, hdn, hgn, hsn⟩
                      go_wp2_with fail
                      first | exact ⟨hC.next 4 _ (by decide) hgn hdn hb0r, RN.grown hgn (fun g e => by injection e; omega), y, rfl, hy⟩ | exact ⟨hC.next 4 _ (by decide) hgn hdn hb0r, RN.grown hgn (fun g e => by injection e; omega), hy⟩
                    · refine FrontStep.of [4] _ rfl (by kernel_rfl) ?_
                      intro vs LL wq hLL hC hf
                      simp only [putL, List.foldl_nil, List.foldl_cons, List.getElem?_cons_zero, List.getElem?_cons_succ]
                      obtain ⟨y, e77, hy⟩ := hf 4 (by simp)
                      rw [e77]
                      have hsq := hC.1.size
                      go_wp2_with fail
                      have hCk := hC.keep (w2 := wq.alloc (Obj.cells #[.int .i64 (y : Int)] 3)) 5 (.slice (some ⟨wq.heap.size, 0, none⟩) 1 1) (by decide) (fun c hc => by have := hMQo; omega) ((Below.refl _ _).alloc (Nat.le_refl _) _)
                      have hRk := RN.below (W0 := wr) ((Below.refl wq.heap.size wq).alloc (Nat.le_refl _) (Obj.cells #[.int .i64 (y : Int)] 3))
                      have hnk := heap_alloc_new wq (Obj.cells #[.int .i64 (y : Int)] 3)
                      first | exact ⟨hCk, hRk, hy, hsq, (Array.getElem?_eq_some_iff.1 hnk).2⟩ | exact ⟨hCk, hRk, hy, hsq⟩ | exact ⟨hCk, hRk, hy, hsq, hnk⟩ | exact ⟨hCk, hRk, y, hy, (Array.getElem?_eq_some_iff.1 hnk).2⟩ | exact ⟨hCk, hRk, _, y, rfl, hy, hsq, hnk⟩
                    · refine FrontStep.of [1, 4, 5] _ rfl (by kernel_rfl) ?_
                      intro vs LL wq hLL hC hf
                      simp only [putL, List.foldl_nil, List.foldl_cons, List.getElem?_cons_zero, List.getElem?_cons_succ]
                      have e1 : vs 1 = _ := hf 1 (by simp)
                      rw [e1]
                      obtain ⟨y, e77, hy⟩ := hf 4 (by simp)
                      rw [e77]
                      obtain ⟨bb, y, e78, hy, hbb1, hbb⟩ := hf 5 (by simp)
                      rw [e78]
                      have hro := hC.2.2.2.1 (hC.2.2.1 6 hLL)
                      have hsq := hC.1.size
                      replace hro := hide hro
                      go_wp2_with (at_builtin; refine wpList_append_one rfl _ _ rfl Wa.heap.size _ _ _ rfl (unhide hro) _ _ rfl hbb ?rba ?rbb ?_)
                      case rba => rw [unhide hxl]; omega
                      case rbb => have := hMQo; omega
                      intro v' wz hownz hgz _
                      obtain ⟨za, zc, rfl⟩ := own_shape hownz
                      go_wp2_with fail
                      first | exact ⟨hC.app _ (by intro h; cases h) (fun c hc => ⟨by have := hMQo; omega, fun e => by have := ((unhide hro).lt c e).1; have := hMQo; omega⟩) hgz (fun e => by have := ((unhide hro).lt b0 e).1; omega) (y : Int) ⟨by omega, by omega⟩ hownz, RN.grown hgz (fun g e => hvlt g e), _, _, _, rfl⟩ | exact ⟨hC.app _ (by intro h; cases h) (fun c hc => ⟨by have := hMQo; omega, fun e => by have := ((unhide hro).lt c e).1; have := hMQo; omega⟩) hgz (fun e => by have := ((unhide hro).lt b0 e).1; omega) (y : Int) ⟨by omega, by omega⟩ hownz, RN.grown hgz (fun g e => hvlt g e)⟩
                    · refine FrontStep.of [0, 1, 2, 3, 4, 5, 6] _ rfl (by kernel_rfl) ?_
                      intro vs LL wq hLL hC hf
                      simp only [putL, List.foldl_nil, List.foldl_cons, List.getElem?_cons_zero, List.getElem?_cons_succ]
                      have e0 : vs 0 = _ := hf 0 (by simp)
                      rw [e0]
                      have e1 : vs 1 = _ := hf 1 (by simp)
                      rw [e1]
                      have e2 : vs 2 = _ := hf 2 (by simp)
                      rw [e2]
                      have e3 : vs 3 = _ := hf 3 (by simp)
                      rw [e3]
                      obtain ⟨y, e77, hy⟩ := hf 4 (by simp)
                      rw [e77]
                      obtain ⟨bb, y, e78, hy, hbb1, hbb⟩ := hf 5 (by simp)
                      rw [e78]
                      obtain ⟨za, zn, zc, e79⟩ := hf 6 (by simp)
                      rw [e79]
                      go_wp2_with fail
                      first | exact ⟨hC.keep 7 _ (by decide) (fun c hc => by have := hC.1.size; have := hMQo; omega) (Below.refl _ _), RN.below (Below.refl _ _)⟩ | exact ⟨hC.keep 7 _ (by decide) (fun c hc => by have := hC.1.size; have := hMQo; omega) (Below.refl _ _), RN.below (Below.refl _ _), by omega⟩
                  · intro vs LL wq hLL hC hf
                    obtain ⟨za, zn, zc, e6⟩ := hf 6 (by omega)
                    have e7 : vs 7 = _ := hf 7 (by omega)
                    rw [putSome_all]
                    simp only [putL, List.range, List.range.loop, List.foldl_nil, List.foldl_cons, List.getElem?_cons_zero, List.getElem?_cons_succ, List.drop_succ_cons, List.drop_zero]
                    obtain ⟨hOld, hDr, -, -, hrow⟩ := hC
                    rw [e6] at hrow
                    obtain ⟨y, hy0, hy1, hrw⟩ := hrow (by intro h; cases h)
                    rw [e6, e7]
                    clear e6 e7 hf hLL hrow
                    obtain ⟨w5, hw5⟩ : ∃ w5, wq.setCell ⟨bs, 0, none⟩ (.slice za zn zc) = w5 := ⟨_, rfl⟩
                    have hps := hMQ.push (q := 0) (unhide hB) hOld hDr ⟨hy0, hy1⟩ hrw hw5
                    obtain ⟨hM5, hcb5⟩ := hps
                    have hcq := (cell_of_row _ _ 0 _ _ _ hcb5).trans rfl
                    have hfq : wq.frozen? ⟨bs, 0, none⟩ = false := by simp [World.frozen?, hcb5]
                    clear hOld hDr hrw hcb5 hMQ hMQcb hMQo hbsl hvbs hvlt
                    replace hM5 := hide hM5; replace hw5 := hide hw5
                    go_wp2_with fail
                    try rw [unhide hw5]
                    have hM6 := unhide hM5
                    go_roundw
                    case rel =>
                      try rw [unhide hw5]
                      exact ⟨j + 1, xs ++ [y], _, by omega, by go_num, by rw [List.length_append, unhide hxl]; rfl, hM6⟩
                    case measure => simp [intOf]; omega
                · obtain rfl : j = bn := by omega
                  obtain ⟨Wb, rfl⟩ : ∃ W : World, W = wr := ⟨_, rfl⟩
                  obtain ⟨vB, rfl⟩ : ∃ v, v = vq := ⟨_, rfl⟩
                  obtain ⟨xB, rfl⟩ : ∃ x, x = xs := ⟨_, rfl⟩
                  have hMBb := hMQ.back (unhide hMBa)
                  have hrB := hMQ.row
                  have hxB := hMQ.good
                  have hlxB := unhide hxl
                  have hwb := hMQ.ord.2.2.2
                  have hrF' := hMQ.stays (unhide hrF) (by have := hMQ.ord; have := (unhide hMB).ord; have := (unhide hMB).lt; omega) ⟨_, (unhide hMBa).cb⟩
                  clear hrF
                  have hrF := hrF'
                  clear hrF'
                  clear hMQ hxl hjl hj
                  replace hMBb := hide hMBb; replace hrB := hide hrB; replace hxB := hide hxB; replace hlxB := hide hlxB
                  replace hrF := hide hrF
                  go_wp2_with fail
                  go_loopw [18] (fun v wr => ∃ (j : Nat) (xs : List Int) (vq : Value), j ≤ an ∧ v = .int .i64 (j : Int) ∧ xs.length = j ∧ MQ w Wb wr B b0 bs (gm : Int) #[vB, vF, vq, .int .i64 (tv : Int)] vq xs) (fun v _ => an - (intOf v).toNat)
                  case atStart => exact ⟨0, [], _, by omega, rfl, rfl, MQ.start (unhide hMBb) _⟩
                  case round =>
                    obtain ⟨j, xs, vq, hj, rfl, hxl, hMQ⟩ := hrel
                    replace hxl := hide hxl
                    by_cases hjl : j < an
                    · have hMQcb := hMQ.cb
                      obtain ⟨o1, o2, o3, o4⟩ := hMQ.ord
                      have hb0r : b0 < Wb.heap.size := by omega
                      have hMQo : B ≤ wr.heap.size := by omega
                      have hbsl : bs < wr.heap.size := by omega
                      have hvbs := own_ne_blk hMQ.row hMQ.cb (by decide)
                      have hvlt : ∀ g, vq.ownBlock = some g → g < wr.heap.size := fun g e => (hMQ.row.lt g e).2
                      go_wp2_with fail
                      refine wp_region_frontG 8 (fun LL vs w' => C8 wr b0 B Wb.heap.size vq (gm : Int) xs LL vs w') (RN wr)
                        (fun ix v w' => match ix with
                          | 0 => v = .pointer (some ⟨bs, 2, none⟩)
                          | 1 => v = vq
                          | 2 => v = .pointer (some ⟨b0, 0, none⟩)
                          | 3 => v = .int .i64 (gm : Int)
                          | 4 => ∃ y : Nat, v = .int .i64 (y : Int) ∧ y < gm
                          | 5 => ∃ (b y : Nat), v = .slice (some ⟨b, 0, none⟩) 1 1 ∧ y < gm ∧ wr.heap.size ≤ b ∧ w'.heap[b]? = some (.cells #[.int .i64 (y : Int)] 3 (0, 0))
                          | 6 => ∃ a n c, v = .slice a n c
                          | 7 => v = .pointer (some ⟨bs, 2, none⟩)
                          | _ => True) (by rfl) (by kernel_rfl) ?_ ?_ ?_ ?_
                      · exact (C8.start hMQ.draw hMQ.row)
                      · intro wa wb hR ix v hv
                        match ix, hv with
                        | 0, h => exact h
                        | 1, h => exact h
                        | 2, h => exact h
                        | 3, h => exact h
                        | 4, h => exact h
                        | 5, h => obtain ⟨b, y, h1, h2, h3, h4⟩ := h; exact ⟨b, y, h1, h2, h3, hR.blk h3 h4⟩
                        | 6, h => exact h
                        | 7, h => exact h
                        | _ + 8, _ => trivial
                      · intro ix hix
                        obtain rfl | rfl | rfl | rfl | rfl | rfl | rfl | rfl : ix = 0 ∨ ix = 1 ∨ ix = 2 ∨ ix = 3 ∨ ix = 4 ∨ ix = 5 ∨ ix = 6 ∨ ix = 7 := by omega
                        · refine FrontStep.of [] _ rfl (by kernel_rfl) ?_
                          intro vs LL wq hLL hC hf
                          simp only [putL, List.foldl_nil]
                          go_wp2_with fail
                          first | exact ⟨hC.keep 0 _ (by decide) (fun c hc => by have := hC.1.size; have := hMQo; omega) (Below.refl _ _), RN.below (Below.refl _ _)⟩ | exact ⟨hC.keep 0 _ (by decide) (fun c hc => by have := hC.1.size; have := hMQo; omega) (Below.refl _ _), RN.below (Below.refl _ _), by omega⟩
                        · refine FrontStep.of [0] _ rfl (by kernel_rfl) ?_
                          intro vs LL wq hLL hC hf
                          simp only [putL, List.foldl_nil, List.foldl_cons, List.getElem?_cons_zero]
                          have e0 : vs 0 = _ := hf 0 (by simp)
                          rw [e0]
                          have hcb := (hC.1.block bs hbsl hvbs (by omega)).trans hMQcb
                          have hcq := (cell_of_row _ _ 2 _ _ _ hcb).trans rfl
                          clear hcb
                          go_wp2_with fail
                          first | exact ⟨hC.keep 1 _ (by decide) (fun c hc => by have := hC.1.size; have := hMQo; omega) (Below.refl _ _), RN.below (Below.refl _ _)⟩ | exact ⟨hC.keep 1 _ (by decide) (fun c hc => by have := hC.1.size; have := hMQo; omega) (Below.refl _ _), RN.below (Below.refl _ _), by omega⟩
                        · refine FrontStep.of [] _ rfl (by kernel_rfl) ?_
                          intro vs LL wq hLL hC hf
                          simp only [putL, List.foldl_nil]
                          go_wp2_with fail
                          first | exact ⟨hC.keep 2 _ (by decide) (fun c hc => by have := hC.1.size; have := hMQo; omega) (Below.refl _ _), RN.below (Below.refl _ _)⟩ | exact ⟨hC.keep 2 _ (by decide) (fun c hc => by have := hC.1.size; have := hMQo; omega) (Below.refl _ _), RN.below (Below.refl _ _), by omega⟩
                        · refine FrontStep.of [] _ rfl (by kernel_rfl) ?_
                          intro vs LL wq hLL hC hf
                          simp only [putL, List.foldl_nil]
                          go_wp2_with fail
                          first | exact ⟨hC.keep 3 _ (by decide) (fun c hc => by have := hC.1.size; have := hMQo; omega) (Below.refl _ _), RN.below (Below.refl _ _)⟩ | exact ⟨hC.keep 3 _ (by decide) (fun c hc => by have := hC.1.size; have := hMQo; omega) (Below.refl _ _), RN.below (Below.refl _ _), by omega⟩
                        · refine FrontStep.of [2, 3] _ rfl (by kernel_rfl) ?_
                          intro vs LL wq hLL hC hf
                          simp only [putL, List.foldl_nil, List.foldl_cons, List.getElem?_cons_zero, List.getElem?_cons_succ]
                          have e2 : vs 2 = _ := hf 2 (by simp)
                          rw [e2]
                          have e3 : vs 3 = _ := hf 3 (by simp)
                          rw [e3]
                          have hcn := next_nat b0 (· < B) gm wq hC.2.1 (by omega) (by omega)
                          replace hcn := hide hcn
                          go_wp2_with fail
                          refine (unhide hcn).mono ?_
                          rintro e wz ⟨y, rfl, hy, hdn, hgn, hsn⟩
                          go_wp2_with fail
                          first | exact ⟨hC.next 4 _ (by decide) hgn hdn hb0r, RN.grown hgn (fun g e => by injection e; omega), y, rfl, hy⟩ | exact ⟨hC.next 4 _ (by decide) hgn hdn hb0r, RN.grown hgn (fun g e => by injection e; omega), hy⟩
                        · refine FrontStep.of [4] _ rfl (by kernel_rfl) ?_
                          intro vs LL wq hLL hC hf
                          simp only [putL, List.foldl_nil, List.foldl_cons, List.getElem?_cons_zero, List.getElem?_cons_succ]
                          obtain ⟨y, e90, hy⟩ := hf 4 (by simp)
                          rw [e90]
                          have hsq := hC.1.size
                          go_wp2_with fail
                          have hCk := hC.keep (w2 := wq.alloc (Obj.cells #[.int .i64 (y : Int)] 3)) 5 (.slice (some ⟨wq.heap.size, 0, none⟩) 1 1) (by decide) (fun c hc => by have := hMQo; omega) ((Below.refl _ _).alloc (Nat.le_refl _) _)
                          have hRk := RN.below (W0 := wr) ((Below.refl wq.heap.size wq).alloc (Nat.le_refl _) (Obj.cells #[.int .i64 (y : Int)] 3))
                          have hnk := heap_alloc_new wq (Obj.cells #[.int .i64 (y : Int)] 3)
                          first | exact ⟨hCk, hRk, hy, hsq, (Array.getElem?_eq_some_iff.1 hnk).2⟩ | exact ⟨hCk, hRk, hy, hsq⟩ | exact ⟨hCk, hRk, hy, hsq, hnk⟩ | exact ⟨hCk, hRk, y, hy, (Array.getElem?_eq_some_iff.1 hnk).2⟩ | exact ⟨hCk, hRk, _, y, rfl, hy, hsq, hnk⟩
                        · refine FrontStep.of [1, 4, 5] _ rfl (by kernel_rfl) ?_
                          intro vs LL wq hLL hC hf
                          simp only [putL, List.foldl_nil, List.foldl_cons, List.getElem?_cons_zero, List.getElem?_cons_succ]
                          have e1 : vs 1 = _ := hf 1 (by simp)
                          rw [e1]
                          obtain ⟨y, e90, hy⟩ := hf 4 (by simp)
                          rw [e90]
                          obtain ⟨bb, y, e91, hy, hbb1, hbb⟩ := hf 5 (by simp)
                          rw [e91]
                          have hro := hC.2.2.2.1 (hC.2.2.1 6 hLL)
                          have hsq := hC.1.size
                          replace hro := hide hro
                          go_wp2_with (at_builtin; refine wpList_append_one rfl _ _ rfl Wb.heap.size _ _ _ rfl (unhide hro) _ _ rfl hbb ?rca ?rcb ?_)
                          case rca => rw [unhide hxl]; omega
                          case rcb => have := hMQo; omega
                          intro v' wz hownz hgz _
                          obtain ⟨za, zc, rfl⟩ := own_shape hownz
                          go_wp2_with fail
                          first | exact ⟨hC.app _ (by intro h; cases h) (fun c hc => ⟨by have := hMQo; omega, fun e => by have := ((unhide hro).lt c e).1; have := hMQo; omega⟩) hgz (fun e => by have := ((unhide hro).lt b0 e).1; omega) (y : Int) ⟨by omega, by omega⟩ hownz, RN.grown hgz (fun g e => hvlt g e), _, _, _, rfl⟩ | exact ⟨hC.app _ (by intro h; cases h) (fun c hc => ⟨by have := hMQo; omega, fun e => by have := ((unhide hro).lt c e).1; have := hMQo; omega⟩) hgz (fun e => by have := ((unhide hro).lt b0 e).1; omega) (y : Int) ⟨by omega, by omega⟩ hownz, RN.grown hgz (fun g e => hvlt g e)⟩
                        · refine FrontStep.of [0, 1, 2, 3, 4, 5, 6] _ rfl (by kernel_rfl) ?_
                          intro vs LL wq hLL hC hf
                          simp only [putL, List.foldl_nil, List.foldl_cons, List.getElem?_cons_zero, List.getElem?_cons_succ]
                          have e0 : vs 0 = _ := hf 0 (by simp)
                          rw [e0]
                          have e1 : vs 1 = _ := hf 1 (by simp)
                          rw [e1]
                          have e2 : vs 2 = _ := hf 2 (by simp)
                          rw [e2]
                          have e3 : vs 3 = _ := hf 3 (by simp)
                          rw [e3]
                          obtain ⟨y, e90, hy⟩ := hf 4 (by simp)
                          rw [e90]
                          obtain ⟨bb, y, e91, hy, hbb1, hbb⟩ := hf 5 (by simp)
                          rw [e91]
                          obtain ⟨za, zn, zc, e92⟩ := hf 6 (by simp)
                          rw [e92]
                          go_wp2_with fail
                          first | exact ⟨hC.keep 7 _ (by decide) (fun c hc => by have := hC.1.size; have := hMQo; omega) (Below.refl _ _), RN.below (Below.refl _ _)⟩ | exact ⟨hC.keep 7 _ (by decide) (fun c hc => by have := hC.1.size; have := hMQo; omega) (Below.refl _ _), RN.below (Below.refl _ _), by omega⟩
                      · intro vs LL wq hLL hC hf
                        obtain ⟨za, zn, zc, e6⟩ := hf 6 (by omega)
                        have e7 : vs 7 = _ := hf 7 (by omega)
                        rw [putSome_all]
                        simp only [putL, List.range, List.range.loop, List.foldl_nil, List.foldl_cons, List.getElem?_cons_zero, List.getElem?_cons_succ, List.drop_succ_cons, List.drop_zero]
                        obtain ⟨hOld, hDr, -, -, hrow⟩ := hC
                        rw [e6] at hrow
                        obtain ⟨y, hy0, hy1, hrw⟩ := hrow (by intro h; cases h)
                        rw [e6, e7]
                        clear e6 e7 hf hLL hrow
                        obtain ⟨w5, hw5⟩ : ∃ w5, wq.setCell ⟨bs, 2, none⟩ (.slice za zn zc) = w5 := ⟨_, rfl⟩
                        have hps := hMQ.push (q := 2) (unhide hB) hOld hDr ⟨hy0, hy1⟩ hrw hw5
                        obtain ⟨hM5, hcb5⟩ := hps
                        have hcq := (cell_of_row _ _ 2 _ _ _ hcb5).trans rfl
                        have hfq : wq.frozen? ⟨bs, 2, none⟩ = false := by simp [World.frozen?, hcb5]
                        clear hOld hDr hrw hcb5 hMQ hMQcb hMQo hbsl hvbs hvlt
                        replace hM5 := hide hM5; replace hw5 := hide hw5
                        go_wp2_with fail
                        try rw [unhide hw5]
                        have hM6 := unhide hM5
                        go_roundw
                        case rel =>
                          try rw [unhide hw5]
                          exact ⟨j + 1, xs ++ [y], _, by omega, by go_num, by rw [List.length_append, unhide hxl]; rfl, hM6⟩
                        case measure => simp [intOf]; omega
                    · obtain rfl : j = an := by omega
                      obtain ⟨Wc, rfl⟩ : ∃ W : World, W = wr := ⟨_, rfl⟩
                      obtain ⟨vC, rfl⟩ : ∃ v, v = vq := ⟨_, rfl⟩
                      obtain ⟨xC, rfl⟩ : ∃ x, x = xs := ⟨_, rfl⟩
                      have hMBc := hMQ.back (unhide hMBb)
                      have hrC := hMQ.row
                      have hxC := hMQ.good
                      have hlxC := unhide hxl
                      have hwc := hMQ.ord.2.2.2
                      have hrF' := hMQ.stays (unhide hrF) (by have := hMQ.ord; have := (unhide hMB).ord; have := (unhide hMB).lt; have := hwa; omega) ⟨_, (unhide hMBb).cb⟩
                      have hrB' := hMQ.stays (unhide hrB) (by have := hMQ.ord; have := (unhide hMB).ord; have := (unhide hMB).lt; have := hwa; omega) ⟨_, (unhide hMBb).cb⟩
                      clear hrF hrB
                      have hrF := hrF'
                      clear hrF'
                      have hrB := hrB'
                      clear hrB'
                      clear hMQ hxl hjl hj
                      replace hMBc := hide hMBc; replace hrC := hide hrC; replace hxC := hide hxC; replace hlxC := hide hlxC
                      replace hrF := hide hrF
                      replace hrB := hide hrB
                      have hMBx := unhide hMBc
                      have hMIc := (unhide hMI).kept hMBx.bel hMBx.draw hMBx.old (by have := hMBx.lt; have := hMBx.ord.2.2; omega)
                      obtain ⟨pF, cF, rfl, f1, f2, hLF⟩ := own_lst2 (unhide hrF) (good_i64 hg2 (unhide hxF))
                      obtain ⟨pB, cB, rfl, b1, b2, hLB⟩ := own_lst2 (unhide hrB) (good_i64 hg2 (unhide hxB))
                      obtain ⟨pC, cC, rfl, c1, c2, hLC⟩ := own_lst2 (unhide hrC) (good_i64 hg2 (unhide hxC))
                      have hvx : ∀ g, vx.ownBlock = some g → bx < g ∧ g < Wp.heap.size := fun g e => by
                        obtain ⟨ys, q1, _⟩ := (unhide hMI).row
                        exact ⟨(q1.lt g e).1, (q1.lt g e).2⟩
                      obtain ⟨blk, hblk⟩ : ∃ o, Obj.cells #[.slice pB xB.length cB, .slice pF xF.length cF, .slice pC xC.length cC, .int .i64 (tv : Int)] 56 = o := ⟨_, rfl⟩
                      have hbo : Below Wc.heap.size Wc (Wc.alloc blk) := (Below.refl _ _).alloc (Nat.le_refl _) _
                      have hlow : ∀ b, Wp.heap.size ≤ b → bx < b ∧ vx.ownBlock ≠ some b := fun b hb => ⟨by have := (unhide hMI).lt; omega, fun e => by have := (hvx b e).2; omega⟩
                      have hwx : Wp.heap.size ≤ W7.heap.size ∧ W7.heap.size ≤ Wa.heap.size ∧ Wa.heap.size ≤ Wb.heap.size := ⟨by have := (unhide hMB).lt; have := (unhide hMB).ord.2.2; omega, hwa, hwb⟩
                      have wd : ∀ {base : Nat} {a : Option Addr} {n : Nat} {l : List Int}, Wp.heap.size ≤ base → Lst Enc.int Wc (fun b => base ≤ b ∧ b < Wc.heap.size) a n l → Lst Enc.int (Wc.alloc blk) (fun b => bx < b ∧ b < (Wc.alloc blk).heap.size ∧ vx.ownBlock ≠ some b) a n l := fun hb h => (h.same (fun b hb' => hbo.block b hb'.2)).wide (fun b hb' => ⟨(hlow b (by omega)).1, by rw [World.size_alloc]; omega, (hlow b (by omega)).2⟩)
                      have hrep : Enc.sub.rep (Wc.alloc blk) (fun b => bx < b ∧ b < (Wc.alloc blk).heap.size ∧ vx.ownBlock ≠ some b) [.slice pB xB.length cB, .slice pF xF.length cF, .slice pC xC.length cC, .int .i64 (tv : Int)] (xB, xF, xC, (tv : Int)) :=
                        rep_sub (s := (xB, xF, xC, (tv : Int))) ⟨_, _, _, rfl, b1, b2, wd (by omega) hLB⟩ ⟨_, _, _, rfl, f1, f2, wd (by omega) hLF⟩ ⟨_, _, _, rfl, c1, c2, wd (by omega) hLC⟩ (by show I64 (tv : Int); exact ⟨by omega, by omega⟩)
                      have hgs : GoodS (xB, xF, xC, (tv : Int)) gm := ⟨⟨by show 1 ≤ xF.length; rw [unhide hlxF]; omega, by show xF.length ≤ 3; rw [unhide hlxF]; omega, by show xB.length ≤ 2; rw [unhide hlxB]; omega, by show xC.length ≤ 2; rw [unhide hlxC]; omega⟩, unhide hxB, unhide hxF, unhide hxC, by show 0 ≤ (tv : Int); omega, by show (tv : Int) < gm; omega⟩
                      have hoxd := hMIc.row.kept (w' := Wc.alloc blk) (fun b _ h2 => hbo.block b h2) hbo.size
                      have hcx := (cell_of_row _ _ 0 _ _ _ hMIc.cx).trans rfl
                      obtain ⟨d0, d1, d2, d3⟩ : Wc.cell? ⟨bs, 0, none⟩ = some (.slice pB xB.length cB) ∧ Wc.cell? ⟨bs, 1, none⟩ = some (.slice pF xF.length cF) ∧ Wc.cell? ⟨bs, 2, none⟩ = some (.slice pC xC.length cC) ∧ Wc.cell? ⟨bs, 3, none⟩ = some (.int .i64 (tv : Int)) := ⟨(cell_of_row _ _ 0 _ _ _ hMBx.cb).trans rfl, (cell_of_row _ _ 1 _ _ _ hMBx.cb).trans rfl, (cell_of_row _ _ 2 _ _ _ hMBx.cb).trans rfl, (cell_of_row _ _ 3 _ _ _ hMBx.cb).trans rfl⟩
                      have hbxl : bx < (Wc.alloc blk).heap.size := by have := hMIc.lt; rw [World.size_alloc]; omega
                      subst hblk
                      clear hMBx hLF hLB hLC hbo hlow hwx wd hvx hrF hrB hrC hMB hMBa hMBb hMBc hMI f1 f2 b1 b2 c1 c2 hwa hwb
                      replace hMIc := hide hMIc; replace hrep := hide hrep; replace hgs := hide hgs; replace hoxd := hide hoxd; replace hlx := hide hlx
                      go_wp2_with (at_builtin; refine wpList_append_ox Try.underlying35 info_sub rfl (by decide) rfl (by decide) rfl _ _ rfl bx _ _ rfl (unhide hoxd) _ _ (xB, xF, xC, (tv : Int)) rfl (heap_alloc_new _ _) (unhide hrep) ?ya ?yb ?_)
                      case ya => rw [unhide hlx]; omega
                      case yb => exact hbxl
                      intro v' w6 hox6 hg6
                      obtain ⟨hMI6, hc6, hf6⟩ := (unhide hMIc).push (unhide hB) hox6 hg6
                      obtain ⟨va', vc', rfl, -⟩ := hox6.lst
                      obtain ⟨w8, hw8⟩ : ∃ w8, w6.setCell ⟨bx, 0, none⟩ (.slice va' (lx ++ [(xB, xF, xC, (tv : Int))]).length vc') = w8 := ⟨_, rfl⟩
                      rw [hw8] at hMI6
                      obtain ⟨L8, hL8⟩ : ∃ L8, lx ++ [(xB, xF, xC, (tv : Int))] = L8 := ⟨_, rfl⟩
                      obtain ⟨n8, hn8⟩ : ∃ n8, L8.length = n8 := ⟨_, rfl⟩
                      rw [hL8] at hMI6
                      rw [hL8, hn8] at hw8
                      simp only [hL8, hn8]
                      clear hox6 hg6 hoxd hrep hcx d0 d1 d2 d3 hMIc
                      replace hMI6 := hide hMI6; replace hw8 := hide hw8; replace hL8 := hide hL8; replace hn8 := hide hn8
                      go_wp2_with fail
                      go_roundw
                      case rel =>
                        try rw [unhide hw8]
                        refine ⟨i + 1, _, L8, by omega, by go_num, by rw [← unhide hL8, List.length_append, unhide hlx]; rfl, fun s hs => ?_, unhide hMI6⟩
                        rw [← unhide hL8] at hs
                        rcases List.mem_append.1 hs with hs | hs
                        · exact unhide hgx s hs
                        · simp at hs
                          subst hs
                          exact unhide hgs
                      case measure => simp [intOf]; omega
        · obtain rfl : i = sn := by omega
          obtain ⟨wi, rfl⟩ : ∃ W : World, W = wp := ⟨_, rfl⟩
          have hm := unhide hMI
          obtain ⟨xa, xc, rfl, hx1, hx2, hxL⟩ := hm.row.lst
          have hmlt := hm.lt
          have hmo := hm.ord.2
          have hB' := unhide hB
          have hsz := hm.bel.size
          have hox1 := (unhide hox).kept (w' := wi) (fun b h1 h2 => hm.old b h1 (by rw [unhide hbx]; exact h2)) (by rw [← unhide hbx]; omega)
          have hvo : ∀ g, Value.ownBlock u6 = some g → b0 < g ∧ g < bx := fun g e => by
            obtain ⟨ys, q1, _⟩ := unhide hox
            have := q1.lt g e
            rw [unhide hbx]
            exact ⟨this.1, this.2⟩
          have hbo : Below wi.heap.size wi (wi.alloc (Obj.cells #[.slice xa lx.length xc] 37)) := (Below.refl _ _).alloc (Nat.le_refl _) _
          have hox2 := hox1.kept (w' := wi.alloc (Obj.cells #[.slice xa lx.length xc] 37)) (fun b _ h2 => hbo.block b h2) hbo.size
          have hrep : Enc.lk.rep (wi.alloc (Obj.cells #[.slice xa lx.length xc] 37)) (fun b => b0 < b ∧ b < (wi.alloc (Obj.cells #[.slice xa lx.length xc] 37)).heap.size ∧ Value.ownBlock u6 ≠ some b) [.slice xa lx.length xc] lx :=
            ⟨xa, lx.length, xc, rfl, hx1, hx2, (hxL.same (fun b hb => hbo.block b hb.2)).wide (fun b hb => ⟨by have := hm.ord.2; omega, by rw [World.size_alloc]; omega, fun e => by have := (hvo b e).2; omega⟩)⟩
          have hcx := (cell_of_row _ _ 0 _ _ _ hm.cx).trans rfl
          have hd1 := hm.draw
          have hb1 := hm.bel
          clear hox1 hm hx1 hx2 hxL hMI
          replace hox2 := hide hox2; replace hrep := hide hrep; replace hd1 := hide hd1; replace hb1 := hide hb1; replace hvo := hide hvo; replace hbo := hide hbo; replace hB' := hide hB'; replace hlx := hide hlx; replace hlk := hide hlk
          go_wp2_with (at_builtin; refine wpList_append_ox Try.underlying24 info_lk rfl (by decide) rfl (by decide) rfl _ _ rfl b0 _ _ rfl (unhide hox2) _ _ lx rfl (heap_alloc_new _ _) (unhide hrep) ?za ?zb ?_)
          case za => rw [unhide hlk]; omega
          case zb => rw [World.size_alloc]; omega
          intro v' w6 hox6 hg6
          have hs6 := hg6.size
          rw [World.size_alloc] at hs6
          have e6 : ∀ b, b < wi.heap.size → Value.ownBlock u6 ≠ some b → w6.heap[b]? = wi.heap[b]? := fun b hb hne => (hg6.block b (by rw [World.size_alloc]; omega) (fun e => hne e.symm)).trans ((unhide hbo).block b hb)
          have hd6 : DrawAt w6 b0 (· < B) := (unhide hd1).same (e6 b0 (unhide hd1).lt (fun e => by have := (unhide hvo b0 e).1; omega)) (fun c hc => e6 c (by have := unhide hB'; omega) (fun e => by have := (unhide hvo c e).1; omega))
          have hb6 : Below B w w6 := (unhide hb1).trans ⟨hg6.os, hg6.tape, hg6.output, by omega, fun k hk => e6 k (by have := unhide hB'; omega) (fun e => by have := (unhide hvo k e).1; omega)⟩
          clear hg6 e6 hs6 hox2 hrep hcx
          replace hox6 := hide hox6; replace hd6 := hide hd6; replace hb6 := hide hb6
          go_wp2_with fail
          go_roundw
          case rel =>
            refine ⟨k + 1, l ++ [lx], by omega, by go_num, by rw [List.length_append, unhide hlk]; rfl, unhide hox6, fun x hx => ?_, unhide hd6, unhide hb6⟩
            rcases List.mem_append.1 hx with hx | hx
            · exact unhide hgood x hx
            · simp at hx
              subst hx
              exact ⟨by rw [unhide hlx]; omega, unhide hgx⟩
          case measure => simp [intOf]; omega
    · obtain rfl : k = many := by omega
      obtain ⟨a', c', rfl, -, -, hL⟩ := hox.lst
      have hz := hbw
      have hL2 := hL.wide (S' := (· < wo.heap.size)) (fun b hb => hb.2)
      clear hox hL hd hbw
      replace hL2 := hide hL2; replace hz := hide hz; replace hgood := hide hgood; replace hlk := hide hlk
      go_wp2_with fail
      go_ret
      exact ⟨a', c', l, rfl, unhide hL2, ⟨by rw [unhide hlk]; omega, unhide hgood⟩, unhide hz⟩
end Go.Proofs.Ytfbgbbbfpkpfkaa
