/- few, walked. -/
import Derived.Test.YtmlnjbljdincjaaSbF0
namespace Go.Proofs.Ytmlnjbljdincjaa
open Go.RowKit
theorem fewS_take {l : List (List Sub)} {k : Nat} (hk : k ≤ 6) : fewS (l.take k) = (l.take k).map fewX := by
  unfold fewS
  rw [List.take_take, Nat.min_eq_right hk]
theorem map_take_succ {α β : Type} {f : α → β} {l : List α} {k : Nat} {x : α} (hx : l[k]? = some x) : (l.take (k + 1)).map f = (l.take k).map f ++ [f x] := by
  rw [← take_snoc hx, List.map_append]
  rfl
theorem row_ints {w : World} {S : Nat → Prop} {a : Option Addr} {n c : Nat} {l : List Int} (h : Lst Enc.int w S a n l) (hn : n ≤ c) (hc : c ≤ maxLen) : (Enc.list Enc.int).rep w S [.slice a (min (n : Int) 6).toNat c] (l.take 6) := by
  have e : l.take (min (n : Int) 6).toNat = l.take 6 := by
    rw [show (min (n : Int) 6).toNat = min 6 l.length by have := h.1; omega]
    exact (List.take_eq_take_min ..).symm
  have := h.take (k := (min (n : Int) 6).toNat) (by omega)
  rw [e] at this
  exact ⟨a, _, c, rfl, by omega, hc, this⟩
/-- what few holds at the head of a round -/
structure FewO (w wr : World) (v : Value) (us : List Value) (l : List (List Sub)) : Prop where
  bel : Below w.heap.size w wr
  out : wr.ownsRow w.heap.size 37 1 v us.length us
  row : InR wr w.heap.size (· < w.heap.size) us l
/-- and at the head of an inner round -/
structure FewI (w wr : World) (B bx : Nat) (v u : Value) (us : List Value) (l : List (List Sub)) (x : List Sub) : Prop where
  bel : Below B w wr
  box : wr.heap[bx]? = some (.cells #[u] 37 (0, 0))
  out : wr.ownsRow B 37 1 v us.length us
  row : InR wr B (· < B) (us ++ [u]) (l ++ [x])
  ne : v.ownBlock ≠ some bx
  lo : B ≤ bx
theorem FewI.below {w wr wz : World} {B bx : Nat} {v u : Value} {us : List Value} {l : List (List Sub)} {x : List Sub} (h : FewI w wr B bx v u us l x) (hb : Below wr.heap.size wr wz) (hB : B ≤ wr.heap.size) : FewI w wz B bx v u us l x :=
  ⟨h.bel.trans (hb.mono hB), (hb.block bx (Array.getElem?_eq_some_iff.1 h.box).1).trans h.box, own_belowb h.out hb, h.row.kept (fun u hu b hb' => hb.block b (h.row.lt hu hb').2) (fun b hb' => hb.block b (by omega)), h.ne, h.lo⟩
theorem FewI.push {w wr wz : World} {B bx : Nat} {v u u' : Value} {us ys zs : List Value} {l : List (List Sub)} {x : List Sub} {s : Sub} (h : FewI w wr B bx v u us l x) (hB : B ≤ wr.heap.size) (hfl : Flat Enc.sub wr (· < B) ys x) (hz : Enc.sub.rep wr (· < B) zs s)
    (hu : wr.ownsRow B 43 4 u x.length ys) (hrow : wz.ownsRow B 43 4 u' (x.length + 1) (ys ++ zs)) (hg : wr.grownBy wz u.ownBlock) (hb : u'.ownBlock = u.ownBlock ∨ u'.ownBlock = some wr.heap.size) : wz.cell? ⟨bx, 0, none⟩ = some u ∧ wz.frozen? ⟨bx, 0, none⟩ = false ∧ FewI w (wz.setCell ⟨bx, 0, none⟩ u') B bx v u' us l (x ++ [s]) := by
  have hne := own_ne_blk hu h.box (by decide)
  have hbox := (hg.block bx (Array.getElem?_eq_some_iff.1 h.box).1 (fun e => hne e.symm)).trans h.box
  have hr := h.row.app hfl hz hrow hg hb (fun b hb => hb) hB
  have hr2 : ∀ u ∈ us ++ [u'], u.ownBlock ≠ some bx := fun q hq e => by
    obtain ⟨k, hk, rfl⟩ := List.mem_iff_getElem.1 hq
    have hl := hr.1
    obtain ⟨ys, h1, _⟩ := hr.2.1 k _ ((l ++ [x ++ [s]])[k]'(by omega)) (List.getElem?_eq_getElem hk) (List.getElem?_eq_getElem _)
    exact own_ne_blk h1 hbox (by decide) e
  have hset : ∀ b, b ≠ bx → (wz.setCell ⟨bx, 0, none⟩ u').heap[b]? = wz.heap[b]? := fun b hne => by
    rcases Nat.lt_or_ge b wz.heap.size with hb | hb
    · exact (grown_set (w := wz) bx 0 u').block b hb (fun e => by injection e; omega)
    · rw [Array.getElem?_eq_none hb, Array.getElem?_eq_none (by rw [World.size_setCell]; exact hb)]
  refine ⟨(cell_of_row _ _ 0 _ _ _ hbox).trans rfl, by simp [World.frozen?, hbox], ?_, ?_, ?_, ?_, h.ne, h.lo⟩
  · have b1 : Below B wr wz := ⟨hg.os, hg.tape, hg.output, hg.size, fun b hb => hg.block b (by omega) (fun e => by have := (hu.lt b e.symm).1; omega)⟩
    have hgs := grown_set (w := wz) bx 0 u'
    have b2 : Below B wz (wz.setCell ⟨bx, 0, none⟩ u') := ⟨hgs.os, hgs.tape, hgs.output, hgs.size, fun b hb => hset b (by have := h.lo; omega)⟩
    exact (h.bel.trans b1).trans b2
  · exact heap_set hbox u'
  · have ho := h.out
    have hou : ∀ b, v.ownBlock = some b → some b ≠ u.ownBlock := fun b hb' e => by
      rcases own_ne ho hu (by decide) with h1 | h1
      · rw [h1] at hb'
        cases hb'
      · exact h1 (hb'.trans e)
    exact own_same (own_same ho (fun b hb' => hg.block b (ho.lt b hb').2 (hou b hb'))) (fun b hb' => hset b (fun e => h.ne (e ▸ hb')))
  · exact hr.kept (fun u hu b hb' => hset b (fun e => hr2 u hu (e ▸ hb'))) (fun b hb' => hset b (by have := h.lo; omega))
theorem FewI.done {w wr wz : World} {B bx : Nat} {v v' u : Value} {us : List Value} {l : List (List Sub)} {x : List Sub} (h : FewI w wr B bx v u us l x) (hw : w.heap.size = B) (hB : B ≤ wr.heap.size) (hrow : wz.ownsRow B 37 1 v' (us.length + 1) (us ++ [u])) (hg : wr.grownBy wz v.ownBlock) : FewO w wz v' (us ++ [u]) (l ++ [x]) := by
  have ho := h.out
  have hr := h.row
  subst hw
  refine ⟨?_, by rw [List.length_append]; exact hrow, ?_⟩
  · have b1 : Below w.heap.size wr wz := ⟨hg.os, hg.tape, hg.output, hg.size, fun b hb => hg.block b (by omega) (fun e => by have := (ho.lt b e.symm).1; omega)⟩
    exact h.bel.trans b1
  · refine hr.kept (fun q hq b hb' => hg.block b (hr.lt hq hb').2 (fun e => ?_)) (fun b hb' => hg.block b (by omega) (fun e => by have := (ho.lt b e.symm).1; omega))
    obtain ⟨k, hk, rfl⟩ := List.mem_iff_getElem.1 hq
    have hl := hr.1
    obtain ⟨ys, h1, _⟩ := hr.2.1 k _ ((l ++ [x])[k]'(by omega)) (List.getElem?_eq_getElem hk) (List.getElem?_eq_getElem _)
    rcases own_ne h1 ho (by decide) with h2 | h2
    · rw [h2] at hb'
      cases hb'
    · exact h2 (hb'.trans e)
set_option maxRecDepth 100000 in
set_option maxHeartbeats 8000000 in
theorem few_any0 (la : Option Addr) (ln lc : Nat) (l : List (List Sub)) (w : World) (hl : Lst Enc.lk w (· < w.heap.size) la ln l) (hlm : ln ≤ 9223372036854775807) :
    Calls Try.prog 9 #[.slice la ln lc] w fun e w' => ∃ v us, e = .returned v ∧ FewO w w' v us (fewS l) := by
  have hll := hl.1
  obtain ⟨B, hB⟩ : ∃ B, w.heap.size = B := ⟨_, rfl⟩
  rw [hB] at hl
  replace hll := hide hll; replace hl := hide hl; replace hB := hide hB
  go_enter Try.func9, Try.ntmps9
  go_wp2_with fail
  go_loopw [3, 4] (fun vo v wr => ∃ (k : Nat) (us : List Value), k ≤ ln ∧ k ≤ 6 ∧ v = .int .i64 (k : Int) ∧ FewO w wr vo us ((l.take k).map fewX)) (fun _ v _ => 6 - (intOf v).toNat)
  case atStart => exact ⟨0, [], by omega, by omega, rfl, Below.refl _ _, World.ownsRow_nil _ _ _ _, InR.nil _ _ _⟩
  case round =>
    obtain ⟨k, us, hk, hk6, rfl, hF⟩ := hrel
    obtain ⟨wo, rfl⟩ : ∃ wo : World, wo = wr := ⟨_, rfl⟩
    by_cases hlt : k < ln ∧ k < 6
    · obtain ⟨hkl, hk5⟩ := hlt
      obtain ⟨bL, oL, x, xa, xn, xc, rfl, hbL, hx, hxc1, hxc2, hX, cL⟩ := lst_list (unhide hl) hkl
      have hxm : xn ≤ 9223372036854775807 := by unfold maxLen at hxc2; omega
      have hxl := hX.1
      obtain ⟨bx, hbx⟩ : ∃ bx, bx = wo.heap.size := ⟨_, rfl⟩
      obtain ⟨V1, hV1⟩ : ∃ V1, V1 = wo.alloc (Obj.cells #[.slice none 0 0] 37) := ⟨_, rfl⟩
      have hbo : Below wo.heap.size wo V1 := by rw [hV1]; exact (Below.refl _ _).alloc (Nat.le_refl _) _
      have hcx : V1.heap[bx]? = some (.cells #[.slice none 0 0] 37 (0, 0)) := by rw [hV1, hbx]; exact heap_alloc_new wo _
      have hlo : B ≤ wo.heap.size := by have := hF.bel.size; rwa [unhide hB] at this
      have hFI : FewI w V1 B bx u3 (.slice none 0 0) us ((l.take k).map fewX) [] := by
        obtain ⟨g1, g2, g3⟩ := hF
        rw [unhide hB] at g1 g2 g3
        have hrow := (g3.kept (w' := V1) (fun u hu b hb => hbo.block b (g3.lt hu hb).2) (fun b hb => hbo.block b (by omega))).push
        exact ⟨g1.trans (hbo.mono hlo), hcx, own_belowb g2 hbo, hrow, fun e => by have := (g2.lt _ e).2; omega, by omega⟩
      have t1 : (k : Int) < (ln : Int) := by omega
      have t2 : (k : Int) < 6 := by omega
      clear hF hcx hbo hlo
      replace hFI := hide hFI; replace hX := hide hX; replace hx := hide hx; replace hxl := hide hxl; replace hbx := hide hbx; replace hV1 := hide hV1
      go_wp2_with fail
      rw [← unhide hV1, ← unhide hbx]
      go_loopw [6] (fun v wr => ∃ (i : Nat) (u : Value), i ≤ xn ∧ i ≤ 30 ∧ v = .int .i64 (i : Int) ∧ FewI w wr B bx u3 u us ((l.take k).map fewX) ((x.take i).map fewSub)) (fun v _ => 30 - (intOf v).toNat)
      case atStart => exact ⟨0, _, by omega, by omega, rfl, unhide hFI⟩
      case round =>
        clear hFI
        obtain ⟨i, u, hi, hi30, rfl, hFI⟩ := hrel
        obtain ⟨wp, rfl⟩ : ∃ wp : World, wp = wr := ⟨_, rfl⟩
        have cLp := (hFI.bel.cell (p := ⟨bL, oL + k, none⟩) hbL).trans cL
        by_cases hlt : i < xn ∧ i < 30
        · obtain ⟨hil, hi29⟩ := hlt
          have hXp := (unhide hX).below hFI.bel
          have hxi : ((x.take i).map fewSub).length ≤ 1000 := by rw [List.length_map, List.length_take]; omega
          obtain ⟨Xi, hXi⟩ : ∃ Xi, (x.take i).map fewSub = Xi := ⟨_, rfl⟩
          rw [hXi] at hFI hxi
          replace hXi := hide hXi
          obtain ⟨bS, oS, s, a1, n1, c1, a2, n2, c2, a3, n3, c3, rfl, hbS, hs, ⟨p11, p12, p1⟩, ⟨p21, p22, p2⟩, ⟨p31, p32, p3⟩, hto, s0, s1, s2, s3⟩ := lst_sub hXp hil
          have t3 : (i : Int) < (xn : Int) := by omega
          have t4 : (i : Int) < 30 := by omega
          obtain ⟨k1, ek1⟩ : ∃ k1 : Nat, (min (n1 : Int) 6).toNat = k1 := ⟨_, rfl⟩
          have q1 : (if (6 : Int) < (n1 : Int) then (6 : Int) else (n1 : Int)) = (k1 : Int) := by split <;> omega
          have m1 : k1 ≤ c1 := by omega
          have zz1 : (k1 : Int) ≤ (c1 : Int) := by omega
          obtain ⟨k2, ek2⟩ : ∃ k2 : Nat, (min (n2 : Int) 6).toNat = k2 := ⟨_, rfl⟩
          have q2 : (if (6 : Int) < (n2 : Int) then (6 : Int) else (n2 : Int)) = (k2 : Int) := by split <;> omega
          have m2 : k2 ≤ c2 := by omega
          have zz2 : (k2 : Int) ≤ (c2 : Int) := by omega
          obtain ⟨k3, ek3⟩ : ∃ k3 : Nat, (min (n3 : Int) 6).toNat = k3 := ⟨_, rfl⟩
          have q3 : (if (6 : Int) < (n3 : Int) then (6 : Int) else (n3 : Int)) = (k3 : Int) := by split <;> omega
          have m3 : k3 ≤ c3 := by omega
          have zz3 : (k3 : Int) ≤ (c3 : Int) := by omega
          have hsp : Enc.sub.rep wp (· < B) [.slice a1 k1 c1, .slice a2 k2 c2, .slice a3 k3 c3, .int .i64 s.2.2.2] (fewSub s) := by
            rw [← ek1, ← ek2, ← ek3]
            exact rep_sub (s := fewSub s) (row_ints p1 p11 p12) (row_ints p2 p21 p22) (row_ints p3 p31 p32) hto
          clear ek1 ek2 ek3
          obtain ⟨tv, hto'⟩ : ∃ tv, s.2.2.2 = tv := ⟨_, rfl⟩
          rw [hto'] at s3 hsp
          clear p1 p2 p3 hXp hto
          have cbx : ∀ o, (wp.alloc o).cell? ⟨bx, 0, none⟩ = some u := fun o => cell_under ((cell_of_row _ _ 0 _ _ _ hFI.box).trans rfl) ((Below.refl _ _).alloc (Nat.le_refl _) o)
          have fbx : ∀ o, (wp.alloc o).heap[bx]? = some (.cells #[u] 37 (0, 0)) := fun o => (((Below.refl _ _).alloc (Nat.le_refl _) o).block bx (Array.getElem?_eq_some_iff.1 hFI.box).1).trans hFI.box
          replace fbx := hide fbx
          replace hFI := hide hFI; replace hsp := hide hsp; replace hs := hide hs; replace hto' := hide hto'
          have hlo2 : B ≤ wp.heap.size := by have := (unhide hFI).lo; have := (Array.getElem?_eq_some_iff.1 (unhide hFI).box).1; omega
          have hb2 : Below wp.heap.size wp ((wp.alloc (Obj.cells #[.slice a1 k1 c1, .slice a2 k2 c2, .slice a3 k3 c3, .int .i64 tv] 43)).alloc (Obj.cells #[.slice a1 k1 c1, .slice a2 k2 c2, .slice a3 k3 c3, .int .i64 tv] 43)) := ((Below.refl _ _).alloc (Nat.le_refl _) _).alloc (by rw [World.size_alloc]; omega) _
          have hcs : ((wp.alloc (Obj.cells #[.slice a1 k1 c1, .slice a2 k2 c2, .slice a3 k3 c3, .int .i64 tv] 43)).alloc (Obj.cells #[.slice a1 k1 c1, .slice a2 k2 c2, .slice a3 k3 c3, .int .i64 tv] 43)).heap[wp.heap.size + 1]? = some (.cells #[.slice a1 k1 c1, .slice a2 k2 c2, .slice a3 k3 c3, .int .i64 tv] 43 (0, 0)) := by have := heap_alloc_new (wp.alloc (Obj.cells #[.slice a1 k1 c1, .slice a2 k2 c2, .slice a3 k3 c3, .int .i64 tv] 43)) (Obj.cells #[.slice a1 k1 c1, .slice a2 k2 c2, .slice a3 k3 c3, .int .i64 tv] 43); rwa [World.size_alloc] at this
          replace hcs := hide hcs
          have hF2 := (unhide hFI).below hb2 hlo2
          have hsp2 := Enc.sub.same (fun b hb => hb2.block b (by omega)) (unhide hsp)
          have hlo3 := Nat.le_trans hlo2 hb2.size
          obtain ⟨ys, hys, hfy⟩ := hF2.row.last
          clear hFI hsp hb2 hlo2
          replace hF2 := hide hF2; replace hsp2 := hide hsp2; replace hlo3 := hide hlo3; replace hys := hide hys; replace hfy := hide hfy; replace hxi := hide hxi
          go_wp2_with (at_builtin; refine wpList_append_el Try.underlying35 info_sub rfl (by decide) (by decide) rfl _ _ rfl B _ _ ys rfl (unhide hys) _ [.slice a1 k1 c1, .slice a2 k2 c2, .slice a3 k3 c3, .int .i64 tv] rfl (unhide hcs) rfl ?aa ?ab ?ac ?_)
          case aa => intro u hu; simp at hu; rcases hu with rfl | rfl | rfl | rfl <;> rfl
          case ab => exact unhide hxi
          case ac => exact unhide hlo3
          intro v' w' hrow hgr hown
          obtain ⟨za, zc, rfl⟩ := own_shape hrow
          obtain ⟨cq, fq, hF3⟩ := (unhide hF2).push (unhide hlo3) (unhide hfy) (unhide hsp2) (unhide hys) hrow hgr (by rw [World.size_alloc, World.size_alloc]; exact hown)
          clear hrow hgr hown hF2 hsp2 hys hfy hlo3 hxi
          replace hF3 := hide hF3
          go_wp2_with fail
          go_roundw
          case rel => exact ⟨i + 1, _, by omega, by omega, by go_num, by rw [map_take_succ (unhide hs), unhide hXi]; exact unhide hF3⟩
          case measure => simp [intOf]; omega
        · have hfx : (x.take i).map fewSub = fewX x := by
            unfold fewX
            rw [show x.take i = x.take 30 by
              rcases Nat.lt_or_ge i 30 with h | h
              · rw [List.take_of_length_le (by rw [unhide hxl]; omega), List.take_of_length_le (by rw [unhide hxl]; omega)]
              · rw [show i = 30 by omega]]
          rw [hfx] at hFI
          have t3 : ¬ ((i : Int) < (xn : Int) ∧ (i : Int) < 30) := by omega
          have hbx2 : ∀ o, (wp.alloc o).cell? ⟨bx, 0, none⟩ = some u := fun o => cell_under ((cell_of_row _ _ 0 _ _ _ hFI.box).trans rfl) ((Below.refl _ _).alloc (Nat.le_refl _) o)
          have hbx1 : wp.cell? ⟨bx, 0, none⟩ = some u := (cell_of_row _ _ 0 _ _ _ hFI.box).trans rfl
          have hlo2 : B ≤ wp.heap.size := by have := hFI.lo; have := (Array.getElem?_eq_some_iff.1 hFI.box).1; omega
          have hb2 : Below wp.heap.size wp (wp.alloc (Obj.cells #[u] 37)) := (Below.refl _ _).alloc (Nat.le_refl _) _
          have hF2 := hFI.below hb2 hlo2
          have hcs : (wp.alloc (Obj.cells #[u] 37)).heap[wp.heap.size]? = some (.cells #[u] 37 (0, 0)) := heap_alloc_new wp _
          have hul : us.length ≤ 1000 := by have := hFI.row.1; simp at this; omega
          have hlo3 := Nat.le_trans hlo2 hb2.size
          obtain ⟨ya, yn, yc, hue⟩ : ∃ ya yn yc, u = .slice ya yn yc := by
            obtain ⟨ys, hys, _⟩ := hFI.row.last
            obtain ⟨ya, yc, h⟩ := own_shape hys
            exact ⟨ya, _, yc, h⟩
          have hout := hF2.out
          clear hFI hb2 hlo2
          subst hue
          replace hF2 := hide hF2; replace hcs := hide hcs; replace hul := hide hul; replace hlo3 := hide hlo3; replace hout := hide hout
          by_cases hxi : (i : Int) < (xn : Int)
          · have t5 : ¬ (i : Int) < 30 := by omega
            go_wp2_with (at_builtin; refine wpList_append_el Try.underlying23 info_lk rfl (by decide) (by decide) rfl _ _ rfl B _ _ us rfl (unhide hout) _ [.slice ya yn yc] rfl (unhide hcs) rfl ?ba ?bb ?bc ?_)
            case ba => rfl
            case bb => exact unhide hul
            case bc => have := unhide hlo3; rw [World.size_alloc] at this; exact this
            intro v' w' hrow hgr hown
            have hFO := (unhide hF2).done (unhide hB) (unhide hlo3) hrow hgr
            rw [← map_take_succ (unhide hx)] at hFO
            clear hrow hgr hown hF2 hcs hul hlo3 hout
            replace hFO := hide hFO
            go_wp2_with fail
            go_roundw
            case rel => exact ⟨k + 1, _, by omega, by omega, by go_num, unhide hFO⟩
            case measure => simp [intOf]; omega
          · have t5 : decide ((i : Int) < (xn : Int)) = false := decide_eq_false hxi
            go_wp2_with (at_builtin; refine wpList_append_el Try.underlying23 info_lk rfl (by decide) (by decide) rfl _ _ rfl B _ _ us rfl (unhide hout) _ [.slice ya yn yc] rfl (unhide hcs) rfl ?da ?db ?dc ?_)
            case da => rfl
            case db => exact unhide hul
            case dc => have := unhide hlo3; rw [World.size_alloc] at this; exact this
            intro v' w' hrow hgr hown
            have hFO := (unhide hF2).done (unhide hB) (unhide hlo3) hrow hgr
            rw [← map_take_succ (unhide hx)] at hFO
            clear hrow hgr hown hF2 hcs hul hlo3 hout
            replace hFO := hide hFO
            go_wp2_with fail
            go_roundw
            case rel => exact ⟨k + 1, _, by omega, by omega, by go_num, unhide hFO⟩
            case measure => simp [intOf]; omega
    · have hfx : (l.take k).map fewX = fewS l := by
        unfold fewS
        rw [show l.take k = l.take 6 by
          rcases Nat.lt_or_ge k 6 with h | h
          · rw [List.take_of_length_le (by rw [unhide hll]; omega), List.take_of_length_le (by rw [unhide hll]; omega)]
          · rw [show k = 6 by omega]]
      rw [hfx] at hF
      clear hfx
      replace hF := hide hF
      by_cases hxi : (k : Int) < (ln : Int)
      · have t5 : ¬ (k : Int) < 6 := by omega
        go_wp2_with fail
        go_ret
        first | exact ⟨us, unhide hF⟩ | exact ⟨u3, ⟨rfl, us, unhide hF⟩⟩ | exact ⟨u3, us, rfl, unhide hF⟩
      · go_wp2_with fail
        go_ret
        first | exact ⟨us, unhide hF⟩ | exact ⟨u3, ⟨rfl, us, unhide hF⟩⟩ | exact ⟨u3, us, rfl, unhide hF⟩
theorem few_any (la : Option Addr) (ln lc : Nat) (l : List (List Sub)) (w : World) (hl : Lst Enc.lk w (· < w.heap.size) la ln l) (hl1 : ln ≤ lc) (hl2 : lc ≤ maxLen) :
    Calls Try.prog 9 #[.slice la ln lc] w fun e w' => ∃ v us, e = .returned v ∧ FewO w w' v us (fewS l) := by
  exact few_any0 la ln lc l w hl (by unfold maxLen at hl2; omega)
end Go.Proofs.Ytmlnjbljdincjaa
