/- Tents: the regions that numbers make. -/
import Derived.Test.YthkppilelpaieaaAx12
namespace Go.Proofs.Ythkppilelpaieaa
open Go.RowKit
theorem info_tent : (Try.prog.info? 52).map (fun i => (i.zero, i.size, i.bytes)) = some (some (.agg #[.int .i64 0, .int .i64 0, .int .i64 0]), 3, 24) := by kernel_rfl
abbrev tcell (t : Tent) : List Value := [.int .i64 t.1, .int .i64 t.2.1, .int .i64 t.2.2]
theorem tent_rep {W : World} {S : Nat → Prop} {t : Tent} (h1 : I64 t.1) (h2 : I64 t.2.1) (h3 : I64 t.2.2) : Enc.tent.rep W S (tcell t) t := ⟨[.int .i64 t.1], _, rfl, ⟨rfl, h1⟩, [.int .i64 t.2.1], _, rfl, ⟨rfl, h2⟩, rfl, h3⟩
set_option maxHeartbeats 8000000 in
set_option maxRecDepth 100000 in
theorem region_any (a : Option Addr) (n c : Nat) (L : List Int) (m : Nat) (w : World) (hl : Lst Enc.int w (· < w.heap.size) a n L) (hn : n ≤ maxLen) (hm : m ≤ 4) :
    Calls Try.prog 18 #[.slice a n c, .int .i64 (m : Int)] w fun e w' => ∃ a' c' l, e = .returned (.slice a' m c') ∧ Lst Enc.tent w' (· < w'.heap.size) a' m l ∧ m ≤ c' ∧ c' ≤ maxLen ∧ allV l = true ∧ Below w.heap.size w w' := by
  obtain ⟨b0, V, hb0, hV, st⟩ := (St.start w).new (Obj.cells #[.slice a n c, .int .i64 0] 58)
  have hd0 : DrawAt V b0 (· < w.heap.size) := ⟨a, n, c, 0, L, st.get 0 rfl, Nat.zero_le _, hn, hl.below st.below, fun h => by omega⟩
  have hR0 : RI w V w.heap.size b0 (b0 + 1) 52 3 (.slice none 0 0) 0 [] := ⟨st.below, hd0, World.ownsRow_nil _ _ _ _, by omega, by omega⟩
  clear st hl hd0
  obtain ⟨B, hB⟩ : ∃ B, w.heap.size = B := ⟨_, rfl⟩
  rw [hB] at hR0 hb0
  replace hR0 := hide hR0; replace hV := hide hV; replace hb0 := hide hb0; replace hB := hide hB
  go_enter Try.func18, Try.ntmps18
  go_wp2_with fail
  rw [unhide hV]
  try rw [unhide hB, unhide hb0]
  go_loopw [6, 7] (fun v6 v wr => ∃ (k : Nat) (l : List Tent) (xs : List Value), k ≤ m ∧ v = .int .i64 (k : Int) ∧ l.length = k ∧ allV l = true ∧ (∀ W, Flat Enc.tent W (fun _ => False) xs l) ∧ RI w wr B b0 (b0 + 1) 52 3 v6 k xs) (fun _ v _ => m - (intOf v).toNat)
  case atStart => exact ⟨0, [], [], by omega, rfl, rfl, rfl, fun _ => rfl, unhide hR0⟩
  case round =>
    clear hR0
    obtain ⟨k, l, xs, hk, rfl, hlk, hal, hfl, hR⟩ := hrel
    obtain ⟨wo, rfl⟩ : ∃ wo : World, wo = wr := ⟨_, rfl⟩
    replace hal := hide hal; replace hfl := hide hfl; replace hlk := hide hlk
    by_cases hlt : k < m
    · have hc := next_nat b0 (· < B) 40 wo hR.draw (by omega) (by omega)
      replace hR := hide hR; replace hc := hide hc
      go_wp2_with fail
      refine (unhide hc).mono ?_
      rintro e w1 ⟨x, rfl, hx, hd, hg, -⟩
      have hR1 := (unhide hR).next hd hg
      have hc' := next_nat b0 (· < B) 25 w1 hR1.draw (by omega) (by omega)
      clear hR hc hd hg
      replace hR1 := hide hR1; replace hc' := hide hc'
      go_wp2_with fail
      refine (unhide hc').mono ?_
      rintro e w2 ⟨y0, rfl, hy, hd, hg, -⟩
      have hR2 := (unhide hR1).next hd hg
      obtain ⟨y, hye⟩ : ∃ y, x + y0 = y := ⟨_, rfl⟩
      have s1 : IntKind.i64.wrap ((x : Int) + (y0 : Int)) = (y : Int) := by rw [IntWalk.i64_in _ (by omega)]; omega
      have s1' : (x : Int) + (y0 : Int) = (y : Int) := by omega
      have hc := next_nat b0 (· < B) 30 w2 hR2.draw (by omega) (by omega)
      clear hR1 hc' hd hg
      replace hR2 := hide hR2; replace hc := hide hc
      go_wp2_with fail
      refine (unhide hc).mono ?_
      rintro e w3 ⟨z0, rfl, hz, hd, hg, -⟩
      have hR3 := (unhide hR2).next hd hg
      have hxy : x ≤ y ∧ y ≤ 63 := by omega
      clear s1 s1' hye hR2 hc hd hg hy hx
      obtain ⟨z1, hze⟩ : ∃ z, y + z0 = z := ⟨_, rfl⟩
      have s2 : IntKind.i64.wrap ((y : Int) + (z0 : Int)) = (z1 : Int) := by rw [IntWalk.i64_in _ (by omega)]; omega
      have s2' : (y : Int) + (z0 : Int) = (z1 : Int) := by omega
      obtain ⟨z, hzz⟩ : ∃ z : Nat, (if (64 : Int) < (z1 : Int) then (64 : Int) else (z1 : Int)) = (z : Int) := ⟨min z1 64, by split <;> omega⟩
      have hyz : y ≤ z ∧ z ≤ 64 := by split at hzz <;> omega
      have hmn : ¬ (z : Int) < (y : Int) := by omega
      have s5 : min (y : Int) (z : Int) = (y : Int) := by omega
      have s4 : min (z1 : Int) 64 = (z : Int) := by split at hzz <;> omega
      have s3 : wrap64 (z1 : Int) = (z1 : Int) := IntWalk.wrap64_in _ (by omega)
      replace s2 := hide s2; replace s3 := hide s3; replace s4 := hide s4
      clear hze hz
      obtain ⟨bs, V2, hbs, hV2, st⟩ := (St.start w3).new (Obj.cells #[.int .i64 (x : Int), .int .i64 (y : Int), .int .i64 (z : Int)] 52)
      have hR4 := hR3.below st.below
      have hcs := st.get 0 rfl
      have hne : u6.ownBlock ≠ some bs := fun e => by have := (hR3.row.lt bs e).2; omega
      have hbs0 : b0 < bs := by have := hR3.lt; omega
      have hc := next_nat b0 (· < B) 5 V2 hR4.draw (by omega) (by omega)
      clear st hR3
      replace hR4 := hide hR4; replace hcs := hide hcs; replace hne := hide hne; replace hbs := hide hbs; replace hV2 := hide hV2; replace hc := hide hc
      replace s2 := unhide s2; replace s3 := unhide s3; replace s4 := unhide s4
      go_wp2_with fail
      rw [unhide hV2]
      try rw [unhide hbs]
      refine (unhide hc).mono ?_
      rintro e w4 ⟨sw, rfl, hsw, hd, hg, -⟩
      clear s2 s2' s3 s4 s5 hzz hmn
      have hR5 := (unhide hR4).next hd hg
      have hbsl := (Array.getElem?_eq_some_iff.1 (unhide hcs)).1
      have hcs2 := (hg.block bs hbsl (fun e => by injection e; omega)).trans (unhide hcs)
      have hbsl2 : bs < w4.heap.size := (Array.getElem?_eq_some_iff.1 hcs2).1
      clear hR4 hc hd hg hcs
      have g0 : w4.cell? ⟨bs, 0, none⟩ = some (.int .i64 (x : Int)) := (cell_of_row _ _ 0 _ _ _ hcs2).trans rfl
      have g1 : w4.cell? ⟨bs, 1, none⟩ = some (.int .i64 (y : Int)) := (cell_of_row _ _ 1 _ _ _ hcs2).trans rfl
      have g2 : w4.cell? ⟨bs, 2, none⟩ = some (.int .i64 (z : Int)) := (cell_of_row _ _ 2 _ _ _ hcs2).trans rfl
      have f0 : w4.frozen? ⟨bs, 0, none⟩ = false := by simp [World.frozen?, hcs2]
      have f1 : w4.frozen? ⟨bs, 1, none⟩ = false := by simp [World.frozen?, hcs2]
      have f2 : w4.frozen? ⟨bs, 2, none⟩ = false := by simp [World.frozen?, hcs2]
      have k0 := fun (p : Int) => heap_set (off := 0) hcs2 (.int .i64 p)
      have k1 := fun (p q : Int) => heap_set (off := 1) (k0 p) (.int .i64 q)
      have k2 : ∀ p q r : Int, (((w4.setCell ⟨bs, 0, none⟩ (.int .i64 p)).setCell ⟨bs, 1, none⟩ (.int .i64 q)).setCell ⟨bs, 2, none⟩ (.int .i64 r)).heap[bs]? = some (.cells #[.int .i64 p, .int .i64 q, .int .i64 r] 52 (0, 0)) := fun p q r => (heap_set (off := 2) (k1 p q) (.int .i64 r)).trans rfl
      have g1' : ∀ p : Int, (w4.setCell ⟨bs, 0, none⟩ (.int .i64 p)).cell? ⟨bs, 1, none⟩ = some (.int .i64 (y : Int)) := fun p => (cell_of_row _ _ 1 _ _ _ (k0 p)).trans rfl
      have g2' : ∀ p q : Int, ((w4.setCell ⟨bs, 0, none⟩ (.int .i64 p)).setCell ⟨bs, 1, none⟩ (.int .i64 q)).cell? ⟨bs, 2, none⟩ = some (.int .i64 (z : Int)) := fun p q => (cell_of_row _ _ 2 _ _ _ (k1 p q)).trans rfl
      have f1' : ∀ p : Int, (w4.setCell ⟨bs, 0, none⟩ (.int .i64 p)).frozen? ⟨bs, 1, none⟩ = false := fun p => by simp [World.frozen?, k0 p]
      have f2' : ∀ p q : Int, ((w4.setCell ⟨bs, 0, none⟩ (.int .i64 p)).setCell ⟨bs, 1, none⟩ (.int .i64 q)).frozen? ⟨bs, 2, none⟩ = false := fun p q => by simp [World.frozen?, k1 p q]
      have hR6 : ∀ p q r : Int, RI w (((w4.setCell ⟨bs, 0, none⟩ (.int .i64 p)).setCell ⟨bs, 1, none⟩ (.int .i64 q)).setCell ⟨bs, 2, none⟩ (.int .i64 r)) B b0 (b0 + 1) 52 3 u6 k xs := fun p q r => ((hR5.set hbs0 (unhide hne)).set hbs0 (unhide hne)).set hbs0 (unhide hne)
      clear k0 k1
      replace hR5 := hide hR5; replace hR6 := hide hR6; replace k2 := hide k2; replace hcs2 := hide hcs2
      have n1 : IntKind.i64.wrap (-(z : Int)) = -(z : Int) := IntWalk.i64_in _ (by omega)
      have n2 : IntKind.i64.wrap (-(y : Int)) = -(y : Int) := IntWalk.i64_in _ (by omega)
      have n3 : IntKind.i64.wrap (-(x : Int)) = -(x : Int) := IntWalk.i64_in _ (by omega)
      have m1 : wrap64 (-(z : Int)) = -(z : Int) := IntWalk.wrap64_in _ (by omega)
      have m2 : wrap64 (-(y : Int)) = -(y : Int) := IntWalk.wrap64_in _ (by omega)
      have m3 : wrap64 (-(x : Int)) = -(x : Int) := IntWalk.wrap64_in _ (by omega)
      replace n1 := hide n1; replace n2 := hide n2; replace n3 := hide n3; replace m1 := hide m1; replace m2 := hide m2; replace m3 := hide m3
      obtain rfl | rfl | rfl | h3 : sw = 0 ∨ sw = 1 ∨ sw = 2 ∨ 3 ≤ sw := by omega
      · have hval : validS (-(z : Int)) (-(y : Int)) (-(x : Int)) = true := decide_eq_true (by omega)
        have hcs3 := unhide k2 (-(z : Int)) (-(y : Int)) (-(x : Int))
        have hR7 := unhide hR6 (-(z : Int)) (-(y : Int)) (-(x : Int))
        replace n1 := unhide n1; replace n2 := unhide n2; replace n3 := unhide n3; replace m1 := unhide m1; replace m2 := unhide m2; replace m3 := unhide m3
        go_upto_region 17 with fail
        obtain ⟨w5, hw5⟩ : ∃ w5, ((w4.setCell ⟨bs, 0, none⟩ (.int .i64 (-(z : Int)))).setCell ⟨bs, 1, none⟩ (.int .i64 (-(y : Int)))).setCell ⟨bs, 2, none⟩ (.int .i64 (-(x : Int))) = w5 := ⟨_, rfl⟩
        rw [hw5] at hcs3 hR7 ⊢
        clear hw5 g0 g1 g2 f0 f1 f2 g1' g2' f1' f2' k2 hR5 hR6 hcs2
        have g0z : (w5).cell? ⟨bs, 0, none⟩ = some (.int .i64 (-(z : Int))) := (cell_of_row _ _ 0 _ _ _ hcs3).trans rfl
        have g1z : (w5).cell? ⟨bs, 1, none⟩ = some (.int .i64 (-(y : Int))) := (cell_of_row _ _ 1 _ _ _ hcs3).trans rfl
        have g2z : (w5).cell? ⟨bs, 2, none⟩ = some (.int .i64 (-(x : Int))) := (cell_of_row _ _ 2 _ _ _ hcs3).trans rfl
        have hb5 := (Below.refl (w5).heap.size (w5)).alloc (Nat.le_refl _) (Obj.cells #[.int .i64 (-(z : Int)), .int .i64 (-(y : Int)), .int .i64 (-(x : Int))] 52)
        have hR8 := hR7.below hb5
        have hrow := hR8.row
        have hcs4 := heap_alloc_new (w5) (Obj.cells #[.int .i64 (-(z : Int)), .int .i64 (-(y : Int)), .int .i64 (-(x : Int))] 52)
        have hsz : b0 + 1 ≤ ((w5).alloc (Obj.cells #[.int .i64 (-(z : Int)), .int .i64 (-(y : Int)), .int .i64 (-(x : Int))] 52)).heap.size := by have := hR8.lt; omega
        obtain ⟨v1, v2, v3, v4, _⟩ := valid_facts hval
        have hfl2 : ∀ W, Flat Enc.tent W (fun _ => False) (xs ++ [.int .i64 (-(z : Int)), .int .i64 (-(y : Int)), .int .i64 (-(x : Int))]) (l ++ [((-(z : Int)), (-(y : Int)), (-(x : Int)))]) := fun W => (unhide hfl W).append (Flat.single (tent_rep (t := ((-(z : Int)), (-(y : Int)), (-(x : Int)))) (show I64 (-(z : Int)) from ⟨by omega, by omega⟩) (show I64 (-(y : Int)) from ⟨by omega, by omega⟩) (show I64 (-(x : Int)) from ⟨by omega, by omega⟩)))
        have hal2 : allV (l ++ [((-(z : Int)), (-(y : Int)), (-(x : Int)))]) = true := by
          have := unhide hal
          unfold allV at this ⊢
          rw [List.all_append, this]
          simp [hval]
        clear hR7 hb5 hcs3 v1 v2 v3 v4
        replace hR8 := hide hR8; replace hrow := hide hrow; replace hfl2 := hide hfl2; replace hal2 := hide hal2; replace hval := hide hval; replace hcs4 := hide hcs4; replace hsz := hide hsz
        go_wp2_with (at_builtin; refine wpList_append_el Try.underlying40 info_tent rfl (by decide) (by decide) rfl _ _ rfl (b0 + 1) _ k xs rfl (unhide hrow) _ [.int .i64 (-(z : Int)), .int .i64 (-(y : Int)), .int .i64 (-(x : Int))] rfl (unhide hcs4) rfl ?aone ?ahn ?ahbase ?_)
        try (case aone => first | exact ⟨rfl, rfl, rfl⟩ | (intro u hu; simp at hu; rcases hu with rfl | rfl | rfl <;> rfl))
        try (case ahn => omega)
        try (case ahbase => first | exact unhide hsz | (have := unhide hsz; rw [World.size_alloc] at this; omega))
        intro v' w6 hrow2 hgr _
        have hR9 := (unhide hR8).push hrow2 hgr
        clear hrow hR8 hrow2 hgr hsz
        replace hR9 := hide hR9
        go_wp2_with fail
        go_roundw
        case rel => exact ⟨k + 1, l ++ [((-(z : Int)), (-(y : Int)), (-(x : Int)))], _, by omega, by go_num, by rw [List.length_append, unhide hlk]; rfl, unhide hal2, unhide hfl2, unhide hR9⟩
        case measure => simp [intOf]; omega
      · have hval : validS 0 64 64 = true := by decide
        have hcs3 := unhide k2 0 64 64
        have hR7 := unhide hR6 0 64 64
        go_upto_region 17 with fail
        obtain ⟨w5, hw5⟩ : ∃ w5, ((w4.setCell ⟨bs, 0, none⟩ (.int .i64 0)).setCell ⟨bs, 1, none⟩ (.int .i64 64)).setCell ⟨bs, 2, none⟩ (.int .i64 64) = w5 := ⟨_, rfl⟩
        rw [hw5] at hcs3 hR7 ⊢
        clear hw5 g0 g1 g2 f0 f1 f2 g1' g2' f1' f2' k2 hR5 hR6 hcs2
        have g0z : (w5).cell? ⟨bs, 0, none⟩ = some (.int .i64 0) := (cell_of_row _ _ 0 _ _ _ hcs3).trans rfl
        have g1z : (w5).cell? ⟨bs, 1, none⟩ = some (.int .i64 64) := (cell_of_row _ _ 1 _ _ _ hcs3).trans rfl
        have g2z : (w5).cell? ⟨bs, 2, none⟩ = some (.int .i64 64) := (cell_of_row _ _ 2 _ _ _ hcs3).trans rfl
        have hb5 := (Below.refl (w5).heap.size (w5)).alloc (Nat.le_refl _) (Obj.cells #[.int .i64 0, .int .i64 64, .int .i64 64] 52)
        have hR8 := hR7.below hb5
        have hrow := hR8.row
        have hcs4 := heap_alloc_new (w5) (Obj.cells #[.int .i64 0, .int .i64 64, .int .i64 64] 52)
        have hsz : b0 + 1 ≤ ((w5).alloc (Obj.cells #[.int .i64 0, .int .i64 64, .int .i64 64] 52)).heap.size := by have := hR8.lt; omega
        obtain ⟨v1, v2, v3, v4, _⟩ := valid_facts hval
        have hfl2 : ∀ W, Flat Enc.tent W (fun _ => False) (xs ++ [.int .i64 0, .int .i64 64, .int .i64 64]) (l ++ [(0, 64, 64)]) := fun W => (unhide hfl W).append (Flat.single (tent_rep (t := (0, 64, 64)) (show I64 0 from ⟨by omega, by omega⟩) (show I64 64 from ⟨by omega, by omega⟩) (show I64 64 from ⟨by omega, by omega⟩)))
        have hal2 : allV (l ++ [(0, 64, 64)]) = true := by
          have := unhide hal
          unfold allV at this ⊢
          rw [List.all_append, this]
          simp [hval]
        clear hR7 hb5 hcs3 v1 v2 v3 v4
        replace hR8 := hide hR8; replace hrow := hide hrow; replace hfl2 := hide hfl2; replace hal2 := hide hal2; replace hval := hide hval; replace hcs4 := hide hcs4; replace hsz := hide hsz
        go_wp2_with (at_builtin; refine wpList_append_el Try.underlying40 info_tent rfl (by decide) (by decide) rfl _ _ rfl (b0 + 1) _ k xs rfl (unhide hrow) _ [.int .i64 0, .int .i64 64, .int .i64 64] rfl (unhide hcs4) rfl ?bone ?bhn ?bhbase ?_)
        try (case bone => first | exact ⟨rfl, rfl, rfl⟩ | (intro u hu; simp at hu; rcases hu with rfl | rfl | rfl <;> rfl))
        try (case bhn => omega)
        try (case bhbase => first | exact unhide hsz | (have := unhide hsz; rw [World.size_alloc] at this; omega))
        intro v' w6 hrow2 hgr _
        have hR9 := (unhide hR8).push hrow2 hgr
        clear hrow hR8 hrow2 hgr hsz
        replace hR9 := hide hR9
        go_wp2_with fail
        go_roundw
        case rel => exact ⟨k + 1, l ++ [(0, 64, 64)], _, by omega, by go_num, by rw [List.length_append, unhide hlk]; rfl, unhide hal2, unhide hfl2, unhide hR9⟩
        case measure => simp [intOf]; omega
      · have hval : validS (-64) 0 64 = true := by decide
        have hcs3 := unhide k2 (-64) 0 64
        have hR7 := unhide hR6 (-64) 0 64
        go_upto_region 17 with fail
        obtain ⟨w5, hw5⟩ : ∃ w5, ((w4.setCell ⟨bs, 0, none⟩ (.int .i64 (-64))).setCell ⟨bs, 1, none⟩ (.int .i64 0)).setCell ⟨bs, 2, none⟩ (.int .i64 64) = w5 := ⟨_, rfl⟩
        rw [hw5] at hcs3 hR7 ⊢
        clear hw5 g0 g1 g2 f0 f1 f2 g1' g2' f1' f2' k2 hR5 hR6 hcs2
        have g0z : (w5).cell? ⟨bs, 0, none⟩ = some (.int .i64 (-64)) := (cell_of_row _ _ 0 _ _ _ hcs3).trans rfl
        have g1z : (w5).cell? ⟨bs, 1, none⟩ = some (.int .i64 0) := (cell_of_row _ _ 1 _ _ _ hcs3).trans rfl
        have g2z : (w5).cell? ⟨bs, 2, none⟩ = some (.int .i64 64) := (cell_of_row _ _ 2 _ _ _ hcs3).trans rfl
        have hb5 := (Below.refl (w5).heap.size (w5)).alloc (Nat.le_refl _) (Obj.cells #[.int .i64 (-64), .int .i64 0, .int .i64 64] 52)
        have hR8 := hR7.below hb5
        have hrow := hR8.row
        have hcs4 := heap_alloc_new (w5) (Obj.cells #[.int .i64 (-64), .int .i64 0, .int .i64 64] 52)
        have hsz : b0 + 1 ≤ ((w5).alloc (Obj.cells #[.int .i64 (-64), .int .i64 0, .int .i64 64] 52)).heap.size := by have := hR8.lt; omega
        obtain ⟨v1, v2, v3, v4, _⟩ := valid_facts hval
        have hfl2 : ∀ W, Flat Enc.tent W (fun _ => False) (xs ++ [.int .i64 (-64), .int .i64 0, .int .i64 64]) (l ++ [((-64), 0, 64)]) := fun W => (unhide hfl W).append (Flat.single (tent_rep (t := ((-64), 0, 64)) (show I64 (-64) from ⟨by omega, by omega⟩) (show I64 0 from ⟨by omega, by omega⟩) (show I64 64 from ⟨by omega, by omega⟩)))
        have hal2 : allV (l ++ [((-64), 0, 64)]) = true := by
          have := unhide hal
          unfold allV at this ⊢
          rw [List.all_append, this]
          simp [hval]
        clear hR7 hb5 hcs3 v1 v2 v3 v4
        replace hR8 := hide hR8; replace hrow := hide hrow; replace hfl2 := hide hfl2; replace hal2 := hide hal2; replace hval := hide hval; replace hcs4 := hide hcs4; replace hsz := hide hsz
        go_wp2_with (at_builtin; refine wpList_append_el Try.underlying40 info_tent rfl (by decide) (by decide) rfl _ _ rfl (b0 + 1) _ k xs rfl (unhide hrow) _ [.int .i64 (-64), .int .i64 0, .int .i64 64] rfl (unhide hcs4) rfl ?cone ?chn ?chbase ?_)
        try (case cone => first | exact ⟨rfl, rfl, rfl⟩ | (intro u hu; simp at hu; rcases hu with rfl | rfl | rfl <;> rfl))
        try (case chn => omega)
        try (case chbase => first | exact unhide hsz | (have := unhide hsz; rw [World.size_alloc] at this; omega))
        intro v' w6 hrow2 hgr _
        have hR9 := (unhide hR8).push hrow2 hgr
        clear hrow hR8 hrow2 hgr hsz
        replace hR9 := hide hR9
        go_wp2_with fail
        go_roundw
        case rel => exact ⟨k + 1, l ++ [((-64), 0, 64)], _, by omega, by go_num, by rw [List.length_append, unhide hlk]; rfl, unhide hal2, unhide hfl2, unhide hR9⟩
        case measure => simp [intOf]; omega
      · have t0 : ((sw : Int) == 0) = false := beq_eq_false_iff_ne.2 (by omega)
        have t1 : ((sw : Int) == 1) = false := beq_eq_false_iff_ne.2 (by omega)
        have t2 : ((sw : Int) == 2) = false := beq_eq_false_iff_ne.2 (by omega)
        have hval : validS (x : Int) (y : Int) (z : Int) = true := decide_eq_true (by omega)
        have hcs3 := unhide hcs2
        have hR7 := unhide hR5
        go_upto_region 17 with fail
        obtain ⟨w5, hw5⟩ : ∃ w5, w4 = w5 := ⟨_, rfl⟩
        rw [hw5] at hcs3 hR7 ⊢
        clear hw5 g0 g1 g2 f0 f1 f2 g1' g2' f1' f2' k2 hR5 hR6 hcs2
        have g0z : (w5).cell? ⟨bs, 0, none⟩ = some (.int .i64 (x : Int)) := (cell_of_row _ _ 0 _ _ _ hcs3).trans rfl
        have g1z : (w5).cell? ⟨bs, 1, none⟩ = some (.int .i64 (y : Int)) := (cell_of_row _ _ 1 _ _ _ hcs3).trans rfl
        have g2z : (w5).cell? ⟨bs, 2, none⟩ = some (.int .i64 (z : Int)) := (cell_of_row _ _ 2 _ _ _ hcs3).trans rfl
        have hb5 := (Below.refl (w5).heap.size (w5)).alloc (Nat.le_refl _) (Obj.cells #[.int .i64 (x : Int), .int .i64 (y : Int), .int .i64 (z : Int)] 52)
        have hR8 := hR7.below hb5
        have hrow := hR8.row
        have hcs4 := heap_alloc_new (w5) (Obj.cells #[.int .i64 (x : Int), .int .i64 (y : Int), .int .i64 (z : Int)] 52)
        have hsz : b0 + 1 ≤ ((w5).alloc (Obj.cells #[.int .i64 (x : Int), .int .i64 (y : Int), .int .i64 (z : Int)] 52)).heap.size := by have := hR8.lt; omega
        obtain ⟨v1, v2, v3, v4, _⟩ := valid_facts hval
        have hfl2 : ∀ W, Flat Enc.tent W (fun _ => False) (xs ++ [.int .i64 (x : Int), .int .i64 (y : Int), .int .i64 (z : Int)]) (l ++ [((x : Int), (y : Int), (z : Int))]) := fun W => (unhide hfl W).append (Flat.single (tent_rep (t := ((x : Int), (y : Int), (z : Int))) (show I64 (x : Int) from ⟨by omega, by omega⟩) (show I64 (y : Int) from ⟨by omega, by omega⟩) (show I64 (z : Int) from ⟨by omega, by omega⟩)))
        have hal2 : allV (l ++ [((x : Int), (y : Int), (z : Int))]) = true := by
          have := unhide hal
          unfold allV at this ⊢
          rw [List.all_append, this]
          simp [hval]
        clear hR7 hb5 hcs3 v1 v2 v3 v4
        replace hR8 := hide hR8; replace hrow := hide hrow; replace hfl2 := hide hfl2; replace hal2 := hide hal2; replace hval := hide hval; replace hcs4 := hide hcs4; replace hsz := hide hsz
        go_wp2_with (at_builtin; refine wpList_append_el Try.underlying40 info_tent rfl (by decide) (by decide) rfl _ _ rfl (b0 + 1) _ k xs rfl (unhide hrow) _ [.int .i64 (x : Int), .int .i64 (y : Int), .int .i64 (z : Int)] rfl (unhide hcs4) rfl ?done ?dhn ?dhbase ?_)
        try (case done => first | exact ⟨rfl, rfl, rfl⟩ | (intro u hu; simp at hu; rcases hu with rfl | rfl | rfl <;> rfl))
        try (case dhn => omega)
        try (case dhbase => first | exact unhide hsz | (have := unhide hsz; rw [World.size_alloc] at this; omega))
        intro v' w6 hrow2 hgr _
        have hR9 := (unhide hR8).push hrow2 hgr
        clear hrow hR8 hrow2 hgr hsz
        replace hR9 := hide hR9
        go_wp2_with fail
        go_roundw
        case rel => exact ⟨k + 1, l ++ [((x : Int), (y : Int), (z : Int))], _, by omega, by go_num, by rw [List.length_append, unhide hlk]; rfl, unhide hal2, unhide hfl2, unhide hR9⟩
        case measure => simp [intOf]; omega
    · have hke : k = m := by omega
      subst hke
      have hrow := hR.row
      rw [← unhide hlk] at hrow
      obtain ⟨a', c', hv, h1, h2, hlst⟩ := row_lst (E := Enc.tent) hrow (unhide hfl wo) (fun b hb => hb.elim)
      rw [unhide hlk] at hv h1 hlst
      have hbel := hR.bel
      rw [hv]
      clear hrow hR hv
      replace hlst := hide hlst; replace hbel := hide hbel
      go_wp2_with fail
      go_ret
      exact ⟨a', c', l, rfl, unhide hlst, h1, h2, unhide hal, by rw [unhide hB]; exact unhide hbel⟩
end Go.Proofs.Ythkppilelpaieaa
