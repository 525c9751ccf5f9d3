/- digest.of. -/
import Derived.Test.YtcliegeooooonaaLst
import Derived.Test.YtcliegeooooonaaDgP
import Derived.Deep.DrawnRows
import Derived.Lib.ConvBytes
import Derived.Lib.SmallJoins
namespace Go.Proofs.Ytcliegeooooonaa
open Go.RowKit
attribute [local go_sem ↓] Go.wp_at_zero Go.wp_at_succ

/-- a digest's value -/
abbrev digV (d : List UInt8) : Value := .agg #[.int .u8 (d[0]?.getD 0).toNat, .int .u8 (d[1]?.getD 0).toNat, .int .u8 (d[2]?.getD 0).toNat, .int .u8 (d[3]?.getD 0).toNat, .int .u8 (d[4]?.getD 0).toNat, .int .u8 (d[5]?.getD 0).toNat, .int .u8 (d[6]?.getD 0).toNat, .int .u8 (d[7]?.getD 0).toNat]
/-- the bytes of strings, one after the other -/
def allB (l : List ByteArray) : List UInt8 := l.flatMap fun s => s.data.toList
theorem allB_step (l : List ByteArray) (k : Nat) (x : ByteArray) (hx : l[k]? = some x) : allB (l.take (k + 1)) = allB (l.take k) ++ x.data.toList := by
  obtain ⟨hk, rfl⟩ := List.getElem?_eq_some_iff.1 hx
  unfold allB
  rw [List.take_succ_eq_append_getElem hk, List.flatMap_append]
  simp
theorem take_step (l : List UInt8) (k : Nat) (c : UInt8) (hx : l[k]? = some c) : l.take (k + 1) = l.take k ++ [c] := by
  obtain ⟨hk, rfl⟩ := List.getElem?_eq_some_iff.1 hx
  rw [List.take_succ_eq_append_getElem hk]
theorem stepX_cast (x : Nat) (c : UInt8) : (40014 * (x : Int) + (c.toNat : Int) + 1) % 2147483563 = (Dg.stepX x c : Int) := by unfold Dg.stepX; omega
theorem stepY_cast (x : Nat) (c : UInt8) : (40692 * (x : Int) + (c.toNat : Int) + 1) % 2147483399 = (Dg.stepY x c : Int) := by unfold Dg.stepY; omega
/-- the array of a digest after k rounds of its loop -/
def dA (D : List UInt8) : Nat → Array Value
  | 0 => #[.int .u8 0, .int .u8 0, .int .u8 0, .int .u8 0, .int .u8 0, .int .u8 0, .int .u8 0, .int .u8 0]
  | 1 => #[.int .u8 (D[0]?.getD 0).toNat, .int .u8 0, .int .u8 0, .int .u8 0, .int .u8 (D[4]?.getD 0).toNat, .int .u8 0, .int .u8 0, .int .u8 0]
  | 2 => #[.int .u8 (D[0]?.getD 0).toNat, .int .u8 (D[1]?.getD 0).toNat, .int .u8 0, .int .u8 0, .int .u8 (D[4]?.getD 0).toNat, .int .u8 (D[5]?.getD 0).toNat, .int .u8 0, .int .u8 0]
  | 3 => #[.int .u8 (D[0]?.getD 0).toNat, .int .u8 (D[1]?.getD 0).toNat, .int .u8 (D[2]?.getD 0).toNat, .int .u8 0, .int .u8 (D[4]?.getD 0).toNat, .int .u8 (D[5]?.getD 0).toNat, .int .u8 (D[6]?.getD 0).toNat, .int .u8 0]
  | _ => #[.int .u8 (D[0]?.getD 0).toNat, .int .u8 (D[1]?.getD 0).toNat, .int .u8 (D[2]?.getD 0).toNat, .int .u8 (D[3]?.getD 0).toNat, .int .u8 (D[4]?.getD 0).toNat, .int .u8 (D[5]?.getD 0).toNat, .int .u8 (D[6]?.getD 0).toNat, .int .u8 (D[7]?.getD 0).toNat]
theorem two_sets {w : World} {g T i j : Nat} {cs : Array Value} {v v' : Value} (h : w.heap[g]? = some (.cells cs T (0, 0))) : (((w.setCell ⟨g, i, none⟩ v).setCell ⟨g, j, none⟩ v').drew).heap[g]? = some (.cells ((cs.setIfInBounds i v).setIfInBounds j v') T (0, 0)) := by
  show ((w.setCell ⟨g, i, none⟩ v).setCell ⟨g, j, none⟩ v').heap[g]? = _
  simp [World.setCell, Array.getElem?_modify, h]
theorem two_other {w : World} {g b i j : Nat} {v v' : Value} (hne : g ≠ b) : (((w.setCell ⟨g, i, none⟩ v).setCell ⟨g, j, none⟩ v').drew).heap[b]? = w.heap[b]? := by
  show ((w.setCell ⟨g, i, none⟩ v).setCell ⟨g, j, none⟩ v').heap[b]? = _
  simp [World.setCell, Array.getElem?_modify, hne]
theorem row8 {w : World} {g T : Nat} {v0 v1 v2 v3 v4 v5 v6 v7 : Value} (h : w.heap[g]? = some (.cells #[v0, v1, v2, v3, v4, v5, v6, v7] T (0, 0))) :
    (w.cell? ⟨g, 0, none⟩ = some v0 ∧ w.cell? ⟨g, 1, none⟩ = some v1 ∧ w.cell? ⟨g, 2, none⟩ = some v2 ∧ w.cell? ⟨g, 3, none⟩ = some v3 ∧ w.cell? ⟨g, 4, none⟩ = some v4 ∧ w.cell? ⟨g, 5, none⟩ = some v5 ∧ w.cell? ⟨g, 6, none⟩ = some v6 ∧ w.cell? ⟨g, 7, none⟩ = some v7) ∧
    (w.frozen? ⟨g, 0, none⟩ = false ∧ w.frozen? ⟨g, 1, none⟩ = false ∧ w.frozen? ⟨g, 2, none⟩ = false ∧ w.frozen? ⟨g, 3, none⟩ = false ∧ w.frozen? ⟨g, 4, none⟩ = false ∧ w.frozen? ⟨g, 5, none⟩ = false ∧ w.frozen? ⟨g, 6, none⟩ = false ∧ w.frozen? ⟨g, 7, none⟩ = false) := by
  refine ⟨⟨?_, ?_, ?_, ?_, ?_, ?_, ?_, ?_⟩, ?_, ?_, ?_, ?_, ?_, ?_, ?_, ?_⟩ <;> simp [World.cell?, World.frozen?, h]
theorem eight_sets {w : World} {g T : Nat} {u0 u1 u2 u3 u4 u5 u6 u7 : Value} (v0 v1 v2 v3 v4 v5 v6 v7 : Value) (h : w.heap[g]? = some (.cells #[u0, u1, u2, u3, u4, u5, u6, u7] T (0, 0))) :
    ((((((((w.setCell ⟨g, 0, none⟩ v0).setCell ⟨g, 1, none⟩ v1).setCell ⟨g, 2, none⟩ v2).setCell ⟨g, 3, none⟩ v3).setCell ⟨g, 4, none⟩ v4).setCell ⟨g, 5, none⟩ v5).setCell ⟨g, 6, none⟩ v6).setCell ⟨g, 7, none⟩ v7).heap[g]? = some (.cells #[v0, v1, v2, v3, v4, v5, v6, v7] T (0, 0)) := by
  simp [World.setCell, Array.getElem?_modify, h]
abbrev zeros8 : Obj := Obj.cells #[.int .u8 0, .int .u8 0, .int .u8 0, .int .u8 0, .int .u8 0, .int .u8 0, .int .u8 0, .int .u8 0] 76
set_option maxRecDepth 100000 in
set_option maxHeartbeats 4000000 in
theorem of_any (a : Option Addr) (len cap : Nat) (l : List ByteArray) (w : World) (hl : Lst Enc.str w (fun b => b < w.heap.size) a len l) (hlen : len ≤ 1000000) :
    Calls Try.prog 46 #[.slice a len cap] w fun e w' => e = .returned (digV (Dg.dig (allB l))) ∧ Below w.heap.size w w' := by
  have hlen0 := hl.1
  obtain ⟨W0, hW0⟩ : ∃ W0, w.heap.size = W0 := ⟨_, rfl⟩
  have hbel : Below W0 w (w.alloc (Obj.cells #[.int .u8 0, .int .u8 0, .int .u8 0, .int .u8 0, .int .u8 0, .int .u8 0, .int .u8 0, .int .u8 0] 76)) := by rw [← hW0]; exact (Below.refl _ _).alloc (Nat.le_refl _) _
  rw [hW0] at hl ⊢
  replace hl := hide hl
  replace hlen0 := hide hlen0
  go_enter Try.func46, Try.ntmps46
  go_wp2_with fail
  have h00 : (w.alloc zeros8).heap[W0]? = some zeros8 := heap_new hW0
  have hle : W0 ≤ w.heap.size := by omega
  clear hW0
  go_loopw [3, 4, 13] (fun v3 v4 v13 wr => ∃ k : Nat, k ≤ len ∧ v13 = .int .i64 (k : Int) ∧ v3 = .int .u64 (Dg.runX (allB (l.take k)) : Int) ∧ v4 = .int .u64 (Dg.runY (allB (l.take k)) : Int) ∧ wr.heap[W0]? = some zeros8 ∧ Below W0 w wr) (fun _ _ v _ => (len - intOf v).toNat)
  case atStart => exact ⟨0, by omega, rfl, rfl, rfl, h00, hbel⟩
  case round =>
    obtain ⟨k, hk, rfl, rfl, rfl, hz, hb⟩ := hrel
    clear h00 hbel
    by_cases hlt : k < len
    · obtain ⟨bb, off, x, rfl, hbb, hx, hxi, hc⟩ := lst_str ((unhide hl).below hb) hlt
      unfold maxLen at hxi
      have hstep := allB_step l k x hx
      have hconv := Lib.run_convert_string_bytes (P := Try.prog) wr 9 51 5 x Try.underlying9 Try.underlying51 Try.underlying5
      have hsz := hb.size
      have hb5 : Below W0 w (Lib.bytesWorld wr 5 x) := hb.trans (Joins.below_bytesWorld W0 wr 5 x (by omega))
      have hz5 : (Lib.bytesWorld wr 5 x).heap[W0]? = some zeros8 := (Lib.bytesWorld_at_old wr 5 x W0 (Array.getElem?_eq_some_iff.1 hz).1).trans hz
      have hcell : ∀ j, j < x.size → (Lib.bytesWorld wr 5 x).cell? ⟨wr.heap.size, j, none⟩ = some (.int .u8 (x.data.toList.getD j 0).toNat) := fun j hj => Lib.bytesWorld_cell wr 5 x j hj
      obtain ⟨A, hA⟩ : ∃ A, allB (l.take k) = A := ⟨_, rfl⟩
      rw [hA] at hstep ⊢
      clear hA
      obtain ⟨X, hX⟩ : ∃ X, x.data.toList = X := ⟨_, rfl⟩
      have hXl : X.length = x.size := by rw [← hX]; exact data_len x
      rw [hX] at hstep hcell
      replace hstep := hide hstep
      replace hcell := hide hcell
      replace hX := hide hX
      clear hx hz
      go_wp2_with fail
      obtain ⟨w5, hw5⟩ : ∃ w5, Lib.bytesWorld wr 5 x = w5 := ⟨_, rfl⟩
      obtain ⟨g5, hg5⟩ : ∃ g5, wr.heap.size = g5 := ⟨_, rfl⟩
      rw [hw5, hg5] at hcell
      rw [hw5] at hb5 hz5 ⊢
      rw [hg5]
      clear hw5 hg5 hconv hc hb hsz
      obtain ⟨cp, hcp⟩ : ∃ cp, grownCap wr x.size 0 5 = cp := ⟨_, rfl⟩
      rw [hcp]
      clear hcp
      go_loop [3, 4, 20] (fun v3 v4 v20 => ∃ j : Nat, j ≤ x.size ∧ v20 = .int .i64 (j : Int) ∧ v3 = .int .u64 (Dg.runX (A ++ X.take j) : Int) ∧ v4 = .int .u64 (Dg.runY (A ++ X.take j) : Int)) (fun _ _ v => x.size - (intOf v).toNat)
      case atStart => exact ⟨0, by omega, rfl, by simp, by simp⟩
      case round =>
        obtain ⟨j, hj, rfl, rfl, rfl⟩ := hrel
        by_cases hjl : j < x.size
        · have hc := unhide hcell j hjl
          have hxj : X[j]? = some (X[j]'(by omega)) := List.getElem?_eq_getElem (by omega)
          have hgd : X.getD j 0 = X[j]'(by omega) := by simp [List.getD, hxj]
          rw [hgd] at hc
          obtain ⟨c, hcc⟩ : ∃ c, X[j]'(by omega) = c := ⟨_, rfl⟩
          rw [hcc] at hc hxj
          have hts := take_step X j c hxj
          have hcl := c.toNat_lt
          have hX1 := Dg.runX_lt (A ++ X.take j)
          have hY1 := Dg.runY_lt (A ++ X.take j)
          have eX := Dg.runX_snoc (A ++ X.take j) c
          have eY := Dg.runY_snoc (A ++ X.take j) c
          rw [List.append_assoc, ← hts] at eX eY
          obtain ⟨xx, hxx⟩ : ∃ xx, Dg.runX (A ++ X.take j) = xx := ⟨_, rfl⟩
          obtain ⟨yy, hyy⟩ : ∃ yy, Dg.runY (A ++ X.take j) = yy := ⟨_, rfl⟩
          rw [hxx] at hX1 eX ⊢
          rw [hyy] at hY1 eY ⊢
          have sX := stepX_cast xx c
          have sY := stepY_cast yy c
          rw [← eX] at sX
          rw [← eY] at sY
          replace sX := hide sX
          replace sY := hide sY
          clear eX eY hxx hyy hgd hcc hts hxj
          go_wp2_with fail
          go_round
          case rel => exact ⟨j + 1, by omega, by go_num, by rw [← unhide sX], by rw [← unhide sY]⟩
          case measure => simp [intOf]; omega
        · have hfin : A ++ X.take j = allB (l.take (k + 1)) := by rw [unhide hstep, List.take_of_length_le (by omega)]
          rw [hfin]
          clear hfin hcell
          go_wp2_with fail
          go_roundw
          case rel => exact ⟨k + 1, by omega, by go_num, rfl, rfl, hz5, hb5⟩
          case measure => simp [intOf]; omega
    · obtain rfl : k = len := by omega
      rw [show l.take k = l from List.take_of_length_le (by have := unhide hlen0; omega)]
      have hX1 := Dg.runX_lt (allB l)
      have hY1 := Dg.runY_lt (allB l)
      have hD := Dg.dig_cell (allB l)
      obtain ⟨xx, hxx⟩ : ∃ xx, Dg.runX (allB l) = xx := ⟨_, rfl⟩
      obtain ⟨yy, hyy⟩ : ∃ yy, Dg.runY (allB l) = yy := ⟨_, rfl⟩
      obtain ⟨D, hDD⟩ : ∃ D, Dg.dig (allB l) = D := ⟨_, rfl⟩
      simp only [hxx, hyy, hDD] at hD hX1 hY1
      rw [hxx, hyy]
      replace hDD := hide hDD
      replace hD := hide hD
      clear hxx hyy hl hlen0 hlt
      go_wp2_with fail
      have hd0 : (wr.alloc zeros8).heap[wr.heap.size]? = some (.cells (dA D 0) 76 (0, 0)) := heap_new rfl
      have hz0 : (wr.alloc zeros8).heap[W0]? = some zeros8 := (Below.heap_alloc wr _ W0 (Array.getElem?_eq_some_iff.1 hz).1).trans hz
      have hb0 : Below W0 w (wr.alloc zeros8) := hb.alloc (Nat.le_trans hle hb.size) _
      have hWg : W0 < wr.heap.size := (Array.getElem?_eq_some_iff.1 hz).1
      obtain ⟨g9, hg9⟩ : ∃ g9, wr.heap.size = g9 := ⟨_, rfl⟩
      obtain ⟨w9, hw9⟩ : ∃ w9, wr.alloc zeros8 = w9 := ⟨_, rfl⟩
      rw [hg9, hw9] at hd0
      rw [hg9] at hWg
      rw [hw9] at hz0 hb0 ⊢
      rw [hg9]
      clear hg9 hw9 hz hb
      go_loopw [40] (fun v wr => ∃ q : Nat, q ≤ 4 ∧ v = .int .i64 (q : Int) ∧ wr.heap[g9]? = some (.cells (dA D q) 76 (0, 0)) ∧ wr.heap[W0]? = some zeros8 ∧ Below W0 w wr) (fun v _ => (4 - intOf v).toNat)
      case atStart => exact ⟨0, by omega, rfl, hd0, hz0, hb0⟩
      case round =>
        obtain ⟨q, hq, rfl, hd, hz, hb⟩ := hrel
        clear hd0 hz0 hb0
        obtain rfl | rfl | rfl | rfl | rfl : q = 0 ∨ q = 1 ∨ q = 2 ∨ q = 3 ∨ q = 4 := by omega
        · have hD' := unhide hD 0 (by omega)
          have c0 := cell_of_row wr g9 0 _ _ _ hd
          have c1 := cell_of_row wr g9 4 _ _ _ hd
          simp only [dA] at c0 c1
          simp at c0 c1
          have f0 : wr.frozen? ⟨g9, 0, none⟩ = false := by simp [World.frozen?, hd]
          have f1 : wr.frozen? ⟨g9, 4, none⟩ = false := by simp [World.frozen?, hd]
          replace hd := hide hd
          replace hz := hide hz
          replace hD' := hide hD'
          go_wp2_with fail
          go_region
          go_wp2_with fail
          go_roundw
          case rel =>
            refine ⟨1, by omega, rfl, ?_, ?_, ?_⟩
            · rw [two_sets (unhide hd)]
              have h1 := (unhide hD').1
              have h2 := (unhide hD').2
              simp [dA] at h1 h2 ⊢
              omega
            · rw [two_other (by omega)]; exact unhide hz
            · exact (((hb.setCell (p := ⟨g9, 0, none⟩) (by simp; omega) _).setCell (p := ⟨g9, 4, none⟩) (by simp; omega) _).drew)
          case measure => simp [intOf]
        · have hD' := unhide hD 1 (by omega)
          have c0 := cell_of_row wr g9 1 _ _ _ hd
          have c1 := cell_of_row wr g9 5 _ _ _ hd
          simp only [dA] at c0 c1
          simp at c0 c1
          have f0 : wr.frozen? ⟨g9, 1, none⟩ = false := by simp [World.frozen?, hd]
          have f1 : wr.frozen? ⟨g9, 5, none⟩ = false := by simp [World.frozen?, hd]
          replace hd := hide hd
          replace hz := hide hz
          replace hD' := hide hD'
          go_wp2_with fail
          go_region
          go_wp2_with fail
          go_roundw
          case rel =>
            refine ⟨2, by omega, rfl, ?_, ?_, ?_⟩
            · rw [two_sets (unhide hd)]
              have h1 := (unhide hD').1
              have h2 := (unhide hD').2
              simp [dA] at h1 h2 ⊢
              omega
            · rw [two_other (by omega)]; exact unhide hz
            · exact (((hb.setCell (p := ⟨g9, 1, none⟩) (by simp; omega) _).setCell (p := ⟨g9, 5, none⟩) (by simp; omega) _).drew)
          case measure => simp [intOf]
        · have hD' := unhide hD 2 (by omega)
          have c0 := cell_of_row wr g9 2 _ _ _ hd
          have c1 := cell_of_row wr g9 6 _ _ _ hd
          simp only [dA] at c0 c1
          simp at c0 c1
          have f0 : wr.frozen? ⟨g9, 2, none⟩ = false := by simp [World.frozen?, hd]
          have f1 : wr.frozen? ⟨g9, 6, none⟩ = false := by simp [World.frozen?, hd]
          replace hd := hide hd
          replace hz := hide hz
          replace hD' := hide hD'
          go_wp2_with fail
          go_region
          go_wp2_with fail
          go_roundw
          case rel =>
            refine ⟨3, by omega, rfl, ?_, ?_, ?_⟩
            · rw [two_sets (unhide hd)]
              have h1 := (unhide hD').1
              have h2 := (unhide hD').2
              simp [dA] at h1 h2 ⊢
              omega
            · rw [two_other (by omega)]; exact unhide hz
            · exact (((hb.setCell (p := ⟨g9, 2, none⟩) (by simp; omega) _).setCell (p := ⟨g9, 6, none⟩) (by simp; omega) _).drew)
          case measure => simp [intOf]
        · have hD' := unhide hD 3 (by omega)
          have c0 := cell_of_row wr g9 3 _ _ _ hd
          have c1 := cell_of_row wr g9 7 _ _ _ hd
          simp only [dA] at c0 c1
          simp at c0 c1
          have f0 : wr.frozen? ⟨g9, 3, none⟩ = false := by simp [World.frozen?, hd]
          have f1 : wr.frozen? ⟨g9, 7, none⟩ = false := by simp [World.frozen?, hd]
          replace hd := hide hd
          replace hz := hide hz
          replace hD' := hide hD'
          go_wp2_with fail
          go_region
          go_wp2_with fail
          go_roundw
          case rel =>
            refine ⟨4, by omega, rfl, ?_, ?_, ?_⟩
            · rw [two_sets (unhide hd)]
              have h1 := (unhide hD').1
              have h2 := (unhide hD').2
              simp [dA] at h1 h2 ⊢
              omega
            · rw [two_other (by omega)]; exact unhide hz
            · exact (((hb.setCell (p := ⟨g9, 3, none⟩) (by simp; omega) _).setCell (p := ⟨g9, 7, none⟩) (by simp; omega) _).drew)
          case measure => simp [intOf]
        · obtain ⟨⟨c0, c1, c2, c3, c4, c5, c6, c7⟩, _⟩ := row8 hd
          obtain ⟨⟨d0, d1, d2, d3, d4, d5, d6, d7⟩, f0, f1, f2, f3, f4, f5, f6, f7⟩ := row8 hz
          have hzh := hide hz
          clear hd hz hD
          go_wp2_with fail
          obtain ⟨⟨r0, r1, r2, r3, r4, r5, r6, r7⟩, _⟩ := row8 (eight_sets (.int .u8 (D[0]?.getD 0).toNat) (.int .u8 (D[1]?.getD 0).toNat) (.int .u8 (D[2]?.getD 0).toNat) (.int .u8 (D[3]?.getD 0).toNat) (.int .u8 (D[4]?.getD 0).toNat) (.int .u8 (D[5]?.getD 0).toNat) (.int .u8 (D[6]?.getD 0).toNat) (.int .u8 (D[7]?.getD 0).toNat) (unhide hzh))
          exact bodyPost_ret (v := digV D) (by simp [results, Try.results46, go_sem, r0, r1, r2, r3, r4, r5, r6, r7]) rfl ⟨by rw [unhide hDD], ((((((((hb.setCell (p := ⟨W0, 0, none⟩) (Nat.le_refl _) _).setCell (p := ⟨W0, 1, none⟩) (Nat.le_refl _) _).setCell (p := ⟨W0, 2, none⟩) (Nat.le_refl _) _).setCell (p := ⟨W0, 3, none⟩) (Nat.le_refl _) _).setCell (p := ⟨W0, 4, none⟩) (Nat.le_refl _) _).setCell (p := ⟨W0, 5, none⟩) (Nat.le_refl _) _).setCell (p := ⟨W0, 6, none⟩) (Nat.le_refl _) _).setCell (p := ⟨W0, 7, none⟩) (Nat.le_refl _) _)⟩
end Go.Proofs.Ytcliegeooooonaa
