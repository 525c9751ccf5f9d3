/- strings.Clone, digest.text, digest.Of and the like. -/
import Derived.Test.YtcliegeooooonaaDg1
import Derived.Lib.LazyBuf
import Derived.Lib.UnsafeStr
namespace Go.Proofs.Ytcliegeooooonaa
open Go.RowKit
attribute [local go_sem ↓] Go.wp_at_zero Go.wp_at_succ

theorem shape_setCells (b r : Nat) : ∀ (vs : List Value) (o : Nat) (w : World), (w.setCells b o vs).shape? r = w.shape? r
  | [], _, _ => rfl
  | v :: vs, o, w => by
    have h1 : (w.setCell ⟨b, o, none⟩ v).shape? r = w.shape? r := by
      unfold World.shape?
      simp only [World.setCell, Array.getElem?_modify]
      by_cases h : b = r
      · subst h
        rw [if_pos rfl]
        cases w.heap[b]? with
        | none => rfl
        | some o => cases o <;> simp
      · rw [if_neg h]
    have h2 := shape_setCells b r vs (o + 1) (w.setCell ⟨b, o, none⟩ v)
    exact h2.trans h1
theorem info_u8 : (Try.prog.info? 5).map (fun i => (i.zero, i.size, i.bytes)) = some (some (.int .u8 0), 1, 1) := by kernel_rfl
theorem size_u8 : (Try.prog.info? 5).map (·.size) = some 1 := by kernel_rfl
set_option maxRecDepth 100000 in
set_option maxHeartbeats 2000000 in
theorem clone0_any (s : ByteArray) (w : World) (hs : 0 < s.size) (hs2 : s.size ≤ 1000000) :
    Calls Try.prog 61 #[.string s] w fun e w' => e = .returned (.string s) ∧ Below w.heap.size w w' := by
  obtain ⟨i0, hi, hz0, hz1, hz2⟩ := info_parts info_u8
  have hmk : ∀ w : World, (Instr.makeSlice 51 (.int .i64 (s.size : Int)) (.int .i64 (s.size : Int))).run Try.prog w = .ok (.slice (some ⟨w.heap.size, 0, none⟩) s.size s.size) (w.alloc (.cells (madeCells (Value.int .u8 0).cells (s.size * 1)) 5)) := by
    intro w
    have := run_make (P := Try.prog) w 51 5 i0 (.int .u8 0) Try.underlying51 hi hz0 .i64 .i64 (s.size : Int) (s.size : Int) (by omega) (by omega) (by rw [hz2]; omega) (by omega)
    simpa [hz1] using this
  clear hi hz0 hz1 hz2
  obtain ⟨W1, hW1⟩ : ∃ W1, w.alloc (.cells (madeCells (Value.int .u8 0).cells (s.size * 1)) 5) = W1 := ⟨_, rfl⟩
  have hh1 : W1.heap[w.heap.size]? = some (.cells (madeCells (Value.int .u8 0).cells (s.size * 1)) 5 (0, 0)) := by rw [← hW1]; exact heap_alloc_new w _
  have hb1 : Below w.heap.size w W1 := by rw [← hW1]; exact (Below.refl _ _).alloc (Nat.le_refl _) _
  have hsz : (madeCells (Value.int .u8 0).cells (s.size * 1)).size = s.size := by rw [size_madeCells]; omega
  have hcell : ∀ j, j < s.size → (W1.cell? ⟨w.heap.size, 0 + j, none⟩).isSome = true := by
    intro j hj
    rw [cell_of_row W1 w.heap.size (0 + j) _ _ _ hh1, Array.getElem?_eq_getElem (by omega)]
    rfl
  have hfr : ∀ j, j < s.size → W1.frozen? ⟨w.heap.size, 0 + j, none⟩ = false := by
    intro j _
    simp [World.frozen?, hh1]
  have hcopy := run_copy_string (P := Try.prog) W1 51 9 3 5 w.heap.size 0 s.size s.size s Try.underlying51 (fun w => by kernel_rfl) (Nat.le_refl _) hcell hfr
  obtain ⟨W2, hW2⟩ : ∃ W2, W1.setCells w.heap.size 0 (s.data.toList.map fun x => Value.int .u8 (x.toNat : Int)) = W2 := ⟨_, rfl⟩
  have hvl : (s.data.toList.map fun x => Value.int .u8 (x.toNat : Int)).length = s.size := by rw [List.length_map, data_len]
  have hb2 : Below w.heap.size w W2 := by rw [← hW2]; exact below_setCells (Nat.le_refl _) _ _ _ hb1
  have hcell2 : ∀ (j : Nat) (x : UInt8), s.data.toList[j]? = some x → W2.cell? ((⟨w.heap.size, 0, none⟩ : Addr).add j) = some (.int .u8 x.toNat) := by
    intro j x hx
    obtain ⟨hj, hjx⟩ := List.getElem?_eq_some_iff.1 hx
    have := World.cell?_setCells_in w.heap.size (s.data.toList.map fun x => Value.int .u8 (x.toNat : Int)) 0 W1 (by rw [hvl]; exact hcell) j (by rw [hvl, ← data_len]; exact hj)
    rw [hW2] at this
    rw [Addr.add_lit, this]
    simp [hjx]
  have hsh2 : W2.shape? w.heap.size = some (5, s.size) := by
    rw [← hW2, shape_setCells]
    simp only [World.shape?, hh1, hsz]
  have hun := Lib.run_unsafeString_row (P := Try.prog) (w := W2) 95 3 9 5 Try.underlying95 (by kernel_rfl) w.heap.size s.size hsh2 s.data.toList (by intro h; have := data_len s; rw [h] at this; simp at this; omega) (by rw [data_len]; exact Nat.le_refl _) (by rw [data_len]; omega) hcell2
  rw [ba_self, data_len] at hun
  have hb3 : Below w.heap.size w (W2.freeze ⟨w.heap.size, 0, none⟩ s.size) := Lib.below_freeze hb2 (Nat.le_refl _) _
  rw [hW2] at hcopy
  replace hb3 := hide hb3
  clear hb1 hb2 hh1 hsz hcell hfr hW2 hvl hcell2 hsh2
  have ez : ((s.size : Int) == 0) = false := beq_eq_false_iff_ne.2 (by omega)
  have ez2 : (s.size == 0) = false := beq_eq_false_iff_ne.2 (by omega)
  replace hW1 := hide hW1
  replace hmk := hide hmk
  have hmk' := unhide hmk w
  rw [unhide hW1] at hmk'
  clear hW1 hmk
  go_enter Try.func61, Try.ntmps61
  go_wp2_with fail
  go_ret
  exact ⟨rfl, unhide hb3⟩
theorem clone_any (s : ByteArray) (w : World) (hs : 0 < s.size) (hs2 : s.size ≤ 1000000) :
    Calls Try.prog 54 #[.string s] w fun e w' => e = .returned (.string s) ∧ Below w.heap.size w w' := by
  go_enter Try.func54, Try.ntmps54
  go_wp2_with fail
  refine (clone0_any s _ hs hs2).mono ?_
  rintro e w1 ⟨rfl, hb⟩
  go_wp2_with fail
  go_ret
  exact ⟨rfl, hb⟩
abbrev digC (d : List UInt8) : Array Value := #[.int .u8 (d[0]?.getD 0).toNat, .int .u8 (d[1]?.getD 0).toNat, .int .u8 (d[2]?.getD 0).toNat, .int .u8 (d[3]?.getD 0).toNat, .int .u8 (d[4]?.getD 0).toNat, .int .u8 (d[5]?.getD 0).toNat, .int .u8 (d[6]?.getD 0).toNat, .int .u8 (d[7]?.getD 0).toNat]
theorem digC_get (d : List UInt8) (hd : d.length = 8) (j : Nat) (x : UInt8) (hx : d[j]? = some x) : (digC d)[j]? = some (.int .u8 x.toNat) := by
  have hj : j < 8 := by have := (List.getElem?_eq_some_iff.1 hx).1; omega
  obtain rfl | rfl | rfl | rfl | rfl | rfl | rfl | rfl : j = 0 ∨ j = 1 ∨ j = 2 ∨ j = 3 ∨ j = 4 ∨ j = 5 ∨ j = 6 ∨ j = 7 := by omega
  all_goals simp [digC, hx]
/-- the text of a digest that lies in a row of its own -/
theorem conv8 {w : World} {g : Nat} {d : List UInt8} (hd : d.length = 8) (h : w.heap[g]? = some (.cells (digC d) 76 (0, 0))) (cap : Nat) :
    (convert 51 9 (.slice (some ⟨g, 0, none⟩) 8 cap)).run Try.prog w = .ok (.string ⟨d.toArray⟩) w := by
  have := run_convert_bytes_back (P := Try.prog) w 51 9 5 ⟨g, 0, none⟩ cap d Try.underlying51 Try.underlying5 Try.underlying9 (fun j hj => by
    rw [Addr.add_lit, Nat.zero_add, cell_of_row w g j _ _ _ h]
    exact digC_get d hd j _ (List.getElem?_eq_getElem hj))
  rwa [hd] at this
set_option maxRecDepth 100000 in
set_option maxHeartbeats 1000000 in
theorem text_any (d : List UInt8) (w : World) (hd : d.length = 8) :
    Calls Try.prog 48 #[digV d] w fun e w' => e = .returned (.string ⟨d.toArray⟩) ∧ Below w.heap.size w w' := by
  obtain ⟨x1, w0, e1, e3, st⟩ := St.new1 w (Obj.cells (digC d) 76)
  have hconv := conv8 hd (st.get 0 rfl) 8
  have hconv' : (convert 51 9 (.slice (some ⟨w.heap.size, 0, none⟩) 8 8)).run Try.prog (w.alloc (Obj.cells (digC d) 76)) = .ok (.string ⟨d.toArray⟩) (w.alloc (Obj.cells (digC d) 76)) := by rw [e3, e1]; exact hconv
  have hb0 := hide st.below
  replace e1 := hide e1; replace e3 := hide e3
  have hds := ba_size d
  have hd' := hide hd
  clear hconv hd
  go_enter Try.func48, Try.ntmps48
  go_wp2_with fail
  rw [unhide e3]
  refine (clone_any _ _ (by rw [hds, unhide hd']; omega) (by rw [hds, unhide hd']; omega)).mono ?_
  rintro e w1 ⟨rfl, hb⟩
  go_wp2_with fail
  go_ret
  exact ⟨rfl, (unhide hb0).trans (hb.mono (unhide hb0).size)⟩
end Go.Proofs.Ytcliegeooooonaa
