/- wire.Ints and wire.Texts: the lists. -/
import Derived.Test.YtidbjccfkembeaaWi3
namespace Go.Proofs.Ytidbjccfkembeaa
open Go.RowKit

theorem lst_int {w : World} {S : Nat → Prop} {a : Option Addr} {len : Nat} {l : List Int} (h : Lst Enc.int w S a len l) {k : Nat} (hk : k < len) :
    ∃ b off x, a = some ⟨b, off, none⟩ ∧ S b ∧ l[k]? = some x ∧ I64 x ∧ w.cell? ⟨b, off + k, none⟩ = some (.int .i64 x) := by
  obtain ⟨h1, h2⟩ := h
  obtain ⟨b, off, rfl, hb, hc⟩ := h2 (by omega)
  have hx : l[k]? = some (l[k]'(by omega)) := List.getElem?_eq_getElem (by omega)
  obtain ⟨us, ⟨rfl, hlo, hhi⟩, hu⟩ := hc k _ hx
  exact ⟨b, off, _, rfl, hb, hx, ⟨hlo, hhi⟩, by have := hu 0 _ rfl; simpa [Enc.num, Enc.int] using this⟩
theorem lst_str {w : World} {S : Nat → Prop} {a : Option Addr} {len : Nat} {l : List ByteArray} (h : Lst Enc.str w S a len l) {k : Nat} (hk : k < len) :
    ∃ b off x, a = some ⟨b, off, none⟩ ∧ S b ∧ l[k]? = some x ∧ x.size ≤ maxLen ∧ w.cell? ⟨b, off + k, none⟩ = some (.string x) := by
  obtain ⟨h1, h2⟩ := h
  obtain ⟨b, off, rfl, hb, hc⟩ := h2 (by omega)
  have hx : l[k]? = some (l[k]'(by omega)) := List.getElem?_eq_getElem (by omega)
  obtain ⟨us, ⟨rfl, hlo⟩, hu⟩ := hc k _ hx
  exact ⟨b, off, _, rfl, hb, hx, hlo, by have := hu 0 _ rfl; simpa [Enc.str] using this⟩
theorem flat_step {α : Type} (f : α → List UInt8) (l : List α) (k : Nat) (x : α) (hx : l[k]? = some x) : (l.take (k + 1)).flatMap f = (l.take k).flatMap f ++ f x := by
  obtain ⟨hk, rfl⟩ := List.getElem?_eq_some_iff.1 hx
  rw [List.take_succ_eq_append_getElem hk, List.flatMap_append]
  simp
theorem flat_le {α : Type} (f : α → List UInt8) (l : List α) (k : Nat) : ((l.take k).flatMap f).length ≤ (l.flatMap f).length := by
  conv => rhs; rw [← List.take_append_drop k l, List.flatMap_append]
  simp
theorem strCells_mk (l : List UInt8) : Lib.strCells ⟨l.toArray⟩ = Lib.byteCells l := by simp [Lib.strCells, Lib.byteCells]
theorem bytes_app (l m : List UInt8) : Lib.byteCells l ++ Lib.byteCells m = Lib.byteCells (l ++ m) := by simp [Lib.byteCells]
theorem ints_len (l : List Int) : (l.flatMap Wi.int).length ≤ 11 * l.length := by
  induction l with
  | nil => simp
  | cons x l ih =>
    have := int_len x
    simp only [List.flatMap_cons, List.length_append, List.length_cons]
    omega
theorem bui_below {B b : Nat} {bs : List Value} {w w' : World} (h : IsBui B b bs w) (hb : Below w.heap.size w w') : IsBui B b bs w' := by
  have key : ∀ p, Lib.BuilderAt 62 5 B b p bs w → Lib.BuilderAt 62 5 B b p bs w' := by
    rintro p ⟨h1, v, h2, h3, h4⟩
    refine ⟨h1, v, (hb.block b (Array.getElem?_eq_some_iff.1 h2).1).trans h2, ?_, h4⟩
    exact h3.kept (row := some w.heap.size) (grown_of_below hb _) (Or.inr (fun e => by have := (h3.lt _ e).2; omega))
  rcases h with h | h
  · exact Or.inl (key _ h)
  · exact Or.inr (key _ h)

set_option maxHeartbeats 1000000 in
theorem wintslist_any (a : Option Addr) (len cap : Nat) (l : List Int) (w : World) (hl : Lst Enc.int w (· < w.heap.size) a len l) (hlen : len ≤ 1000000) :
    Calls Try.prog 43 #[.slice a len cap, .func (Fn.func 12) #[] #[]] w fun e w' => e = .returned (.string ⟨(Wi.ints l).toArray⟩) ∧ Below w.heap.size w w' := by
  have hlen0 := hl.1
  have hB := Lib.fresh_isBuilder 62 5 w
  have hbel : Below w.heap.size w (w.alloc (Obj.cells #[.pointer none, .slice none 0 0] 62)) := (Below.refl _ _).alloc (Nat.le_refl _) _
  obtain ⟨W0, hW0⟩ : ∃ W0, w.heap.size = W0 := ⟨_, rfl⟩
  rw [hW0] at hB hbel hl ⊢
  have hle : W0 ≤ w.heap.size := by omega
  have hI := int_len (len : Int)
  have hF := ints_len l
  rw [hlen0] at hF
  replace hB := hide hB
  replace hlen0 := hide hlen0
  go_enter Try.func43, Try.ntmps43
  go_wp2_with fail
  clear hW0
  refine (wint_any _ _ (size_i64 _ (by omega))).mono ?_
  rintro e w1 ⟨rfl, hb1⟩
  have hz1 : W0 ≤ (w.alloc (Obj.cells #[.pointer none, .slice none 0 0] 62)).heap.size := Nat.le_trans hle hbel.size
  have hB1 : IsBui W0 W0 (Lib.byteCells []) w1 := bui_below (unhide hB) hb1
  replace hbel := hbel.trans (hb1.mono hz1)
  clear hb1 hB hz1
  go_wp2_with fail
  refine (bwrites_any W0 W0 _ _ _ hB1 (by rw [ba_size]; simp [Lib.byteCells]; omega) (Nat.le_trans hle hbel.size)).mono ?_
  rintro e w2 ⟨rfl, hB2, hb2⟩
  rw [strCells_mk, bytes_app, List.nil_append] at hB2
  replace hbel := hbel.trans hb2
  clear hb2 hB1
  go_wp2_with fail
  go_loopw [14] (fun v wr => ∃ k : Nat, k ≤ len ∧ v = .int .i64 (k : Int) ∧ IsBui W0 W0 (Lib.byteCells (Wi.int (len : Int) ++ (l.take k).flatMap Wi.int)) wr ∧ Below W0 w wr) (fun v _ => (len - intOf v).toNat)
  case atStart => exact ⟨0, by omega, rfl, Or.inr (by simpa using hB2), hbel⟩
  case round =>
    obtain ⟨k, hk, rfl, hb, hbel2⟩ := hrel
    clear hbel hB2
    have hll := unhide hlen0
    by_cases hlt : k < len
    · obtain ⟨bb, off, x, rfl, hbb, hx, hxi, hc⟩ := lst_int (hl.below hbel2) hlt
      have hcat := flat_step Wi.int l k x hx
      have hmono := flat_le Wi.int l (k + 1)
      rw [hcat] at hmono
      have hxl := int_len x
      replace hcat := hide hcat
      replace hx := hide hx
      replace hmono := hide hmono
      clear hll
      go_wp2_with fail
      refine (wint_any _ _ hxi).mono ?_
      rintro e w3 ⟨rfl, hb3⟩
      have hB3 := bui_below hb hb3
      replace hbel2 := hbel2.trans (hb3.mono (Nat.le_trans hle hbel2.size))
      clear hb3
      go_wp2_with fail
      refine (bwrites_any W0 W0 _ _ _ hB3 (by rw [ba_size]; have := unhide hmono; simp only [List.length_append] at this; rw [Lib.byteCells_length, List.length_append]; omega) (Nat.le_trans hle hbel2.size)).mono ?_
      rintro e w4 ⟨rfl, hB4, hb4⟩
      rw [strCells_mk, bytes_app, List.append_assoc, ← unhide hcat] at hB4
      replace hbel2 := hbel2.trans hb4
      clear hb4 hB3 hb
      go_wp2_with fail
      go_roundw
      case rel => exact ⟨k + 1, by omega, by go_num, Or.inr hB4, hbel2⟩
      case measure => simp [intOf]; omega
    · have hkk : (Wi.int (len : Int) ++ (l.take k).flatMap Wi.int) = Wi.ints l := by
        unfold Wi.ints
        rw [List.take_of_length_le (by omega), hll]
      rw [hkk] at hb
      clear hkk hll
      have t1 : decide ((k : Int) < (len : Int)) = false := by simp; omega
      go_wp2_with fail
      refine (Try.Builder_String_any W0 W0 _ _ hb (Nat.le_trans hle hbel2.size)).mono ?_
      rintro e w3 ⟨rfl, hb3⟩
      replace hbel2 := hbel2.trans hb3
      go_wp2_with fail
      go_ret
      exact ⟨rfl, hbel2⟩
theorem wints_any (a : Option Addr) (len cap : Nat) (l : List Int) (w : World) (hl : Lst Enc.int w (· < w.heap.size) a len l) (hlen : len ≤ 1000000) :
    Calls Try.prog 16 #[.slice a len cap] w fun e w' => e = .returned (.string ⟨(Wi.ints l).toArray⟩) ∧ Below w.heap.size w w' := by
  go_enter Try.func16, Try.ntmps16
  go_wp2_with fail
  refine (wintslist_any a len cap l w hl hlen).mono ?_
  rintro e w1 ⟨rfl, hb⟩
  go_wp2_with fail
  go_ret
  exact ⟨rfl, hb⟩
theorem btxts_len (l : List ByteArray) (h : ∀ x ∈ l, x.size ≤ 1000000) : (l.flatMap Wi.btxt).length ≤ 1000011 * l.length := by
  induction l with
  | nil => simp
  | cons x l ih =>
    have h1 := h x (by simp)
    have h2 := ih (fun y hy => h y (by simp [hy]))
    have := int_len (x.data.toList.length : Int)
    have hs : x.data.toList.length = x.size := by rw [Array.length_toList]; rfl
    have hb : (Wi.btxt x).length = (Wi.int (x.data.toList.length : Int)).length + x.size := by simp only [Wi.btxt, Wi.txt, List.length_append]; omega
    simp only [List.flatMap_cons, List.length_append, List.length_cons]
    omega
theorem wtextb_any (s : ByteArray) (w : World) (hs : s.size ≤ 1000000000000) :
    Calls Try.prog 14 #[.string s] w fun e w' => e = .returned (.string ⟨(Wi.btxt s).toArray⟩) ∧ Below w.heap.size w w' := wtext_any s w hs
theorem btxt_len (x : ByteArray) (h : x.size ≤ 1000000) : (Wi.btxt x).length ≤ 1000011 := by
  have := int_len (x.data.toList.length : Int)
  have hs : x.data.toList.length = x.size := by rw [Array.length_toList]; rfl
  simp only [Wi.btxt, Wi.txt, List.length_append]
  omega

set_option maxHeartbeats 1000000 in
theorem wtextslist_any (a : Option Addr) (len cap : Nat) (l : List ByteArray) (w : World) (hl : Lst Enc.str w (· < w.heap.size) a len l) (hlen : len ≤ 1000000) (hsz : ∀ x ∈ l, x.size ≤ 1000000) :
    Calls Try.prog 44 #[.slice a len cap, .func (Fn.func 14) #[] #[]] w fun e w' => e = .returned (.string ⟨(Wi.btxts l).toArray⟩) ∧ Below w.heap.size w w' := by
  have hlen0 := hl.1
  have hB := Lib.fresh_isBuilder 62 5 w
  have hbel : Below w.heap.size w (w.alloc (Obj.cells #[.pointer none, .slice none 0 0] 62)) := (Below.refl _ _).alloc (Nat.le_refl _) _
  obtain ⟨W0, hW0⟩ : ∃ W0, w.heap.size = W0 := ⟨_, rfl⟩
  rw [hW0] at hB hbel hl ⊢
  have hle : W0 ≤ w.heap.size := by omega
  have hI := int_len (len : Int)
  have hF := btxts_len l hsz
  rw [hlen0] at hF
  replace hB := hide hB
  replace hlen0 := hide hlen0
  go_enter Try.func44, Try.ntmps44
  go_wp2_with fail
  clear hW0
  refine (wint_any _ _ (size_i64 _ (by omega))).mono ?_
  rintro e w1 ⟨rfl, hb1⟩
  have hz1 : W0 ≤ (w.alloc (Obj.cells #[.pointer none, .slice none 0 0] 62)).heap.size := Nat.le_trans hle hbel.size
  have hB1 : IsBui W0 W0 (Lib.byteCells []) w1 := bui_below (unhide hB) hb1
  replace hbel := hbel.trans (hb1.mono hz1)
  clear hb1 hB hz1
  go_wp2_with fail
  refine (bwrites_any W0 W0 _ _ _ hB1 (by rw [ba_size]; simp [Lib.byteCells]; omega) (Nat.le_trans hle hbel.size)).mono ?_
  rintro e w2 ⟨rfl, hB2, hb2⟩
  rw [strCells_mk, bytes_app, List.nil_append] at hB2
  replace hbel := hbel.trans hb2
  clear hb2 hB1
  go_wp2_with fail
  go_loopw [14] (fun v wr => ∃ k : Nat, k ≤ len ∧ v = .int .i64 (k : Int) ∧ IsBui W0 W0 (Lib.byteCells (Wi.int (len : Int) ++ (l.take k).flatMap Wi.btxt)) wr ∧ Below W0 w wr) (fun v _ => (len - intOf v).toNat)
  case atStart => exact ⟨0, by omega, rfl, Or.inr (by simpa using hB2), hbel⟩
  case round =>
    obtain ⟨k, hk, rfl, hb, hbel2⟩ := hrel
    clear hbel hB2
    have hll := unhide hlen0
    by_cases hlt : k < len
    · obtain ⟨bb, off, x, rfl, hbb, hx, hxi, hc⟩ := lst_str (hl.below hbel2) hlt
      have hcat := flat_step Wi.btxt l k x hx
      have hmono := flat_le Wi.btxt l (k + 1)
      rw [hcat] at hmono
      have hxs := hsz x (List.mem_of_getElem? hx)
      have hxl := btxt_len x hxs
      replace hcat := hide hcat
      replace hx := hide hx
      replace hmono := hide hmono
      clear hll
      go_wp2_with fail
      refine (wtextb_any _ _ (by omega)).mono ?_
      rintro e w3 ⟨rfl, hb3⟩
      have hB3 := bui_below hb hb3
      replace hbel2 := hbel2.trans (hb3.mono (Nat.le_trans hle hbel2.size))
      clear hb3
      go_wp2_with fail
      refine (bwrites_any W0 W0 _ _ _ hB3 (by rw [ba_size]; have := unhide hmono; simp only [List.length_append] at this; rw [Lib.byteCells_length, List.length_append]; omega) (Nat.le_trans hle hbel2.size)).mono ?_
      rintro e w4 ⟨rfl, hB4, hb4⟩
      rw [strCells_mk, bytes_app, List.append_assoc, ← unhide hcat] at hB4
      replace hbel2 := hbel2.trans hb4
      clear hb4 hB3 hb
      go_wp2_with fail
      go_roundw
      case rel => exact ⟨k + 1, by omega, by go_num, Or.inr hB4, hbel2⟩
      case measure => simp [intOf]; omega
    · have hkk : (Wi.int (len : Int) ++ (l.take k).flatMap Wi.btxt) = Wi.btxts l := by
        unfold Wi.btxts
        rw [List.take_of_length_le (by omega), hll]
      rw [hkk] at hb
      clear hkk hll
      have t1 : decide ((k : Int) < (len : Int)) = false := by simp; omega
      go_wp2_with fail
      refine (Try.Builder_String_any W0 W0 _ _ hb (Nat.le_trans hle hbel2.size)).mono ?_
      rintro e w3 ⟨rfl, hb3⟩
      replace hbel2 := hbel2.trans hb3
      go_wp2_with fail
      go_ret
      exact ⟨rfl, hbel2⟩
theorem wtexts_any (a : Option Addr) (len cap : Nat) (l : List ByteArray) (w : World) (hl : Lst Enc.str w (· < w.heap.size) a len l) (hlen : len ≤ 1000000) (hsz : ∀ x ∈ l, x.size ≤ 1000000) :
    Calls Try.prog 18 #[.slice a len cap] w fun e w' => e = .returned (.string ⟨(Wi.btxts l).toArray⟩) ∧ Below w.heap.size w w' := by
  go_enter Try.func18, Try.ntmps18
  go_wp2_with fail
  refine (wtextslist_any a len cap l w hl hlen hsz).mono ?_
  rintro e w1 ⟨rfl, hb⟩
  go_wp2_with fail
  go_ret
  exact ⟨rfl, hb⟩
end Go.Proofs.Ytidbjccfkembeaa
