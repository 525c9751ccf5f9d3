/- The method same of the laws' values. -/
import Derived.Test.YtidbjccfkembeaaWi19
namespace Go.Proofs.Ytidbjccfkembeaa
open Go.RowKit
attribute [local go_sem ↓] Go.wp_at_zero Go.wp_at_succ

/-- equal as values of a kind -/
def sameV (q : Int) (n : Int) (s : ByteArray) (l : List Int) (t : List ByteArray) (n' : Int) (s' : ByteArray) (l' : List Int) (t' : List ByteArray) : Bool :=
  if q % 4 = 0 then decide (n = n') else if q % 4 = 1 then decide (cut1 s = cut1 s') else if q % 4 = 2 then decide (l.take 20 = l'.take 20) else decide (cutL t = cutL t')
theorem same0 {q n n' : Int} {s s' : ByteArray} {l l' : List Int} {t t' : List ByteArray} (h : q % 4 = 0) : sameV q n s l t n' s' l' t' = decide (n = n') := if_pos h
theorem same1 {q n n' : Int} {s s' : ByteArray} {l l' : List Int} {t t' : List ByteArray} (h : q % 4 = 1) : sameV q n s l t n' s' l' t' = decide (cut1 s = cut1 s') := by unfold sameV; rw [if_neg (by omega), if_pos h]
theorem same2 {q n n' : Int} {s s' : ByteArray} {l l' : List Int} {t t' : List ByteArray} (h : q % 4 = 2) : sameV q n s l t n' s' l' t' = decide (l.take 20 = l'.take 20) := by unfold sameV; rw [if_neg (by omega), if_neg (by omega), if_pos h]
theorem same3 {q n n' : Int} {s s' : ByteArray} {l l' : List Int} {t t' : List ByteArray} (h : q % 4 = 3) : sameV q n s l t n' s' l' t' = decide (cutL t = cutL t') := by unfold sameV; rw [if_neg (by omega), if_neg (by omega), if_neg (by omega)]
theorem ba_dec (x y : ByteArray) : (x.toList == y.toList) = decide (x = y) := by
  rw [← beq_toListBytes]
  by_cases h : x = y
  · subst h; rw [ba_eq]; simp
  · rw [ba_ne h]; simp [h]
theorem ret_bool {a b : Bool} (h : a = b) : Ending.returned (.bool a) = Ending.returned (.bool b) := by rw [h]
theorem two_boxes (w : World) (o o' : Obj) : Below w.heap.size w ((w.alloc o).alloc o') := by
  have h1 : Below w.heap.size w (w.alloc o) := (Below.refl _ _).alloc (Nat.le_refl _) _
  exact h1.alloc h1.size _
theorem Lst.under {α : Type} {E : Enc α} {w w' : World} {a : Option Addr} {len : Nat} {l : List α} (h : Lst E w (fun b => b < w.heap.size) a len l) (hb : Below w.heap.size w w') : Lst E w' (fun b => b < w'.heap.size) a len l :=
  (h.below hb).wide (fun _ h => Nat.lt_of_lt_of_le h hb.size)
theorem Lst.drewN {α : Type} {E : Enc α} {w : World} {a : Option Addr} {len : Nat} {l : List α} (h : Lst E w (fun b => b < w.heap.size) a len l) (m : Nat) : Lst E (w.drewN m) (fun b => b < (w.drewN m).heap.size) a len l :=
  Lst.same (w := w) (w' := w.drewN m) (fun _ _ => rfl) h
theorem Lst.drew {α : Type} {E : Enc α} {w : World} {a : Option Addr} {len : Nat} {l : List α} (h : Lst E w (fun b => b < w.heap.size) a len l) : Lst E w.drew (fun b => b < w.drew.heap.size) a len l := h.drewN 1
theorem cell_under {w w' : World} {a : Addr} {v : Value} (h : w.cell? a = some v) (hb : Below w.heap.size w w') : w'.cell? a = some v := (hb.cell (World.block_lt_of_cell? w a h)).trans h
theorem cut_lst (a : Option Addr) (len cap : Nat) (l : List ByteArray) (w : World) (hl : Lst Enc.str w (fun b => b < w.heap.size) a len l) (hlen : len ≤ maxLen) :
    Calls Try.prog 11 #[.slice a len cap] w fun e w' => ∃ a' c', e = .returned (.slice a' (cutL l).length c') ∧ Lst Enc.str w' (fun b => b < w'.heap.size) a' (cutL l).length (cutL l) ∧ Below w.heap.size w w' := by
  refine (cut_any a len cap l w hl hlen).mono ?_
  rintro e w1 ⟨v, rfl, hown, hb⟩
  obtain ⟨a', c', rfl, hl⟩ := lst_own_vba hown (fun x hx => Nat.le_trans (cutL_size l x hx) (by decide))
  exact ⟨a', c', rfl, hl.wide (fun b h => h.1), hb⟩
theorem sameInts_q {a : Option Addr} {n c : Nat} {l : List Int} {a' : Option Addr} {n' c' : Nat} {l' : List Int} {w : World} (hl : Lst Enc.int w (· < w.heap.size) a n l) (hl' : Lst Enc.int w (· < w.heap.size) a' n' l') (hn : n ≤ 1000000000000) (hn' : n' ≤ 1000000000000) (m : Nat) :
    Calls Try.prog 26 #[.slice a n c, .slice a' n' c'] (w.drewN m) fun e w' => e = .returned (.bool (decide (l = l'))) ∧ ∃ j, w' = w.drewN j :=
  Calls.quiet_of (sameInts_any a n c l a' n' c' l' (w.drewN m) (Lst.same (w := w) (w' := w.drewN m) (fun _ _ => rfl) hl) (Lst.same (w := w) (w' := w.drewN m) (fun _ _ => rfl) hl') hn hn')
set_option maxRecDepth 100000 in
set_option maxHeartbeats 2000000 in
theorem same_any (cs cs' : Array Value) (k n : Int) (s : ByteArray) (l : List Int) (t : List ByteArray) (k' n' : Int) (s' : ByteArray) (l' : List Int) (t' : List ByteArray) (q : Int) (w : World) (hv : Val w cs k n s l t) (hv' : Val w cs' k' n' s' l' t') (hq : 0 ≤ q ∧ q ≤ 255) :
    Calls Try.prog 39 #[.agg cs, .agg cs', .int .u8 q] w fun e w' => e = .returned (.bool (sameV q n s l t n' s' l' t')) ∧ Below w.heap.size w w' := by
  obtain ⟨hk, hn, hs, a1, n1, c1, a2, n2, c2, rfl, q1, q2, q3, q4, l1, l2⟩ := hv
  obtain ⟨hk', hn', hs', a1', n1', c1', a2', n2', c2', rfl, q1', q2', q3', q4', l1', l2'⟩ := hv'
  unfold maxLen at hs q2 q4 hs' q2' q4'
  have m1 : (0 : Int) ≤ min (s.size : Int) 100 := by omega
  have m2 : min (s.size : Int) 100 ≤ (s.size : Int) := by omega
  have m3 : (0 : Int) ≤ min (n1 : Int) 20 := by omega
  have m4 : min (n1 : Int) 20 ≤ (n1 : Int) := by omega
  have m1' : (0 : Int) ≤ min (s'.size : Int) 100 := by omega
  have m2' : min (s'.size : Int) 100 ≤ (s'.size : Int) := by omega
  have m3' : (0 : Int) ≤ min (n1' : Int) 20 := by omega
  have m4' : min (n1' : Int) 20 ≤ (n1' : Int) := by omega
  have m5 : min (n1 : Int) 20 ≤ (c1 : Int) := by omega
  have m5' : min (n1' : Int) 20 ≤ (c1' : Int) := by omega
  have hbel0 := hide (two_boxes w (Obj.cells #[.int .u8 k, .int .i64 n, .string s, .slice a1 n1 c1, .slice a2 n2 c2] 45) (Obj.cells #[.int .u8 k', .int .i64 n', .string s', .slice a1' n1' c1', .slice a2' n2' c2'] 45))
  obtain ⟨x1, x2, w0, e1, e2, e3, st⟩ := St.new2 w (Obj.cells #[.int .u8 k, .int .i64 n, .string s, .slice a1 n1 c1, .slice a2 n2 c2] 45) (Obj.cells #[.int .u8 k', .int .i64 n', .string s', .slice a1' n1' c1', .slice a2' n2' c2'] 45)
  have hbel := st.below
  have k1 := ((l1.below hbel).wide (fun b h => Nat.lt_of_lt_of_le h hbel.size)).take (k := (min (n1 : Int) 20).toNat) (by omega)
  rw [take20 l1.1] at k1
  have k2 := (l2.below hbel).wide (fun b h => Nat.lt_of_lt_of_le h hbel.size)
  have k1' := ((l1'.below hbel).wide (fun b h => Nat.lt_of_lt_of_le h hbel.size)).take (k := (min (n1' : Int) 20).toNat) (by omega)
  rw [take20 l1'.1] at k1'
  have k2' := (l2'.below hbel).wide (fun b h => Nat.lt_of_lt_of_le h hbel.size)
  have d2 := st.cell 1 rfl 2 rfl
  have d3 := st.cell 1 rfl 3 rfl
  have d4 := st.cell 1 rfl 4 rfl
  have d2' := st.cell 0 rfl 2 rfl
  have d3' := st.cell 0 rfl 3 rfl
  have d4' := st.cell 0 rfl 4 rfl
  clear l1 l2 l1' l2'
  replace k1 := hide k1; replace k2 := hide k2; replace k1' := hide k1'; replace k2' := hide k2'
  replace hbel := hide hbel
  replace e1 := hide e1; replace e2 := hide e2; replace e3 := hide e3
  obtain h | h | h | h : q % 4 = 0 ∨ q % 4 = 1 ∨ q % 4 = 2 ∨ q % 4 = 3 := by omega
  · have e := hide (same0 (q := q) (n := n) (s := s) (l := l) (t := t) (n' := n') (s' := s') (l' := l') (t' := t') h)
    go_enter Try.func39, Try.ntmps39
    go_wp2_with fail
    go_ret
    rw [unhide e]
    exact ⟨ret_bool (by first | rfl | simp), unhide hbel0⟩
  · have e := hide (same1 (q := q) (n := n) (s := s) (l := l) (t := t) (n' := n') (s' := s') (l' := l') (t' := t') h)
    go_enter Try.func39, Try.ntmps39
    go_wp2_with fail
    rw [unhide e3, unhide e2, unhide e1]
    go_quiet (fail)
    go_wp2_with fail
    go_ret
    rw [unhide e]
    exact ⟨ret_bool (ba_dec _ _), blw_drewN (unhide hbel) _⟩
  · have e := hide (same2 (q := q) (n := n) (s := s) (l := l) (t := t) (n' := n') (s' := s') (l' := l') (t' := t') h)
    go_enter Try.func39, Try.ntmps39
    go_wp2_with fail
    rw [unhide e3, unhide e2, unhide e1]
    go_quiet ((go_at_call 26; with_reducible exact sameInts_q (unhide k1) (unhide k1') (by omega) (by omega) _))
    go_wp2_with fail
    go_ret
    rw [unhide e]
    exact ⟨rfl, blw_drewN (unhide hbel) _⟩
  · have e := hide (same3 (q := q) (n := n) (s := s) (l := l) (t := t) (n' := n') (s' := s') (l' := l') (t' := t') h)
    have z1 := cutL_len t
    have z2 := cutL_len t'
    go_enter Try.func39, Try.ntmps39
    go_wp2_with fail
    rw [unhide e3, unhide e2, unhide e1]
    go_region_held3 (fun w' => w'.cell? ⟨x1, 4, none⟩ = some (.slice a2 n2 c2) ∧ w'.cell? ⟨x2, 4, none⟩ = some (.slice a2' n2' c2')) (first | go_keep | exact ⟨cell_under (w := w0.drew) d4 bA, cell_under (w := w0.drew) d4' bA⟩ | exact ⟨cell_under (w := w0.drew) d4 bB, cell_under (w := w0.drew) d4' bB⟩ | exact ⟨cell_under (cell_under (w := w0.drew) d4 bA) bB, cell_under (cell_under (w := w0.drew) d4' bA) bB⟩ | exact ⟨cell_under (cell_under (w := w0.drew) d4 bB) bA, cell_under (cell_under (w := w0.drew) d4' bB) bA⟩)
      (first
        | (go_at_call 11; (with_reducible refine (cut_lst a2 n2 c2 t _ (by first | exact (unhide k2).drew | exact (unhide k2).drew.under bB) (by unfold maxLen; omega)).mono ?_); rintro e wA ⟨aA, cA, rfl, lA, bA⟩)
        | (go_at_call 11; (with_reducible refine (cut_lst a2' n2' c2' t' _ (by first | exact (unhide k2').drew | exact (unhide k2').drew.under bA) (by unfold maxLen; omega)).mono ?_); rintro e wB ⟨aB, cB, rfl, lB, bB⟩)
        | (go_at_call 29; (with_reducible refine (sameTexts_any aA _ cA (cutL t) aB _ cB (cutL t') _ (by first | exact lA.under bB | exact lA) (by first | exact lB.under bA | exact lB) (by omega) (by omega)).mono ?_); rintro e wC ⟨rfl, m, rfl⟩))
    all_goals
      go_wp2_with fail
      go_ret
      rw [unhide e]
    · exact ⟨rfl, blw_drewN ((unhide hbel).drew.trans (bA.mono (unhide hbel).size) |>.trans (bB.mono ((unhide hbel).drew.trans (bA.mono (unhide hbel).size)).size)) _⟩
end Go.Proofs.Ytidbjccfkembeaa
