/- The examples of wire's chapter. -/
import Derived.Test.YtidbjccfkembeaaWi12
namespace Go.Proofs.Ytidbjccfkembeaa
open Go.RowKit

theorem lst_ints {w : World} {S : Nat → Prop} {b T : Nat} {l : List Int} (h : w.heap[b]? = some (.cells (l.map (Value.int .i64)).toArray T (0, 0))) (hl : ∀ x ∈ l, I64 x) (hS : S b) : Lst Enc.int w S (some ⟨b, 0, none⟩) l.length l := by
  refine ⟨rfl, fun _ => ⟨b, 0, rfl, hS, fun i x hx => ⟨[.int .i64 x], ⟨rfl, hl x (List.mem_of_getElem? hx)⟩, fun j u hj => ?_⟩⟩⟩
  cases j with
  | zero =>
    simp at hj
    subst hj
    rw [cell_of_row w b _ _ T (0, 0) h]
    simp [Enc.num, hx]
  | succ j => simp at hj
theorem lst_strs {w : World} {S : Nat → Prop} {b T : Nat} {l : List ByteArray} (h : w.heap[b]? = some (.cells (l.map Value.string).toArray T (0, 0))) (hl : ∀ x ∈ l, x.size ≤ maxLen) (hS : S b) : Lst Enc.str w S (some ⟨b, 0, none⟩) l.length l := by
  refine ⟨rfl, fun _ => ⟨b, 0, rfl, hS, fun i x hx => ⟨[.string x], ⟨rfl, hl x (List.mem_of_getElem? hx)⟩, fun j u hj => ?_⟩⟩⟩
  cases j with
  | zero =>
    simp at hj
    subst hj
    rw [cell_of_row w b _ _ T (0, 0) h]
    simp [Enc.str, hx]
  | succ j => simp at hj
theorem lst_own {w : World} {base n : Nat} {T : TypeId} {a : Option Addr} {c m : Nat} {l : List Int} (h : w.ownsRow base T 1 (.slice a m c) n (l.map (Value.int .i64))) (hl : ∀ x ∈ l, I64 x) : Lst Enc.int w (· < w.heap.size) a m l ∧ m = l.length := by
  have hlen : n = l.length := by have := h.1; simpa using this.symm
  rcases h.2 with ⟨hv, hn⟩ | ⟨g, cap, cur, hv, hb, hg, hrest⟩
  · injection hv with h1 h2 h3
    subst h1; subst h2
    have : l = [] := List.eq_nil_of_length_eq_zero (by omega)
    subst this
    exact ⟨Lst.nil _ _ _ _, rfl⟩
  · injection hv with h1 h2 h3
    subst h1; subst h2
    refine ⟨⟨hlen.symm, fun _ => ⟨g, 0, rfl, (Array.getElem?_eq_some_iff.1 hg).1, fun i x hx => ⟨[.int .i64 x], ⟨rfl, hl x (List.mem_of_getElem? hx)⟩, fun j u hj => ?_⟩⟩⟩, hlen⟩
    cases j with
    | zero =>
      simp at hj
      subst hj
      have := h.cells (g := g) rfl i (.int .i64 x) (by simp [hx])
      simp only [Enc.num, Nat.mul_one, Nat.add_zero, Nat.zero_add]
      unfold Addr.add at this
      by_cases hi : i = 0
      · subst hi; simpa using this
      · rw [if_neg hi] at this; simpa using this
    | succ j => simp at hj
theorem mal1 (k : Int) (h0 : 0 ≤ k) (h3 : k ≤ 3) : dcd k (some [128]) = (true, none) := by
  have e0 : dcd 0 (some [128]) = (true, none) := by kernel_rfl
  have e1 : dcd 1 (some [128]) = (true, none) := by kernel_rfl
  have e2 : dcd 2 (some [128]) = (true, none) := by kernel_rfl
  have e3 : dcd 3 (some [128]) = (true, none) := by kernel_rfl
  have h : k = 0 ∨ k = 1 ∨ k = 2 ∨ k = 3 := by omega
  rcases h with rfl | rfl | rfl | rfl
  · exact e0
  · exact e1
  · exact e2
  · exact e3
theorem mal2 (k : Int) (h0 : 0 ≤ k) (h3 : k ≤ 3) : dcd k (some [128, 0]) = (true, none) := by
  have e0 : dcd 0 (some [128, 0]) = (true, none) := by kernel_rfl
  have e1 : dcd 1 (some [128, 0]) = (true, none) := by kernel_rfl
  have e2 : dcd 2 (some [128, 0]) = (true, none) := by kernel_rfl
  have e3 : dcd 3 (some [128, 0]) = (true, none) := by kernel_rfl
  have h : k = 0 ∨ k = 1 ∨ k = 2 ∨ k = 3 := by omega
  rcases h with rfl | rfl | rfl | rfl
  · exact e0
  · exact e1
  · exact e2
  · exact e3
theorem blw_drewN {B : Nat} {a w : World} (h : Below B a w) (n : Nat) : Below B a (w.drewN n) := h.trans ⟨rfl, rfl, rfl, Nat.le_refl _, fun _ _ => rfl⟩
theorem rd_below {w w' : World} {b B : Nat} {st : Option (List UInt8)} (h : Rd w b st) (hb : Below B w w') (hlt : b < B) : Rd w' b st := (hb.block b hlt).trans h

set_option maxRecDepth 100000 in
set_option maxHeartbeats 4000000 in
theorem wsanity_any (w : World) :
    Calls Try.prog 10 #[] w fun e w' => e = .returned (.bool true) ∧ Below w.heap.size w w' := by
  have c0 := fun w => wint_any (0) w ⟨by omega, by omega⟩
  rw [show Wi.int (0) = [0] by kernel_rfl] at c0
  replace c0 := hide c0
  have c1 := fun w => wint_any (-1) w ⟨by omega, by omega⟩
  rw [show Wi.int (-1) = [1] by kernel_rfl] at c1
  replace c1 := hide c1
  have c2 := fun w => wint_any (63) w ⟨by omega, by omega⟩
  rw [show Wi.int (63) = [126] by kernel_rfl] at c2
  replace c2 := hide c2
  have c3 := fun w => wint_any (64) w ⟨by omega, by omega⟩
  rw [show Wi.int (64) = [128, 1] by kernel_rfl] at c3
  replace c3 := hide c3
  have c4 := fun w => wint_any (-65) w ⟨by omega, by omega⟩
  rw [show Wi.int (-65) = [129, 1] by kernel_rfl] at c4
  replace c4 := hide c4
  have c5 := fun w => wtext_any ⟨#[97, 98]⟩ w (by decide)
  rw [show Wi.txt (⟨#[97, 98]⟩ : ByteArray).data.toList = [4, 97, 98] by kernel_rfl] at c5
  replace c5 := hide c5
  have c6 := fun w => wtext_any ⟨#[]⟩ w (by decide)
  rw [show Wi.txt (⟨#[]⟩ : ByteArray).data.toList = [0] by kernel_rfl] at c6
  replace c6 := hide c6
  have c7 := fun (b : Nat) (w : World) (h : Lst Enc.int w (· < w.heap.size) (some ⟨b, 0, none⟩) 2 [1, -2]) => wints_any (some ⟨b, 0, none⟩) 2 2 [1, -2] w h (by omega)
  rw [show Wi.ints [1, -2] = [4, 2, 3] by kernel_rfl] at c7
  replace c7 := hide c7
  have c8 := fun (w : World) => wints_any none 0 0 [] w (Lst.nil _ _ _ _) (by omega)
  rw [show Wi.ints [] = [0] by kernel_rfl] at c8
  replace c8 := hide c8
  have c9 := fun (b : Nat) (w : World) (h : Lst Enc.str w (· < w.heap.size) (some ⟨b, 0, none⟩) 2 [⟨#[]⟩, ⟨#[97]⟩]) => wtexts_any (some ⟨b, 0, none⟩) 2 2 [⟨#[]⟩, ⟨#[97]⟩] w h (by omega) (by decide)
  rw [show Wi.btxts [⟨#[]⟩, ⟨#[97]⟩] = [4, 0, 2, 97] by kernel_rfl] at c9
  replace c9 := hide c9
  obtain ⟨W0, hW0⟩ : ∃ W0, w.heap.size = W0 := ⟨_, rfl⟩
  rw [hW0]
  have hle : W0 ≤ w.heap.size := by omega
  clear hW0
  have hb : Below W0 w w := Below.refl _ _
  go_enter Try.func10, Try.ntmps10
  go_wp2_with fail
  refine (unhide c0 _).mono ?_
  rintro e w1 ⟨rfl, h1⟩
  replace hb := hb.trans (h1.mono (Nat.le_trans hle hb.size))
  clear h1
  go_wp2_with fail
  refine (unhide c1 _).mono ?_
  rintro e w2 ⟨rfl, h2⟩
  replace hb := hb.trans (h2.mono (Nat.le_trans hle hb.size))
  clear h2
  go_wp2_with fail
  refine (unhide c2 _).mono ?_
  rintro e w3 ⟨rfl, h3⟩
  replace hb := hb.trans (h3.mono (Nat.le_trans hle hb.size))
  clear h3
  go_wp2_with fail
  refine (unhide c3 _).mono ?_
  rintro e w4 ⟨rfl, h4⟩
  replace hb := hb.trans (h4.mono (Nat.le_trans hle hb.size))
  clear h4
  go_wp2_with fail
  refine (unhide c4 _).mono ?_
  rintro e w5 ⟨rfl, h5⟩
  replace hb := hb.trans (h5.mono (Nat.le_trans hle hb.size))
  clear h5
  go_wp2_with fail
  refine (unhide c5 _).mono ?_
  rintro e w6 ⟨rfl, h6⟩
  replace hb := hb.trans (h6.mono (Nat.le_trans hle hb.size))
  clear h6
  go_wp2_with fail
  refine (unhide c6 _).mono ?_
  rintro e w7 ⟨rfl, h7⟩
  replace hb := hb.trans (h7.mono (Nat.le_trans hle hb.size))
  clear h7
  have hL := lst_ints (T := 3) (l := [1, -2]) (S := (· < (w7.alloc (Obj.cells #[.int .i64 1, .int .i64 (-2)] 3)).heap.size)) (heap_alloc_new w7 (Obj.cells #[.int .i64 1, .int .i64 (-2)] 3)) (by simp [I64]) (by simp)
  replace hL := hide hL
  replace hb := hb.alloc (Nat.le_trans hle hb.size) (Obj.cells #[.int .i64 1, .int .i64 (-2)] 3)
  go_wp2_with fail
  refine (unhide c7 _ _ (unhide hL)).mono ?_
  rintro e w8 ⟨rfl, h8⟩
  replace hb := hb.trans (h8.mono (Nat.le_trans hle hb.size))
  clear h8
  clear hL
  go_wp2_with fail
  refine (unhide c8 _).mono ?_
  rintro e w9 ⟨rfl, h9⟩
  replace hb := hb.trans (h9.mono (Nat.le_trans hle hb.size))
  clear h9
  have hL := lst_strs (T := 9) (l := [⟨#[]⟩, ⟨#[97]⟩]) (S := (· < (w9.alloc (Obj.cells #[.string ⟨#[]⟩, .string ⟨#[97]⟩] 9)).heap.size)) (heap_alloc_new w9 (Obj.cells #[.string ⟨#[]⟩, .string ⟨#[97]⟩] 9)) (by decide) (by simp)
  replace hL := hide hL
  replace hb := hb.alloc (Nat.le_trans hle hb.size) (Obj.cells #[.string ⟨#[]⟩, .string ⟨#[97]⟩] 9)
  go_wp2_with fail
  refine (unhide c9 _ _ (unhide hL)).mono ?_
  rintro e w10 ⟨rfl, h10⟩
  replace hb := hb.trans (h10.mono (Nat.le_trans hle hb.size))
  clear h10
  clear hL c0 c1 c2 c3 c4 c5 c6 c7 c8 c9
  go_wp2_with fail
  refine (rnew_any [4, 2, 3, 6] _).mono ?_
  rintro e w11 ⟨rfl, hw11⟩
  have hr : Rd w11 w10.heap.size (some [4, 2, 3, 6]) := by rw [hw11]; exact rnew_rd _ _
  have hbs : W0 ≤ w10.heap.size := Nat.le_trans hle hb.size
  replace hb : Below W0 w w11 := by rw [hw11]; exact hb.alloc hbs _
  obtain ⟨b1, hb1⟩ : ∃ b, w10.heap.size = b := ⟨_, rfl⟩
  rw [hb1] at hr hbs ⊢
  clear hw11 hb1
  have i1 := fun w h => rintsm_any b1 (some [4, 2, 3, 6]) w h (by decide)
  rw [show Wi.rList Wi.rInt (some [4, 2, 3, 6]) = ([1, -2], some [6]) by kernel_rfl] at i1
  replace i1 := hide i1
  go_wp2_with fail
  refine (unhide i1 _ hr).mono ?_
  rintro e w12 ⟨v, rfl, hown, hr2, hg⟩
  obtain ⟨va, vc, rfl⟩ := own_shape hown
  replace hb := hb.grown hg (Nat.le_trans hle hb.size) (fun k hk => by cases hk; exact hbs)
  clear hr hg i1
  go_wp2_with fail
  refine (rleft_any b1 _ _ hr2).mono ?_
  rintro e w' ⟨rfl, rfl⟩
  have i2 := fun w h => rint2_any b1 (some [6]) w h (by decide)
  rw [show Wi.rInt (some [6]) = (3, some []) by kernel_rfl] at i2
  replace i2 := hide i2
  go_wp2_with fail
  refine (unhide i2 _ hr2).mono ?_
  rintro e w13 ⟨rfl, hr3, hg⟩
  replace hown := hown.kept hg (Or.inr (rd_blk_ne hown hr2 (by decide)))
  replace hb := hb.grown hg (Nat.le_trans hle hb.size) (fun k hk => by cases hk; exact hbs)
  clear hr2 hg i2
  have o1 := hown.alloc (Obj.cells #[.int .i64 1, .int .i64 (-2)] 3)
  obtain ⟨l1, hvn⟩ := lst_own o1 (by simp [I64])
  have l2 := lst_ints (T := 3) (l := [1, -2]) (S := (· < (w13.alloc (Obj.cells #[.int .i64 1, .int .i64 (-2)] 3)).heap.size)) (heap_alloc_new w13 (Obj.cells #[.int .i64 1, .int .i64 (-2)] 3)) (by simp [I64]) (by simp)
  have i3 := sameInts_any _ _ vc _ _ _ 2 _ _ l1 l2 (by decide) (by decide)
  rw [show decide (([1, -2] : List Int) = [1, -2]) = true by decide] at i3
  replace hb := hb.alloc (Nat.le_trans hle hb.size) (Obj.cells #[.int .i64 1, .int .i64 (-2)] 3)
  replace hr3 := rd_kept hr3 (World.grownBy_alloc w13 (Obj.cells #[.int .i64 1, .int .i64 (-2)] 3) none) (by simp)
  clear o1 l1 l2 hown hvn
  replace i3 := hide i3
  go_wp2_with fail
  refine (unhide i3).mono ?_
  rintro e w14 ⟨rfl, m, rfl⟩
  replace hb := blw_drewN hb m
  have hr4 : Rd ((w13.alloc (Obj.cells #[.int .i64 1, .int .i64 (-2)] 3)).drewN m) b1 (some []) := hr3
  clear i3 hr3
  obtain ⟨w14, hw14⟩ : ∃ v, (w13.alloc (Obj.cells #[.int .i64 1, .int .i64 (-2)] 3)).drewN m = v := ⟨_, rfl⟩
  rw [hw14] at hb hr4 ⊢
  clear hw14
  go_wp2_with fail
  refine (rleft_any b1 _ _ hr4).mono ?_
  rintro e w' ⟨rfl, rfl⟩
  simp only [Option.getD_some, List.length_nil]
  go_wp2_with fail
  refine (rbad_any b1 _ _ hr4).mono ?_
  rintro e w' ⟨rfl, rfl⟩
  simp only [Option.isNone_some]
  have i4 := fun w h => rint2_any b1 (some []) w h (by decide)
  rw [show Wi.rInt (some []) = (0, none) by kernel_rfl] at i4
  replace i4 := hide i4
  go_wp2_with fail
  refine (unhide i4 _ hr4).mono ?_
  rintro e w15 ⟨rfl, hr5, hg⟩
  replace hb := hb.grown hg (Nat.le_trans hle hb.size) (fun k hk => by cases hk; exact hbs)
  clear hr4 hg i4
  go_wp2_with fail
  refine (rbad_any b1 _ _ hr5).mono ?_
  rintro e wq ⟨rfl, rfl⟩
  simp only [Option.isNone_none]
  clear hr5
  go_wp2_with fail
  refine (rnew_any [6, 97] _).mono ?_
  rintro e w16 ⟨rfl, hw16⟩
  have hr : Rd w16 wq.heap.size (some [6, 97]) := by rw [hw16]; exact rnew_rd _ _
  have hbs2 : W0 ≤ wq.heap.size := Nat.le_trans hle hb.size
  replace hb : Below W0 w w16 := by rw [hw16]; exact hb.alloc hbs2 _
  obtain ⟨b2, hb2⟩ : ∃ b, wq.heap.size = b := ⟨_, rfl⟩
  rw [hb2] at hr hbs2 ⊢
  clear hw16 hb2
  have m1 := fun w => hide (malformed_any [128] w mal1 (by decide))
  have m2 := fun w => hide (malformed_any [128, 0] w mal2 (by decide))
  replace m1 := hide m1
  replace m2 := hide m2
  go_wp2_with fail
  refine (unhide (unhide m1 _)).mono ?_
  rintro e w17 ⟨rfl, h17⟩
  replace hr := rd_below hr h17 (Array.getElem?_eq_some_iff.1 hr).1
  replace hb := hb.trans (h17.mono (Nat.le_trans hle hb.size))
  clear h17
  go_wp2_with fail
  refine (unhide (unhide m2 _)).mono ?_
  rintro e w18 ⟨rfl, h18⟩
  replace hr := rd_below hr h18 (Array.getElem?_eq_some_iff.1 hr).1
  replace hb := hb.trans (h18.mono (Nat.le_trans hle hb.size))
  clear h18 m1 m2
  have i5 := fun w h => rtextm_any b2 (some [6, 97]) w h (by decide)
  rw [show Wi.rText (some [6, 97]) = ([], none) by kernel_rfl] at i5
  replace i5 := hide i5
  go_wp2_with fail
  refine (unhide i5 _ hr).mono ?_
  rintro e w19 ⟨rfl, hr6, hg⟩
  replace hb := hb.grown hg (Nat.le_trans hle hb.size) (fun k hk => by cases hk; exact hbs2)
  clear hr hg i5
  go_wp2_with fail
  refine (rbad_any b2 _ _ hr6).mono ?_
  rintro e w' ⟨rfl, rfl⟩
  go_wp2_with fail
  go_ret
  exact ⟨rfl, hb⟩
end Go.Proofs.Ytidbjccfkembeaa
