/- The made font's parts: bars, outlines, hints. -/
import Derived.Test.YtbbbldaccpfooaaDraw
namespace Go.Proofs.Ytbbbldaccpfooaa
open Go.RowKit

theorem bar_any (x y u v : Int) (w : World) :
    Calls Try.prog 33 #[.int .i64 x, .int .i64 y, .int .i64 u, .int .i64 v] w fun e w' => ∃ g, e = .returned (.slice (some ⟨g, 0, none⟩) 4 4) ∧ Below w.heap.size w w' := by
  go_enter Try.func33, Try.ntmps33
  go_wp2
  go_ret
  exact ⟨_, rfl, (Below.refl _ _).alloc (Nat.le_refl _) _⟩

/-- A slice by its length alone, at most 4. -/
def Enc.cnt : Enc Nat where
  n := 1
  rep _ _ cs m := ∃ a cap, cs = [.slice a m cap] ∧ m ≤ 4
  len h := by obtain ⟨a, cap, rfl, _⟩ := h; rfl
  one h := by obtain ⟨a, cap, rfl, _⟩ := h; intro u hu; simp at hu; subst hu; rfl
  same _ h := h
  wide _ h := h

theorem cnt_lst {w : World} {S : Nat → Prop} {g : Nat} {cs : Array Value} {t : TypeId} (hb : w.heap[g]? = some (.cells cs t (0, 0))) (hS : S g) (l : List Nat)
    (h : ∀ (i : Nat) (m : Nat), l[i]? = some m → ∃ (a : Option Addr) (cap : Nat), cs[i]? = some (Value.slice a m cap) ∧ m ≤ 4) : Lst Enc.cnt w S (some ⟨g, 0, none⟩) l.length l := by
  refine ⟨rfl, fun _ => ⟨g, 0, rfl, hS, fun i m hm => ?_⟩⟩
  obtain ⟨a, cap, hc, hm4⟩ := h i m hm
  refine ⟨[.slice a m cap], ⟨a, cap, rfl, hm4⟩, fun j u hu => ?_⟩
  have hj : j = 0 := by
    have := (List.getElem?_eq_some_iff.1 hu).1
    simp at this; omega
  subst hj
  simp at hu
  subst hu
  rw [show 0 + i * Enc.cnt.n + 0 = i by simp [Enc.cnt]]
  rw [cell_of_row w g i cs t (0, 0) hb, hc]

theorem DrawAt.drew {w : World} {b : Nat} {S : Nat → Prop} (h : DrawAt w b S) : DrawAt w.drew b S := h.same rfl (fun _ _ => rfl)
theorem DrawAt.lt {w : World} {b : Nat} {S : Nat → Prop} (h : DrawAt w b S) : b < w.heap.size := by
  obtain ⟨_, _, _, _, _, hb, _⟩ := h
  exact (Array.getElem?_eq_some_iff.1 hb).1
theorem DrawAt.own_ne {w : World} {b : Nat} {S : Nat → Prop} (h : DrawAt w b S) {base : Nat} {e : TypeId} {s : Nat} {v : Value} {n : Nat} {xs : List Value} (ho : w.ownsRow base e s v n xs) (hne : e ≠ 83) : v.ownBlock ≠ some b := by
  obtain ⟨_, _, _, _, _, hb, _⟩ := h
  exact own_ne_blk ho hb hne
/-- A row of the call's own is written. -/
theorem DrawAt.grown {w w' : World} {b : Nat} {S : Nat → Prop} (h : DrawAt w b S) {row : Option Nat} (hg : w.grownBy w' row) (hne : row ≠ some b) {B : Nat} (hS : ∀ c, S c → c < B) (hB : B ≤ w.heap.size) (hr : ∀ g, row = some g → B ≤ g) : DrawAt w' b S :=
  h.same (hg.block _ h.lt (fun e => hne e.symm)) (fun c hc => hg.block c (Nat.lt_of_lt_of_le (hS c hc) hB) (fun e => by have := hr c e.symm; have := hS c hc; omega))
theorem DrawAt.below {w w' : World} {b : Nat} {S : Nat → Prop} (h : DrawAt w b S) (hS : ∀ c, S c → c < w.heap.size) (hb : Below w.heap.size w w') : DrawAt w' b S :=
  h.same (hb.block _ h.lt) (fun c hc => hb.block c (hS c hc))

section
variable {w wo w2 : World} {b base : Nat} {S : Nat → Prop} {e : TypeId} {s n : Nat} {v : Value} {xs : List Value} {o : Obj}
theorem next_own0 (h : wo.ownsRow base e s v n xs) (hd : DrawAt wo b S) (hg : wo.grownBy w2 (some b)) (hne : e ≠ 83) : w2.ownsRow base e s v n xs :=
  h.kept hg (.inr (hd.own_ne h hne))
theorem next_own1 (h : wo.ownsRow base e s v n xs) (hd : DrawAt wo b S) (hg : (wo.alloc o).grownBy w2 (some b)) (hne : e ≠ 83) : w2.ownsRow base e s v n xs :=
  (h.alloc o).kept hg (.inr (hd.own_ne h hne))
theorem next_blk1 (hd : DrawAt wo b S) (hg : (wo.alloc o).grownBy w2 (some b)) : w2.heap[wo.heap.size]? = some o :=
  (hg.block wo.heap.size (by rw [World.size_alloc]; omega) (fun e => by injection e with e; have := hd.lt; omega)).trans (heap_alloc_new _ _)
theorem next_gr1 (h : w.grownBy wo (some b)) (hg : (wo.alloc o).grownBy w2 (some b)) : w.grownBy w2 (some b) := grown_trans (grown_trans h (World.grownBy_alloc _ _ _)) hg
theorem DrawAt.alloc1 (hd : DrawAt wo b S) (hS : ∀ c, S c → c < wo.heap.size) : DrawAt (wo.alloc o) b S := hd.below hS ((Below.refl _ _).alloc (Nat.le_refl _) _)
end

set_option maxHeartbeats 1000000 in
theorem hint_any (b : Nat) (S : Nat → Prop) (w : World) (hd : DrawAt w b S) (hS : ∀ c, S c → c < w.heap.size) :
    Calls Try.prog 27 #[.pointer (some ⟨b, 0, none⟩)] w fun e w' => ∃ a n c, e = .returned (.slice a n c) ∧ DrawAt w' b S ∧ w.grownBy w' (some b) := by
  go_enter Try.func27, Try.ntmps27
  go_wp2_with fail
  refine (next_any b S _ _ hd (by omega) (by omega)).mono ?_
  rintro e w1 ⟨v, rfl, hv0, hv1, hd1, hg1, hz1⟩
  replace hz1 := hide hz1
  go_wp2_with fail
  refine (next_any b S _ _ hd1 (by omega) (by omega)).mono ?_
  rintro e w2 ⟨u, rfl, hu0, hu1, hd2, hg2, hz2⟩
  replace hz2 := hide hz2
  have hS2 : ∀ c, S c → c < w2.heap.size := fun c hc => by have := hS c hc; have := unhide hz1; have := unhide hz2; omega
  go_wp2_with fail
  all_goals go_ret
  all_goals (refine ⟨_, _, _, rfl, ?_, ?_⟩)
  all_goals first
    | exact hd2
    | exact grown_trans hg1 hg2
    | exact hd2.below hS2 ((Below.refl _ _).alloc (Nat.le_refl _) _)
    | exact grown_trans (grown_trans hg1 hg2) (World.grownBy_alloc _ _ _)

set_option maxHeartbeats 2000000 in
theorem outline_any (b : Nat) (S : Nat → Prop) (k : Int) (w : World) (hd : DrawAt w b S) (hS : ∀ c, S c → c < w.heap.size) (hk0 : 0 ≤ k) (hk1 : k ≤ 8) :
    Calls Try.prog 26 #[.pointer (some ⟨b, 0, none⟩), .int .i64 k] w fun e w' => ∃ a n c l, e = .returned (.slice a n c) ∧ DrawAt w' b S ∧ w.grownBy w' (some b) ∧ n ≤ 2 ∧ Lst Enc.cnt w' (fun g => w.heap.size ≤ g ∧ g < w'.heap.size) a n l := by
  go_enter Try.func26, Try.ntmps26
  go_wp2_with fail
  refine (next_any b S _ _ hd (by omega) (by omega)).mono ?_
  rintro e w1 ⟨v1, rfl, hv0, hv1, hd1, hg1, hz1⟩
  replace hz1 := hide hz1
  go_wp2_with fail
  refine (next_any b S _ _ hd1 (by omega) (by omega)).mono ?_
  rintro e w2 ⟨v2, rfl, hu0, hu1, hd2, hg2, hz2⟩
  replace hz2 := hide hz2
  have hS2 : ∀ c, S c → c < w2.heap.size := fun c hc => by have := hS c hc; have := unhide hz1; have := unhide hz2; omega
  go_wp2_with fail
  refine (bar_any _ _ _ _ _).mono ?_
  rintro e w3 ⟨g1, rfl, hb3⟩
  have hd3 := hd2.below hS2 hb3
  have hS3 : ∀ c, S c → c < w3.heap.size := fun c hc => Nat.lt_of_lt_of_le (hS2 c hc) hb3.size
  have hg3 := grown_trans (grown_trans hg1 hg2) (grown_of_below hb3 _)
  clear hd hd1 hd2 hg1 hg2 hb3 hS2
  go_wp2_with fail
  refine (next_any b S _ _ hd3 (by omega) (by omega)).mono ?_
  rintro e w4 ⟨v4, rfl, hv40, hv41, hd4, hg4, hz4⟩
  replace hz4 := hide hz4
  go_wp2_with fail
  refine (next_any b S _ _ hd4 (by omega) (by omega)).mono ?_
  rintro e w5 ⟨v5, rfl, hv50, hv51, hd5, hg5, hz5⟩
  replace hz5 := hide hz5
  have hS5 : ∀ c, S c → c < w5.heap.size := fun c hc => by have := hS3 c hc; have := unhide hz4; have := unhide hz5; omega
  have hg5' := grown_trans (grown_trans hg3 hg4) hg5
  clear hd3 hd4 hg3 hg4 hg5
  have hle : w.heap.size ≤ w5.heap.size := hg5'.size
  go_wp2_with fail
  · go_ret
    refine ⟨_, _, _, [4, 3], rfl, hd5.below hS5 (((Below.refl _ _).alloc (Nat.le_refl _) _).alloc (by rw [World.size_alloc]; omega) _),
      grown_trans (grown_trans hg5' (World.grownBy_alloc _ _ _)) (World.grownBy_alloc _ _ _), by omega, cnt_lst (g := w5.heap.size + 1) (heap_new (by rw [World.size_alloc])) ⟨by omega, by rw [World.size_alloc, World.size_alloc]; omega⟩ _ ?_⟩
    intro i m hm
    match i, hm with
    | 0, hm => simp at hm; subst hm; exact ⟨_, _, rfl, by omega⟩
    | 1, hm => simp at hm; subst hm; exact ⟨_, _, rfl, by omega⟩
  · go_ret
    refine ⟨_, _, _, [4], rfl, hd5.below hS5 ((Below.refl _ _).alloc (Nat.le_refl _) _),
      grown_trans hg5' (World.grownBy_alloc _ _ _), by omega, cnt_lst (heap_alloc_new _ _) (by simp; omega) _ ?_⟩
    intro i m hm
    match i, hm with
    | 0, hm => simp at hm; subst hm; exact ⟨_, _, rfl, by omega⟩
  · refine (next_any b S _ _ hd5 (by omega) (by omega)).mono ?_
    rintro e w6 ⟨v6, rfl, hv60, hv61, hd6, hg6, hz6⟩
    replace hz6 := hide hz6
    have hS6 : ∀ c, S c → c < w6.heap.size := fun c hc => by have := hS5 c hc; have := unhide hz6; omega
    have hg6' := grown_trans hg5' hg6
    clear hd5 hg5' hg6
    go_wp2_with fail
    refine (bar_any _ _ _ _ _).mono ?_
    rintro e w7 ⟨g7, rfl, hb7⟩
    have hd7 := hd6.below hS6 hb7
    have hS7 : ∀ c, S c → c < w7.heap.size := fun c hc => Nat.lt_of_lt_of_le (hS6 c hc) hb7.size
    have hg7 := grown_trans hg6' (grown_of_below hb7 _)
    clear hd6 hg6' hb7
    have hle7 := hg7.size
    go_wp2_with fail
    go_ret
    refine ⟨_, _, _, [4, 4], rfl, hd7.below hS7 ((Below.refl _ _).alloc (Nat.le_refl _) _),
      grown_trans hg7 (World.grownBy_alloc _ _ _), by omega, cnt_lst (heap_alloc_new _ _) (by simp; omega) _ ?_⟩
    intro i m hm
    match i, hm with
    | 0, hm => simp at hm; subst hm; exact ⟨_, _, rfl, by omega⟩
    | 1, hm => simp at hm; subst hm; exact ⟨_, _, rfl, by omega⟩

theorem Lst.cnt_at {w : World} {S : Nat → Prop} {a : Option Addr} {len : Nat} {l : List Nat} (h : Lst Enc.cnt w S a len l) {k : Nat} (hk : k < len) :
    ∃ b off m a' cap', a = some ⟨b, off, none⟩ ∧ S b ∧ l[k]? = some m ∧ m ≤ 4 ∧ w.cell? ⟨b, off + k, none⟩ = some (.slice a' m cap') := by
  obtain ⟨h1, h2⟩ := h
  obtain ⟨b, off, rfl, hb, hc⟩ := h2 (by omega)
  have hx : l[k]? = some (l[k]'(by omega)) := List.getElem?_eq_getElem _
  obtain ⟨us, ⟨a', cap', rfl, h4⟩, hu⟩ := hc k _ hx
  have := hu 0 _ rfl
  simp [Enc.cnt] at this
  exact ⟨b, off, _, a', cap', rfl, hb, hx, h4, this⟩

set_option maxHeartbeats 1000000 in
theorem count_any (S : Nat → Prop) (a : Option Addr) (n c : Nat) (l : List Nat) (w : World) (hl : Lst Enc.cnt w S a n l) (hn : n ≤ 2) :
    Calls Try.prog 29 #[.slice a n c] w fun e w' => ∃ m : Nat, e = .returned (.int .i64 (m : Int)) ∧ m ≤ 8 ∧ w' = w := by
  go_enter Try.func29, Try.ntmps29
  go_wp2_with fail
  go_loop [3, 4] (fun s i => ∃ k m : Nat, k ≤ n ∧ m ≤ 4 * k ∧ i = .int .i64 k ∧ s = .int .i64 m) (fun _ i => n - (intOf i).toNat)
  case atStart => exact ⟨0, 0, Nat.zero_le _, by omega, rfl, rfl⟩
  case round =>
    obtain ⟨k, m, hk, hm, rfl, rfl⟩ := hrel
    by_cases hlt : k < n
    · obtain ⟨b, off, q, a', cap', rfl, hS, hx, hq, hcell⟩ := hl.cnt_at hlt
      replace hx := hide hx
      go_wp2
      go_round
      case rel => exact ⟨k + 1, m + q, by omega, by omega, by go_num, by go_num⟩
      case measure => simp [intOf]; omega
    · go_wp2
      go_ret
      exact ⟨m, rfl, by omega, rfl⟩
end Go.Proofs.Ytbbbldaccpfooaa
