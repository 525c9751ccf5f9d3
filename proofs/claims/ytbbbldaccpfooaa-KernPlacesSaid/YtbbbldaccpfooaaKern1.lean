/- The reference's kerning of a pair; small functions on fonts and lists. -/
import Derived.Test.YtbbbldaccpfooaaFont1
namespace Go.Proofs.Ytbbbldaccpfooaa
open Go.RowKit

/-- The kerning of a pair. -/
def findBy : List (Int × Int × Int) → Int → Int → Int
  | [], _, _ => 0
  | k :: ks, a, b => if k.1 = a ∧ k.2.1 = b then k.2.2 else findBy ks a b

def Enc.kern : Enc (Int × Int × Int) := Enc.pair Enc.int (Enc.pair Enc.int Enc.int)

theorem Lst.kern_at {w : World} {S : Nat → Prop} {a : Option Addr} {len : Nat} {l : List (Int × Int × Int)} (h : Lst Enc.kern w S a len l) {k : Nat} (hk : k < len) :
    ∃ b off x y z, a = some ⟨b, off, none⟩ ∧ S b ∧ l[k]? = some (x, y, z) ∧ I64 x ∧ I64 y ∧ I64 z ∧ w.cell? ⟨b, off + k * 3, none⟩ = some (.int .i64 x) ∧ w.cell? ⟨b, off + k * 3 + 1, none⟩ = some (.int .i64 y) ∧ w.cell? ⟨b, off + k * 3 + 2, none⟩ = some (.int .i64 z) := by
  obtain ⟨h1, h2⟩ := h
  obtain ⟨b, off, rfl, hb, hc⟩ := h2 (by omega)
  have hx : l[k]? = some (l[k]'(by omega)) := List.getElem?_eq_getElem _
  obtain ⟨us, ⟨c, d, rfl, ⟨rfl, h3⟩, ⟨c', d', rfl, ⟨rfl, h4⟩, ⟨rfl, h5⟩⟩⟩, hu⟩ := hc k _ hx
  have e0 := hu 0 _ rfl
  have e1 := hu 1 _ rfl
  have e2 := hu 2 _ rfl
  simp [Enc.kern, Enc.pair, Enc.num] at e0 e1 e2
  exact ⟨b, off, _, _, _, rfl, hb, hx, h3, h4, h5, e0, e1, e2⟩

theorem drop_find {ks : List (Int × Int × Int)} {k : Nat} {x : Int × Int × Int} (h : ks[k]? = some x) : ks.drop k = x :: ks.drop (k + 1) := by
  obtain ⟨hk, rfl⟩ := List.getElem?_eq_some_iff.1 h
  exact List.drop_eq_getElem_cons hk

set_option maxHeartbeats 1000000 in
theorem rby_any (c0 c1 c2 c3 c4 c5 : Value) (ka : Option Addr) (kn kc : Nat) (ks : List (Int × Int × Int)) (S : Nat → Prop) (x y : Int) (w : World)
    (hl : Lst Enc.kern w S ka kn ks) (hS : ∀ c, S c → c < w.heap.size) (hn : kn ≤ maxLen) :
    Calls Try.prog 11 #[.agg #[c0, c1, c2, c3, c4, c5, .slice ka kn kc], .int .i64 x, .int .i64 y] w fun e w' => e = .returned (.int .i64 (findBy ks x y)) ∧ Below w.heap.size w w' := by
  unfold maxLen at hn
  go_enter Try.func11, Try.ntmps11
  go_wp2_with fail
  go_loop [7] (fun i => ∃ k : Nat, k ≤ kn ∧ i = .int .i64 k ∧ findBy (ks.drop k) x y = findBy ks x y) (fun i => kn - (intOf i).toNat)
  case atStart => exact ⟨0, Nat.zero_le _, rfl, by simp⟩
  case round =>
    obtain ⟨k, hk, rfl, hf⟩ := hrel
    replace hf := hide hf
    by_cases hlt : k < kn
    · obtain ⟨b, off, p, q, z, rfl, hSb, hx, hp, hq, hz, e0, e1, e2⟩ := hl.kern_at hlt
      have hb := hS b hSb
      have hd := drop_find hx
      replace hd := hide hd; replace hx := hide hx
      by_cases h1 : p = x
      · subst h1
        by_cases h2 : q = y
        · subst h2
          go_wp2
          go_ret
          refine ⟨ret1 (int_eq ?_), (Below.refl _ _).alloc (Nat.le_refl _) _⟩
          rw [← unhide hf, unhide hd]; simp [findBy]
        · have h2' : (q == y) = false := by simpa using h2
          go_wp2
          go_round
          case rel => exact ⟨k + 1, by omega, by go_num, by rw [← unhide hf, unhide hd]; simp [findBy, h2]⟩
          case measure => simp [intOf]; omega
      · have h1' : (p == x) = false := by simpa using h1
        go_wp2
        go_round
        case rel => exact ⟨k + 1, by omega, by go_num, by rw [← unhide hf, unhide hd]; simp [findBy, h1]⟩
        case measure => simp [intOf]; omega
    · have hlen := hl.1
      go_wp2
      go_ret
      refine ⟨ret1 (int_eq ?_), (Below.refl _ _).alloc (Nat.le_refl _) _⟩
      rw [← unhide hf, List.drop_eq_nil_of_le (by omega)]; rfl

theorem take_eq_succ {xs ys : List Int} {k : Nat} {x y : Int} (hx : xs[k]? = some x) (hy : ys[k]? = some y) (h : xs.take k = ys.take k) : (xs.take (k + 1) = ys.take (k + 1)) ↔ x = y := by
  rw [List.take_add_one, List.take_add_one, h, hx, hy]
  simp

theorem quiet_left {P : Program} {f : FuncId} {args : Array Value} {w : World} {n : Nat} {v : Value}
    (h : Calls P f args (w.drewN n) fun e w' => e = .returned v ∧ w.drewN n = w') : Calls P f args (w.drewN n) fun e w'' => e = .returned v ∧ ∃ m, w'' = w.drewN m :=
  h.mono fun _ _ ⟨he, hm⟩ => ⟨he, n, hm.symm⟩

set_option maxHeartbeats 1000000 in
theorem sameInts_any (a b : Option Addr) (n m ca cb : Nat) (xs ys : List Int) (S T : Nat → Prop) (w : World) (hx : Lst Enc.int w S a n xs) (hy : Lst Enc.int w T b m ys) (hn : n ≤ maxLen) (hm : m ≤ maxLen) :
    Calls Try.prog 15 #[.slice a n ca, .slice b m cb] w fun e w' => e = .returned (.bool (decide (xs = ys))) ∧ ∃ k, w' = w.drewN k := by
  unfold maxLen at hn hm
  have lx := hx.1
  have ly := hy.1
  by_cases hnm : n = m
  · subst hnm
    have hne : ((n : Int) != n) = false := by simp
    go_enter Try.func15, Try.ntmps15
    go_wp2_with fail
    go_loopw [5] (fun i wr => ∃ k j : Nat, k ≤ n ∧ i = .int .i64 k ∧ wr = w.drewN j ∧ xs.take k = ys.take k) (fun i _ => n - (intOf i).toNat)
    case atStart => exact ⟨0, 0, Nat.zero_le _, rfl, rfl, by simp⟩
    case round =>
      obtain ⟨k, j, hk, rfl, rfl, ht⟩ := hrel
      replace ht := hide ht
      by_cases hlt : k < n
      · obtain ⟨b1, off1, x, rfl, hS1, hx1, hxb, hz1⟩ := hx.int_at hlt
        obtain ⟨b2, off2, y, rfl, hS2, hx2, hyb, hz2⟩ := hy.int_at hlt
        have hte := take_eq_succ hx1 hx2 (unhide ht)
        replace hx1 := hide hx1; replace hx2 := hide hx2; replace hte := hide hte
        by_cases hxy : x = y
        · subst hxy
          go_wp2_with fail
          go_quiet (fail)
          go_wp2_with fail
          go_roundw
          case rel => exact ⟨k + 1, _, by omega, by go_num, rfl, (unhide hte).2 trivial⟩
          case measure => simp [intOf]; omega
        · have hxy' : (x != y) = true := by simpa using hxy
          go_wp2_with fail
          go_quiet (fail)
          go_wp2_with fail
          go_ret
          refine ⟨ret1 (bool_eq ?_), ⟨j + nq, by rw [World.drewN_drewN]⟩⟩
          have : ¬ xs = ys := fun e => hxy ((unhide hte).1 (by rw [e]))
          simp [this]
      · go_wp2_with fail
        go_ret
        refine ⟨ret1 (bool_eq ?_), ⟨_, rfl⟩⟩
        have h := unhide ht
        rw [List.take_of_length_le (by omega), List.take_of_length_le (by omega)] at h
        simp [h]
  · have hne : ((n : Int) != m) = true := by simp; omega
    have hd : decide (xs = ys) = false := by
      have : ¬ xs = ys := fun e => hnm (by rw [← lx, ← ly, e])
      simpa using this
    go_enter Try.func15, Try.ntmps15
    go_wp2_with fail
    go_ret
    exact ⟨by simp [hd], 0, rfl⟩

theorem rdots_any (p : Int) (w : World) (hp : I64 p) : Calls Try.prog 22 #[.int .i64 p] w fun e w' => e = .returned (.int .i64 (roundI p 64)) ∧ Below w.heap.size w w' := by
  go_enter Try.func22, Try.ntmps22
  go_wp2_with fail
  refine (rround_pos p 64 _ hp (by omega) (by omega)).mono ?_
  rintro e w1 ⟨rfl, hb⟩
  go_wp2_with fail
  go_ret
  exact ⟨rfl, hb⟩

theorem kdots_any (p : Int) (w : World) (hp : I64 p) : Calls Try.prog 21 #[.int .i64 p] w fun e w' => e = .returned (.int .i64 (roundI p 64)) ∧ w = w' := by
  go_enter Try.func21, Try.ntmps21
  go_wp2_with fail
  refine (eround_pos p 64 _ hp (by omega) (by omega)).mono ?_
  rintro e w1 ⟨rfl, rfl⟩
  go_wp2_with fail
  go_ret
  exact ⟨rfl, rfl⟩
end Go.Proofs.Ytbbbldaccpfooaa
