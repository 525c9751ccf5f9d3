/- The law ExactDivides: Floor, Round and MulDiv return what the reference returns. It holds for every input. -/
import Derived.Test.YtfegkaflemcanaaEx12
import Derived.Test.YtfegkaflemcanaaWrap
import Derived.Test.YtfegkaflemcanaaEx4
namespace Go.Proofs.Ytfegkaflemcanaa
open Go.ChangeShapes Go.WideShapes Go.ChangeAt Go.RowKit

def rouS (a b : Int) : Option Int := if b < 1 then none else some (roundI a b)
theorem eround_any (a b : Int) (w : World) (ha : I64 a) (hb : I64 b) :
    Calls Try.prog 12 #[.int .i64 a, .int .i64 b] w fun e w' => e = .returned (.tuple #[.int .i64 (valI (rouS a b)), .bool (okI (rouS a b))]) ∧ Below w.heap.size w w' := by
  by_cases h : b < 1
  · have e : rouS a b = none := by unfold rouS; rw [if_pos h]
    rw [e]
    have t1 : decide (b < 1) = true := by simpa using h
    go_enter Try.func12, Try.ntmps12
    go_wp2
    go_ret2
    exact ⟨rfl, Below.refl _ _⟩
  · have e : rouS a b = some (roundI a b) := by unfold rouS; rw [if_neg h]
    rw [e]
    exact (eround_pos a b w ha (by omega) hb.2).mono fun _ _ ⟨x, y⟩ => ⟨x, y ▸ Below.refl _ _⟩
theorem rround_any (a b : Int) (w : World) (ha : I64 a) (hb : I64 b) :
    Calls Try.prog 13 #[.int .i64 a, .int .i64 b] w fun e w' => e = .returned (.tuple #[.int .i64 (valI (rouS a b)), .bool (okI (rouS a b))]) ∧ Below w.heap.size w w' := by
  by_cases h : b < 1
  · have e : rouS a b = none := by unfold rouS; rw [if_pos h]
    rw [e]
    have t1 : decide (b < 1) = true := by simpa using h
    go_enter Try.func13, Try.ntmps13
    go_wp2
    go_ret2
    exact ⟨rfl, Below.refl _ _⟩
  · have e : rouS a b = some (roundI a b) := by unfold rouS; rw [if_neg h]
    rw [e]
    exact rround_pos a b w ha (by omega) hb.2
theorem i64_wrap (n : Int) : I64 (wrap64 n) := by unfold I64 wrap64; constructor <;> omega
theorem tri_all {w : World} {g : Nat} {t : TypeId} {l : List Int} (hb : w.heap[g]? = some (.cells (l.map (Value.int .i64)).toArray t (0, 0))) (hl : ∀ x ∈ l, I64 x) (n : Nat) (hn : n * 3 + 3 ≤ l.length) :
    ∃ x y z : Int, I64 x ∧ I64 y ∧ I64 z ∧ w.cell? ⟨g, n * 3, none⟩ = some (.int .i64 x) ∧ w.cell? ⟨g, n * 3 + 1, none⟩ = some (.int .i64 y) ∧ w.cell? ⟨g, n * 3 + 2, none⟩ = some (.int .i64 z) := by
  have h : ∀ i (hi : i < l.length), w.cell? ⟨g, i, none⟩ = some (.int .i64 (l[i]'hi)) := by
    intro i hi
    rw [cell_of_row w g i _ t (0, 0) hb]
    simp [hi]
  exact ⟨l[n * 3], l[n * 3 + 1], l[n * 3 + 2], hl _ (List.getElem_mem _), hl _ (List.getElem_mem _), hl _ (List.getElem_mem _), h _ _, h _ _, h _ _⟩

theorem cells3b {w : World} {b T : Nat} {x y z : Value} (h : w.heap[b]? = some (.cells #[x, y, z] T (0, 0))) : w.cell? ⟨b, 0, none⟩ = some x ∧ w.cell? ⟨b, 1, none⟩ = some y ∧ w.cell? ⟨b, 2, none⟩ = some z := by
  refine ⟨?_, ?_, ?_⟩ <;> simp [World.cell?, h]

set_option maxRecDepth 100000 in
set_option maxHeartbeats 2000000 in
theorem divides_any (a b c : Int) (w : World) (ha : I64 a) (hb : I64 b) (hc : I64 c) :
    Calls Try.prog 3 #[.agg #[.int .i64 a, .int .i64 b, .int .i64 c]] w fun e w' => e = .returned (.bool true) ∧ Below w.heap.size w w' := by
  have k0 := hide (new1 w (Obj.cells #[.int .i64 a, .int .i64 b, .int .i64 c] 22))
  have hbel : Below w.heap.size w (w.alloc (Obj.cells #[.int .i64 a, .int .i64 b, .int .i64 c] 22)) := (Below.refl _ _).alloc (Nat.le_refl _) _
  obtain ⟨W0, hW0⟩ : ∃ W0, W0 = w.heap.size := ⟨_, rfl⟩
  go_enter Try.func3, Try.ntmps3
  go_wp2_with fail
  refine (sanity_any _).mono ?_
  rintro e w1 ⟨rfl, hb1⟩
  replace k0 := kept hb1 (by simp) (unhide k0)
  replace hbel := hbel.trans (hb1.mono hbel.size)
  clear hb1
  rw [← hW0] at k0 hbel ⊢
  have hle : W0 ≤ w.heap.size := by omega
  replace hW0 := hide hW0
  have c0 : w1.cell? ⟨W0, 0, none⟩ = some (.int .i64 a) := by simp [World.cell?, k0]
  have c1 : w1.cell? ⟨W0, 1, none⟩ = some (.int .i64 b) := by simp [World.cell?, k0]
  have c2 : w1.cell? ⟨W0, 2, none⟩ = some (.int .i64 c) := by simp [World.cell?, k0]
  clear k0
  go_wp2_with fail
  go_quiet (fail)
  clear c0 c1 c2
  replace hbel := hbel.trans ((below_drewN w1 nq).mono (Nat.le_trans hle hbel.size))
  have hz := hbel.size
  obtain ⟨w2, hw2⟩ : ∃ w2, w2 = w1.drewN nq := ⟨_, rfl⟩
  rw [← hw2] at hbel hz ⊢
  clear hw2 
  go_wp2_with fail
  obtain ⟨L, hL⟩ : ∃ L : List Int, L = [a, b, c, b, c, a, c, a, b, wrap64 (a * b), b, c, wrap64 (wrap64 (a * b) + 1), b, c, wrap64 (wrap64 (a * b) - 1), c, b, -9223372036854775808, a, b, 9223372036854775807, wrap64 (-b), a, a, b, b, a, b, 1, a, -9223372036854775808, 9223372036854775807] := ⟨_, rfl⟩
  have hlen : L.length = 33 := by rw [hL]; rfl
  have hall : ∀ x ∈ L, I64 x := by
    rw [hL]
    repeat (refine List.forall_mem_cons.2 ⟨by first | assumption | exact i64_wrap _ | (unfold I64; omega), ?_⟩)
    intro x hx
    cases hx
  have kS : (w2.alloc (Obj.cells #[.int .i64 a, .int .i64 b, .int .i64 c, .int .i64 b, .int .i64 c, .int .i64 a, .int .i64 c, .int .i64 a, .int .i64 b, .int .i64 (wrap64 (a * b)), .int .i64 b, .int .i64 c, .int .i64 (wrap64 (wrap64 (a * b) + 1)), .int .i64 b, .int .i64 c, .int .i64 (wrap64 (wrap64 (a * b) - 1)), .int .i64 c, .int .i64 b, .int .i64 (-9223372036854775808), .int .i64 a, .int .i64 b, .int .i64 9223372036854775807, .int .i64 (wrap64 (-b)), .int .i64 a, .int .i64 a, .int .i64 b, .int .i64 b, .int .i64 a, .int .i64 b, .int .i64 1, .int .i64 a, .int .i64 (-9223372036854775808), .int .i64 9223372036854775807] 22)).heap[w2.heap.size]? = some (.cells (L.map (Value.int .i64)).toArray 22 (0, 0)) := by rw [hL]; exact new1 w2 _
  replace hbel := hbel.alloc (Nat.le_trans hle hbel.size) (Obj.cells #[.int .i64 a, .int .i64 b, .int .i64 c, .int .i64 b, .int .i64 c, .int .i64 a, .int .i64 c, .int .i64 a, .int .i64 b, .int .i64 (wrap64 (a * b)), .int .i64 b, .int .i64 c, .int .i64 (wrap64 (wrap64 (a * b) + 1)), .int .i64 b, .int .i64 c, .int .i64 (wrap64 (wrap64 (a * b) - 1)), .int .i64 c, .int .i64 b, .int .i64 (-9223372036854775808), .int .i64 a, .int .i64 b, .int .i64 9223372036854775807, .int .i64 (wrap64 (-b)), .int .i64 a, .int .i64 a, .int .i64 b, .int .i64 b, .int .i64 a, .int .i64 b, .int .i64 1, .int .i64 a, .int .i64 (-9223372036854775808), .int .i64 9223372036854775807] 22)
  clear hL
  obtain ⟨bs, hbs⟩ : ∃ bs, bs = w2.heap.size := ⟨_, rfl⟩
  obtain ⟨wS, hwS⟩ : ∃ wS, wS = w2.alloc (Obj.cells #[.int .i64 a, .int .i64 b, .int .i64 c, .int .i64 b, .int .i64 c, .int .i64 a, .int .i64 c, .int .i64 a, .int .i64 b, .int .i64 (wrap64 (a * b)), .int .i64 b, .int .i64 c, .int .i64 (wrap64 (wrap64 (a * b) + 1)), .int .i64 b, .int .i64 c, .int .i64 (wrap64 (wrap64 (a * b) - 1)), .int .i64 c, .int .i64 b, .int .i64 (-9223372036854775808), .int .i64 a, .int .i64 b, .int .i64 9223372036854775807, .int .i64 (wrap64 (-b)), .int .i64 a, .int .i64 a, .int .i64 b, .int .i64 b, .int .i64 a, .int .i64 b, .int .i64 1, .int .i64 a, .int .i64 (-9223372036854775808), .int .i64 9223372036854775807] 22) := ⟨_, rfl⟩
  have hbW : W0 ≤ bs := by omega
  rw [← hwS, ← hbs] at kS
  rw [← hwS] at hbel ⊢
  rw [← hbs]
  clear hwS hbs hz
  replace hlen := hide hlen
  replace hall := hide hall
  go_loopw [78] (fun v wr => ∃ k : Nat, k ≤ 11 ∧ v = .int .i64 (k : Int) ∧ wr.heap[bs]? = some (.cells (L.map (Value.int .i64)).toArray 22 (0, 0)) ∧ Below W0 w wr) (fun v _ => (11 - intOf v).toNat)
  case atStart => exact ⟨0, by omega, rfl, kS, hbel⟩
  case round =>
    obtain ⟨k, hk, rfl, kb, hb⟩ := hrel
    clear kS hbel
    by_cases hlt : k < 11
    · obtain ⟨x, y, z, hx, hy, hz, c0, c1, c2⟩ := tri_all kb (unhide hall) k (by rw [unhide hlen]; omega)
      have kbz := (Array.getElem?_eq_some_iff.1 kb).1
      replace kb := hide kb
      have fl := fun w => efloor_any x y w hx hy
      have rfl' := fun w => rfloor_any x y w hx hy
      have er := fun w => eround_any x y w hx hy
      have rr := fun w => rround_any x y w hx hy
      have em := fun w => emd_any x y z w hx hy hz
      have rm := fun w => rmd_any x y z w hx hy hz
      generalize valI (Ex.floS x y) = p1 at *
      generalize okI (Ex.floS x y) = q1 at *
      generalize valI (rouS x y) = p2 at *
      generalize okI (rouS x y) = q2 at *
      generalize valI (Ex.mdS x y z) = p3 at *
      generalize okI (Ex.mdS x y z) = q3 at *
      replace fl := hide fl; replace rfl' := hide rfl'; replace er := hide er; replace rr := hide rr; replace em := hide em; replace rm := hide rm
      go_wp2_with fail
      have kv := new1 wr (Obj.cells #[.int .i64 x, .int .i64 y, .int .i64 z] 22)
      have hb0 := hb.alloc (Nat.le_trans hle hb.size) (Obj.cells #[.int .i64 x, .int .i64 y, .int .i64 z] 22)
      replace kb := old1 (o' := Obj.cells #[.int .i64 x, .int .i64 y, .int .i64 z] 22) (unhide kb)
      obtain ⟨bv, hbv⟩ : ∃ bv, bv = wr.heap.size := ⟨_, rfl⟩
      obtain ⟨wa, hwa⟩ : ∃ wa, wa = wr.alloc (Obj.cells #[.int .i64 x, .int .i64 y, .int .i64 z] 22) := ⟨_, rfl⟩
      rw [← hwa, ← hbv] at kv
      rw [← hwa] at hb0 kb ⊢
      rw [← hbv]
      clear hwa hbv c0 c1 c2 kbz
      refine (unhide fl _).mono ?_
      rintro e u0 ⟨rfl, h0⟩
      replace kv := kept h0 (Array.getElem?_eq_some_iff.1 kv).1 kv
      replace kb := kept h0 (Array.getElem?_eq_some_iff.1 kb).1 kb
      replace hb0 := hb0.trans (h0.mono (Nat.le_trans hle hb0.size))
      obtain ⟨g0, g1, g2⟩ := cells3b kv
      clear h0 fl
      replace kb := hide kb
      go_wp2_with fail
      replace kb := unhide kb
      clear g0 g1 g2
      refine (unhide rfl' _).mono ?_
      rintro e u1 ⟨rfl, h1⟩
      replace kv := kept h1 (Array.getElem?_eq_some_iff.1 kv).1 kv
      replace kb := kept h1 (Array.getElem?_eq_some_iff.1 kb).1 kb
      replace hb0 := hb0.trans (h1.mono (Nat.le_trans hle hb0.size))
      obtain ⟨g0, g1, g2⟩ := cells3b kv
      clear h1 rfl'
      replace kb := hide kb
      go_wp2_with fail
      replace kb := unhide kb
      clear g0 g1 g2
      refine (unhide er _).mono ?_
      rintro e u2 ⟨rfl, h2⟩
      replace kv := kept h2 (Array.getElem?_eq_some_iff.1 kv).1 kv
      replace kb := kept h2 (Array.getElem?_eq_some_iff.1 kb).1 kb
      replace hb0 := hb0.trans (h2.mono (Nat.le_trans hle hb0.size))
      obtain ⟨g0, g1, g2⟩ := cells3b kv
      clear h2 er
      replace kb := hide kb
      go_wp2_with fail
      replace kb := unhide kb
      clear g0 g1 g2
      refine (unhide rr _).mono ?_
      rintro e u3 ⟨rfl, h3⟩
      replace kv := kept h3 (Array.getElem?_eq_some_iff.1 kv).1 kv
      replace kb := kept h3 (Array.getElem?_eq_some_iff.1 kb).1 kb
      replace hb0 := hb0.trans (h3.mono (Nat.le_trans hle hb0.size))
      obtain ⟨g0, g1, g2⟩ := cells3b kv
      clear h3 rr
      replace kb := hide kb
      go_wp2_with fail
      replace kb := unhide kb
      clear g0 g1 g2
      refine (unhide em _).mono ?_
      rintro e u4 ⟨rfl, h4⟩
      replace kv := kept h4 (Array.getElem?_eq_some_iff.1 kv).1 kv
      replace kb := kept h4 (Array.getElem?_eq_some_iff.1 kb).1 kb
      replace hb0 := hb0.trans (h4.mono (Nat.le_trans hle hb0.size))
      obtain ⟨g0, g1, g2⟩ := cells3b kv
      clear h4 em
      replace kb := hide kb
      go_wp2_with fail
      replace kb := unhide kb
      clear g0 g1 g2
      refine (unhide rm _).mono ?_
      rintro e u5 ⟨rfl, h5⟩
      replace kv := kept h5 (Array.getElem?_eq_some_iff.1 kv).1 kv
      replace kb := kept h5 (Array.getElem?_eq_some_iff.1 kb).1 kb
      replace hb0 := hb0.trans (h5.mono (Nat.le_trans hle hb0.size))
      obtain ⟨g0, g1, g2⟩ := cells3b kv
      clear h5 rm
      replace kb := hide kb
      go_wp2_with fail
      replace kb := unhide kb
      clear g0 g1 g2
      go_roundw
      case rel => exact ⟨k + 1, by omega, by go_num, kb, hb0⟩
      case measure => simp [intOf]; omega
    · have t1 : decide ((k : Int) < 11) = false := by simp; omega
      go_wp2_with fail
      go_ret
      rw [hW0.out] at hb
      exact ⟨rfl, hb⟩
end Go.Proofs.Ytfegkaflemcanaa
