/- kern.pairs. -/
import Derived.Test.YtbbbldaccpfooaaKern3
import Derived.Test.YtbbbldaccpfooaaSt
namespace Go.Proofs.Ytbbbldaccpfooaa
open Go.RowKit Go.Maps
theorem zero3 (w : World) : (zeroValue 3).run Try.prog w = .ok (.int .i64 0) w := by kernel_rfl
theorem run_makeMap_hint (n : Int) (w : World) : (Instr.makeMap 54 (some (.int .i64 n))).run Try.prog w = .ok (.map (some w.heap.size)) (w.alloc (.map #[] 0)) := by
  simp [Instr.makeMap, run_underlying Try.underlying54, asInt, asIntOf, Result.andThen]
theorem made_at {H : Type} {B : Nat} (w : World) (o : Obj) (P : Program) (k : TypeId) (R : Value → Option (DataW H × List MemPlace)) (h : (w.alloc o).heap.size = B) : ((w.alloc o).alloc (.map #[] 0)).ownsMap P k R B 0 (.map []) := h ▸ World.ownsMap_made _ _ _ _
theorem MapIs.nil {H : Type} : MapIs (H := H) (.map []) [] := ⟨⟨[], rfl⟩, fun _ _ _ _ => rfl, fun _ _ _ _ => rfl⟩
set_option maxHeartbeats 1000000 in
set_option maxRecDepth 100000 in
theorem pairs_any (c0 c1 c2 c3 c4 c5 : Value) (ka : Option Addr) (kn kc : Nat) (ks : List (Int × Int × Int)) (S : Nat → Prop) (w : World)
    (hl : Lst Enc.kern w S ka kn ks) (hS : ∀ c, S c → c < w.heap.size) (hn : kn ≤ 1000) :
    Calls Try.prog 20 #[.agg #[c0, c1, c2, c3, c4, c5, .slice ka kn kc]] w fun e w' =>
      ∃ (B : Nat) (D : DataW Unit), e = .returned (.map (some B)) ∧ w.heap.size ≤ B ∧ w'.ownsMap Try.prog 57 (plainElem Try.prog 3) B kn D ∧ MapIs D ks ∧ Below w.heap.size w w' := by
  have hmm := run_makeMap_hint
  have hlen := hl.1
  go_enter Try.func20, Try.ntmps20
  go_wp2_with fail
  go_loopw [16] (fun i wr => ∃ (k : Nat) (D : DataW Unit), k ≤ kn ∧ i = .int .i64 k ∧ wr.ownsMap Try.prog 57 (plainElem Try.prog 3) (w.heap.size + 1) k D ∧ MapIs D (ks.take k) ∧ Below w.heap.size w wr) (fun i _ => kn - (intOf i).toNat)
  case atStart =>
    refine ⟨0, .map [], Nat.zero_le _, rfl, ?_, ?_, ?_⟩
    · exact made_at _ _ _ _ _ (by simp)
    · exact MapIs.nil
    · exact ((Below.refl _ _).alloc (Nat.le_refl _) _).alloc (by simp) _
  case round =>
    obtain ⟨k, D, hk, rfl, hown, hD, hnx⟩ := hrel
    by_cases hlt : k < kn
    · obtain ⟨b, off, p, q, z, rfl, hSb, hx, hp, hq, hz, e0, e1, e2⟩ := hl.kern_at hlt
      have hb := hS b hSb
      replace e0 := (hnx.cell (p := ⟨b, off + k * 3, none⟩) hb).trans e0
      replace e1 := (hnx.cell (p := ⟨b, off + k * 3 + 1, none⟩) hb).trans e1
      replace e2 := (hnx.cell (p := ⟨b, off + k * 3 + 2, none⟩) hb).trans e2
      have hkey := keyOf_pair hp hq
      have htk : ks.take (k + 1) = ks.take k ++ [(p, q, z)] := by rw [List.take_add_one, hx]; rfl
      replace hx := hide hx
      replace htk := hide htk
      by_cases hh : hasPair (ks.take k) p q = true
      · have hhas : Maps.has D (kl p q) = true := (hD.has p q hp hq).trans hh
        go_wp2_with (first
          | (at_lookup; refine wpList_lookup_own_ok_int _ rfl _ _ 54 rfl 57 3 .i64 law57 Try.underlying54 Try.underlying3 (zero3 _) (w.heap.size + 1) k _ rfl ((hown.alloc _).alloc _) _ _ rfl hkey ?_; intro c hat hwc)
          | go_in)
        have hb1 : Below w.heap.size w ((wr.alloc (.cells #[.int .i64 p, .int .i64 q, .int .i64 z] 53)).alloc (.cells #[.int .i64 p, .int .i64 q] 57)) := (hnx.alloc hnx.size _).alloc (Nat.le_trans hnx.size (by simp)) _
        have hm1 := hD.skip (p, q, z) hh
        rw [← unhide htk] at hm1
        go_roundw
        case rel => exact ⟨k + 1, D, by omega, by go_num, ((hown.mono (Nat.le_succ _)).alloc _).alloc _, hm1, hb1⟩
        case measure => simp [intOf]; omega
      · have hhas : Maps.has D (kl p q) = false := (hD.has p q hp hq).trans (by simpa using hh)
        have hm1 := hD.put (p, q, z) hp hq (by simpa using hh)
        rw [← unhide htk] at hm1
        have hb1 : Below w.heap.size w ((wr.alloc (.cells #[.int .i64 p, .int .i64 q, .int .i64 z] 53)).alloc (.cells #[.int .i64 p, .int .i64 q] 57)) := (hnx.alloc hnx.size _).alloc (Nat.le_trans hnx.size (by simp)) _
        go_wp2_with (first
          | (at_lookup; refine wpList_lookup_own_ok_int _ rfl _ _ 54 rfl 57 3 .i64 law57 Try.underlying54 Try.underlying3 (zero3 _) (w.heap.size + 1) k _ rfl ((hown.alloc _).alloc _) _ _ rfl hkey ?_; intro c hat hwc)
          | (at_mapUpdate; refine wpList_mapUpdate_own _ rfl _ _ _ 54 rfl 57 3 law57 Try.underlying54 _ (w.heap.size + 1) k _ rfl ((hown.alloc _).alloc _) (by unfold maxLen; omega) _ _ _ rfl rfl hkey _ [] (plainElem_int Try.underlying3 (wf_of hz)) ?_; intro w1 hown1 hgrow1)
          | go_in)
        have hb2 := hb1.grown hgrow1 hb1.size (fun j hj => by cases hj; exact Nat.le_succ _)
        go_roundw
        case rel => exact ⟨k + 1, _, by omega, by go_num, hown1, hm1, hb2⟩
        case measure => simp [intOf]; omega
    · have : k = kn := by omega
      subst this
      rw [List.take_of_length_le (by omega)] at hD
      go_wp2_with fail
      go_ret
      exact ⟨_, D, rfl, Nat.le_succ _, hown, hD, hnx⟩
theorem lit_i64 {H : Type} {a b : Int} (h : (DataW.lit (.int .i64 a) : DataW H) = .lit (.int .i64 b)) : b = a := by
  injection h with h
  injection h with _ h
  exact h.symm
set_option maxHeartbeats 1000000 in
set_option maxRecDepth 100000 in
theorem kby_any (c0 c1 c2 c3 c4 c5 : Value) (ka : Option Addr) (kn kc : Nat) (ks : List (Int × Int × Int)) (S : Nat → Prop) (x y : Int) (w : World)
    (hl : Lst Enc.kern w S ka kn ks) (hS : ∀ c, S c → c < w.heap.size) (hn : kn ≤ 1000) (hx : I64 x) (hy : I64 y) :
    Calls Try.prog 10 #[.agg #[c0, c1, c2, c3, c4, c5, .slice ka kn kc], .int .i64 x, .int .i64 y] w fun e w' => e = .returned (.int .i64 (findBy ks x y)) ∧ Below w.heap.size w w' := by
  have hkey := keyOf_pair hx hy
  have hb0 : Below w.heap.size w (w.alloc (.cells #[c0, c1, c2, c3, c4, c5, .slice ka kn kc] 33)) := (Below.refl _ _).alloc (Nat.le_refl _) _
  have hl' := (hl.wide hS).under hb0
  go_enter Try.func10, Try.ntmps10
  go_wp2_with fail
  refine (pairs_any c0 c1 c2 c3 c4 c5 ka kn kc ks _ _ hl' (fun _ h => h) hn).mono ?_
  rintro e w1 ⟨B, D, rfl, hB, hown, hD, hb1⟩
  have hat0 := hD.at_ x y hx hy
  have hbb := hb0.trans (hb1.mono (by simp))
  clear hl' hb0 hb1 hB
  go_wp2_with (first
    | (at_lookup; refine wpList_lookup_own_int _ rfl _ _ 54 rfl 57 3 .i64 law57 Try.underlying54 Try.underlying3 (zero3 _) B kn _ rfl hown _ _ rfl hkey ?_; intro c hat hwc; rw [hat0] at hat; have hc := lit_i64 hat; rw [hc])
    | go_in)
  go_ret
  exact ⟨rfl, hbb⟩
end Go.Proofs.Ytbbbldaccpfooaa
