/- The made font's deltas. -/
import Derived.Test.YtbbbldaccpfooaaFont1
namespace Go.Proofs.Ytbbbldaccpfooaa
open Go.RowKit

theorem T.info91 : (Try.prog.info? 91).map (fun i => (i.zero, i.size, i.bytes)) = some (some (.agg #[.int .i64 0, .int .i64 0, .int .i64 0]), 3, 24) := by kernel_rfl
theorem T.info95 : (Try.prog.info? 95).map (fun i => (i.zero, i.size, i.bytes)) = some (some (.agg #[.int .i64 0, .int .i64 0]), 2, 16) := by kernel_rfl
theorem T.info97 : (Try.prog.info? 97).map (fun i => (i.zero, i.size, i.bytes)) = some (some (.agg #[.slice none 0 0, .slice none 0 0]), 2, 48) := by kernel_rfl

set_option maxRecDepth 100000 in
set_option maxHeartbeats 4000000 in
theorem deltas_any (b : Nat) (S : Nat → Prop) (p x : Nat) (w : World) (hd : DrawAt w b S) (hS : ∀ c, S c → c < w.heap.size) (hp : p ≤ 8) (hx : x ≤ 2) :
    Calls Try.prog 28 #[.pointer (some ⟨b, 0, none⟩), .int .i64 (p : Int), .int .i64 (x : Int)] w fun e w' => ∃ a n c, e = .returned (.slice a n c) ∧ DrawAt w' b S ∧ w.grownBy w' (some b) := by
  obtain ⟨i1, hi1, hiz1, his1, hiy1⟩ := info_parts T.info91
  obtain ⟨i2, hi2, hiz2, his2, hiy2⟩ := info_parts T.info95
  obtain ⟨i3, hi3, hiz3, his3, hiy3⟩ := info_parts T.info97
  go_enter Try.func28, Try.ntmps28
  go_wp2_with fail
  refine (next_nat b S 3 _ hd (by omega) (by omega)).mono ?_
  rintro e w1 ⟨m, rfl, hm, hd1, hg1, hz⟩
  replace hz := hide hz
  go_wp2_with fail
  go_loopw [7, 9, 10, 11, 12, 13] (fun v7 v9 _ _ _ _ wr => ∃ (k : Nat) (xs : List Value), k ≤ m ∧ v9 = .int .i64 (k : Int) ∧ wr.ownsRow w.heap.size 97 2 v7 k xs ∧ DrawAt wr b S ∧ w.grownBy wr (some b))
    (fun _ v9 _ _ _ _ _ => m - (intOf v9).toNat)
  case atStart => exact ⟨0, [], Nat.zero_le _, rfl, World.ownsRow_nil _ _ _ _, hd1, hg1⟩
  case round =>
    obtain ⟨k, xs, hk, rfl, hown, hdr, hgr⟩ := hrel
    by_cases hlt : k < m
    · by_cases hx0 : 0 < x
      · obtain ⟨wo, rfl⟩ : ∃ wo : World, wo = wr := ⟨_, rfl⟩
        have hso : w.heap.size ≤ wo.heap.size := hgr.size
        have hSo : ∀ c, S c → c < wo.heap.size := fun c hc => Nat.lt_of_lt_of_le (hS c hc) hso
        have hbo := hdr.lt
        go_wp2_with fail
        refine (next_nat b S 4 _ (hdr.alloc1 hSo) (by omega) (by omega)).mono ?_
        rintro e w2 ⟨v, rfl, hv, hd2, hg2, hz2⟩
        obtain ⟨cx, cy, cz, hcx, hcy, hcz⟩ := tri_at (l := [0, 64, 64, -64, -64, 0, 0, 32, 64, -64, -32, 0]) (next_blk1 hdr hg2) v (by simp; omega)
        have hown2 := next_own1 hown hdr hg2 (by decide)
        have hgr2 := next_gr1 hgr hg2
        clear hg2 hdr hown hgr
        replace hz2 := hide hz2
        have hs2' : w.heap.size ≤ w2.heap.size := hgr2.size
        have hS2 : ∀ c, S c → c < w2.heap.size := fun c hc => Nat.lt_of_lt_of_le (hS c hc) hs2'
        go_wp2_with fail
        go_loopw [10, 11] (fun v10 v11 wr => ∃ (j n : Nat) (ys : List Value), 1 ≤ j ∧ j ≤ x ∧ n ≤ j ∧ v11 = .int .i64 (j : Int) ∧ wr.ownsRow w.heap.size 91 3 v10 n ys ∧ wr.ownsRow w.heap.size 97 2 u7 k xs ∧ DrawAt wr b S ∧ w.grownBy wr (some b))
          (fun _ v11 _ => x - (intOf v11).toNat)
        case atStart =>
          exact ⟨1, 1, _, by omega, by omega, by omega, rfl, own_lit (heap_alloc_new _ _) hs2' (by decide) rfl, hown2.alloc _, hd2.alloc1 hS2, grown_trans hgr2 (World.grownBy_alloc _ _ _)⟩
        case round =>
          obtain ⟨j, n, ys, hj1, hj2, hn, rfl, hown3, hown, hdr, hgr⟩ := hrel
          clear hown2 hd2 hgr2 hcx hcy hcz hS2 hs2' hso hSo hbo
          obtain ⟨wp, rfl⟩ : ∃ wp : World, wp = wr := ⟨_, rfl⟩
          have hsp : w.heap.size ≤ wp.heap.size := hgr.size
          have hSp : ∀ c, S c → c < wp.heap.size := fun c hc => Nat.lt_of_lt_of_le (hS c hc) hsp
          by_cases hjx : j < x
          · go_wp2_with fail
            refine (next_nat b S 2 _ (hdr.alloc1 hSp) (by omega) (by omega)).mono ?_
            rintro e w3 ⟨v2, rfl, hv2, hd3, hg3, hz3⟩
            obtain ⟨dx, dy, dz, hdx, hdy, hdz⟩ := tri_at (l := [0, 0, 0, 0, 64, 64]) (next_blk1 hdr hg3) v2 (by simp; omega)
            have hown4 := next_own1 hown hdr hg3 (by decide)
            have hown5 := next_own1 hown3 hdr hg3 (by decide)
            have hgr3 := next_gr1 hgr hg3
            clear hg3 hdr hown hgr hown3
            replace hz3 := hide hz3
            have hs3' : w.heap.size ≤ w3.heap.size := hgr3.size
            have hS3 : ∀ c, S c → c < w3.heap.size := fun c hc => Nat.lt_of_lt_of_le (hS c hc) hs3'
            go_wp2_with (at_builtin; refine wpList_append_own _ rfl _ _ 92 rfl w.heap.size 91 i1 _ 3 24 Try.underlying92 hi1 hiz1 his1 hiy1 rfl (by decide) _ _ _ rfl (hown5.alloc _) ⟨w3.heap.size, 0, none⟩ 1 1 [.int .i64 dx, .int .i64 dy, .int .i64 dz] rfl rfl (alloc_cells rfl) (by simp [Value.oneCell']) (by unfold maxLen; omega) (by omega) (by simp; omega) ?_; intro v10' w4 hown6 hg4 _)
            have hrow : ∀ g, u10.ownBlock = some g → w.heap.size ≤ g := fun g hg => (hown5.lt g hg).1
            have hd4 := (hd3.alloc1 (o := .cells #[.int .i64 dx, .int .i64 dy, .int .i64 dz] 91) hS3).grown hg4 (hd3.own_ne hown5 (by decide)) (B := w.heap.size) hS (by simp; omega) hrow
            have hown7 := (hown4.alloc (.cells #[.int .i64 dx, .int .i64 dy, .int .i64 dz] 91)).kept hg4 (own_ne hown4 hown5 (by decide))
            have hgr4 := grown_own (grown_trans hgr3 (World.grownBy_alloc _ _ _)) hg4 hrow
            clear hg4 hown4 hown5 hd3 hgr3 hdx hdy hdz
            go_roundw
            case rel => exact ⟨j + 1, n + 1, _, by omega, by omega, by omega, by go_num, hown6, hown7, hd4, hgr4⟩
            case measure => simp [intOf]; omega
          · obtain ⟨a10, c10, rfl⟩ := own_shape hown3
            clear hown3
            go_wp2_with fail
            go_loopw [12, 13] (fun v12 v13 wr => ∃ (i : Nat) (ys : List Value), i ≤ p ∧ v13 = .int .i64 (i : Int) ∧ wr.ownsRow w.heap.size 95 2 v12 i ys ∧ wr.ownsRow w.heap.size 97 2 u7 k xs ∧ DrawAt wr b S ∧ w.grownBy wr (some b))
              (fun _ v13 _ => p - (intOf v13).toNat)
            case atStart => exact ⟨0, [], by omega, rfl, World.ownsRow_nil _ _ _ _, hown, hdr, hgr⟩
            case round =>
              clear hown hdr hgr hsp hSp
              obtain ⟨i, zs, hi, rfl, hown3, hown, hdr, hgr⟩ := hrel
              obtain ⟨wp, rfl⟩ : ∃ wp : World, wp = wr := ⟨_, rfl⟩
              have hsp : w.heap.size ≤ wp.heap.size := hgr.size
              have hSp : ∀ c, S c → c < wp.heap.size := fun c hc => Nat.lt_of_lt_of_le (hS c hc) hsp
              by_cases hip : i < p
              · go_wp2_with fail
                refine (next_nat b S 7 _ hdr (by omega) (by omega)).mono ?_
                rintro e w3 ⟨v2, rfl, hv2, hd3, hg3, hz3⟩
                have hown4 := next_own0 hown hdr hg3 (by decide)
                have hown5 := next_own0 hown3 hdr hg3 (by decide)
                have hgr3 := grown_trans hgr hg3
                clear hg3 hdr hown hgr hown3
                replace hz3 := hide hz3
                go_wp2_with fail
                refine (next_nat b S 7 _ hd3 (by omega) (by omega)).mono ?_
                rintro e w4 ⟨v3, rfl, hv3, hd4, hg4, hz4⟩
                have hown6 := next_own0 hown4 hd3 hg4 (by decide)
                have hown7 := next_own0 hown5 hd3 hg4 (by decide)
                have hgr4 := grown_trans hgr3 hg4
                clear hg4 hd3 hown4 hgr3 hown5
                replace hz4 := hide hz4
                have hs4 : w.heap.size ≤ w4.heap.size := hgr4.size
                have hS4 : ∀ c, S c → c < w4.heap.size := fun c hc => Nat.lt_of_lt_of_le (hS c hc) hs4
                go_wp2_with (at_builtin; refine wpList_append_own _ rfl _ _ 93 rfl w.heap.size 95 i2 _ 2 16 Try.underlying93 hi2 hiz2 his2 hiy2 rfl (by decide) _ _ _ rfl (hown7.alloc _) ⟨w4.heap.size, 0, none⟩ 1 1 [.int .i64 (4 * ((v2 : Int) - 3)), .int .i64 (4 * ((v3 : Int) - 3))] rfl rfl (alloc_cells rfl) (by simp [Value.oneCell']) (by unfold maxLen; omega) (by omega) (by simp; omega) ?_; intro v12' w5 hown8 hg5 _)
                have hrow : ∀ g, u12.ownBlock = some g → w.heap.size ≤ g := fun g hg => (hown7.lt g hg).1
                have hd5 := (hd4.alloc1 (o := .cells #[.int .i64 (4 * ((v2 : Int) - 3)), .int .i64 (4 * ((v3 : Int) - 3))] 95) hS4).grown hg5 (hd4.own_ne hown7 (by decide)) (B := w.heap.size) hS (by simp; omega) hrow
                have hown9 := (hown6.alloc (.cells #[.int .i64 (4 * ((v2 : Int) - 3)), .int .i64 (4 * ((v3 : Int) - 3))] 95)).kept hg5 (own_ne hown6 hown7 (by decide))
                have hgr5 := grown_own (grown_trans hgr4 (World.grownBy_alloc _ _ _)) hg5 hrow
                clear hg5 hown6 hown7 hd4 hgr4
                go_roundw
                case rel => exact ⟨i + 1, _, by omega, by go_num, hown8, hown9, hd5, hgr5⟩
                case measure => simp [intOf]; omega
              · obtain ⟨a12, c12, rfl⟩ := own_shape hown3
                clear hown3
                go_wp2_with (at_builtin; refine wpList_append_own _ rfl _ _ 60 rfl w.heap.size 97 i3 _ 2 48 Try.underlying60 hi3 hiz3 his3 hiy3 rfl (by decide) _ _ _ rfl (hown.alloc _) ⟨wp.heap.size, 0, none⟩ 1 1 [.slice a10 n c10, .slice a12 i c12] rfl rfl (alloc_cells rfl) (by simp [Value.oneCell']) (by unfold maxLen; omega) (by omega) (by simp; omega) ?_; intro v7' w5 hown8 hg5 _)
                have hrow : ∀ g, u7.ownBlock = some g → w.heap.size ≤ g := fun g hg => (hown.lt g hg).1
                have hd5 := (hdr.alloc1 (o := .cells #[.slice a10 n c10, .slice a12 i c12] 97) hSp).grown hg5 (hdr.own_ne hown (by decide)) (B := w.heap.size) hS (by simp; omega) hrow
                have hgr5 := grown_own (grown_trans hgr (World.grownBy_alloc _ _ _)) hg5 hrow
                clear hg5 hown hdr hgr
                go_roundw
                case rel => exact ⟨k + 1, _, by omega, by go_num, hown8, hd5, hgr5⟩
                case measure => simp [intOf]; omega
      · obtain ⟨a7, c7, rfl⟩ := own_shape hown
        go_wp2_with fail
        go_ret
        exact ⟨_, _, _, rfl, hdr, hgr⟩
    · obtain ⟨a7, c7, rfl⟩ := own_shape hown
      go_wp2_with fail
      go_ret
      exact ⟨_, _, _, rfl, hdr, hgr⟩
end Go.Proofs.Ytbbbldaccpfooaa
