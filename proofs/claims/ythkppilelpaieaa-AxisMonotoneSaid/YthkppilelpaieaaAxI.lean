/- The walk of AxisInverse. -/
import Derived.Test.YthkppilelpaieaaAxIP
namespace Go.Proofs.Ythkppilelpaieaa
open Go.RowKit
theorem axO_lst {W : World} {b : Nat} {s : ByteArray} {lo us hi : Int} (h : W.heap[b]? = some (.cells #[.string s, .int .i64 lo, .int .i64 us, .int .i64 hi] 29 (0, 0))) (hs : s.size ≤ maxLen) (hv : AxV (s, lo, us, hi)) : Lst Enc.axis W (· < W.heap.size) (some ⟨b, 0, none⟩) 1 [(s, lo, us, hi)] := by
  have hv2 : -1000 ≤ lo ∧ lo ≤ us ∧ us ≤ hi ∧ hi ≤ 1000 := hv.2
  have i1 : I64 lo := ⟨by omega, by omega⟩
  have i2 : I64 us := ⟨by omega, by omega⟩
  have i3 : I64 hi := ⟨by omega, by omega⟩
  exact lst_flat (cs := [.string s, .int .i64 lo, .int .i64 us, .int .i64 hi]) h (Flat.single (x := (s, lo, us, hi)) ⟨[.string s], _, rfl, ⟨rfl, hs⟩, [.int .i64 lo], _, rfl, ⟨rfl, i1.1, i1.2⟩, [.int .i64 us], _, rfl, ⟨rfl, i2.1, i2.2⟩, rfl, i3.1, i3.2⟩) (Array.getElem?_eq_some_iff.1 h).1
theorem normal_one {s : ByteArray} {lo us hi p N : Int} (hs : s.size ≤ maxLen) (hv : AxV (s, lo, us, hi)) (hp : I64 p) (hN : normA (s, lo, us, hi) p = N) (b c : Nat) (W : World) (h1 : W.heap[b]? = some (.cells #[.string s, .int .i64 lo, .int .i64 us, .int .i64 hi] 29 (0, 0))) (h2 : W.heap[c]? = some (.cells #[.int .i64 p] 3 (0, 0))) :
    Calls Try.prog 11 #[.slice (some ⟨b, 0, none⟩) 1 1, .slice (some ⟨c, 0, none⟩) 1 1] W fun e w' => ∃ bq o qc, e = .returned (.tuple #[.slice (some ⟨bq, o, none⟩) 1 qc, .int .i64 0]) ∧ w'.cell? ⟨bq, o, none⟩ = some (.int .i64 N) ∧ Below W.heap.size W w' := by
  have hl := lst_ints (l := [p]) h2 (fun x hx => by simp at hx; rw [hx]; exact hp) (S := (· < W.heap.size)) (Array.getElem?_eq_some_iff.1 h2).1
  refine (normal_any (some ⟨b, 0, none⟩) 1 1 [(s, lo, us, hi)] (some ⟨c, 0, none⟩) 1 1 [p] W (axO_lst h1 hs hv) (by omega) hl (by omega) (by omega)).mono ?_
  rintro e w' ⟨v, m, he, hr, hb⟩
  have hi2 := normS_i64 (l := [(s, lo, us, hi)]) (u := [p])
  rw [normS_one hv, hN] at he hr hi2
  obtain ⟨qa, qc, hv, _, hL⟩ := own_lst hr hi2
  obtain ⟨bq, oq, z, rfl, _, hz, _, cq⟩ := lst_int hL (show 0 < 1 by omega)
  have hzz : z = N := (Option.some.inj hz).symm
  rw [hzz, Nat.add_zero] at cq
  exact ⟨bq, oq, qc, by rw [he, hv]; rfl, cq, hb⟩
theorem user_one {s : ByteArray} {lo us hi n r : Int} (hs : s.size ≤ maxLen) (hv : AxV (s, lo, us, hi)) (hr : userS (s, lo, us, hi) n = r) (w : World) :
    Calls Try.prog 16 #[.agg #[.string s, .int .i64 lo, .int .i64 us, .int .i64 hi], .int .i64 n] w fun e w' => e = .returned (.int .i64 r) ∧ Below w.heap.size w w' := by
  have hv2 : -1000 ≤ lo ∧ lo ≤ us ∧ us ≤ hi ∧ hi ≤ 1000 := hv.2
  rw [← hr]
  exact user_any s lo us hi n w hs ⟨by omega, by omega⟩ ⟨by omega, by omega⟩ ⟨by omega, by omega⟩
theorem userS_rng {s : ByteArray} {lo us hi n : Int} (hv : AxV (s, lo, us, hi)) : -100000 ≤ userS (s, lo, us, hi) n ∧ userS (s, lo, us, hi) n ≤ 100000 := by
  rw [userS_one hv]
  have hv2 : -1000 ≤ lo ∧ lo ≤ us ∧ us ≤ hi ∧ hi ≤ 1000 := hv.2
  have hl := limS_rng n
  obtain ⟨k, hk⟩ : ∃ k, limS n = k := ⟨_, rfl⟩
  rw [hk] at hl
  show -100000 ≤ userM lo us hi (limS n) ∧ userM lo us hi (limS n) ≤ 100000
  rw [hk]
  unfold userM
  split
  · have h1 := mul_bd (x := -k) (y := us - lo) (A := 64) (B := 2000) (by omega) (by omega) (by omega) (by omega)
    have h2 := round_ineq (-k * (us - lo)) 64 (by omega)
    omega
  · have h1 := mul_bd (x := k) (y := hi - us) (A := 64) (B := 2000) (by omega) (by omega) (by omega) (by omega)
    have h2 := round_ineq (k * (hi - us)) 64 (by omega)
    omega
set_option maxHeartbeats 8000000 in
set_option maxRecDepth 100000 in
theorem axisInverse_any (us lo hi ap : Int) (w : World) (h0 : 0 ≤ us ∧ us ≤ 65535) (h1 : 0 ≤ lo ∧ lo ≤ 255) (h2 : 0 ≤ hi ∧ hi ≤ 255) (h3 : -32768 ≤ ap ∧ ap ≤ 32767) :
    Calls Try.prog 6 #[.int .u16 us, .int .u8 lo, .int .u8 hi, .int .i16 ap] w fun e w' => e = .returned (.bool true) ∧ Below w.heap.size w w' := by
  obtain ⟨u, hu⟩ : ∃ x, Int.tmod us 500 = x := ⟨_, rfl⟩
  obtain ⟨l6, hl6⟩ : ∃ x, Int.tmod lo 65 = x := ⟨_, rfl⟩
  obtain ⟨r6, hr6⟩ : ∃ x, Int.tmod hi 65 = x := ⟨_, rfl⟩
  obtain ⟨a7, ha7⟩ : ∃ x, Int.tmod ap 70 = x := ⟨_, rfl⟩
  obtain ⟨n, hn⟩ : ∃ x, Int.tmod ap 65 = x := ⟨_, rfl⟩
  have bu : 0 ≤ u ∧ u ≤ 499 := by rw [← hu, Int.tmod_eq_emod_of_nonneg h0.1]; omega
  have bl : 0 ≤ l6 ∧ l6 ≤ 64 := by rw [← hl6, Int.tmod_eq_emod_of_nonneg h1.1]; omega
  have br : 0 ≤ r6 ∧ r6 ≤ 64 := by rw [← hr6, Int.tmod_eq_emod_of_nonneg h2.1]; omega
  have ba : -69 ≤ a7 ∧ a7 ≤ 69 := by rw [← ha7]; have := Int.tmod_lt_of_pos ap (show (0:Int) < 70 by decide); have := Int.lt_tmod_of_pos ap (show (0:Int) < 70 by decide); omega
  have bn : -64 ≤ n ∧ n ≤ 64 := by rw [← hn]; have := Int.tmod_lt_of_pos ap (show (0:Int) < 65 by decide); have := Int.lt_tmod_of_pos ap (show (0:Int) < 65 by decide); omega
  have vN : AxV (⟨#[119]⟩, u - l6, u, u + r6) := ⟨show tagS ⟨#[119]⟩ = true by kernel_rfl, show -1000 ≤ u - l6 by omega, show u - l6 ≤ u by omega, show u ≤ u + r6 by omega, show u + r6 ≤ 1000 by omega⟩
  have vW : AxV (⟨#[119]⟩, u - 64 - lo, u, u + 64 + hi) := ⟨show tagS ⟨#[119]⟩ = true by kernel_rfl, show -1000 ≤ u - 64 - lo by omega, show u - 64 - lo ≤ u by omega, show u ≤ u + 64 + hi by omega, show u + 64 + hi ≤ 1000 by omega⟩
  obtain ⟨p, hp⟩ : ∃ p, max (u - l6) (u + min a7 r6) = p := ⟨_, rfl⟩
  have bp : u - l6 ≤ p ∧ p ≤ u + r6 := by rw [← hp]; omega
  obtain ⟨N1, hN1⟩ : ∃ x, normA (⟨#[119]⟩, u - l6, u, u + r6) p = x := ⟨_, rfl⟩
  obtain ⟨m, hm⟩ : ∃ x, userS (⟨#[119]⟩, u - 64 - lo, u, u + 64 + hi) n = x := ⟨_, rfl⟩
  have qN : userS (⟨#[119]⟩, u - l6, u, u + r6) N1 = p := by rw [← hN1]; exact narrow_back vN (by omega) (by omega) bp
  have qW : normA (⟨#[119]⟩, u - 64 - lo, u, u + 64 + hi) m = n := by rw [← hm]; exact wide_back vW (by omega) (by omega) bn
  have bm : -100000 ≤ m ∧ m ≤ 100000 := by rw [← hm]; exact userS_rng vW
  have bN1 : -200000 ≤ N1 ∧ N1 ≤ 200000 := by rw [← hN1]; exact normA_i64 vN p
  have hcm := hide (normal_one (s := ⟨#[119]⟩) (by decide) vN ⟨by omega, by omega⟩ hN1)
  have hcn := hide (normal_one (s := ⟨#[119]⟩) (by decide) vW ⟨by omega, by omega⟩ qW)
  have hcu := hide (user_one (s := ⟨#[119]⟩) (by decide) vW hm)
  have hcv := hide (user_one (s := ⟨#[119]⟩) (by decide) vN qN)
  replace hp := hide hp
  clear hN1 hm qN qW vN vW
  go_enter Try.func6, Try.ntmps6
  go_wp2_with fail
  refine (sanity_any w).mono ?_
  rintro e w1 ⟨rfl, hb1⟩
  have hb := hide hb1
  clear hb1
  obtain ⟨bA, VA, hbA, hVA, st⟩ := (St.start w1).new (Obj.cells #[.string ⟨#[119]⟩, .int .i64 (u - l6), .int .i64 u, .int .i64 (u + r6)] 29)
  obtain ⟨bB, VB, hbB, hVB, st⟩ := st.new (Obj.cells #[.string ⟨#[119]⟩, .int .i64 (u - 64 - lo), .int .i64 u, .int .i64 (u + 64 + hi)] 29)
  obtain ⟨bC, VC, hbC, hVC, st⟩ := st.new (Obj.cells #[.string ⟨#[119]⟩, .int .i64 (u - l6), .int .i64 u, .int .i64 (u + r6)] 29)
  obtain ⟨bD, VD, hbD, hVD, st⟩ := st.new (Obj.cells #[.int .i64 p] 3)
  have hcB : bA + 1 = bB := by rw [← hbB, ← hVA, World.size_alloc, hbA]
  have hcC : bB + 1 = bC := by rw [← hbC, ← hVB, World.size_alloc, hbB]
  have hcD : bC + 1 = bD := by rw [← hbD, ← hVC, World.size_alloc, hbC]
  have hA := st.get 3 rfl
  have hB := st.get 2 rfl
  have hC := st.get 1 rfl
  have hD := st.get 0 rfl
  have hE := hide ((unhide hb).trans (st.below.mono (unhide hb).size))
  clear st hb
  replace hVA := hide hVA; replace hVB := hide hVB; replace hVC := hide hVC; replace hVD := hide hVD; replace hbA := hide hbA; replace hbB := hide hbB; replace hbC := hide hbC; replace hbD := hide hbD; replace hcB := hide hcB; replace hcC := hide hcC; replace hcD := hide hcD
  replace hA := hide hA; replace hB := hide hB; replace hC := hide hC; replace hD := hide hD
  go_wp2_with fail
  rw [unhide hp, unhide hVA, unhide hbA, unhide hcB, unhide hcC, unhide hcD, unhide hVB, unhide hVC, unhide hVD]
  refine (unhide hcm bC bD VD (unhide hC) (unhide hD)).mono ?_
  rintro e w2 ⟨bx, ox, qcx, rfl, cx, hbx⟩
  have hA2 := (hbx.block bA (Array.getElem?_eq_some_iff.1 (unhide hA)).1).trans (unhide hA)
  have hB2 := (hbx.block bB (Array.getElem?_eq_some_iff.1 (unhide hB)).1).trans (unhide hB)
  have hb := hide ((unhide hE).trans (hbx.mono (unhide hE).size))
  clear hA hB hC hD hE hbx hcm hVA hVB hVC hVD hbA hbB hbC hbD hcB hcC hcD
  have c0 : w2.cell? ⟨bA, 0, none⟩ = some (.string ⟨#[119]⟩) := (cell_of_row _ _ 0 _ _ _ hA2).trans rfl
  have c1 : w2.cell? ⟨bA, 1, none⟩ = some (.int .i64 (u - l6)) := (cell_of_row _ _ 1 _ _ _ hA2).trans rfl
  have c2 : w2.cell? ⟨bA, 2, none⟩ = some (.int .i64 u) := (cell_of_row _ _ 2 _ _ _ hA2).trans rfl
  have c3 : w2.cell? ⟨bA, 3, none⟩ = some (.int .i64 (u + r6)) := (cell_of_row _ _ 3 _ _ _ hA2).trans rfl
  have d0 : w2.cell? ⟨bB, 0, none⟩ = some (.string ⟨#[119]⟩) := (cell_of_row _ _ 0 _ _ _ hB2).trans rfl
  have d1 : w2.cell? ⟨bB, 1, none⟩ = some (.int .i64 (u - 64 - lo)) := (cell_of_row _ _ 1 _ _ _ hB2).trans rfl
  have d2 : w2.cell? ⟨bB, 2, none⟩ = some (.int .i64 u) := (cell_of_row _ _ 2 _ _ _ hB2).trans rfl
  have d3 : w2.cell? ⟨bB, 3, none⟩ = some (.int .i64 (u + 64 + hi)) := (cell_of_row _ _ 3 _ _ _ hB2).trans rfl
  clear hA2 hB2
  go_wp2_with fail
  refine wp_region_frontG 11 (fun _ _ w' => Below w2.heap.size w2 w') (fun wa wb => Below wa.heap.size wa wb)
    (fun ix v w' => match ix with
      | 0 => v = .agg #[.string ⟨#[119]⟩, .int .i64 (u - 64 - lo), .int .i64 u, .int .i64 (u + 64 + hi)]
      | 1 => ∃ b, v = .slice (some ⟨b, 0, none⟩) 1 1 ∧ w'.heap[b]? = some (.cells #[.string ⟨#[119]⟩, .int .i64 (u - 64 - lo), .int .i64 u, .int .i64 (u + 64 + hi)] 29 (0, 0))
      | 2 => v = .agg #[.string ⟨#[119]⟩, .int .i64 (u - 64 - lo), .int .i64 u, .int .i64 (u + 64 + hi)]
      | 3 => v = .int .i64 n
      | 4 => v = .int .i64 m
      | 5 => ∃ b, v = .slice (some ⟨b, 0, none⟩) 1 1 ∧ w'.heap[b]? = some (.cells #[.int .i64 m] 3 (0, 0))
      | 6 => ∃ b o c, v = .tuple #[.slice (some ⟨b, o, none⟩) 1 c, .int .i64 0] ∧ w'.cell? ⟨b, o, none⟩ = some (.int .i64 n)
      | 7 => ∃ b o c, v = .tuple #[.slice (some ⟨b, o, none⟩) 1 c, .int .i64 0] ∧ w'.cell? ⟨b, o, none⟩ = some (.int .i64 n)
      | 8 => ∃ b o c, v = .slice (some ⟨b, o, none⟩) 1 c ∧ w'.cell? ⟨b, o, none⟩ = some (.int .i64 n)
      | 9 => v = .int .i64 0
      | 10 => ∃ b o c, v = .slice (some ⟨b, o, none⟩) 1 c ∧ w'.cell? ⟨b, o, none⟩ = some (.int .i64 n)
      | _ => True) (by rfl) (by kernel_rfl) ?_ ?_ ?_ ?_
  · exact (Below.refl _ _).drew
  · intro wa wb hR ix v hv
    match ix, hv with
    | 0, h => exact h
    | 1, h => obtain ⟨b, h1, h2⟩ := h; exact ⟨b, h1, (hR.block b (Array.getElem?_eq_some_iff.1 h2).1).trans h2⟩
    | 2, h => exact h
    | 3, h => exact h
    | 4, h => exact h
    | 5, h => obtain ⟨b, h1, h2⟩ := h; exact ⟨b, h1, (hR.block b (Array.getElem?_eq_some_iff.1 h2).1).trans h2⟩
    | 6, h => obtain ⟨b, o, c, h1, h2⟩ := h; exact ⟨b, o, c, h1, cell_under h2 hR⟩
    | 7, h => obtain ⟨b, o, c, h1, h2⟩ := h; exact ⟨b, o, c, h1, cell_under h2 hR⟩
    | 8, h => obtain ⟨b, o, c, h1, h2⟩ := h; exact ⟨b, o, c, h1, cell_under h2 hR⟩
    | 9, h => exact h
    | 10, h => obtain ⟨b, o, c, h1, h2⟩ := h; exact ⟨b, o, c, h1, cell_under h2 hR⟩
    | _ + 11, _ => trivial
  · intro ix hix
    obtain rfl | rfl | rfl | rfl | rfl | rfl | rfl | rfl | rfl | rfl | rfl : ix = 0 ∨ ix = 1 ∨ ix = 2 ∨ ix = 3 ∨ ix = 4 ∨ ix = 5 ∨ ix = 6 ∨ ix = 7 ∨ ix = 8 ∨ ix = 9 ∨ ix = 10 := by omega
    · refine FrontStep.of [] _ rfl (by kernel_rfl) ?_
      intro vs LL wq hLL hC hf
      simp only [putL, List.foldl_nil]
      have f0 := cell_under d0 hC
      have f1 := cell_under d1 hC
      have f2 := cell_under d2 hC
      have f3 := cell_under d3 hC
      go_wp2_with fail
      first | exact Below.refl _ _ | exact hC | exact ⟨hC, Below.refl _ _⟩
    · refine FrontStep.of [0] _ rfl (by kernel_rfl) ?_
      intro vs LL wq hLL hC hf
      simp only [putL, List.foldl_nil, List.foldl_cons, List.getElem?_cons_zero]
      have e0 : vs 0 = _ := hf 0 (by simp)
      rw [e0]
      go_wp2_with fail
      have hn := heap_alloc_new wq (Obj.cells #[.string ⟨#[119]⟩, .int .i64 (u - 64 - lo), .int .i64 u, .int .i64 (u + 64 + hi)] 29)
      have hb1 := (Below.refl wq.heap.size wq).alloc (Nat.le_refl _) (Obj.cells #[.string ⟨#[119]⟩, .int .i64 (u - 64 - lo), .int .i64 u, .int .i64 (u + 64 + hi)] 29)
      first | exact ⟨hC.trans (hb1.mono hC.size), hb1, _, rfl, hn⟩ | exact ⟨hC.trans (hb1.mono hC.size), hb1, hn⟩ | exact ⟨hC.trans (hb1.mono hC.size), hb1, (Array.getElem?_eq_some_iff.1 hn).2⟩ | exact ⟨hC.trans (hb1.mono hC.size), (Array.getElem?_eq_some_iff.1 hn).2⟩ | exact ⟨hC.trans (hb1.mono hC.size), hn⟩
    · refine FrontStep.of [] _ rfl (by kernel_rfl) ?_
      intro vs LL wq hLL hC hf
      simp only [putL, List.foldl_nil]
      have f0 := cell_under d0 hC
      have f1 := cell_under d1 hC
      have f2 := cell_under d2 hC
      have f3 := cell_under d3 hC
      go_wp2_with fail
      first | exact Below.refl _ _ | exact hC | exact ⟨hC, Below.refl _ _⟩
    · refine FrontStep.of [] _ rfl (by kernel_rfl) ?_
      intro vs LL wq hLL hC hf
      simp only [putL, List.foldl_nil]
      go_wp2_with fail
      first | exact Below.refl _ _ | exact hC | exact ⟨hC, Below.refl _ _⟩
    · refine FrontStep.of [2, 3] _ rfl (by kernel_rfl) ?_
      intro vs LL wq hLL hC hf
      simp only [putL, List.foldl_nil, List.foldl_cons, List.getElem?_cons_zero, List.getElem?_cons_succ]
      have e2 : vs 2 = _ := hf 2 (by simp)
      rw [e2]
      have e3 : vs 3 = _ := hf 3 (by simp)
      rw [e3]
      go_wp2_with fail
      refine (unhide hcu wq).mono ?_
      rintro e wz ⟨rfl, hbz⟩
      replace hbz := hide hbz
      go_wp2_with fail
      first | exact ⟨hC.trans ((unhide hbz).mono hC.size), unhide hbz⟩ | exact hC.trans ((unhide hbz).mono hC.size)
    · refine FrontStep.of [4] _ rfl (by kernel_rfl) ?_
      intro vs LL wq hLL hC hf
      simp only [putL, List.foldl_nil, List.foldl_cons, List.getElem?_cons_zero, List.getElem?_cons_succ]
      have e4 : vs 4 = _ := hf 4 (by simp)
      rw [e4]
      go_wp2_with fail
      have hn := heap_alloc_new wq (Obj.cells #[.int .i64 m] 3)
      have hb1 := (Below.refl wq.heap.size wq).alloc (Nat.le_refl _) (Obj.cells #[.int .i64 m] 3)
      first | exact ⟨hC.trans (hb1.mono hC.size), hb1, _, rfl, hn⟩ | exact ⟨hC.trans (hb1.mono hC.size), hb1, hn⟩ | exact ⟨hC.trans (hb1.mono hC.size), hb1, (Array.getElem?_eq_some_iff.1 hn).2⟩ | exact ⟨hC.trans (hb1.mono hC.size), (Array.getElem?_eq_some_iff.1 hn).2⟩ | exact ⟨hC.trans (hb1.mono hC.size), hn⟩
    · refine FrontStep.of [1, 4, 5] _ rfl (by kernel_rfl) ?_
      intro vs LL wq hLL hC hf
      simp only [putL, List.foldl_nil, List.foldl_cons, List.getElem?_cons_zero, List.getElem?_cons_succ]
      obtain ⟨b71, e71, hb71⟩ := hf 1 (by simp)
      rw [e71]
      have e4 : vs 4 = _ := hf 4 (by simp)
      rw [e4]
      obtain ⟨b75, e75, hb75⟩ := hf 5 (by simp)
      rw [e75]
      have hcq := unhide hcn b71 b75 wq hb71 hb75
      replace hcq := hide hcq
      clear hb71 hb75
      go_wp2_with fail
      refine (unhide hcq).mono ?_
      rintro e wz ⟨bY, oy, cy, rfl, hcy, hbz⟩
      clear hcq
      replace hbz := hide hbz
      go_wp2_with fail
      first | exact hC.trans ((unhide hbz).mono hC.size) | exact ⟨hC.trans ((unhide hbz).mono hC.size), unhide hbz⟩ | exact ⟨hC.trans ((unhide hbz).mono hC.size), unhide hbz, bY, oy, ⟨rfl, rfl⟩, hcy⟩
    · refine FrontStep.of [6] _ rfl (by kernel_rfl) ?_
      intro vs LL wq hLL hC hf
      simp only [putL, List.foldl_nil, List.foldl_cons, List.getElem?_cons_zero, List.getElem?_cons_succ]
      obtain ⟨bY, oy, cy, e76, hcy⟩ := hf 6 (by simp)
      rw [e76]
      go_wp2_with fail
      first | exact ⟨Below.refl _ _, bY, oy, ⟨rfl, rfl⟩, hcy⟩ | exact ⟨hC, Below.refl _ _, bY, oy, ⟨rfl, rfl⟩, hcy⟩
    · refine FrontStep.of [7] _ rfl (by kernel_rfl) ?_
      intro vs LL wq hLL hC hf
      simp only [putL, List.foldl_nil, List.foldl_cons, List.getElem?_cons_zero, List.getElem?_cons_succ]
      obtain ⟨bY, oy, cy, e69, hcy⟩ := hf 7 (by simp)
      rw [e69]
      go_wp2_with fail
      first | exact ⟨Below.refl _ _, bY, oy, ⟨rfl, rfl⟩, hcy⟩ | exact ⟨hC, Below.refl _ _, bY, oy, ⟨rfl, rfl⟩, hcy⟩
    · refine FrontStep.of [7] _ rfl (by kernel_rfl) ?_
      intro vs LL wq hLL hC hf
      simp only [putL, List.foldl_nil, List.foldl_cons, List.getElem?_cons_zero, List.getElem?_cons_succ]
      obtain ⟨bY, oy, cy, e69, hcy⟩ := hf 7 (by simp)
      rw [e69]
      go_wp2_with fail
      first | exact Below.refl _ _ | exact hC | exact ⟨hC, Below.refl _ _⟩
    · refine FrontStep.of [0, 1, 2, 3, 4, 5, 6, 7, 8] _ rfl (by kernel_rfl) ?_
      intro vs LL wq hLL hC hf
      simp only [putL, List.foldl_nil, List.foldl_cons, List.getElem?_cons_zero, List.getElem?_cons_succ]
      have e0 : vs 0 = _ := hf 0 (by simp)
      rw [e0]
      obtain ⟨b71, e71, hb71⟩ := hf 1 (by simp)
      rw [e71]
      have e2 : vs 2 = _ := hf 2 (by simp)
      rw [e2]
      have e3 : vs 3 = _ := hf 3 (by simp)
      rw [e3]
      have e4 : vs 4 = _ := hf 4 (by simp)
      rw [e4]
      obtain ⟨b75, e75, hb75⟩ := hf 5 (by simp)
      rw [e75]
      obtain ⟨bY, oy, cy, e76, hcy⟩ := hf 6 (by simp)
      rw [e76]
      obtain ⟨bY, oy, cy, e69, hcy⟩ := hf 7 (by simp)
      rw [e69]
      obtain ⟨bY, oy, cy, e77, hcy⟩ := hf 8 (by simp)
      rw [e77]
      go_wp2_with fail
      first | exact ⟨Below.refl _ _, bY, oy, ⟨rfl, rfl⟩, hcy⟩ | exact ⟨hC, Below.refl _ _, bY, oy, ⟨rfl, rfl⟩, hcy⟩
  · intro vs LL wq hLL hC hf
    obtain ⟨bY, oy, cy, e10, hcy⟩ := hf 10 (by omega)
    have e9 : vs 9 = _ := hf 9 (by omega)
    rw [putSome_all]
    simp only [putL, List.range, List.range.loop, List.foldl_nil, List.foldl_cons, List.getElem?_cons_zero, List.getElem?_cons_succ, List.drop_succ_cons, List.drop_zero]
    rw [e10, e9]
    clear e10 e9 hf hLL
    have g0 := cell_under c0 hC
    have g1 := cell_under c1 hC
    have g2 := cell_under c2 hC
    have g3 := cell_under c3 hC
    have gx := cell_under cx hC
    have hbq := hide ((unhide hb).trans (hC.mono (unhide hb).size))
    clear hC hb cx c0 c1 c2 c3 d0 d1 d2 d3 hcn
    go_simp
    go_wp2_with fail
    refine wp_region_frontG 17 (fun _ _ w' => Below wq.heap.size wq w') (fun wa wb => Below wa.heap.size wa wb)
      (fun ix v w' => match ix with
        | 0 => v = .bool true
        | 1 => v = .bool true
        | 2 => v = .agg #[.string ⟨#[119]⟩, .int .i64 (u - l6), .int .i64 u, .int .i64 (u + r6)]
        | 3 => v = .slice (some ⟨bx, ox, none⟩) 1 qcx
        | 4 => v = .pointer (some ⟨bx, ox, none⟩)
        | 5 => v = .int .i64 N1
        | 6 => v = .int .i64 p
        | 7 => v = .int .i64 p
        | 8 => v = .bool true
        | 9 => v = .bool true
        | 10 => v = .bool true
        | 11 => v = .slice (some ⟨bY, oy, none⟩) 1 cy
        | 12 => v = .pointer (some ⟨bY, oy, none⟩)
        | 13 => v = .int .i64 n
        | 14 => v = .int .i64 n
        | 15 => v = .bool true
        | 16 => v = .bool true
        | _ => True) (by rfl) (by kernel_rfl) ?_ ?_ ?_ ?_
    · exact (Below.refl _ _).drew
    · intro wa wb hR ix v hv
      match ix, hv with
      | 0, h => exact h
      | 1, h => exact h
      | 2, h => exact h
      | 3, h => exact h
      | 4, h => exact h
      | 5, h => exact h
      | 6, h => exact h
      | 7, h => exact h
      | 8, h => exact h
      | 9, h => exact h
      | 10, h => exact h
      | 11, h => exact h
      | 12, h => exact h
      | 13, h => exact h
      | 14, h => exact h
      | 15, h => exact h
      | 16, h => exact h
      | _ + 17, _ => trivial
    · intro ix hix
      obtain rfl | rfl | rfl | rfl | rfl | rfl | rfl | rfl | rfl | rfl | rfl | rfl | rfl | rfl | rfl | rfl | rfl : ix = 0 ∨ ix = 1 ∨ ix = 2 ∨ ix = 3 ∨ ix = 4 ∨ ix = 5 ∨ ix = 6 ∨ ix = 7 ∨ ix = 8 ∨ ix = 9 ∨ ix = 10 ∨ ix = 11 ∨ ix = 12 ∨ ix = 13 ∨ ix = 14 ∨ ix = 15 ∨ ix = 16 := by omega
      · refine FrontStep.of [] _ rfl (by kernel_rfl) ?_
        intro vs LL wq2 hLL hC hf
        simp only [putL, List.foldl_nil]
        go_wp2_with fail
        first | exact Below.refl _ _ | exact hC | exact ⟨hC, Below.refl _ _⟩
      · refine FrontStep.of [0] _ rfl (by kernel_rfl) ?_
        intro vs LL wq2 hLL hC hf
        simp only [putL, List.foldl_nil, List.foldl_cons, List.getElem?_cons_zero]
        have e0 : vs 0 = _ := hf 0 (by simp)
        rw [e0]
        go_wp2_with fail
        first | exact Below.refl _ _ | exact hC | exact ⟨hC, Below.refl _ _⟩
      · refine FrontStep.of [1] _ rfl (by kernel_rfl) ?_
        intro vs LL wq2 hLL hC hf
        simp only [putL, List.foldl_nil, List.foldl_cons, List.getElem?_cons_zero, List.getElem?_cons_succ]
        have e1 : vs 1 = _ := hf 1 (by simp)
        rw [e1]
        have f0 := cell_under g0 hC
        have f1 := cell_under g1 hC
        have f2 := cell_under g2 hC
        have f3 := cell_under g3 hC
        go_wp2_with fail
        first | exact Below.refl _ _ | exact hC | exact ⟨hC, Below.refl _ _⟩
      · refine FrontStep.of [1] _ rfl (by kernel_rfl) ?_
        intro vs LL wq2 hLL hC hf
        simp only [putL, List.foldl_nil, List.foldl_cons, List.getElem?_cons_zero, List.getElem?_cons_succ]
        have e1 : vs 1 = _ := hf 1 (by simp)
        rw [e1]
        go_wp2_with fail
        first | exact Below.refl _ _ | exact hC | exact ⟨hC, Below.refl _ _⟩
      · refine FrontStep.of [1, 3] _ rfl (by kernel_rfl) ?_
        intro vs LL wq2 hLL hC hf
        simp only [putL, List.foldl_nil, List.foldl_cons, List.getElem?_cons_zero, List.getElem?_cons_succ]
        have e1 : vs 1 = _ := hf 1 (by simp)
        rw [e1]
        have e3 : vs 3 = _ := hf 3 (by simp)
        rw [e3]
        go_wp2_with fail
        first | exact Below.refl _ _ | exact hC | exact ⟨hC, Below.refl _ _⟩
      · refine FrontStep.of [1, 4] _ rfl (by kernel_rfl) ?_
        intro vs LL wq2 hLL hC hf
        simp only [putL, List.foldl_nil, List.foldl_cons, List.getElem?_cons_zero, List.getElem?_cons_succ]
        have e1 : vs 1 = _ := hf 1 (by simp)
        rw [e1]
        have e4 : vs 4 = _ := hf 4 (by simp)
        rw [e4]
        have fx := cell_under gx hC
        go_wp2_with fail
        first | exact Below.refl _ _ | exact hC | exact ⟨hC, Below.refl _ _⟩
      · refine FrontStep.of [1, 2, 5] _ rfl (by kernel_rfl) ?_
        intro vs LL wq2 hLL hC hf
        simp only [putL, List.foldl_nil, List.foldl_cons, List.getElem?_cons_zero, List.getElem?_cons_succ]
        have e1 : vs 1 = _ := hf 1 (by simp)
        rw [e1]
        have e2 : vs 2 = _ := hf 2 (by simp)
        rw [e2]
        have e5 : vs 5 = _ := hf 5 (by simp)
        rw [e5]
        go_wp2_with fail
        refine (unhide hcv wq2).mono ?_
        rintro e wz ⟨rfl, hbz⟩
        replace hbz := hide hbz
        go_wp2_with fail
        first | exact ⟨hC.trans ((unhide hbz).mono hC.size), unhide hbz⟩ | exact hC.trans ((unhide hbz).mono hC.size)
      · refine FrontStep.of [1] _ rfl (by kernel_rfl) ?_
        intro vs LL wq2 hLL hC hf
        simp only [putL, List.foldl_nil, List.foldl_cons, List.getElem?_cons_zero, List.getElem?_cons_succ]
        have e1 : vs 1 = _ := hf 1 (by simp)
        rw [e1]
        go_wp2_with fail
        first | exact Below.refl _ _ | exact hC | exact ⟨hC, Below.refl _ _⟩
      · refine FrontStep.of [1, 6, 7] _ rfl (by kernel_rfl) ?_
        intro vs LL wq2 hLL hC hf
        simp only [putL, List.foldl_nil, List.foldl_cons, List.getElem?_cons_zero, List.getElem?_cons_succ]
        have e1 : vs 1 = _ := hf 1 (by simp)
        rw [e1]
        have e6 : vs 6 = _ := hf 6 (by simp)
        rw [e6]
        have e7 : vs 7 = _ := hf 7 (by simp)
        rw [e7]
        go_wp2_with fail
        first | exact Below.refl _ _ | exact hC | exact ⟨hC, Below.refl _ _⟩
      · refine FrontStep.of [1, 8] _ rfl (by kernel_rfl) ?_
        intro vs LL wq2 hLL hC hf
        simp only [putL, List.foldl_nil, List.foldl_cons, List.getElem?_cons_zero, List.getElem?_cons_succ]
        have e1 : vs 1 = _ := hf 1 (by simp)
        rw [e1]
        have e8 : vs 8 = _ := hf 8 (by simp)
        rw [e8]
        go_wp2_with fail
        first | exact Below.refl _ _ | exact hC | exact ⟨hC, Below.refl _ _⟩
      · refine FrontStep.of [6, 9] _ rfl (by kernel_rfl) ?_
        intro vs LL wq2 hLL hC hf
        simp only [putL, List.foldl_nil, List.foldl_cons, List.getElem?_cons_zero, List.getElem?_cons_succ]
        have e6 : vs 6 = _ := hf 6 (by simp)
        rw [e6]
        have e9 : vs 9 = _ := hf 9 (by simp)
        rw [e9]
        go_wp2_with fail
        first | exact Below.refl _ _ | exact hC | exact ⟨hC, Below.refl _ _⟩
      · refine FrontStep.of [10] _ rfl (by kernel_rfl) ?_
        intro vs LL wq2 hLL hC hf
        simp only [putL, List.foldl_nil, List.foldl_cons, List.getElem?_cons_zero, List.getElem?_cons_succ]
        have e10 : vs 10 = _ := hf 10 (by simp)
        rw [e10]
        go_wp2_with fail
        first | exact Below.refl _ _ | exact hC | exact ⟨hC, Below.refl _ _⟩
      · refine FrontStep.of [10, 11] _ rfl (by kernel_rfl) ?_
        intro vs LL wq2 hLL hC hf
        simp only [putL, List.foldl_nil, List.foldl_cons, List.getElem?_cons_zero, List.getElem?_cons_succ]
        have e10 : vs 10 = _ := hf 10 (by simp)
        rw [e10]
        have e11 : vs 11 = _ := hf 11 (by simp)
        rw [e11]
        go_wp2_with fail
        first | exact Below.refl _ _ | exact hC | exact ⟨hC, Below.refl _ _⟩
      · refine FrontStep.of [10, 12] _ rfl (by kernel_rfl) ?_
        intro vs LL wq2 hLL hC hf
        simp only [putL, List.foldl_nil, List.foldl_cons, List.getElem?_cons_zero, List.getElem?_cons_succ]
        have e10 : vs 10 = _ := hf 10 (by simp)
        rw [e10]
        have e12 : vs 12 = _ := hf 12 (by simp)
        rw [e12]
        have fy := cell_under hcy hC
        go_wp2_with fail
        first | exact Below.refl _ _ | exact hC | exact ⟨hC, Below.refl _ _⟩
      · refine FrontStep.of [10] _ rfl (by kernel_rfl) ?_
        intro vs LL wq2 hLL hC hf
        simp only [putL, List.foldl_nil, List.foldl_cons, List.getElem?_cons_zero, List.getElem?_cons_succ]
        have e10 : vs 10 = _ := hf 10 (by simp)
        rw [e10]
        go_wp2_with fail
        first | exact Below.refl _ _ | exact hC | exact ⟨hC, Below.refl _ _⟩
      · refine FrontStep.of [10, 13, 14] _ rfl (by kernel_rfl) ?_
        intro vs LL wq2 hLL hC hf
        simp only [putL, List.foldl_nil, List.foldl_cons, List.getElem?_cons_zero, List.getElem?_cons_succ]
        have e10 : vs 10 = _ := hf 10 (by simp)
        rw [e10]
        have e13 : vs 13 = _ := hf 13 (by simp)
        rw [e13]
        have e14 : vs 14 = _ := hf 14 (by simp)
        rw [e14]
        go_wp2_with fail
        first | exact Below.refl _ _ | exact hC | exact ⟨hC, Below.refl _ _⟩
      · refine FrontStep.of [10, 15] _ rfl (by kernel_rfl) ?_
        intro vs LL wq2 hLL hC hf
        simp only [putL, List.foldl_nil, List.foldl_cons, List.getElem?_cons_zero, List.getElem?_cons_succ]
        have e10 : vs 10 = _ := hf 10 (by simp)
        rw [e10]
        have e15 : vs 15 = _ := hf 15 (by simp)
        rw [e15]
        go_wp2_with fail
        first | exact Below.refl _ _ | exact hC | exact ⟨hC, Below.refl _ _⟩
    · intro vs LL wq2 hLL hC hf
      have e16 : vs 16 = _ := hf 16 (by omega)
      rw [putSome_all]
      simp only [putL, List.range, List.range.loop, List.foldl_nil, List.foldl_cons, List.getElem?_cons_zero, List.getElem?_cons_succ, List.drop_succ_cons, List.drop_zero]
      rw [e16]
      clear e16 hf hLL
      have hbr := hide ((unhide hbq).trans (hC.mono (unhide hbq).size))
      clear hC hbq g0 g1 g2 g3 gx hcy
      go_simp
      go_wp2_with fail
      go_ret
      exact ⟨rfl, unhide hbr⟩
end Go.Proofs.Ythkppilelpaieaa
