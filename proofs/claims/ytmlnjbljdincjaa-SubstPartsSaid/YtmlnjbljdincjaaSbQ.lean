/- SubstParts. -/
import Derived.Test.YtmlnjbljdincjaaSbQ0
namespace Go.Proofs.Ytmlnjbljdincjaa
open Go.RowKit
theorem renS_i64 {l : List Int} (h : ∀ x ∈ l, -1000 ≤ x ∧ x ≤ 1000) : AllI (renS l) := fun y hy => by
  unfold renS at hy
  obtain ⟨x, hx, rfl⟩ := List.mem_map.1 hy
  have := h x hx
  exact ⟨by omega, by omega⟩
theorem row_below {w w' : World} {B n s : Nat} {T : TypeId} {v : Value} {xs : List Value} (h : w.ownsRow B T s v n xs) (hB : B ≤ w.heap.size) (hg : w.grownBy w' v.ownBlock) : Below B w w' :=
  ⟨hg.os, hg.tape, hg.output, hg.size, fun b hb => hg.block b (by omega) (fun e => by have := (h.lt b e.symm).1; omega)⟩
theorem vints_mid (X Y : List Int) (y : Int) : vints (X ++ [y]) ++ vints Y = vints (X ++ y :: Y) := by rw [vints_app, List.append_assoc]; rfl
theorem fewS_good {l : List (List Sub)} {gm : Int} (h : GoodL l gm) : fewS l = l := by
  unfold fewS
  rw [List.take_of_length_le (by have := h.1; omega)]
  refine (List.map_congr_left (g := id) fun x hx => ?_).trans (List.map_id _)
  obtain ⟨h1, h2⟩ := h.2 x hx
  unfold fewX
  rw [List.take_of_length_le (by omega)]
  refine (List.map_congr_left (g := id) fun s hs => ?_).trans (List.map_id _)
  obtain ⟨⟨_, h3, h4, h5⟩, _⟩ := h2 s hs
  unfold fewSub
  rw [List.take_of_length_le (by omega), List.take_of_length_le (by omega), List.take_of_length_le (by omega)]
  rfl
theorem ren_small {l : List (List Sub)} (h : ∀ x ∈ l, Small x) : ∀ x ∈ renL l, Small x := fun x hx => by
  unfold renL at hx
  obtain ⟨y, hy, rfl⟩ := List.mem_map.1 hx
  obtain ⟨h1, h2⟩ := h y hy
  unfold renX
  refine ⟨by rw [List.length_map]; exact h1, fun s hs => ?_⟩
  obtain ⟨t, ht, rfl⟩ := List.mem_map.1 hs
  obtain ⟨h3, h4, h5⟩ := h2 t ht
  unfold renSub
  simp only [renS_len]
  exact ⟨h3, h4, h5⟩
theorem ren_to {l : List (List Sub)} (h : GoodL l 4) : ∀ x ∈ renL l, ToI x := fun x hx s hs => by
  unfold renL at hx
  obtain ⟨y, hy, rfl⟩ := List.mem_map.1 hx
  unfold renX at hs
  obtain ⟨t, ht, rfl⟩ := List.mem_map.1 hs
  obtain ⟨_, _, _, _, h1, h2⟩ := (h.2 y hy).2 t ht
  show I64 (70 - 9 * t.2.2.2)
  exact ⟨by omega, by omega⟩
theorem applyS_small {l : List (List Sub)} {X : List Int} (h : GoodL l 4) (hX : ∀ x ∈ X, 0 ≤ x ∧ x < 4) : ∀ y ∈ (applyS l X).1, 0 ≤ y ∧ y < 4 := fun y hy => by
  obtain ⟨k, hk, rfl⟩ := List.mem_iff_getElem.1 hy
  have hi := sinv_all l X
  have hl := hi.len
  rcases hi.el k _ _ (List.getElem?_eq_getElem hk) (List.getElem?_eq_getElem (by omega)) with h1 | ⟨x, hx, s, hs, h1⟩
  · exact hX _ (List.mem_of_getElem? h1)
  · rw [← h1]
    obtain ⟨_, _, _, _, h2, h3⟩ := (h.2 x hx).2 s hs
    exact ⟨h2, h3⟩
set_option maxRecDepth 100000 in
set_option maxHeartbeats 8000000 in
theorem substParts_any (na : Option Addr) (nn nc : Nat) (N : List Int) (ga : Option Addr) (gn gc : Nat) (g : List Int) (ka : Option Addr) (kn kc : Nat) (K : List Int) (w : World) (hN : Lst Enc.int w (fun b => b < w.heap.size) na nn N) (hN1 : nn ≤ nc) (hN2 : nc ≤ maxLen) (hG : Lst Enc.int w (fun b => b < w.heap.size) ga gn g) (hG1 : gn ≤ gc) (hG2 : gc ≤ maxLen) (hK : Lst Enc.int w (fun b => b < w.heap.size) ka kn K) (hK1 : kn ≤ kc) (hK2 : kc ≤ maxLen) :
    Calls Try.prog 7 #[.slice na nn nc, .slice ga gn gc, .slice ka kn kc] w fun e w' => e = .returned (.bool true) ∧ Below w.heap.size w w' := by
  replace hN := hide hN; replace hG := hide hG; replace hK := hide hK
  go_enter Try.func7, Try.ntmps7
  go_wp2_with fail
  refine (sanity_any _).mono ?_
  rintro e w1 ⟨rfl, hz1⟩
  have hN' := (unhide hN).under hz1
  have hG' := (unhide hG).under hz1
  have hK' := (unhide hK).under hz1
  clear hN hG hK
  have hc := made_any na nn nc N 4 w1 hN' (by omega) (by omega) (by omega)
  clear hN'
  replace hc := hide hc; replace hG' := hide hG'; replace hK' := hide hK'; replace hz1 := hide hz1
  go_wp2_with fail
  refine (unhide hc).mono ?_
  rintro e w2 ⟨la, lc, l, rfl, hl, hlg, hb⟩
  have hG := (unhide hG').under hb
  have hK := (unhide hK').under hb
  have hz2 := (unhide hz1).trans (hb.mono (unhide hz1).size)
  obtain ⟨ln, hln⟩ : ∃ ln, l.length = ln := ⟨_, rfl⟩
  rw [hln] at hl ⊢
  have hll := hlg.1
  rw [hln] at hll
  clear hc hG' hK' hz1 hb
  have hc := glyphs_any ga gn gc g 4 w2 hG (by omega) (by omega) (by omega)
  replace hc := hide hc; replace hz2 := hide hz2; replace hl := hide hl; replace hlg := hide hlg; replace hln := hide hln; replace hK := hide hK
  clear hG
  go_wp2_with fail
  refine (unhide hc).mono ?_
  rintro e w3 ⟨v, rfl, hown, hb⟩
  have hxb := glyphsS_mem g 4 (by decide)
  have hxl := glyphsS_len g 4
  obtain ⟨X, hX⟩ : ∃ X, glyphsS g 4 = X := ⟨_, rfl⟩
  rw [hX] at hown hxb hxl
  have hXi : AllI X := fun y hy => by have := hxb y hy; exact ⟨by omega, by omega⟩
  obtain ⟨xa, xc, rfl, -, hx⟩ := own_lst hown hXi
  obtain ⟨xn, hxn⟩ : ∃ xn, X.length = xn := ⟨_, rfl⟩
  rw [hxn] at hx hxl ⊢
  have hl3 := (unhide hl).under hb
  have hK3 := (unhide hK).under hb
  have hz3 := (unhide hz2).trans (hb.mono (unhide hz2).size)
  clear hc hown hz2 hb hl hK hX
  have hc := glyphs_any ka kn kc K 4 w3 hK3 (by omega) (by omega) (by omega)
  clear hK3
  replace hc := hide hc; replace hz3 := hide hz3; replace hl3 := hide hl3; replace hx := hide hx; replace hXi := hide hXi; replace hxn := hide hxn; replace hxb := hide hxb
  go_wp2_with fail
  refine (unhide hc).mono ?_
  rintro e w4 ⟨v, rfl, hown, hb⟩
  have hyb := glyphsS_mem K 4 (by decide)
  have hyl := glyphsS_len K 4
  obtain ⟨Y, hY⟩ : ∃ X, glyphsS K 4 = X := ⟨_, rfl⟩
  rw [hY] at hown hyb hyl
  have hYi : AllI Y := fun y hy => by have := hyb y hy; exact ⟨by omega, by omega⟩
  obtain ⟨ya, yc, rfl, -, hy⟩ := own_lst hown hYi
  obtain ⟨yn, hyn⟩ : ∃ xn, Y.length = xn := ⟨_, rfl⟩
  rw [hyn] at hy hyl ⊢
  have hl4 := (unhide hl3).under hb
  have hx4 := (unhide hx).under hb
  have hz4 := (unhide hz3).trans (hb.mono (unhide hz3).size)
  clear hc hown hz3 hb hl3 hx hY hyb
  replace hl4 := hide hl4; replace hx4 := hide hx4; replace hz4 := hide hz4; replace hy := hide hy; replace hYi := hide hYi; replace hyn := hide hyn
  have hb0 : Below w4.heap.size w4 (w4.alloc (Obj.cells #[] 3)) := (Below.refl _ _).alloc (Nat.le_refl _) _
  have hrow0 := own_lit (base := w4.heap.size) (s := 1) (n := 0) (heap_alloc_new w4 (Obj.cells #[] 3)) (Nat.le_refl _) (by decide) rfl
  have hA0 := (unhide hx4).below hb0
  replace hA0 := hide hA0; replace hrow0 := hide hrow0; replace hb0 := hide hb0
  go_wp2_with (at_builtin; refine wpList_append_ints rfl _ _ rfl w4.heap.size _ 0 _ rfl (unhide hrow0) _ _ _ _ X rfl (unhide hA0) ?aa ?ab ?_)
  try (case aa => omega)
  try (case ab => rw [World.size_alloc]; omega)
  intro v1 w5 hrow1 hg1
  have hb1 := (unhide hb0).trans (row_below (unhide hrow0) (unhide hb0).size hg1)
  have hb2 := (Below.refl w5.heap.size w5).alloc (Nat.le_refl _) (Obj.cells #[.int .i64 4] 3)
  have hrow2 : (w5.alloc (Obj.cells #[.int .i64 4] 3)).ownsRow w4.heap.size 3 1 v1 xn (vints X) := by have := own_belowb hrow1 hb2; first | exact this | (rwa [Nat.zero_add] at this)
  have hb3 := hb1.trans (hb2.mono hb1.size)
  have hs3 := hb3.size
  have hc4 := heap_alloc_new w5 (Obj.cells #[.int .i64 4] 3)
  clear hrow0 hA0 hb0 hrow1 hg1 hb1 hb2
  replace hrow2 := hide hrow2; replace hb3 := hide hb3; replace hc4 := hide hc4
  go_wp2_with (at_builtin; refine wpList_append_one rfl _ _ rfl w4.heap.size _ _ X rfl (unhide hrow2) _ 4 rfl (unhide hc4) ?ac ?ad ?_)
  try (case ac => omega)
  try (case ad => exact hs3)
  intro v2 w6 hrow3 hg3 _
  have hb4 := (unhide hb3).trans (row_below (unhide hrow2) (unhide hb3).size hg3)
  have hA4 := (unhide hy).below hb4
  clear hrow2 hb3 hc4 hg3 hs3
  replace hrow3 := hide hrow3; replace hb4 := hide hb4; replace hA4 := hide hA4
  go_wp2_with (at_builtin; refine wpList_append_ints rfl _ _ rfl w4.heap.size _ _ _ rfl (unhide hrow3) _ _ _ _ Y rfl (unhide hA4) ?ae ?af ?_)
  try (case ae => omega)
  try (case af => exact (unhide hb4).size)
  intro v3 w7 hrow5 hg5
  have hb5 := (unhide hb4).trans (row_below (unhide hrow3) (unhide hb4).size hg5)
  rw [vints_mid] at hrow5
  clear hrow3 hb4 hA4 hg5
  have hPi : AllI (X ++ (4 : Int) :: Y) := fun z hz => by
    rcases List.mem_append.1 hz with h | h
    · exact unhide hXi z h
    · rcases List.mem_cons.1 h with rfl | h
      · exact ⟨by decide, by decide⟩
      · exact unhide hYi z h
  obtain ⟨pa, pc, rfl, -, hp⟩ := own_lst hrow5 hPi
  have hpl : (X ++ (4 : Int) :: Y).length ≤ 49 := by have := unhide hxn; have := unhide hyn; simp; omega
  have hparts := applyS_parts l (goodL_no4 (unhide hlg)) X Y
  obtain ⟨P, hP⟩ : ∃ P, X ++ (4 : Int) :: Y = P := ⟨_, rfl⟩
  rw [hP] at hp hPi hpl hparts ⊢
  obtain ⟨pn, hpn⟩ : ∃ pn, P.length = pn := ⟨_, rfl⟩
  rw [hpn] at hp hpl ⊢
  have hx7 := (unhide hx4).under hb5
  have hy7 := (unhide hy).under hb5
  have hl7 := (unhide hl4).under hb5
  have hz7 := (unhide hz4).trans (hb5.mono (unhide hz4).size)
  clear hrow5 hb5 hx4 hy hl4 hz4 hP
  rw [unhide hxn] at hparts
  have hiX := applyS_i64 (goodL_to (by decide) (unhide hlg)) (unhide hXi) (by rw [unhide hxn]; omega)
  have hiY := applyS_i64 (goodL_to (by decide) (unhide hlg)) (unhide hYi) (by rw [unhide hyn]; omega)
  have hiP := applyS_i64 (goodL_to (by decide) (unhide hlg)) hPi (by rw [hpn]; omega)
  have hnX := applyS_len l X
  have hnY := applyS_len l Y
  have hsA := applyS_small (unhide hlg) (unhide hxb)
  have hin := (sinv_all l Y).rng
  have hren := applyS_ren l X
  rw [unhide hxn] at hnX
  rw [unhide hyn] at hnY hin
  have hcX := apply_any la ln lc l xa xn xc X w7 hl7 hx7 (by omega) (goodL_small (unhide hlg)) (goodL_to (by decide) (unhide hlg)) (by omega)
  have hcY := fun w h1 h2 => apply_any la ln lc l ya yn yc Y w h1 h2 (by omega) (goodL_small (unhide hlg)) (goodL_to (by decide) (unhide hlg)) (by omega)
  have hcP := fun w h1 h2 => apply_any la ln lc l pa pn pc P w h1 h2 (by omega) (goodL_small (unhide hlg)) (goodL_to (by decide) (unhide hlg)) (by omega)
  obtain ⟨stX, hstX⟩ : ∃ st, applyS l X = st := ⟨_, rfl⟩
  obtain ⟨stY, hstY⟩ : ∃ st, applyS l Y = st := ⟨_, rfl⟩
  obtain ⟨A, B⟩ := stX
  obtain ⟨C, D⟩ := stY
  simp only [hstX, hstY] at hparts
  simp only [hstX] at hiX hnX hsA hcX hren
  simp only [hstY] at hiY hnY hin hcY
  simp only [hparts] at hiP hcP
  obtain ⟨an, han⟩ : ∃ n, A.length = n := ⟨_, rfl⟩
  obtain ⟨bn, hbn⟩ : ∃ n, B.length = n := ⟨_, rfl⟩
  obtain ⟨cn, hcn⟩ : ∃ n, C.length = n := ⟨_, rfl⟩
  obtain ⟨dn, hdn⟩ : ∃ n, D.length = n := ⟨_, rfl⟩
  rw [han, hbn] at hnX
  rw [hcn, hdn] at hnY
  have hab : an = bn ∧ cn = dn ∧ an ≤ 24 ∧ cn ≤ 24 ∧ bn ≤ 24 ∧ dn ≤ 24 := by omega
  clear hparts hstX hstY hnX hnY hPi hpn hYi hyn hpl
  replace hab := hide hab; replace hcX := hide hcX; replace hcY := hide hcY; replace hcP := hide hcP; replace hiX := hide hiX; replace hiY := hide hiY; replace hiP := hide hiP; replace hsA := hide hsA; replace hin := hide hin; replace hren := hide hren; replace han := hide han; replace hbn := hide hbn; replace hcn := hide hcn; replace hdn := hide hdn; replace hx7 := hide hx7; replace hy7 := hide hy7; replace hl7 := hide hl7; replace hz7 := hide hz7; replace hp := hide hp
  go_wp2_with fail
  refine (unhide hcX).mono ?_
  rintro e w8 ⟨q1, q2, rfl, ht, hb⟩
  obtain ⟨a1, c1, a2, c2, rfl, rfl, hA, hB⟩ := ht.lst (unhide hiX).1 (unhide hiX).2
  rw [unhide han] at hA
  rw [unhide hbn] at hB
  simp only [unhide han, unhide hbn]
  have hx8 := (unhide hx7).under hb
  have hy8 := (unhide hy7).under hb
  have hl8 := (unhide hl7).under hb
  have hp8 := (unhide hp).under hb
  have hz8 := (unhide hz7).trans (hb.mono (unhide hz7).size)
  have hc := unhide hcY w8 hl8 hy8
  clear hcX ht hb hx7 hy7 hl7 hp hz7 hcY hy8
  replace hc := hide hc; replace hx8 := hide hx8; replace hl8 := hide hl8; replace hp8 := hide hp8; replace hz8 := hide hz8; replace hA := hide hA; replace hB := hide hB
  go_wp2_with fail
  refine (unhide hc).mono ?_
  rintro e w9 ⟨q1, q2, rfl, ht, hb⟩
  obtain ⟨a3, c3, a4, c4, rfl, rfl, hC, hD⟩ := ht.lst (unhide hiY).1 (unhide hiY).2
  rw [unhide hcn] at hC
  rw [unhide hdn] at hD
  simp only [unhide hcn, unhide hdn]
  have hx9 := (unhide hx8).under hb
  have hl9 := (unhide hl8).under hb
  have hp9 := (unhide hp8).under hb
  have hA9 := (unhide hA).under hb
  have hB9 := (unhide hB).under hb
  have hz9 := (unhide hz8).trans (hb.mono (unhide hz8).size)
  have hc' := unhide hcP w9 hl9 hp9
  clear hc ht hb hx8 hl8 hp8 hz8 hcP hp9 hA hB
  replace hc' := hide hc'; replace hx9 := hide hx9; replace hl9 := hide hl9; replace hz9 := hide hz9; replace hA9 := hide hA9; replace hB9 := hide hB9; replace hC := hide hC; replace hD := hide hD
  go_wp2_with fail
  refine (unhide hc').mono ?_
  rintro e w10 ⟨q1, q2, rfl, ht, hb⟩
  obtain ⟨a5, c5, a6, c6, rfl, rfl, hE, hF⟩ := ht.lst (unhide hiP).1 (unhide hiP).2
  have hx10 := (unhide hx9).under hb
  have hl10 := (unhide hl9).under hb
  have hA10 := (unhide hA9).under hb
  have hB10 := (unhide hB9).under hb
  have hC10 := (unhide hC).under hb
  have hD10 := (unhide hD).under hb
  have hz10 := (unhide hz9).trans (hb.mono (unhide hz9).size)
  obtain ⟨q1, q2, q3, q4, q5, q6⟩ := unhide hab
  have hen : (A ++ (4 : Int) :: C).length = an + 1 + cn := by rw [List.length_append, List.length_cons, unhide han, unhide hcn]; omega
  have hfn : (B ++ (xn : Int) :: D.map fun j => (xn : Int) + 1 + j).length = bn + 1 + dn := by rw [List.length_append, List.length_cons, List.length_map, unhide hbn, unhide hdn]; omega
  obtain ⟨en, hen'⟩ : ∃ en, (A ++ (4 : Int) :: C).length = en := ⟨_, rfl⟩
  obtain ⟨fn, hfn'⟩ : ∃ fn, (B ++ (xn : Int) :: D.map fun j => (xn : Int) + 1 + j).length = fn := ⟨_, rfl⟩
  rw [hen'] at hE hen ⊢
  rw [hfn'] at hF hfn ⊢
  clear hc' ht hb hx9 hl9 hz9 hA9 hB9 hC hD
  replace hx10 := hide hx10; replace hl10 := hide hl10; replace hA10 := hide hA10; replace hB10 := hide hB10; replace hC10 := hide hC10; replace hD10 := hide hD10; replace hz10 := hide hz10; replace hE := hide hE; replace hF := hide hF; replace q1 := hide q1; replace q2 := hide q2; replace hen := hide hen; replace hfn := hide hfn; replace hen' := hide hen'; replace hfn' := hide hfn'
  have hb0 : Below w10.heap.size w10 (w10.alloc (Obj.cells #[] 3)) := (Below.refl _ _).alloc (Nat.le_refl _) _
  have hrow0 := own_lit (base := w10.heap.size) (s := 1) (n := 0) (heap_alloc_new w10 (Obj.cells #[] 3)) (Nat.le_refl _) (by decide) rfl
  have hA0 := (unhide hA10).below hb0
  replace hA0 := hide hA0; replace hrow0 := hide hrow0; replace hb0 := hide hb0
  go_wp2_with (at_builtin; refine wpList_append_ints rfl _ _ rfl w10.heap.size _ 0 _ rfl (unhide hrow0) _ _ _ _ A rfl (unhide hA0) ?ba ?bb ?_)
  try (case ba => omega)
  try (case bb => rw [World.size_alloc]; omega)
  intro v1 w11 hrow1 hg1
  have hb1 := (unhide hb0).trans (row_below (unhide hrow0) (unhide hb0).size hg1)
  have hb2 := (Below.refl w11.heap.size w11).alloc (Nat.le_refl _) (Obj.cells #[.int .i64 4] 3)
  have hrow2 : (w11.alloc (Obj.cells #[.int .i64 4] 3)).ownsRow w10.heap.size 3 1 v1 an (vints A) := by have := own_belowb hrow1 hb2; first | exact this | (rwa [Nat.zero_add] at this)
  have hb3 := hb1.trans (hb2.mono hb1.size)
  have hs3 := hb3.size
  have hc4 := heap_alloc_new w11 (Obj.cells #[.int .i64 4] 3)
  clear hrow0 hA0 hb0 hrow1 hg1 hb1 hb2
  replace hrow2 := hide hrow2; replace hb3 := hide hb3; replace hc4 := hide hc4
  go_wp2_with (at_builtin; refine wpList_append_one rfl _ _ rfl w10.heap.size _ _ A rfl (unhide hrow2) _ 4 rfl (unhide hc4) ?bc ?bd ?_)
  try (case bc => omega)
  try (case bd => exact hs3)
  intro v2 w12 hrow3 hg3 _
  have hb4 := (unhide hb3).trans (row_below (unhide hrow2) (unhide hb3).size hg3)
  have hA4 := (unhide hC10).below hb4
  clear hrow2 hb3 hc4 hg3 hs3
  replace hrow3 := hide hrow3; replace hb4 := hide hb4; replace hA4 := hide hA4
  go_wp2_with (at_builtin; refine wpList_append_ints rfl _ _ rfl w10.heap.size _ _ _ rfl (unhide hrow3) _ _ _ _ C rfl (unhide hA4) ?be ?bf ?_)
  try (case be => omega)
  try (case bf => exact (unhide hb4).size)
  intro v3 w13 hrow5 hg5
  have hb5 := (unhide hb4).trans (row_below (unhide hrow3) (unhide hb4).size hg5)
  rw [vints_mid] at hrow5
  clear hrow3 hb4 hA4 hg5
  obtain ⟨sa, sc, rfl, -, hS⟩ := own_lst hrow5 (unhide hiP).1
  rw [unhide hen'] at hS ⊢
  have hx13 := (unhide hx10).under hb5
  have hl13 := (unhide hl10).under hb5
  have hA13 := (unhide hA10).under hb5
  have hB13 := (unhide hB10).under hb5
  have hD13 := (unhide hD10).under hb5
  have hE13 := (unhide hE).under hb5
  have hF13 := (unhide hF).under hb5
  have hz13 := (unhide hz10).trans (hb5.mono (unhide hz10).size)
  clear hrow5 hb5 hx10 hl10 hA10 hB10 hC10 hD10 hz10 hE hF hiY
  replace hx13 := hide hx13; replace hl13 := hide hl13; replace hA13 := hide hA13; replace hB13 := hide hB13; replace hD13 := hide hD13; replace hE13 := hide hE13; replace hF13 := hide hF13; replace hz13 := hide hz13; replace hS := hide hS
  have hb0 : Below w13.heap.size w13 (w13.alloc (Obj.cells #[] 3)) := (Below.refl _ _).alloc (Nat.le_refl _) _
  have hrow0 := own_lit (base := w13.heap.size) (s := 1) (n := 0) (heap_alloc_new w13 (Obj.cells #[] 3)) (Nat.le_refl _) (by decide) rfl
  have hA0 := (unhide hB13).below hb0
  replace hA0 := hide hA0; replace hrow0 := hide hrow0; replace hb0 := hide hb0
  go_wp2_with (at_builtin; refine wpList_append_ints rfl _ _ rfl w13.heap.size _ 0 _ rfl (unhide hrow0) _ _ _ _ B rfl (unhide hA0) ?ca ?cb ?_)
  try (case ca => omega)
  try (case cb => rw [World.size_alloc]; omega)
  intro v1 w14 hrow1 hg1
  have hb1 := (unhide hb0).trans (row_below (unhide hrow0) (unhide hb0).size hg1)
  have hb2 := (Below.refl w14.heap.size w14).alloc (Nat.le_refl _) (Obj.cells #[.int .i64 (xn : Int)] 3)
  have hrow2 : (w14.alloc (Obj.cells #[.int .i64 (xn : Int)] 3)).ownsRow w13.heap.size 3 1 v1 bn (vints B) := by have := own_belowb hrow1 hb2; first | exact this | (rwa [Nat.zero_add] at this)
  have hb3 := hb1.trans (hb2.mono hb1.size)
  have hs3 := hb3.size
  have hc4 := heap_alloc_new w14 (Obj.cells #[.int .i64 (xn : Int)] 3)
  clear hrow0 hA0 hb0 hrow1 hg1 hb1 hb2
  replace hrow2 := hide hrow2; replace hb3 := hide hb3; replace hc4 := hide hc4
  go_wp2_with (at_builtin; refine wpList_append_one rfl _ _ rfl w13.heap.size _ _ B rfl (unhide hrow2) _ (xn : Int) rfl (unhide hc4) ?cc ?cd ?_)
  try (case cc => omega)
  try (case cd => exact hs3)
  intro v2 w15 hrow3 hg3 _
  have hb4 := (unhide hb3).trans (row_below (unhide hrow2) (unhide hb3).size hg3)
  clear hrow2 hb3 hc4 hg3 hs3
  replace hrow3 := hide hrow3; replace hb4 := hide hb4
  go_wp2_with fail
  go_loopw [19, 75] (fun u v wr => ∃ k : Nat, k ≤ dn ∧ v = .int .i64 (k : Int) ∧ wr.ownsRow w13.heap.size 3 1 u (bn + 1 + k) (vints (B ++ (xn : Int) :: ((D.take k).map fun j => (xn : Int) + 1 + j))) ∧ Below w13.heap.size w13 wr) (fun _ v _ => dn - (intOf v).toNat)
  case atStart => exact ⟨0, by omega, rfl, unhide hrow3, unhide hb4⟩
  case round =>
    clear hrow3 hb4
    obtain ⟨k, hk, rfl, hrow, hb⟩ := hrel
    obtain ⟨wo, rfl⟩ : ∃ wo : World, wo = wr := ⟨_, rfl⟩
    by_cases hlt : k < dn
    · obtain ⟨bD, oD, dv, rfl, _, hdv, hdi, cD⟩ := lst_int (((unhide hD13).below hb).wide (fun b h => Nat.lt_of_lt_of_le h hb.size)) hlt
      have hdr := unhide hin dv (List.mem_of_getElem? hdv)
      have hsn : (B ++ (xn : Int) :: ((D.take k).map fun j => (xn : Int) + 1 + j)) ++ [(xn : Int) + 1 + dv] = B ++ (xn : Int) :: ((D.take (k + 1)).map fun j => (xn : Int) + 1 + j) := by rw [← take_snoc hdv, List.map_append, List.append_assoc]; rfl
      have tw1 : IntKind.i64.wrap ((xn : Int) + 1) = (xn : Int) + 1 := IntWalk.i64_in _ (by omega)
      have tw2 : IntKind.i64.wrap ((xn : Int) + 1 + dv) = (xn : Int) + 1 + dv := IntWalk.i64_in _ (by omega)
      obtain ⟨Fk, hFk⟩ : ∃ Fk, B ++ (xn : Int) :: ((D.take k).map fun j => (xn : Int) + 1 + j) = Fk := ⟨_, rfl⟩
      rw [hFk] at hsn hrow
      clear hFk
      have hbo := (Below.refl wo.heap.size wo).alloc (Nat.le_refl _) (Obj.cells #[.int .i64 ((xn : Int) + 1 + dv)] 3)
      have hrow2 := own_belowb hrow hbo
      have hb3 := hb.trans (hbo.mono hb.size)
      have hs3 := hb3.size
      have hc4 := heap_alloc_new wo (Obj.cells #[.int .i64 ((xn : Int) + 1 + dv)] 3)
      clear hrow hb hbo hdv
      replace hrow2 := hide hrow2; replace hb3 := hide hb3; replace hc4 := hide hc4; replace hsn := hide hsn; replace hdr := hide hdr
      go_wp2_with (at_builtin; refine wpList_append_one rfl _ _ rfl w13.heap.size _ _ Fk rfl (unhide hrow2) _ _ rfl (unhide hc4) ?da ?db ?_)
      try (case da => omega)
      try (case db => exact hs3)
      intro v' w16 hrow3 hg3 _
      have hb4 := (unhide hb3).trans (row_below (unhide hrow2) (unhide hb3).size hg3)
      rw [unhide hsn] at hrow3
      clear hrow2 hb3 hc4 hg3 hs3 hsn
      replace hrow3 := hide hrow3; replace hb4 := hide hb4
      go_wp2_with fail
      go_roundw
      case rel => exact ⟨k + 1, by omega, by go_num, unhide hrow3, unhide hb4⟩
      case measure => simp [intOf]; omega
    · have hke : k = dn := by omega
      rw [List.take_of_length_le (by rw [unhide hdn, hke]; exact Nat.le_refl _)] at hrow
      have hs16 := hb.size
      obtain ⟨ra, rc, rfl, -, hR⟩ := own_lst hrow (unhide hiP).2
      rw [unhide hfn'] at hR ⊢
      have hx16 := (unhide hx13).under hb
      have hl16 := (unhide hl13).under hb
      have hA16 := (unhide hA13).under hb
      have hB16 := (unhide hB13).under hb
      have hE16 := (unhide hE13).under hb
      have hF16 := (unhide hF13).under hb
      have hS16 := (unhide hS).under hb
      have hz16 := (unhide hz13).trans (hb.mono (unhide hz13).size)
      have hs := sameInts_blw a5 en c5 _ sa en sc _ wo hE16 hS16 (by have := unhide hen; omega) (by have := unhide hen; omega)
      rw [decide_eq_true rfl] at hs
      clear hrow hb hx13 hl13 hA13 hB13 hD13 hE13 hF13 hS hz13 hE16 hS16
      replace hke := hide hke; replace hR := hide hR; replace hx16 := hide hx16; replace hl16 := hide hl16; replace hA16 := hide hA16; replace hB16 := hide hB16; replace hF16 := hide hF16; replace hz16 := hide hz16; replace hs := hide hs
      go_wp2_with fail
      refine (unhide hs).mono ?_
      rintro e w17 ⟨rfl, hb⟩
      have hx17 := (unhide hx16).under hb
      have hl17 := (unhide hl16).under hb
      have hA17 := (unhide hA16).under hb
      have hB17 := (unhide hB16).under hb
      have hz17 := (unhide hz16).trans (hb.mono (unhide hz16).size)
      have hs := sameInts_blw a6 fn c6 _ ra fn rc _ w17 ((unhide hF16).under hb) ((unhide hR).under hb) (by have := unhide hfn; omega) (by have := unhide hfn; omega)
      rw [decide_eq_true rfl] at hs
      clear hR hx16 hl16 hA16 hB16 hF16 hz16 hb
      replace hx17 := hide hx17; replace hl17 := hide hl17; replace hA17 := hide hA17; replace hB17 := hide hB17; replace hz17 := hide hz17; replace hs := hide hs
      go_wp2_with fail
      refine (unhide hs).mono ?_
      rintro e w18 ⟨rfl, hb⟩
      have hx18 := (unhide hx17).under hb
      have hl18 := (unhide hl17).under hb
      have hA18 := (unhide hA17).under hb
      have hB18 := (unhide hB17).under hb
      have hz18 := (unhide hz17).trans (hb.mono (unhide hz17).size)
      have hc := few_any0 la ln lc l w18 hl18 (by omega)
      clear hx17 hl17 hA17 hB17 hz17 hb hs
      replace hx18 := hide hx18; replace hl18 := hide hl18; replace hA18 := hide hA18; replace hB18 := hide hB18; replace hz18 := hide hz18; replace hc := hide hc
      go_wp2_with fail
      refine (unhide hc).mono ?_
      rintro e w19 ⟨v, us, rfl, hF⟩
      rw [fewS_good (unhide hlg)] at hF
      have hR := RenS.start hF
      have hus := hR.len
      rw [unhide hln] at hus
      obtain ⟨oa, oc, hv⟩ := own_shape hR.out
      rw [hus] at hv
      subst hv
      obtain ⟨Bq, hBq⟩ : ∃ B, w18.heap.size = B := ⟨_, rfl⟩
      rw [hBq] at hR
      clear hF hc
      replace hus := hide hus; replace hBq := hide hBq; replace hR := hide hR
      go_wp2_with fail
      go_loopw [104] (fun v wr => ∃ k : Nat, k ≤ ln ∧ v = .int .i64 (k : Int) ∧ RenS w18 wr Bq (.slice oa ln oc) us l (fun k' => if k' < k then 1000 else 0)) (fun v _ => ln - (intOf v).toNat)
      case atStart => exact ⟨0, by omega, rfl, (unhide hR).full (fun k x hx => .inl (by simp))⟩
      case round =>
        clear hR
        obtain ⟨k, hk, rfl, hR⟩ := hrel
        obtain ⟨wo, rfl⟩ : ∃ wo : World, wo = wr := ⟨_, rfl⟩
        by_cases hlt : k < ln
        · have hx : l[k]? = some (l[k]'(by have := unhide hln; omega)) := List.getElem?_eq_getElem _
          obtain ⟨x, hxe⟩ : ∃ x, l[k]'(by have := unhide hln; omega) = x := ⟨_, rfl⟩
          rw [hxe] at hx
          have hxl := ((unhide hlg).2 x (List.mem_of_getElem? hx)).1
          obtain ⟨xl, hxle⟩ : ∃ xl, x.length = xl := ⟨_, rfl⟩
          rw [hxle] at hxl
          have hu : us[k]? = some (us[k]'(by have := unhide hus; omega)) := List.getElem?_eq_getElem _
          obtain ⟨ua, uc, hue⟩ : ∃ ua uc, us[k]'(by have := unhide hus; omega) = .slice ua xl uc := by
            rcases hR.row k _ x hu hx with ⟨h0, he⟩ | ⟨g, c, cs, he, _⟩
            · exact ⟨none, 0, by rw [he]; congr 1; omega⟩
            · exact ⟨_, c, by rw [he, hxle]⟩
          rw [hue] at hu
          obtain ⟨go, hgo, cO⟩ : ∃ go, oa = some ⟨go, 0, none⟩ ∧ ∀ W, RenS w18 W Bq (.slice oa ln oc) us l (fun _ => 0) ∨ W.ownsRow Bq 37 1 (.slice oa ln oc) us.length us → W.cell? ⟨go, k, none⟩ = some (.slice ua xl uc) := by
            have hO := hR.out
            rcases hO.2 with ⟨h, h0⟩ | ⟨g, cap, cur, hval, hbg, hg, hn, hc', hcs, htl⟩
            · have := unhide hus; omega
            · injection hval with h1 h2 h3
              refine ⟨g, h1, fun W hW => ?_⟩
              have hO' : W.ownsRow Bq 37 1 (.slice oa ln oc) us.length us := hW.elim (fun h => h.out) id
              have hcell := hO'.cells (g := g) (by rw [h1]; rfl) k _ hu
              rw [Addr.add_lit, Nat.zero_add] at hcell
              exact hcell
          subst hgo
          have cOo := cO wo (.inr hR.out)
          have t1 : (k : Int) < (ln : Int) := by omega
          have t2 : ¬ (ln : Int) ≤ (k : Int) := by omega
          clear hxe hue
          replace hR := hide hR; replace hx := hide hx; replace hxle := hide hxle; replace hu := hide hu; replace cO := hide cO
          go_wp2_with fail
          clear cOo
          go_loopw [113] (fun v wr => ∃ i : Nat, i ≤ xl ∧ v = .int .i64 (i : Int) ∧ RenS w18 wr Bq (.slice (some ⟨go, 0, none⟩) ln oc) us l (fun k' => if k' = k then i else if k' < k then 1000 else 0)) (fun v _ => xl - (intOf v).toNat)
          case atStart => exact ⟨0, by omega, rfl, (unhide hR).full (fun k' x hx => .inl (by by_cases h : k' = k <;> simp [h]))⟩
          case round =>
            clear hR
            obtain ⟨i, hi, rfl, hR⟩ := hrel
            obtain ⟨wp, rfl⟩ : ∃ wo : World, wo = wr := ⟨_, rfl⟩
            by_cases hlt2 : i < xl
            · have hs : x[i]? = some (x[i]'(by have := unhide hxle; omega)) := List.getElem?_eq_getElem _
              obtain ⟨s, hse⟩ : ∃ s, x[i]'(by have := unhide hxle; omega) = s := ⟨_, rfl⟩
              rw [hse] at hs
              obtain ⟨g, c, a1', n1, c1', a2', n2, c2', a3', n3, c3', hug, hBg, ⟨cs, hcs⟩, ⟨p11, p12, p1⟩, ⟨p21, p22, p2⟩, ⟨p31, p32, p3⟩, s0, s1, s2, s3⟩ := hR.sub (i := i) (unhide hx) hs (if_pos rfl)
              obtain ⟨hg1, hg2, hg3⟩ : ua = some ⟨g, 0, none⟩ ∧ x.length = xl ∧ uc = c := by
                have := (unhide hu).symm.trans hug
                injection this with this
                injection this with e1 e2 e3
                exact ⟨e1, unhide hxle, e3⟩
              subst hg1
              subst hg3
              have cOp := (unhide cO) wp (.inr hR.out)
              have hgood := ((unhide hlg).2 x (List.mem_of_getElem? (unhide hx))).2 s (List.mem_of_getElem? hs)
              have t3 : (i : Int) < (xl : Int) := by omega
              have t4 : ¬ (xl : Int) ≤ (i : Int) := by omega
              obtain ⟨tv, htv⟩ : ∃ tv, s.2.2.2 = tv := ⟨_, rfl⟩
              rw [htv] at s3
              clear hse hg2
              replace hR := hide hR; replace hs := hide hs; replace hug := hide hug; replace hgood := hide hgood; replace htv := hide htv; replace p1 := hide p1; replace p2 := hide p2; replace p3 := hide p3; replace hcs := hide hcs
              have hsz : i * 4 + 3 < cs.size := by
                have := (cell_of_row _ _ _ _ _ _ (unhide hcs)).symm.trans s3
                exact (Array.getElem?_eq_some_iff.1 this).1
              have hto : 0 ≤ tv ∧ tv < 4 := by have := (unhide hgood).2.2.2.2; rwa [unhide htv] at this
              have tm1 : IntKind.i64.wrap (9 * tv) = 9 * tv := IntWalk.i64_in _ (by omega)
              have tm2 : IntKind.i64.wrap (70 - 9 * tv) = 70 - 9 * tv := IntWalk.i64_in _ (by omega)
              have hr1 : ∀ w, Below wp.heap.size wp w → Calls Try.prog 20 #[.slice a1' n1 c1'] w fun e w' => ∃ v, e = .returned v ∧ w'.ownsRow w.heap.size 3 1 v (renS s.1).length (vints (renS s.1)) ∧ Below w.heap.size w w' := fun w hb => renamed_any a1' n1 c1' s.1 w (((unhide p1).same (fun b hb' => hb.block b hb'.1)).wide (fun b hb' => Nat.lt_of_lt_of_le hb'.1 hb.size)) (by have := (unhide p1).1; have := (unhide hgood).1; omega) (fun y hy => by have := (unhide hgood).2.1 y hy; omega)
              have hr2 : ∀ w, Below wp.heap.size wp w → Calls Try.prog 20 #[.slice a2' n2 c2'] w fun e w' => ∃ v, e = .returned v ∧ w'.ownsRow w.heap.size 3 1 v (renS s.2.1).length (vints (renS s.2.1)) ∧ Below w.heap.size w w' := fun w hb => renamed_any a2' n2 c2' s.2.1 w (((unhide p2).same (fun b hb' => hb.block b hb'.1)).wide (fun b hb' => Nat.lt_of_lt_of_le hb'.1 hb.size)) (by have := (unhide p2).1; have := (unhide hgood).1; omega) (fun y hy => by have := (unhide hgood).2.2.1 y hy; omega)
              have hr3 : ∀ w, Below wp.heap.size wp w → Calls Try.prog 20 #[.slice a3' n3 c3'] w fun e w' => ∃ v, e = .returned v ∧ w'.ownsRow w.heap.size 3 1 v (renS s.2.2.1).length (vints (renS s.2.2.1)) ∧ Below w.heap.size w w' := fun w hb => renamed_any a3' n3 c3' s.2.2.1 w (((unhide p3).same (fun b hb' => hb.block b hb'.1)).wide (fun b hb' => Nat.lt_of_lt_of_le hb'.1 hb.size)) (by have := (unhide p3).1; have := (unhide hgood).1; omega) (fun y hy => by have := (unhide hgood).2.2.2.1 y hy; omega)
              have hI1 : AllI (renS s.1) := renS_i64 (fun y hy => by have := (unhide hgood).2.1 y hy; omega)
              have hI2 : AllI (renS s.2.1) := renS_i64 (fun y hy => by have := (unhide hgood).2.2.1 y hy; omega)
              have hI3 : AllI (renS s.2.2.1) := renS_i64 (fun y hy => by have := (unhide hgood).2.2.2.1 y hy; omega)
              clear p1 p2 p3
              replace hr1 := hide hr1; replace hr2 := hide hr2; replace hr3 := hide hr3; replace hI1 := hide hI1; replace hI2 := hide hI2; replace hI3 := hide hI3; replace hto := hide hto
              go_wp2_with fail
              refine wp_region_frontG 36 (fun LL vs w' => CP wp g (i * 4) LL vs w') (RN wp)
                (fun ix v w' => match ix with
                  | 0 => v = .pointer (some ⟨g, i * 4, none⟩)
                  | 1 => v = .pointer (some ⟨g, i * 4, none⟩)
                  | 2 => v = .pointer (some ⟨g, i * 4, none⟩)
                  | 3 => v = .pointer (some ⟨g, i * 4, none⟩)
                  | 4 => v = .pointer (some ⟨g, i * 4, none⟩)
                  | 5 => v = .pointer (some ⟨g, i * 4, none⟩)
                  | 6 => v = .pointer (some ⟨g, i * 4, none⟩)
                  | 7 => v = .slice a1' n1 c1'
                  | 8 => ∃ a n c, v = .slice a n c ∧ n ≤ c ∧ c ≤ maxLen ∧ Lst Enc.int w' (fun b => wp.heap.size ≤ b ∧ b < w'.heap.size) a n (renS s.1)
                  | 9 => v = .pointer (some ⟨g, i * 4, none⟩)
                  | 10 => v = .pointer (some ⟨g, i * 4, none⟩)
                  | 11 => v = .pointer (some ⟨g, i * 4 + 1, none⟩)
                  | 12 => v = .slice a2' n2 c2'
                  | 13 => ∃ a n c, v = .slice a n c ∧ n ≤ c ∧ c ≤ maxLen ∧ Lst Enc.int w' (fun b => wp.heap.size ≤ b ∧ b < w'.heap.size) a n (renS s.2.1)
                  | 14 => v = .pointer (some ⟨g, i * 4, none⟩)
                  | 15 => v = .pointer (some ⟨g, i * 4, none⟩)
                  | 16 => v = .pointer (some ⟨g, i * 4 + 2, none⟩)
                  | 17 => v = .slice a3' n3 c3'
                  | 18 => ∃ a n c, v = .slice a n c ∧ n ≤ c ∧ c ≤ maxLen ∧ Lst Enc.int w' (fun b => wp.heap.size ≤ b ∧ b < w'.heap.size) a n (renS s.2.2.1)
                  | 19 => v = .pointer (some ⟨g, i * 4, none⟩)
                  | 20 => v = .pointer (some ⟨g, i * 4, none⟩)
                  | 21 => v = .pointer (some ⟨g, i * 4 + 3, none⟩)
                  | 22 => v = .int .i64 tv
                  | 23 => v = .int .i64 (9 * tv)
                  | 24 => v = .int .i64 (70 - 9 * tv)
                  | 25 => v = .pointer (some ⟨g, i * 4, none⟩)
                  | 26 => v = .pointer (some ⟨g, i * 4, none⟩)
                  | 27 => v = .bool true
                  | 28 => v = .pointer (some ⟨g, i * 4, none⟩)
                  | 29 => v = .pointer (some ⟨g, i * 4 + 1, none⟩)
                  | 30 => v = .bool true
                  | 31 => v = .pointer (some ⟨g, i * 4, none⟩)
                  | 32 => v = .pointer (some ⟨g, i * 4 + 2, none⟩)
                  | 33 => v = .bool true
                  | 34 => v = .pointer (some ⟨g, i * 4, none⟩)
                  | 35 => v = .pointer (some ⟨g, i * 4 + 3, none⟩)
                  | _ => True) (by rfl) (by kernel_rfl) ?_ ?_ ?_ ?_
              · exact CP.start wp g (i * 4)
              · intro wa wb hRN ix v hv
                match ix, hv with
                | 0, h => exact h
                | 1, h => exact h
                | 2, h => exact h
                | 3, h => exact h
                | 4, h => exact h
                | 5, h => exact h
                | 6, h => exact h
                | 7, h => exact h
                | 8, h => obtain ⟨a, n, c, h1, h2, h3, h4⟩ := h; exact ⟨a, n, c, h1, h2, h3, (h4.same (fun b hb => hRN.2 b hb.1 hb.2)).wide (fun b hb => ⟨hb.1, Nat.lt_of_lt_of_le hb.2 hRN.1⟩)⟩
                | 9, h => exact h
                | 10, h => exact h
                | 11, h => exact h
                | 12, h => exact h
                | 13, h => obtain ⟨a, n, c, h1, h2, h3, h4⟩ := h; exact ⟨a, n, c, h1, h2, h3, (h4.same (fun b hb => hRN.2 b hb.1 hb.2)).wide (fun b hb => ⟨hb.1, Nat.lt_of_lt_of_le hb.2 hRN.1⟩)⟩
                | 14, h => exact h
                | 15, h => exact h
                | 16, h => exact h
                | 17, h => exact h
                | 18, h => obtain ⟨a, n, c, h1, h2, h3, h4⟩ := h; exact ⟨a, n, c, h1, h2, h3, (h4.same (fun b hb => hRN.2 b hb.1 hb.2)).wide (fun b hb => ⟨hb.1, Nat.lt_of_lt_of_le hb.2 hRN.1⟩)⟩
                | 19, h => exact h
                | 20, h => exact h
                | 21, h => exact h
                | 22, h => exact h
                | 23, h => exact h
                | 24, h => exact h
                | 25, h => exact h
                | 26, h => exact h
                | 27, h => exact h
                | 28, h => exact h
                | 29, h => exact h
                | 30, h => exact h
                | 31, h => exact h
                | 32, h => exact h
                | 33, h => exact h
                | 34, h => exact h
                | 35, h => exact h
                | _ + 36, _ => trivial
              · intro ix hix
                obtain rfl | rfl | rfl | rfl | rfl | rfl | rfl | rfl | rfl | rfl | rfl | rfl | rfl | rfl | rfl | rfl | rfl | rfl | rfl | rfl | rfl | rfl | rfl | rfl | rfl | rfl | rfl | rfl | rfl | rfl | rfl | rfl | rfl | rfl | rfl | rfl : ix = 0 ∨ ix = 1 ∨ ix = 2 ∨ ix = 3 ∨ ix = 4 ∨ ix = 5 ∨ ix = 6 ∨ ix = 7 ∨ ix = 8 ∨ ix = 9 ∨ ix = 10 ∨ ix = 11 ∨ ix = 12 ∨ ix = 13 ∨ ix = 14 ∨ ix = 15 ∨ ix = 16 ∨ ix = 17 ∨ ix = 18 ∨ ix = 19 ∨ ix = 20 ∨ ix = 21 ∨ ix = 22 ∨ ix = 23 ∨ ix = 24 ∨ ix = 25 ∨ ix = 26 ∨ ix = 27 ∨ ix = 28 ∨ ix = 29 ∨ ix = 30 ∨ ix = 31 ∨ ix = 32 ∨ ix = 33 ∨ ix = 34 ∨ ix = 35 := by omega
                · refine FrontStep.of [] _ rfl (by kernel_rfl) ?_
                  intro vs LL wq hLL hC hf
                  simp only [putL, List.foldl_nil]
                  go_wp2_with fail
                  first | exact ⟨hC.keep 0 _ (by decide), RN.below (Below.refl _ _)⟩ | exact ⟨hC.keep 0 _ (by decide), RN.below (Below.refl _ _), by omega⟩
                · refine FrontStep.of [] _ rfl (by kernel_rfl) ?_
                  intro vs LL wq hLL hC hf
                  simp only [putL, List.foldl_nil]
                  go_wp2_with fail
                  first | exact ⟨hC.keep 1 _ (by decide), RN.below (Below.refl _ _)⟩ | exact ⟨hC.keep 1 _ (by decide), RN.below (Below.refl _ _), by omega⟩
                · refine FrontStep.of [] _ rfl (by kernel_rfl) ?_
                  intro vs LL wq hLL hC hf
                  simp only [putL, List.foldl_nil]
                  go_wp2_with fail
                  first | exact ⟨hC.keep 2 _ (by decide), RN.below (Below.refl _ _)⟩ | exact ⟨hC.keep 2 _ (by decide), RN.below (Below.refl _ _), by omega⟩
                · refine FrontStep.of [] _ rfl (by kernel_rfl) ?_
                  intro vs LL wq hLL hC hf
                  simp only [putL, List.foldl_nil]
                  go_wp2_with fail
                  first | exact ⟨hC.keep 3 _ (by decide), RN.below (Below.refl _ _)⟩ | exact ⟨hC.keep 3 _ (by decide), RN.below (Below.refl _ _), by omega⟩
                · refine FrontStep.of [] _ rfl (by kernel_rfl) ?_
                  intro vs LL wq hLL hC hf
                  simp only [putL, List.foldl_nil]
                  go_wp2_with fail
                  first | exact ⟨hC.keep 4 _ (by decide), RN.below (Below.refl _ _)⟩ | exact ⟨hC.keep 4 _ (by decide), RN.below (Below.refl _ _), by omega⟩
                · refine FrontStep.of [4] _ rfl (by kernel_rfl) ?_
                  intro vs LL wq hLL hC hf
                  simp only [putL, List.foldl_nil, List.foldl_cons, List.getElem?_cons_zero, List.getElem?_cons_succ]
                  have e4 : vs 4 = _ := hf 4 (by simp)
                  try rw [e4]
                  go_wp2_with fail
                  first | exact ⟨hC.keep 5 _ (by decide), RN.below (Below.refl _ _)⟩ | exact ⟨hC.keep 5 _ (by decide), RN.below (Below.refl _ _), by omega⟩
                · refine FrontStep.of [5] _ rfl (by kernel_rfl) ?_
                  intro vs LL wq hLL hC hf
                  simp only [putL, List.foldl_nil, List.foldl_cons, List.getElem?_cons_zero, List.getElem?_cons_succ]
                  have e5 : vs 5 = _ := hf 5 (by simp)
                  try rw [e5]
                  go_wp2_with fail
                  first | exact ⟨hC.keep 6 _ (by decide), RN.below (Below.refl _ _)⟩ | exact ⟨hC.keep 6 _ (by decide), RN.below (Below.refl _ _), by omega⟩
                · refine FrontStep.of [6] _ rfl (by kernel_rfl) ?_
                  intro vs LL wq hLL hC hf
                  simp only [putL, List.foldl_nil, List.foldl_cons, List.getElem?_cons_zero, List.getElem?_cons_succ]
                  have e6 : vs 6 = _ := hf 6 (by simp)
                  try rw [e6]
                  have hcq := cell_under s0 (hC.calm (hC.early (j := 7) hLL (by decide))).1
                  go_wp2_with fail
                  exact ⟨hC.keep 7 _ (by decide), RN.below (Below.refl _ _)⟩
                · refine FrontStep.of [7] _ rfl (by kernel_rfl) ?_
                  intro vs LL wq hLL hC hf
                  simp only [putL, List.foldl_nil, List.foldl_cons, List.getElem?_cons_zero, List.getElem?_cons_succ]
                  have e7 : vs 7 = _ := hf 7 (by simp)
                  try rw [e7]
                  have hcc := unhide hr1 wq (hC.calm (hC.early (j := 8) hLL (by decide))).1
                  replace hcc := hide hcc
                  go_wp2_with fail
                  refine (unhide hcc).mono ?_
                  rintro e wz ⟨v, rfl, hown, hbz⟩
                  obtain ⟨za, zc, rfl, z1, z2, z3⟩ := own_lst2 hown (unhide hI1)
                  have hsq := hC.size
                  clear hown hcc
                  go_wp2_with fail
                  first | exact ⟨hC.call 8 _ hLL (by decide) hbz, RN.below hbz, _, _, _, rfl, z1, z2, z3.wide (fun b hb => ⟨by omega, hb.2⟩)⟩ | exact ⟨hC.call 8 _ hLL (by decide) hbz, RN.below hbz, z1, z2, z3.wide (fun b hb => ⟨by omega, hb.2⟩)⟩ | exact ⟨hC.call 8 _ hLL (by decide) hbz, RN.below hbz, _, _, _, ⟨rfl, rfl, rfl⟩, z1, z2, z3.wide (fun b hb => ⟨by omega, hb.2⟩)⟩
                · refine FrontStep.of [] _ rfl (by kernel_rfl) ?_
                  intro vs LL wq hLL hC hf
                  simp only [putL, List.foldl_nil]
                  go_wp2_with fail
                  first | exact ⟨hC.keep 9 _ (by decide), RN.below (Below.refl _ _)⟩ | exact ⟨hC.keep 9 _ (by decide), RN.below (Below.refl _ _), by omega⟩
                · refine FrontStep.of [9] _ rfl (by kernel_rfl) ?_
                  intro vs LL wq hLL hC hf
                  simp only [putL, List.foldl_nil, List.foldl_cons, List.getElem?_cons_zero, List.getElem?_cons_succ]
                  have e9 : vs 9 = _ := hf 9 (by simp)
                  try rw [e9]
                  go_wp2_with fail
                  first | exact ⟨hC.keep 10 _ (by decide), RN.below (Below.refl _ _)⟩ | exact ⟨hC.keep 10 _ (by decide), RN.below (Below.refl _ _), by omega⟩
                · refine FrontStep.of [10] _ rfl (by kernel_rfl) ?_
                  intro vs LL wq hLL hC hf
                  simp only [putL, List.foldl_nil, List.foldl_cons, List.getElem?_cons_zero, List.getElem?_cons_succ]
                  have e10 : vs 10 = _ := hf 10 (by simp)
                  try rw [e10]
                  go_wp2_with fail
                  first | exact ⟨hC.keep 11 _ (by decide), RN.below (Below.refl _ _)⟩ | exact ⟨hC.keep 11 _ (by decide), RN.below (Below.refl _ _), by omega⟩
                · refine FrontStep.of [11] _ rfl (by kernel_rfl) ?_
                  intro vs LL wq hLL hC hf
                  simp only [putL, List.foldl_nil, List.foldl_cons, List.getElem?_cons_zero, List.getElem?_cons_succ]
                  have e11 : vs 11 = _ := hf 11 (by simp)
                  try rw [e11]
                  have hcq := cell_under s1 (hC.calm (hC.early (j := 12) hLL (by decide))).1
                  go_wp2_with fail
                  exact ⟨hC.keep 12 _ (by decide), RN.below (Below.refl _ _)⟩
                · refine FrontStep.of [8, 12] _ rfl (by kernel_rfl) ?_
                  intro vs LL wq hLL hC hf
                  simp only [putL, List.foldl_nil, List.foldl_cons, List.getElem?_cons_zero, List.getElem?_cons_succ]
                  obtain ⟨ya8, yn8, yc8, e8, -⟩ := hf 8 (by simp)
                  try rw [e8]
                  have e12 : vs 12 = _ := hf 12 (by simp)
                  try rw [e12]
                  have hcc := unhide hr2 wq (hC.calm (hC.early (j := 13) hLL (by decide))).1
                  replace hcc := hide hcc
                  go_wp2_with fail
                  refine (unhide hcc).mono ?_
                  rintro e wz ⟨v, rfl, hown, hbz⟩
                  obtain ⟨za, zc, rfl, z1, z2, z3⟩ := own_lst2 hown (unhide hI2)
                  have hsq := hC.size
                  clear hown hcc
                  go_wp2_with fail
                  first | exact ⟨hC.call 13 _ hLL (by decide) hbz, RN.below hbz, _, _, _, rfl, z1, z2, z3.wide (fun b hb => ⟨by omega, hb.2⟩)⟩ | exact ⟨hC.call 13 _ hLL (by decide) hbz, RN.below hbz, z1, z2, z3.wide (fun b hb => ⟨by omega, hb.2⟩)⟩ | exact ⟨hC.call 13 _ hLL (by decide) hbz, RN.below hbz, _, _, _, ⟨rfl, rfl, rfl⟩, z1, z2, z3.wide (fun b hb => ⟨by omega, hb.2⟩)⟩
                · refine FrontStep.of [] _ rfl (by kernel_rfl) ?_
                  intro vs LL wq hLL hC hf
                  simp only [putL, List.foldl_nil]
                  go_wp2_with fail
                  first | exact ⟨hC.keep 14 _ (by decide), RN.below (Below.refl _ _)⟩ | exact ⟨hC.keep 14 _ (by decide), RN.below (Below.refl _ _), by omega⟩
                · refine FrontStep.of [14] _ rfl (by kernel_rfl) ?_
                  intro vs LL wq hLL hC hf
                  simp only [putL, List.foldl_nil, List.foldl_cons, List.getElem?_cons_zero, List.getElem?_cons_succ]
                  have e14 : vs 14 = _ := hf 14 (by simp)
                  try rw [e14]
                  go_wp2_with fail
                  first | exact ⟨hC.keep 15 _ (by decide), RN.below (Below.refl _ _)⟩ | exact ⟨hC.keep 15 _ (by decide), RN.below (Below.refl _ _), by omega⟩
                · refine FrontStep.of [15] _ rfl (by kernel_rfl) ?_
                  intro vs LL wq hLL hC hf
                  simp only [putL, List.foldl_nil, List.foldl_cons, List.getElem?_cons_zero, List.getElem?_cons_succ]
                  have e15 : vs 15 = _ := hf 15 (by simp)
                  try rw [e15]
                  go_wp2_with fail
                  first | exact ⟨hC.keep 16 _ (by decide), RN.below (Below.refl _ _)⟩ | exact ⟨hC.keep 16 _ (by decide), RN.below (Below.refl _ _), by omega⟩
                · refine FrontStep.of [16] _ rfl (by kernel_rfl) ?_
                  intro vs LL wq hLL hC hf
                  simp only [putL, List.foldl_nil, List.foldl_cons, List.getElem?_cons_zero, List.getElem?_cons_succ]
                  have e16 : vs 16 = _ := hf 16 (by simp)
                  try rw [e16]
                  have hcq := cell_under s2 (hC.calm (hC.early (j := 17) hLL (by decide))).1
                  go_wp2_with fail
                  exact ⟨hC.keep 17 _ (by decide), RN.below (Below.refl _ _)⟩
                · refine FrontStep.of [13, 17] _ rfl (by kernel_rfl) ?_
                  intro vs LL wq hLL hC hf
                  simp only [putL, List.foldl_nil, List.foldl_cons, List.getElem?_cons_zero, List.getElem?_cons_succ]
                  obtain ⟨ya13, yn13, yc13, e13, -⟩ := hf 13 (by simp)
                  try rw [e13]
                  have e17 : vs 17 = _ := hf 17 (by simp)
                  try rw [e17]
                  have hcc := unhide hr3 wq (hC.calm (hC.early (j := 18) hLL (by decide))).1
                  replace hcc := hide hcc
                  go_wp2_with fail
                  refine (unhide hcc).mono ?_
                  rintro e wz ⟨v, rfl, hown, hbz⟩
                  obtain ⟨za, zc, rfl, z1, z2, z3⟩ := own_lst2 hown (unhide hI3)
                  have hsq := hC.size
                  clear hown hcc
                  go_wp2_with fail
                  first | exact ⟨hC.call 18 _ hLL (by decide) hbz, RN.below hbz, _, _, _, rfl, z1, z2, z3.wide (fun b hb => ⟨by omega, hb.2⟩)⟩ | exact ⟨hC.call 18 _ hLL (by decide) hbz, RN.below hbz, z1, z2, z3.wide (fun b hb => ⟨by omega, hb.2⟩)⟩ | exact ⟨hC.call 18 _ hLL (by decide) hbz, RN.below hbz, _, _, _, ⟨rfl, rfl, rfl⟩, z1, z2, z3.wide (fun b hb => ⟨by omega, hb.2⟩)⟩
                · refine FrontStep.of [] _ rfl (by kernel_rfl) ?_
                  intro vs LL wq hLL hC hf
                  simp only [putL, List.foldl_nil]
                  go_wp2_with fail
                  first | exact ⟨hC.keep 19 _ (by decide), RN.below (Below.refl _ _)⟩ | exact ⟨hC.keep 19 _ (by decide), RN.below (Below.refl _ _), by omega⟩
                · refine FrontStep.of [19] _ rfl (by kernel_rfl) ?_
                  intro vs LL wq hLL hC hf
                  simp only [putL, List.foldl_nil, List.foldl_cons, List.getElem?_cons_zero, List.getElem?_cons_succ]
                  have e19 : vs 19 = _ := hf 19 (by simp)
                  try rw [e19]
                  go_wp2_with fail
                  first | exact ⟨hC.keep 20 _ (by decide), RN.below (Below.refl _ _)⟩ | exact ⟨hC.keep 20 _ (by decide), RN.below (Below.refl _ _), by omega⟩
                · refine FrontStep.of [20] _ rfl (by kernel_rfl) ?_
                  intro vs LL wq hLL hC hf
                  simp only [putL, List.foldl_nil, List.foldl_cons, List.getElem?_cons_zero, List.getElem?_cons_succ]
                  have e20 : vs 20 = _ := hf 20 (by simp)
                  try rw [e20]
                  go_wp2_with fail
                  first | exact ⟨hC.keep 21 _ (by decide), RN.below (Below.refl _ _)⟩ | exact ⟨hC.keep 21 _ (by decide), RN.below (Below.refl _ _), by omega⟩
                · refine FrontStep.of [21] _ rfl (by kernel_rfl) ?_
                  intro vs LL wq hLL hC hf
                  simp only [putL, List.foldl_nil, List.foldl_cons, List.getElem?_cons_zero, List.getElem?_cons_succ]
                  have e21 : vs 21 = _ := hf 21 (by simp)
                  try rw [e21]
                  have hcq := cell_under s3 (hC.calm (hC.early (j := 22) hLL (by decide))).1
                  go_wp2_with fail
                  exact ⟨hC.keep 22 _ (by decide), RN.below (Below.refl _ _)⟩
                · refine FrontStep.of [22] _ rfl (by kernel_rfl) ?_
                  intro vs LL wq hLL hC hf
                  simp only [putL, List.foldl_nil, List.foldl_cons, List.getElem?_cons_zero, List.getElem?_cons_succ]
                  have e22 : vs 22 = _ := hf 22 (by simp)
                  try rw [e22]
                  go_wp2_with fail
                  first | exact ⟨hC.keep 23 _ (by decide), RN.below (Below.refl _ _)⟩ | exact ⟨hC.keep 23 _ (by decide), RN.below (Below.refl _ _), by omega⟩
                · refine FrontStep.of [23] _ rfl (by kernel_rfl) ?_
                  intro vs LL wq hLL hC hf
                  simp only [putL, List.foldl_nil, List.foldl_cons, List.getElem?_cons_zero, List.getElem?_cons_succ]
                  have e23 : vs 23 = _ := hf 23 (by simp)
                  try rw [e23]
                  go_wp2_with fail
                  first | exact ⟨hC.keep 24 _ (by decide), RN.below (Below.refl _ _)⟩ | exact ⟨hC.keep 24 _ (by decide), RN.below (Below.refl _ _), by omega⟩
                · refine FrontStep.of [0, 4, 5, 6, 7, 8, 12, 13, 17, 18, 22] _ rfl (by kernel_rfl) ?_
                  intro vs LL wq hLL hC hf
                  simp only [putL, List.foldl_nil, List.foldl_cons, List.getElem?_cons_zero, List.getElem?_cons_succ]
                  have e0 : vs 0 = _ := hf 0 (by simp)
                  try rw [e0]
                  have e4 : vs 4 = _ := hf 4 (by simp)
                  try rw [e4]
                  have e5 : vs 5 = _ := hf 5 (by simp)
                  try rw [e5]
                  have e6 : vs 6 = _ := hf 6 (by simp)
                  try rw [e6]
                  have e7 : vs 7 = _ := hf 7 (by simp)
                  try rw [e7]
                  obtain ⟨ya8, yn8, yc8, e8, -⟩ := hf 8 (by simp)
                  try rw [e8]
                  have e12 : vs 12 = _ := hf 12 (by simp)
                  try rw [e12]
                  obtain ⟨ya13, yn13, yc13, e13, -⟩ := hf 13 (by simp)
                  try rw [e13]
                  have e17 : vs 17 = _ := hf 17 (by simp)
                  try rw [e17]
                  obtain ⟨ya18, yn18, yc18, e18, -⟩ := hf 18 (by simp)
                  try rw [e18]
                  have e22 : vs 22 = _ := hf 22 (by simp)
                  try rw [e22]
                  go_wp2_with fail
                  first | exact ⟨hC.keep 25 _ (by decide), RN.below (Below.refl _ _)⟩ | exact ⟨hC.keep 25 _ (by decide), RN.below (Below.refl _ _), by omega⟩
                · refine FrontStep.of [0, 4, 5, 6, 7, 8, 12, 13, 17, 18, 22, 25] _ rfl (by kernel_rfl) ?_
                  intro vs LL wq hLL hC hf
                  simp only [putL, List.foldl_nil, List.foldl_cons, List.getElem?_cons_zero, List.getElem?_cons_succ]
                  have e0 : vs 0 = _ := hf 0 (by simp)
                  try rw [e0]
                  have e4 : vs 4 = _ := hf 4 (by simp)
                  try rw [e4]
                  have e5 : vs 5 = _ := hf 5 (by simp)
                  try rw [e5]
                  have e6 : vs 6 = _ := hf 6 (by simp)
                  try rw [e6]
                  have e7 : vs 7 = _ := hf 7 (by simp)
                  try rw [e7]
                  obtain ⟨ya8, yn8, yc8, e8, -⟩ := hf 8 (by simp)
                  try rw [e8]
                  have e12 : vs 12 = _ := hf 12 (by simp)
                  try rw [e12]
                  obtain ⟨ya13, yn13, yc13, e13, -⟩ := hf 13 (by simp)
                  try rw [e13]
                  have e17 : vs 17 = _ := hf 17 (by simp)
                  try rw [e17]
                  obtain ⟨ya18, yn18, yc18, e18, -⟩ := hf 18 (by simp)
                  try rw [e18]
                  have e22 : vs 22 = _ := hf 22 (by simp)
                  try rw [e22]
                  have e25 : vs 25 = _ := hf 25 (by simp)
                  try rw [e25]
                  go_wp2_with fail
                  first | exact ⟨hC.keep 26 _ (by decide), RN.below (Below.refl _ _)⟩ | exact ⟨hC.keep 26 _ (by decide), RN.below (Below.refl _ _), by omega⟩
                · refine FrontStep.of [0, 4, 5, 6, 7, 8, 12, 13, 17, 18, 22, 26] _ rfl (by kernel_rfl) ?_
                  intro vs LL wq hLL hC hf
                  simp only [putL, List.foldl_nil, List.foldl_cons, List.getElem?_cons_zero, List.getElem?_cons_succ]
                  have e0 : vs 0 = _ := hf 0 (by simp)
                  try rw [e0]
                  have e4 : vs 4 = _ := hf 4 (by simp)
                  try rw [e4]
                  have e5 : vs 5 = _ := hf 5 (by simp)
                  try rw [e5]
                  have e6 : vs 6 = _ := hf 6 (by simp)
                  try rw [e6]
                  have e7 : vs 7 = _ := hf 7 (by simp)
                  try rw [e7]
                  obtain ⟨ya8, yn8, yc8, e8, -⟩ := hf 8 (by simp)
                  try rw [e8]
                  have e12 : vs 12 = _ := hf 12 (by simp)
                  try rw [e12]
                  obtain ⟨ya13, yn13, yc13, e13, -⟩ := hf 13 (by simp)
                  try rw [e13]
                  have e17 : vs 17 = _ := hf 17 (by simp)
                  try rw [e17]
                  obtain ⟨ya18, yn18, yc18, e18, -⟩ := hf 18 (by simp)
                  try rw [e18]
                  have e22 : vs 22 = _ := hf 22 (by simp)
                  try rw [e22]
                  have e26 : vs 26 = _ := hf 26 (by simp)
                  try rw [e26]
                  obtain ⟨cs', hcs', hsz'⟩ := hC.blk (unhide hcs)
                  obtain ⟨vq, hcq⟩ : ∃ v, wq.cell? ⟨g, i * 4, none⟩ = some v := ⟨_, (cell_of_row _ _ _ _ _ _ hcs').trans (Array.getElem?_eq_getElem (by omega))⟩
                  have hfq : wq.frozen? ⟨g, i * 4, none⟩ = false := by simp [World.frozen?, hcs']
                  have hgl := (Array.getElem?_eq_some_iff.1 (unhide hcs)).1
                  clear hcs' hsz'
                  have hnx := hC.s27 (.bool true) hLL (fun j hj => by simp at hj; rcases hj with rfl | rfl | rfl | rfl | rfl | rfl | rfl <;> first | (rw [e7]; exact fun h => by cases h) | (rw [e8]; exact fun h => by cases h) | (rw [e12]; exact fun h => by cases h) | (rw [e13]; exact fun h => by cases h) | (rw [e17]; exact fun h => by cases h) | (rw [e18]; exact fun h => by cases h) | (rw [e22]; exact fun h => by cases h))
                  rw [e8] at hnx
                  have hgr := grown_set (w := wq) g (i * 4) (.slice ya8 yn8 yc8)
                  replace hnx := hide hnx; replace hgr := hide hgr
                  clear e0
                  clear e4
                  clear e5
                  clear e6
                  clear e7
                  clear e8
                  clear e12
                  clear e13
                  clear e17
                  clear e18
                  clear e22
                  clear e26
                  go_wp2_with fail
                  first | exact ⟨.bool true, unhide hnx, RN.grown (unhide hgr) (fun b e => by injection e; omega)⟩ | exact ⟨.bool true, rfl, unhide hnx, RN.grown (unhide hgr) (fun b e => by injection e; omega), rfl⟩ | exact ⟨unhide hnx, RN.grown (unhide hgr) (fun b e => by injection e; omega)⟩ | (trace_state; sorry)
                · refine FrontStep.of [0, 1, 4, 5, 6, 7, 8, 9, 10, 11, 12, 13, 17, 18, 22, 25, 26, 27] _ rfl (by kernel_rfl) ?_
                  intro vs LL wq hLL hC hf
                  simp only [putL, List.foldl_nil, List.foldl_cons, List.getElem?_cons_zero, List.getElem?_cons_succ]
                  have e0 : vs 0 = _ := hf 0 (by simp)
                  try rw [e0]
                  have e1 : vs 1 = _ := hf 1 (by simp)
                  try rw [e1]
                  have e4 : vs 4 = _ := hf 4 (by simp)
                  try rw [e4]
                  have e5 : vs 5 = _ := hf 5 (by simp)
                  try rw [e5]
                  have e6 : vs 6 = _ := hf 6 (by simp)
                  try rw [e6]
                  have e7 : vs 7 = _ := hf 7 (by simp)
                  try rw [e7]
                  obtain ⟨ya8, yn8, yc8, e8, -⟩ := hf 8 (by simp)
                  try rw [e8]
                  have e9 : vs 9 = _ := hf 9 (by simp)
                  try rw [e9]
                  have e10 : vs 10 = _ := hf 10 (by simp)
                  try rw [e10]
                  have e11 : vs 11 = _ := hf 11 (by simp)
                  try rw [e11]
                  have e12 : vs 12 = _ := hf 12 (by simp)
                  try rw [e12]
                  obtain ⟨ya13, yn13, yc13, e13, -⟩ := hf 13 (by simp)
                  try rw [e13]
                  have e17 : vs 17 = _ := hf 17 (by simp)
                  try rw [e17]
                  obtain ⟨ya18, yn18, yc18, e18, -⟩ := hf 18 (by simp)
                  try rw [e18]
                  have e22 : vs 22 = _ := hf 22 (by simp)
                  try rw [e22]
                  have e25 : vs 25 = _ := hf 25 (by simp)
                  try rw [e25]
                  have e26 : vs 26 = _ := hf 26 (by simp)
                  try rw [e26]
                  have e27 : vs 27 = _ := hf 27 (by simp)
                  go_wp2_with fail
                  first | exact ⟨hC.keep 28 _ (by decide), RN.below (Below.refl _ _)⟩ | exact ⟨hC.keep 28 _ (by decide), RN.below (Below.refl _ _), by omega⟩
                · refine FrontStep.of [0, 1, 4, 5, 6, 7, 8, 9, 10, 11, 12, 13, 17, 18, 22, 25, 26, 27, 28] _ rfl (by kernel_rfl) ?_
                  intro vs LL wq hLL hC hf
                  simp only [putL, List.foldl_nil, List.foldl_cons, List.getElem?_cons_zero, List.getElem?_cons_succ]
                  have e0 : vs 0 = _ := hf 0 (by simp)
                  try rw [e0]
                  have e1 : vs 1 = _ := hf 1 (by simp)
                  try rw [e1]
                  have e4 : vs 4 = _ := hf 4 (by simp)
                  try rw [e4]
                  have e5 : vs 5 = _ := hf 5 (by simp)
                  try rw [e5]
                  have e6 : vs 6 = _ := hf 6 (by simp)
                  try rw [e6]
                  have e7 : vs 7 = _ := hf 7 (by simp)
                  try rw [e7]
                  obtain ⟨ya8, yn8, yc8, e8, -⟩ := hf 8 (by simp)
                  try rw [e8]
                  have e9 : vs 9 = _ := hf 9 (by simp)
                  try rw [e9]
                  have e10 : vs 10 = _ := hf 10 (by simp)
                  try rw [e10]
                  have e11 : vs 11 = _ := hf 11 (by simp)
                  try rw [e11]
                  have e12 : vs 12 = _ := hf 12 (by simp)
                  try rw [e12]
                  obtain ⟨ya13, yn13, yc13, e13, -⟩ := hf 13 (by simp)
                  try rw [e13]
                  have e17 : vs 17 = _ := hf 17 (by simp)
                  try rw [e17]
                  obtain ⟨ya18, yn18, yc18, e18, -⟩ := hf 18 (by simp)
                  try rw [e18]
                  have e22 : vs 22 = _ := hf 22 (by simp)
                  try rw [e22]
                  have e25 : vs 25 = _ := hf 25 (by simp)
                  try rw [e25]
                  have e26 : vs 26 = _ := hf 26 (by simp)
                  try rw [e26]
                  have e27 : vs 27 = _ := hf 27 (by simp)
                  have e28 : vs 28 = _ := hf 28 (by simp)
                  try rw [e28]
                  go_wp2_with fail
                  first | exact ⟨hC.keep 29 _ (by decide), RN.below (Below.refl _ _)⟩ | exact ⟨hC.keep 29 _ (by decide), RN.below (Below.refl _ _), by omega⟩
                · refine FrontStep.of [0, 1, 4, 5, 6, 7, 8, 9, 10, 11, 12, 13, 17, 18, 22, 25, 26, 27, 29] _ rfl (by kernel_rfl) ?_
                  intro vs LL wq hLL hC hf
                  simp only [putL, List.foldl_nil, List.foldl_cons, List.getElem?_cons_zero, List.getElem?_cons_succ]
                  have e0 : vs 0 = _ := hf 0 (by simp)
                  try rw [e0]
                  have e1 : vs 1 = _ := hf 1 (by simp)
                  try rw [e1]
                  have e4 : vs 4 = _ := hf 4 (by simp)
                  try rw [e4]
                  have e5 : vs 5 = _ := hf 5 (by simp)
                  try rw [e5]
                  have e6 : vs 6 = _ := hf 6 (by simp)
                  try rw [e6]
                  have e7 : vs 7 = _ := hf 7 (by simp)
                  try rw [e7]
                  obtain ⟨ya8, yn8, yc8, e8, -⟩ := hf 8 (by simp)
                  try rw [e8]
                  have e9 : vs 9 = _ := hf 9 (by simp)
                  try rw [e9]
                  have e10 : vs 10 = _ := hf 10 (by simp)
                  try rw [e10]
                  have e11 : vs 11 = _ := hf 11 (by simp)
                  try rw [e11]
                  have e12 : vs 12 = _ := hf 12 (by simp)
                  try rw [e12]
                  obtain ⟨ya13, yn13, yc13, e13, -⟩ := hf 13 (by simp)
                  try rw [e13]
                  have e17 : vs 17 = _ := hf 17 (by simp)
                  try rw [e17]
                  obtain ⟨ya18, yn18, yc18, e18, -⟩ := hf 18 (by simp)
                  try rw [e18]
                  have e22 : vs 22 = _ := hf 22 (by simp)
                  try rw [e22]
                  have e25 : vs 25 = _ := hf 25 (by simp)
                  try rw [e25]
                  have e26 : vs 26 = _ := hf 26 (by simp)
                  try rw [e26]
                  have e27 : vs 27 = _ := hf 27 (by simp)
                  have e29 : vs 29 = _ := hf 29 (by simp)
                  try rw [e29]
                  obtain ⟨cs', hcs', hsz'⟩ := hC.blk (unhide hcs)
                  obtain ⟨vq, hcq⟩ : ∃ v, wq.cell? ⟨g, i * 4 + 1, none⟩ = some v := ⟨_, (cell_of_row _ _ _ _ _ _ hcs').trans (Array.getElem?_eq_getElem (by omega))⟩
                  have hfq : wq.frozen? ⟨g, i * 4 + 1, none⟩ = false := by simp [World.frozen?, hcs']
                  have hgl := (Array.getElem?_eq_some_iff.1 (unhide hcs)).1
                  clear hcs' hsz'
                  have hnx := hC.s30 (.bool true) hLL (by rw [e27]; exact fun h => by cases h)
                  rw [e13] at hnx
                  have hgr := grown_set (w := wq) g (i * 4 + 1) (.slice ya13 yn13 yc13)
                  replace hnx := hide hnx; replace hgr := hide hgr
                  clear e0
                  clear e1
                  clear e4
                  clear e5
                  clear e6
                  clear e7
                  clear e8
                  clear e9
                  clear e10
                  clear e11
                  clear e12
                  clear e13
                  clear e17
                  clear e18
                  clear e22
                  clear e25
                  clear e26
                  clear e27
                  clear e29
                  go_wp2_with fail
                  first | exact ⟨.bool true, unhide hnx, RN.grown (unhide hgr) (fun b e => by injection e; omega)⟩ | exact ⟨.bool true, rfl, unhide hnx, RN.grown (unhide hgr) (fun b e => by injection e; omega), rfl⟩ | exact ⟨unhide hnx, RN.grown (unhide hgr) (fun b e => by injection e; omega)⟩ | (trace_state; sorry)
                · refine FrontStep.of [0, 1, 2, 4, 5, 6, 7, 8, 9, 10, 11, 12, 13, 14, 15, 16, 17, 18, 22, 25, 26, 27, 28, 29, 30] _ rfl (by kernel_rfl) ?_
                  intro vs LL wq hLL hC hf
                  simp only [putL, List.foldl_nil, List.foldl_cons, List.getElem?_cons_zero, List.getElem?_cons_succ]
                  have e0 : vs 0 = _ := hf 0 (by simp)
                  try rw [e0]
                  have e1 : vs 1 = _ := hf 1 (by simp)
                  try rw [e1]
                  have e2 : vs 2 = _ := hf 2 (by simp)
                  try rw [e2]
                  have e4 : vs 4 = _ := hf 4 (by simp)
                  try rw [e4]
                  have e5 : vs 5 = _ := hf 5 (by simp)
                  try rw [e5]
                  have e6 : vs 6 = _ := hf 6 (by simp)
                  try rw [e6]
                  have e7 : vs 7 = _ := hf 7 (by simp)
                  try rw [e7]
                  obtain ⟨ya8, yn8, yc8, e8, -⟩ := hf 8 (by simp)
                  try rw [e8]
                  have e9 : vs 9 = _ := hf 9 (by simp)
                  try rw [e9]
                  have e10 : vs 10 = _ := hf 10 (by simp)
                  try rw [e10]
                  have e11 : vs 11 = _ := hf 11 (by simp)
                  try rw [e11]
                  have e12 : vs 12 = _ := hf 12 (by simp)
                  try rw [e12]
                  obtain ⟨ya13, yn13, yc13, e13, -⟩ := hf 13 (by simp)
                  try rw [e13]
                  have e14 : vs 14 = _ := hf 14 (by simp)
                  try rw [e14]
                  have e15 : vs 15 = _ := hf 15 (by simp)
                  try rw [e15]
                  have e16 : vs 16 = _ := hf 16 (by simp)
                  try rw [e16]
                  have e17 : vs 17 = _ := hf 17 (by simp)
                  try rw [e17]
                  obtain ⟨ya18, yn18, yc18, e18, -⟩ := hf 18 (by simp)
                  try rw [e18]
                  have e22 : vs 22 = _ := hf 22 (by simp)
                  try rw [e22]
                  have e25 : vs 25 = _ := hf 25 (by simp)
                  try rw [e25]
                  have e26 : vs 26 = _ := hf 26 (by simp)
                  try rw [e26]
                  have e27 : vs 27 = _ := hf 27 (by simp)
                  have e28 : vs 28 = _ := hf 28 (by simp)
                  try rw [e28]
                  have e29 : vs 29 = _ := hf 29 (by simp)
                  try rw [e29]
                  have e30 : vs 30 = _ := hf 30 (by simp)
                  go_wp2_with fail
                  first | exact ⟨hC.keep 31 _ (by decide), RN.below (Below.refl _ _)⟩ | exact ⟨hC.keep 31 _ (by decide), RN.below (Below.refl _ _), by omega⟩
                · refine FrontStep.of [0, 1, 2, 4, 5, 6, 7, 8, 9, 10, 11, 12, 13, 14, 15, 16, 17, 18, 22, 25, 26, 27, 28, 29, 30, 31] _ rfl (by kernel_rfl) ?_
                  intro vs LL wq hLL hC hf
                  simp only [putL, List.foldl_nil, List.foldl_cons, List.getElem?_cons_zero, List.getElem?_cons_succ]
                  have e0 : vs 0 = _ := hf 0 (by simp)
                  try rw [e0]
                  have e1 : vs 1 = _ := hf 1 (by simp)
                  try rw [e1]
                  have e2 : vs 2 = _ := hf 2 (by simp)
                  try rw [e2]
                  have e4 : vs 4 = _ := hf 4 (by simp)
                  try rw [e4]
                  have e5 : vs 5 = _ := hf 5 (by simp)
                  try rw [e5]
                  have e6 : vs 6 = _ := hf 6 (by simp)
                  try rw [e6]
                  have e7 : vs 7 = _ := hf 7 (by simp)
                  try rw [e7]
                  obtain ⟨ya8, yn8, yc8, e8, -⟩ := hf 8 (by simp)
                  try rw [e8]
                  have e9 : vs 9 = _ := hf 9 (by simp)
                  try rw [e9]
                  have e10 : vs 10 = _ := hf 10 (by simp)
                  try rw [e10]
                  have e11 : vs 11 = _ := hf 11 (by simp)
                  try rw [e11]
                  have e12 : vs 12 = _ := hf 12 (by simp)
                  try rw [e12]
                  obtain ⟨ya13, yn13, yc13, e13, -⟩ := hf 13 (by simp)
                  try rw [e13]
                  have e14 : vs 14 = _ := hf 14 (by simp)
                  try rw [e14]
                  have e15 : vs 15 = _ := hf 15 (by simp)
                  try rw [e15]
                  have e16 : vs 16 = _ := hf 16 (by simp)
                  try rw [e16]
                  have e17 : vs 17 = _ := hf 17 (by simp)
                  try rw [e17]
                  obtain ⟨ya18, yn18, yc18, e18, -⟩ := hf 18 (by simp)
                  try rw [e18]
                  have e22 : vs 22 = _ := hf 22 (by simp)
                  try rw [e22]
                  have e25 : vs 25 = _ := hf 25 (by simp)
                  try rw [e25]
                  have e26 : vs 26 = _ := hf 26 (by simp)
                  try rw [e26]
                  have e27 : vs 27 = _ := hf 27 (by simp)
                  have e28 : vs 28 = _ := hf 28 (by simp)
                  try rw [e28]
                  have e29 : vs 29 = _ := hf 29 (by simp)
                  try rw [e29]
                  have e30 : vs 30 = _ := hf 30 (by simp)
                  have e31 : vs 31 = _ := hf 31 (by simp)
                  try rw [e31]
                  go_wp2_with fail
                  first | exact ⟨hC.keep 32 _ (by decide), RN.below (Below.refl _ _)⟩ | exact ⟨hC.keep 32 _ (by decide), RN.below (Below.refl _ _), by omega⟩
                · refine FrontStep.of [0, 1, 2, 4, 5, 6, 7, 8, 9, 10, 11, 12, 13, 14, 15, 16, 17, 18, 22, 25, 26, 27, 28, 29, 30, 32] _ rfl (by kernel_rfl) ?_
                  intro vs LL wq hLL hC hf
                  simp only [putL, List.foldl_nil, List.foldl_cons, List.getElem?_cons_zero, List.getElem?_cons_succ]
                  have e0 : vs 0 = _ := hf 0 (by simp)
                  try rw [e0]
                  have e1 : vs 1 = _ := hf 1 (by simp)
                  try rw [e1]
                  have e2 : vs 2 = _ := hf 2 (by simp)
                  try rw [e2]
                  have e4 : vs 4 = _ := hf 4 (by simp)
                  try rw [e4]
                  have e5 : vs 5 = _ := hf 5 (by simp)
                  try rw [e5]
                  have e6 : vs 6 = _ := hf 6 (by simp)
                  try rw [e6]
                  have e7 : vs 7 = _ := hf 7 (by simp)
                  try rw [e7]
                  obtain ⟨ya8, yn8, yc8, e8, -⟩ := hf 8 (by simp)
                  try rw [e8]
                  have e9 : vs 9 = _ := hf 9 (by simp)
                  try rw [e9]
                  have e10 : vs 10 = _ := hf 10 (by simp)
                  try rw [e10]
                  have e11 : vs 11 = _ := hf 11 (by simp)
                  try rw [e11]
                  have e12 : vs 12 = _ := hf 12 (by simp)
                  try rw [e12]
                  obtain ⟨ya13, yn13, yc13, e13, -⟩ := hf 13 (by simp)
                  try rw [e13]
                  have e14 : vs 14 = _ := hf 14 (by simp)
                  try rw [e14]
                  have e15 : vs 15 = _ := hf 15 (by simp)
                  try rw [e15]
                  have e16 : vs 16 = _ := hf 16 (by simp)
                  try rw [e16]
                  have e17 : vs 17 = _ := hf 17 (by simp)
                  try rw [e17]
                  obtain ⟨ya18, yn18, yc18, e18, -⟩ := hf 18 (by simp)
                  try rw [e18]
                  have e22 : vs 22 = _ := hf 22 (by simp)
                  try rw [e22]
                  have e25 : vs 25 = _ := hf 25 (by simp)
                  try rw [e25]
                  have e26 : vs 26 = _ := hf 26 (by simp)
                  try rw [e26]
                  have e27 : vs 27 = _ := hf 27 (by simp)
                  have e28 : vs 28 = _ := hf 28 (by simp)
                  try rw [e28]
                  have e29 : vs 29 = _ := hf 29 (by simp)
                  try rw [e29]
                  have e30 : vs 30 = _ := hf 30 (by simp)
                  have e32 : vs 32 = _ := hf 32 (by simp)
                  try rw [e32]
                  obtain ⟨cs', hcs', hsz'⟩ := hC.blk (unhide hcs)
                  obtain ⟨vq, hcq⟩ : ∃ v, wq.cell? ⟨g, i * 4 + 2, none⟩ = some v := ⟨_, (cell_of_row _ _ _ _ _ _ hcs').trans (Array.getElem?_eq_getElem (by omega))⟩
                  have hfq : wq.frozen? ⟨g, i * 4 + 2, none⟩ = false := by simp [World.frozen?, hcs']
                  have hgl := (Array.getElem?_eq_some_iff.1 (unhide hcs)).1
                  clear hcs' hsz'
                  have hnx := hC.s33 (.bool true) hLL (by rw [e30]; exact fun h => by cases h)
                  rw [e18] at hnx
                  have hgr := grown_set (w := wq) g (i * 4 + 2) (.slice ya18 yn18 yc18)
                  replace hnx := hide hnx; replace hgr := hide hgr
                  clear e0
                  clear e1
                  clear e2
                  clear e4
                  clear e5
                  clear e6
                  clear e7
                  clear e8
                  clear e9
                  clear e10
                  clear e11
                  clear e12
                  clear e13
                  clear e14
                  clear e15
                  clear e16
                  clear e17
                  clear e18
                  clear e22
                  clear e25
                  clear e26
                  clear e27
                  clear e28
                  clear e29
                  clear e30
                  clear e32
                  go_wp2_with fail
                  first | exact ⟨.bool true, unhide hnx, RN.grown (unhide hgr) (fun b e => by injection e; omega)⟩ | exact ⟨.bool true, rfl, unhide hnx, RN.grown (unhide hgr) (fun b e => by injection e; omega), rfl⟩ | exact ⟨unhide hnx, RN.grown (unhide hgr) (fun b e => by injection e; omega)⟩ | (trace_state; sorry)
                · refine FrontStep.of [0, 1, 2, 3, 4, 5, 6, 7, 8, 9, 10, 11, 12, 13, 14, 15, 16, 17, 18, 19, 20, 21, 22, 23, 24, 25, 26, 27, 28, 29, 30, 31, 32, 33] _ rfl (by kernel_rfl) ?_
                  intro vs LL wq hLL hC hf
                  simp only [putL, List.foldl_nil, List.foldl_cons, List.getElem?_cons_zero, List.getElem?_cons_succ]
                  have e0 : vs 0 = _ := hf 0 (by simp)
                  try rw [e0]
                  have e1 : vs 1 = _ := hf 1 (by simp)
                  try rw [e1]
                  have e2 : vs 2 = _ := hf 2 (by simp)
                  try rw [e2]
                  have e3 : vs 3 = _ := hf 3 (by simp)
                  try rw [e3]
                  have e4 : vs 4 = _ := hf 4 (by simp)
                  try rw [e4]
                  have e5 : vs 5 = _ := hf 5 (by simp)
                  try rw [e5]
                  have e6 : vs 6 = _ := hf 6 (by simp)
                  try rw [e6]
                  have e7 : vs 7 = _ := hf 7 (by simp)
                  try rw [e7]
                  obtain ⟨ya8, yn8, yc8, e8, -⟩ := hf 8 (by simp)
                  try rw [e8]
                  have e9 : vs 9 = _ := hf 9 (by simp)
                  try rw [e9]
                  have e10 : vs 10 = _ := hf 10 (by simp)
                  try rw [e10]
                  have e11 : vs 11 = _ := hf 11 (by simp)
                  try rw [e11]
                  have e12 : vs 12 = _ := hf 12 (by simp)
                  try rw [e12]
                  obtain ⟨ya13, yn13, yc13, e13, -⟩ := hf 13 (by simp)
                  try rw [e13]
                  have e14 : vs 14 = _ := hf 14 (by simp)
                  try rw [e14]
                  have e15 : vs 15 = _ := hf 15 (by simp)
                  try rw [e15]
                  have e16 : vs 16 = _ := hf 16 (by simp)
                  try rw [e16]
                  have e17 : vs 17 = _ := hf 17 (by simp)
                  try rw [e17]
                  obtain ⟨ya18, yn18, yc18, e18, -⟩ := hf 18 (by simp)
                  try rw [e18]
                  have e19 : vs 19 = _ := hf 19 (by simp)
                  try rw [e19]
                  have e20 : vs 20 = _ := hf 20 (by simp)
                  try rw [e20]
                  have e21 : vs 21 = _ := hf 21 (by simp)
                  try rw [e21]
                  have e22 : vs 22 = _ := hf 22 (by simp)
                  try rw [e22]
                  have e23 : vs 23 = _ := hf 23 (by simp)
                  try rw [e23]
                  have e24 : vs 24 = _ := hf 24 (by simp)
                  try rw [e24]
                  have e25 : vs 25 = _ := hf 25 (by simp)
                  try rw [e25]
                  have e26 : vs 26 = _ := hf 26 (by simp)
                  try rw [e26]
                  have e27 : vs 27 = _ := hf 27 (by simp)
                  have e28 : vs 28 = _ := hf 28 (by simp)
                  try rw [e28]
                  have e29 : vs 29 = _ := hf 29 (by simp)
                  try rw [e29]
                  have e30 : vs 30 = _ := hf 30 (by simp)
                  have e31 : vs 31 = _ := hf 31 (by simp)
                  try rw [e31]
                  have e32 : vs 32 = _ := hf 32 (by simp)
                  try rw [e32]
                  have e33 : vs 33 = _ := hf 33 (by simp)
                  go_wp2_with fail
                  first | exact ⟨hC.keep 34 _ (by decide), RN.below (Below.refl _ _)⟩ | exact ⟨hC.keep 34 _ (by decide), RN.below (Below.refl _ _), by omega⟩
                · refine FrontStep.of [0, 1, 2, 3, 4, 5, 6, 7, 8, 9, 10, 11, 12, 13, 14, 15, 16, 17, 18, 19, 20, 21, 22, 23, 24, 25, 26, 27, 28, 29, 30, 31, 32, 33, 34] _ rfl (by kernel_rfl) ?_
                  intro vs LL wq hLL hC hf
                  simp only [putL, List.foldl_nil, List.foldl_cons, List.getElem?_cons_zero, List.getElem?_cons_succ]
                  have e0 : vs 0 = _ := hf 0 (by simp)
                  try rw [e0]
                  have e1 : vs 1 = _ := hf 1 (by simp)
                  try rw [e1]
                  have e2 : vs 2 = _ := hf 2 (by simp)
                  try rw [e2]
                  have e3 : vs 3 = _ := hf 3 (by simp)
                  try rw [e3]
                  have e4 : vs 4 = _ := hf 4 (by simp)
                  try rw [e4]
                  have e5 : vs 5 = _ := hf 5 (by simp)
                  try rw [e5]
                  have e6 : vs 6 = _ := hf 6 (by simp)
                  try rw [e6]
                  have e7 : vs 7 = _ := hf 7 (by simp)
                  try rw [e7]
                  obtain ⟨ya8, yn8, yc8, e8, -⟩ := hf 8 (by simp)
                  try rw [e8]
                  have e9 : vs 9 = _ := hf 9 (by simp)
                  try rw [e9]
                  have e10 : vs 10 = _ := hf 10 (by simp)
                  try rw [e10]
                  have e11 : vs 11 = _ := hf 11 (by simp)
                  try rw [e11]
                  have e12 : vs 12 = _ := hf 12 (by simp)
                  try rw [e12]
                  obtain ⟨ya13, yn13, yc13, e13, -⟩ := hf 13 (by simp)
                  try rw [e13]
                  have e14 : vs 14 = _ := hf 14 (by simp)
                  try rw [e14]
                  have e15 : vs 15 = _ := hf 15 (by simp)
                  try rw [e15]
                  have e16 : vs 16 = _ := hf 16 (by simp)
                  try rw [e16]
                  have e17 : vs 17 = _ := hf 17 (by simp)
                  try rw [e17]
                  obtain ⟨ya18, yn18, yc18, e18, -⟩ := hf 18 (by simp)
                  try rw [e18]
                  have e19 : vs 19 = _ := hf 19 (by simp)
                  try rw [e19]
                  have e20 : vs 20 = _ := hf 20 (by simp)
                  try rw [e20]
                  have e21 : vs 21 = _ := hf 21 (by simp)
                  try rw [e21]
                  have e22 : vs 22 = _ := hf 22 (by simp)
                  try rw [e22]
                  have e23 : vs 23 = _ := hf 23 (by simp)
                  try rw [e23]
                  have e24 : vs 24 = _ := hf 24 (by simp)
                  try rw [e24]
                  have e25 : vs 25 = _ := hf 25 (by simp)
                  try rw [e25]
                  have e26 : vs 26 = _ := hf 26 (by simp)
                  try rw [e26]
                  have e27 : vs 27 = _ := hf 27 (by simp)
                  have e28 : vs 28 = _ := hf 28 (by simp)
                  try rw [e28]
                  have e29 : vs 29 = _ := hf 29 (by simp)
                  try rw [e29]
                  have e30 : vs 30 = _ := hf 30 (by simp)
                  have e31 : vs 31 = _ := hf 31 (by simp)
                  try rw [e31]
                  have e32 : vs 32 = _ := hf 32 (by simp)
                  try rw [e32]
                  have e33 : vs 33 = _ := hf 33 (by simp)
                  have e34 : vs 34 = _ := hf 34 (by simp)
                  try rw [e34]
                  go_wp2_with fail
                  first | exact ⟨hC.keep 35 _ (by decide), RN.below (Below.refl _ _)⟩ | exact ⟨hC.keep 35 _ (by decide), RN.below (Below.refl _ _), by omega⟩
              · intro vs LL wq hLL hC hf
                obtain ⟨wz, hbz, hwq, hsz3, hbk⟩ := hC.fin (hLL 27 (by omega)) (hLL 30 (by omega)) (hLL 33 (by omega))
                obtain ⟨y1, m1, d1, e8, f1, f2, f3⟩ := hf 8 (by omega)
                obtain ⟨y2, m2, d2, e13, f4, f5, f6⟩ := hf 13 (by omega)
                obtain ⟨y3, m3, d3, e18, f7, f8, f9⟩ := hf 18 (by omega)
                have e35 : vs 35 = _ := hf 35 (by omega)
                have e24 : vs 24 = _ := hf 24 (by omega)
                obtain ⟨cs', hcs', hsz'⟩ := hC.blk (unhide hcs)
                obtain ⟨vq, hcq⟩ : ∃ v, wq.cell? ⟨g, i * 4 + 3, none⟩ = some v := ⟨_, (cell_of_row _ _ _ _ _ _ hcs').trans (Array.getElem?_eq_getElem (by omega))⟩
                have hfq : wq.frozen? ⟨g, i * 4 + 3, none⟩ = false := by simp [World.frozen?, hcs']
                have hgl := (Array.getElem?_eq_some_iff.1 (unhide hcs)).1
                rw [e8, e13, e18] at hwq
                have hst : ∀ (a : Option Addr) (n : Nat) (t : List Int), Lst Enc.int wq (fun b => wp.heap.size ≤ b ∧ b < wq.heap.size) a n t → Lst Enc.int wz (fun b => wp.heap.size ≤ b ∧ b < wz.heap.size) a n t := fun a n t h => (h.same (fun b hb => hbk b (by omega))).wide (fun b hb => ⟨hb.1, by rw [hsz3]; exact hb.2⟩)
                have hto' := unhide hto
                have hrs : (renSub s).2.2.2 = 70 - 9 * tv := by show 70 - 9 * s.2.2.2 = _; rw [unhide htv]
                have hps := (unhide hR).push (unhide hx) (unhide hs) (if_pos rfl) (unhide hug) hbz (tv := 70 - 9 * tv) (r1 := .slice y1 m1 d1) (r2 := .slice y2 m2 d2) (r3 := .slice y3 m3 d3) (by
                  rw [← hrs]
                  exact rep_sub (s := renSub s) ⟨y1, m1, d1, rfl, f1, f2, hst _ _ _ f3⟩ ⟨y2, m2, d2, rfl, f4, f5, hst _ _ _ f6⟩ ⟨y3, m3, d3, rfl, f7, f8, hst _ _ _ f9⟩ (by rw [hrs]; exact ⟨by omega, by omega⟩))
                have hps2 : RenS w18 (wq.setCell ⟨g, i * 4 + 3, none⟩ (.int .i64 (70 - 9 * tv))) Bq (.slice (some ⟨go, 0, none⟩) ln oc) us l (fun k' => if k' = k then i + 1 else if k' < k then 1000 else 0) := by
                  rw [hwq]
                  exact hps.full (fun k' x hx => .inl (by by_cases h : k' = k <;> simp [h]))
                rw [putSome_all]
                simp only [putL, List.range, List.range.loop, List.foldl_nil, List.foldl_cons, List.getElem?_cons_zero, List.getElem?_cons_succ, List.drop_succ_cons, List.drop_zero]
                rw [e35, e24]
                clear hps hrs e8 e13 e18 e35 e24 hf hC hLL hwq hbk hst f3 f6 f9 hcs' hsz' hbz hsz3 hR hs hug hgood htv hcs hr1 hr2 hr3 hI1 hI2 hI3 hto hto' s0 s1 s2 s3 cOp tm1 tm2
                replace hps2 := hide hps2
                go_wp2_with fail
                go_roundw
                case rel => exact ⟨i + 1, by omega, by go_num, unhide hps2⟩
                case measure => simp [intOf]; omega
            · have hie : i = xl := by omega
              have hps := hR.full (f' := fun k' => if k' < k + 1 then 1000 else 0) (fun k' y hy => by
                by_cases h : k' = k
                · subst h
                  obtain rfl := Option.some.inj (hy.symm.trans (unhide hx))
                  have := unhide hxle
                  exact .inr ⟨by simp; omega, by simp; omega⟩
                · exact .inl (by
                    simp only [h, if_false]
                    by_cases h2 : k' < k
                    · rw [if_pos h2, if_pos (by omega)]
                    · rw [if_neg h2, if_neg (by omega)]))
              clear hR
              replace hps := hide hps; replace hie := hide hie
              go_wp2_with fail
              go_roundw
              case rel => exact ⟨k + 1, by omega, by go_num, unhide hps⟩
              case measure => simp [intOf]; omega
        · have hke2 : k = ln := by omega
          obtain ⟨oa', oc', hoe, hO⟩ := hR.lst (fun k' y hy => by
            have h1 := (List.getElem?_eq_some_iff.1 hy).1
            have h2 := ((unhide hlg).2 y (List.mem_of_getElem? hy)).1
            have h3 := unhide hln
            rw [if_pos (by omega)]
            omega)
          have hbq := hR.bel
          have hleq := hR.le
          rw [unhide hln] at hoe hO
          injection hoe with hoe1 hoe2 hoe3
          subst hoe1
          rw [← unhide hBq] at hbq hleq
          have hx20 := ((unhide hx18).below hbq).wide (fun b hb => Nat.lt_of_lt_of_le hb hleq)
          have hA20 := ((unhide hA18).below hbq).wide (fun b hb => Nat.lt_of_lt_of_le hb hleq)
          have hB20 := ((unhide hB18).below hbq).wide (fun b hb => Nat.lt_of_lt_of_le hb hleq)
          have hz20 := (unhide hz18).trans (hbq.mono (unhide hz18).size)
          have hc := renamed_any xa xn xc X wo hx20 (by omega) (fun y hy => by have := unhide hxb y hy; omega)
          clear hR hbq hleq hx18 hl18 hA18 hB18 hz18 hoe2 hoe3 hx20
          replace hke2 := hide hke2; replace hc := hide hc; replace hO := hide hO; replace hA20 := hide hA20; replace hB20 := hide hB20; replace hz20 := hide hz20
          go_wp2_with fail
          refine (unhide hc).mono ?_
          rintro e w21 ⟨v, rfl, hown, hb⟩
          have hXr : AllI (renS X) := renS_i64 (fun y hy => by have := unhide hxb y hy; omega)
          obtain ⟨da', dc', rfl, -, hdd⟩ := own_lst hown hXr
          rw [renS_len, unhide hxn] at hdd
          simp only [renS_len, unhide hxn]
          have hcc := apply_any oa ln oc (renL l) da' xn dc' (renS X) w21 ((unhide hO).under hb) hdd (by omega) (ren_small (goodL_small (unhide hlg))) (ren_to (unhide hlg)) (by omega)
          have hii := applyS_i64 (ren_to (unhide hlg)) hXr (by rw [renS_len, unhide hxn]; omega)
          rw [unhide hren] at hcc hii
          simp only at hcc hii
          have hA21 := (unhide hA20).under hb
          have hB21 := (unhide hB20).under hb
          have hz21 := (unhide hz20).trans (hb.mono (unhide hz20).size)
          clear hc hown hdd hO hA20 hB20 hz20 hb
          replace hcc := hide hcc; replace hii := hide hii; replace hA21 := hide hA21; replace hB21 := hide hB21; replace hz21 := hide hz21
          go_wp2_with fail
          refine (unhide hcc).mono ?_
          rintro e w22 ⟨q7, q8, rfl, ht, hb⟩
          obtain ⟨ea, ec, fa, fc, rfl, rfl, hE2, hF2⟩ := ht.lst (unhide hii).1 (unhide hii).2
          rw [renS_len, unhide han] at hE2
          rw [unhide hbn] at hF2
          simp only [renS_len, unhide han, unhide hbn]
          have hA22 := (unhide hA21).under hb
          have hB22 := (unhide hB21).under hb
          have hz22 := (unhide hz21).trans (hb.mono (unhide hz21).size)
          have hc := renamed_any a1 an c1 A w22 hA22 (by omega) (fun y hy => by have := unhide hsA y hy; omega)
          have hAr : AllI (renS A) := renS_i64 (fun y hy => by have := unhide hsA y hy; omega)
          clear hcc hii ht hb hA21 hB21 hz21 hA22
          replace hc := hide hc; replace hE2 := hide hE2; replace hF2 := hide hF2; replace hB22 := hide hB22; replace hz22 := hide hz22; replace hAr := hide hAr
          go_wp2_with fail
          refine (unhide hc).mono ?_
          rintro e w23 ⟨v, rfl, hown, hb⟩
          obtain ⟨ha', hc', rfl, -, hh⟩ := own_lst hown (unhide hAr)
          rw [renS_len, unhide han] at hh
          simp only [renS_len, unhide han]
          have hs2 := sameInts_blw ea an ec (renS A) ha' an hc' (renS A) w23 ((unhide hE2).under hb) hh (by omega) (by omega)
          rw [decide_eq_true rfl] at hs2
          have hF23 := (unhide hF2).under hb
          have hB23 := (unhide hB22).under hb
          have hz23 := (unhide hz22).trans (hb.mono (unhide hz22).size)
          clear hc hown hh hb hE2 hF2 hB22 hz22
          replace hs2 := hide hs2; replace hF23 := hide hF23; replace hB23 := hide hB23; replace hz23 := hide hz23
          go_wp2_with fail
          refine (unhide hs2).mono ?_
          rintro e w24 ⟨rfl, hb⟩
          have hs3 := sameInts_blw fa bn fc B a2 bn c2 B w24 ((unhide hF23).under hb) ((unhide hB23).under hb) (by omega) (by omega)
          rw [decide_eq_true rfl] at hs3
          have hz24 := (unhide hz23).trans (hb.mono (unhide hz23).size)
          clear hs2 hF23 hB23 hz23 hb
          replace hs3 := hide hs3; replace hz24 := hide hz24
          go_wp2_with fail
          refine (unhide hs3).mono ?_
          rintro e w25 ⟨rfl, hb⟩
          have hz25 := (unhide hz24).trans (hb.mono (unhide hz24).size)
          clear hs3 hz24 hb
          replace hz25 := hide hz25
          go_wp2_with fail
          go_ret
          exact ⟨rfl, unhide hz25⟩
end Go.Proofs.Ytmlnjbljdincjaa
