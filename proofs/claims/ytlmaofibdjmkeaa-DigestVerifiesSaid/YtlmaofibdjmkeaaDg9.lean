/- digest.Prove outside of the list; digest.Verify. -/
import Derived.Test.YtlmaofibdjmkeaaDg8
namespace Go.Proofs.Ytlmaofibdjmkeaa
open Go.RowKit
attribute [local go_sem ↓] Go.wp_at_zero Go.wp_at_succ
theorem dProve_none (a : Option Addr) (len cap : Nat) (i : Int) (w : World) (hi : i < 0 ∨ (len : Int) ≤ i) :
    Calls Try.prog 23 #[.slice a len cap, .int .i64 i] w fun e w' => e = .returned (.tuple #[.slice none 0 0, .bool false]) ∧ Below w.heap.size w w' := by
  rcases hi with hi | hi
  · go_enter Try.func23, Try.ntmps23
    go_wp2_with fail
    exact bodyPost_ret (results_tmp2 rfl _ _ _) rfl ⟨rfl, (Below.refl _ _).alloc (Nat.le_refl _) _⟩
  · by_cases h0 : i < 0
    · clear hi
      go_enter Try.func23, Try.ntmps23
      go_wp2_with fail
      exact bodyPost_ret (results_tmp2 rfl _ _ _) rfl ⟨rfl, (Below.refl _ _).alloc (Nat.le_refl _) _⟩
    · go_enter Try.func23, Try.ntmps23
      go_wp2_with fail
      exact bodyPost_ret (results_tmp2 rfl _ _ _) rfl ⟨rfl, (Below.refl _ _).alloc (Nat.le_refl _) _⟩
/-- the digest and the index after k elements of a proof -/
def Dg.cl (d0 : List UInt8) (i : Nat) (L : List ByteArray) : Nat → List UInt8 × Nat
  | 0 => (d0, i)
  | k + 1 => match L[k]? with
    | some x => (if (Dg.cl d0 i L k).2 % 2 = 0 then Dg.node (Dg.cl d0 i L k).1 x.data.toList else Dg.node x.data.toList (Dg.cl d0 i L k).1, (Dg.cl d0 i L k).2 / 2)
    | none => Dg.cl d0 i L k
theorem Dg.cl_len (d0 : List UInt8) (h0 : d0.length = 8) (i : Nat) (L : List ByteArray) (k : Nat) : (Dg.cl d0 i L k).1.length = 8 := by
  induction k with
  | zero => exact h0
  | succ k ih =>
    rw [Dg.cl]
    split
    · simp only []
      split <;> exact Dg.node_len _ _
    · exact ih
theorem Dg.cl_le (d0 : List UInt8) (i : Nat) (L : List ByteArray) (k : Nat) : (Dg.cl d0 i L k).2 ≤ i := by
  induction k with
  | zero => exact Nat.le_refl _
  | succ k ih =>
    rw [Dg.cl]
    split
    · simp only []
      omega
    · exact ih
def verS (r s : ByteArray) (i : Int) (L : List ByteArray) : Bool := decide (0 ≤ i ∧ L.length ≤ 40 ∧ i < (2 : Int) ^ L.length ∧ r.size = 8 ∧ (∀ x ∈ L, x.size = 8) ∧ r.data.toList = (Dg.cl (leafB s) i.toNat L L.length).1)
theorem pow_wrap : ∀ m : Fin 41, wrap64 ((2 : Int) ^ m.val) = (2 : Int) ^ m.val := by decide +kernel
theorem pow_fits : ∀ m : Fin 41, (2 : Int) ^ m.val ≤ 1099511627776 := by decide +kernel
set_option maxRecDepth 100000 in
set_option maxHeartbeats 4000000 in
theorem dVerify_any (r s : ByteArray) (i : Int) (a : Option Addr) (m cap : Nat) (L : List ByteArray) (w : World) (hL : Lst Enc.str w (fun b => b < w.heap.size) a m L) (hs : s.size ≤ 1000000) (hr : r.size ≤ 1000000) (hI : i < 9223372036854775808) :
    Calls Try.prog 27 #[.string r, .string s, .int .i64 i, .slice a m cap] w fun e w' => e = .returned (.bool (verS r s i L)) ∧ Below w.heap.size w w' := by
  have hLm := hL.1
  by_cases c1 : 0 ≤ i
  rotate_left
  · have hv : verS r s i L = false := decide_eq_false (fun h => c1 h.1)
    rw [hv]
    clear hv hL hLm
    have t1 : i < 0 := by omega
    go_enter Try.func27, Try.ntmps27
    go_wp2_with fail
    go_ret
    exact ⟨rfl, Below.refl _ _⟩
  by_cases c2 : m ≤ 40
  rotate_left
  · have hv : verS r s i L = false := decide_eq_false (fun h => c2 (by omega))
    rw [hv]
    clear hv hL hLm
    have t1 : ¬ i < 0 := by omega
    have t2 : (40 : Int) < (m : Int) := by omega
    go_enter Try.func27, Try.ntmps27
    go_wp2_with fail
    go_ret
    exact ⟨rfl, Below.refl _ _⟩
  have hpw := pow_wrap ⟨m, by omega⟩
  have hpf := pow_fits ⟨m, by omega⟩
  simp only at hpw hpf
  by_cases c3 : i < (2 : Int) ^ m
  rotate_left
  · have hv : verS r s i L = false := decide_eq_false (fun h => c3 (by rw [← hLm]; exact h.2.2.1))
    rw [hv]
    clear hv hL hLm
    have t1 : ¬ i < 0 := by omega
    have t2 : ¬ (40 : Int) < (m : Int) := by omega
    have t3 : wrap64 ((2 : Int) ^ m) ≤ i := by rw [hpw]; omega
    clear hpw hpf c3
    go_enter Try.func27, Try.ntmps27
    go_wp2_with fail
    go_ret
    exact ⟨rfl, Below.refl _ _⟩
  by_cases c4 : r.size = 8
  rotate_left
  · have hv : verS r s i L = false := decide_eq_false (fun h => c4 h.2.2.2.1)
    rw [hv]
    clear hv hL hLm
    have t1 : ¬ i < 0 := by omega
    have t2 : ¬ (40 : Int) < (m : Int) := by omega
    have t3 : ¬ wrap64 ((2 : Int) ^ m) ≤ i := by rw [hpw]; omega
    have t4 : ((r.size : Int) != 8) = true := bne_iff_ne.2 (by omega)
    clear hpw hpf c3
    go_enter Try.func27, Try.ntmps27
    go_wp2_with fail
    go_ret
    exact ⟨rfl, Below.refl _ _⟩
  obtain ⟨q, rfl⟩ := Int.eq_ofNat_of_zero_le c1
  have hv : verS r s q L = decide ((∀ x ∈ L, x.size = 8) ∧ r.data.toList = (Dg.cl (leafB s) q L m).1) := by
    rw [Bool.eq_iff_iff, verS, decide_eq_true_eq, decide_eq_true_eq, hLm]
    exact ⟨fun h => h.2.2.2.2, fun h => ⟨c1, c2, c3, c4, h⟩⟩
  rw [hv]
  obtain ⟨R, hR⟩ : ∃ R : Bool, decide ((∀ x ∈ L, x.size = 8) ∧ r.data.toList = (Dg.cl (leafB s) q L m).1) = R := ⟨_, rfl⟩
  rw [hR]
  replace hR := hide hR
  clear hv
  have t1 : ¬ (q : Int) < 0 := by omega
  have t2 : ¬ (40 : Int) < (m : Int) := by omega
  have t3 : ¬ wrap64 ((2 : Int) ^ m) ≤ (q : Int) := by rw [hpw]; omega
  have t4 : ((r.size : Int) != 8) = false := by rw [c4]; rfl
  have hq : q ≤ 1099511627776 := by omega
  clear hpw hpf c3 c1
  have hof := fun w => of_lit [⟨#[108]⟩, s] w (by intro y hy; simp at hy; rcases hy with rfl | rfl <;> first | decide | (unfold maxLen; omega)) (by simp)
  rw [allB_2] at hof
  replace hof := hide hof; replace hL := hide hL; replace hLm := hide hLm
  go_enter Try.func27, Try.ntmps27
  go_wp2_with fail
  refine (unhide hof w).mono ?_
  rintro e w1 ⟨rfl, hb1⟩
  have hD0 : Dg.dig ((⟨#[108]⟩ : ByteArray).data.toList ++ s.data.toList) = leafB s := rfl
  rw [hD0]
  obtain ⟨D0, hD00⟩ : ∃ D0, leafB s = D0 := ⟨_, rfl⟩
  have hD8 : D0.length = 8 := by rw [← hD00]; exact Dg.leaf_len _
  rw [hD00] at hR ⊢
  replace hD00 := hide hD00; replace hD8 := hide hD8
  clear hD0 hof
  have hs1 : w.heap.size ≤ w1.heap.size := hb1.size
  have hset1 : (w1.alloc (Obj.cells (digC D0) 52)).heap[w1.heap.size]? = some (.cells (digC D0) 52 (0, 0)) := heap_alloc_new w1 _
  have hbel1 := hb1.alloc hs1 (Obj.cells (digC D0) 52)
  obtain ⟨bd, hbdd⟩ : ∃ bd, bd = w1.heap.size := ⟨_, rfl⟩
  go_wp2_with fail
  rw [← hbdd] at hset1 hs1 ⊢
  go_loopw [2, 36] (fun v2 v36 wr => ∃ k : Nat, k ≤ m ∧ v36 = .int .i64 (k : Int) ∧ v2 = .int .i64 ((Dg.cl D0 q L k).2 : Int) ∧ (∀ x ∈ L.take k, x.size = 8) ∧ wr.heap[bd]? = some (.cells (digC (Dg.cl D0 q L k).1) 52 (0, 0)) ∧ Below w.heap.size w wr) (fun _ v _ => (m - intOf v).toNat)
  case atStart => exact ⟨0, by omega, rfl, rfl, by simp, hset1, hbel1⟩
  case round =>
    obtain ⟨k, hk, rfl, rfl, hall, hrow, hb⟩ := hrel
    have hbd : w.heap.size ≤ bd := hs1
    have hbdl : bd < wr.heap.size := (Array.getElem?_eq_some_iff.1 hrow).1
    clear hset1 hbel1 hb1 hbdd hs1
    have hcl8 := Dg.cl_len D0 (unhide hD8) q L k
    have hbnd : (Dg.cl D0 q L k).2 ≤ 1099511627776 := Nat.le_trans (Dg.cl_le D0 q L k) hq
    by_cases hlt : k < m
    · obtain ⟨bb, off, x, rfl, hbb, hx, hxi, hc⟩ := lst_str ((unhide hL).under hb) hlt
      have hnext : Dg.cl D0 q L (k + 1) = (if (Dg.cl D0 q L k).2 % 2 = 0 then Dg.node (Dg.cl D0 q L k).1 x.data.toList else Dg.node x.data.toList (Dg.cl D0 q L k).1, (Dg.cl D0 q L k).2 / 2) := by rw [Dg.cl, hx]
      by_cases hx8 : x.size = 8
      rotate_left
      · have hRf : R = false := by rw [← unhide hR]; exact decide_eq_false (fun h => hx8 (h.1 x (List.mem_of_getElem? hx)))
        have t5 : ((x.size : Int) != 8) = true := bne_iff_ne.2 (by omega)
        replace hRf := hide hRf
        clear hnext hx8
        go_wp2_with fail
        go_ret
        exact ⟨ret_bool (unhide hRf).symm, hb⟩
      have hall' : ∀ y ∈ L.take (k + 1), y.size = 8 := by
        intro y hy
        obtain ⟨hkl, hxe⟩ := List.getElem?_eq_some_iff.1 hx
        rw [List.take_succ_eq_append_getElem hkl] at hy
        rcases List.mem_append.1 hy with h | h
        · exact hall y h
        · simp at h; rw [h, hxe]; exact hx8
      obtain ⟨D, hD⟩ : ∃ D, (Dg.cl D0 q L k).1 = D := ⟨_, rfl⟩
      obtain ⟨y, hy⟩ : ∃ y, (Dg.cl D0 q L k).2 = y := ⟨_, rfl⟩
      rw [hD] at hrow hcl8 hnext
      rw [hy] at hnext hbnd ⊢
      have hDl := hide hcl8
      have hconv := fun cap => conv8 hcl8 hrow cap
      have t5 : ((x.size : Int) != 8) = false := by rw [hx8]; rfl
      replace hall' := hide hall'; replace hD := hide hD; replace hy := hide hy
      clear hall hcl8
      by_cases hp : y % 2 = 0
      · rw [if_pos hp] at hnext
        have t6 : ((y : Int) % 2 == 0) = true := beq_iff_eq.2 (by omega)
        replace hnext := hide hnext
        have hof := fun w => of_lit [⟨#[110]⟩, ⟨D.toArray⟩, x] w (by intro y hy; simp at hy; rcases hy with rfl | rfl | rfl <;> first | decide | (unfold maxLen; omega) | (simp [ByteArray.size, maxLen, unhide hDl]) ) (by simp)
        rw [allB_3, show Dg.dig ((⟨#[110]⟩ : ByteArray).data.toList ++ ((⟨D.toArray⟩ : ByteArray).data.toList ++ x.data.toList)) = Dg.node D x.data.toList from rfl] at hof
        obtain ⟨N, hN⟩ : ∃ N, Dg.node D x.data.toList = N := ⟨_, rfl⟩
        rw [hN] at hof
        replace hof := hide hof; replace hN := hide hN; replace hrow := hide hrow
        clear hx
        go_wp2_with fail
        refine (unhide hof wr).mono ?_
        rintro e w3 ⟨rfl, hb3⟩
        have hrow3 := (hb3.block bd hbdl).trans (unhide hrow)
        obtain ⟨⟨c0, c1, c2', c3, c4', c5, c6, c7⟩, f0, f1, f2, f3, f4, f5, f6, f7⟩ := row8 hrow3
        replace hrow3 := hide hrow3
        clear hconv hof
        go_wp2_with fail
        have hset := eight_sets (.int .u8 (N[0]?.getD 0).toNat) (.int .u8 (N[1]?.getD 0).toNat) (.int .u8 (N[2]?.getD 0).toNat) (.int .u8 (N[3]?.getD 0).toNat) (.int .u8 (N[4]?.getD 0).toNat) (.int .u8 (N[5]?.getD 0).toNat) (.int .u8 (N[6]?.getD 0).toNat) (.int .u8 (N[7]?.getD 0).toNat) (unhide hrow3)
        have hbel := below8 (.int .u8 (N[0]?.getD 0).toNat) (.int .u8 (N[1]?.getD 0).toNat) (.int .u8 (N[2]?.getD 0).toNat) (.int .u8 (N[3]?.getD 0).toNat) (.int .u8 (N[4]?.getD 0).toNat) (.int .u8 (N[5]?.getD 0).toNat) (.int .u8 (N[6]?.getD 0).toNat) (.int .u8 (N[7]?.getD 0).toNat) bd w.heap.size hbd (hb.trans (hb3.mono hb.size))
        go_roundw
        case rel => exact ⟨k + 1, by omega, by go_num, by rw [unhide hnext]; exact by go_num, hall', by rw [unhide hnext, unhide hN]; exact hset, hbel⟩
        case measure => simp [intOf]; omega
      · rw [if_neg hp] at hnext
        have t6 : ((y : Int) % 2 == 0) = false := beq_eq_false_iff_ne.2 (by omega)
        replace hnext := hide hnext
        have hof := fun w => of_lit [⟨#[110]⟩, x, ⟨D.toArray⟩] w (by intro y hy; simp at hy; rcases hy with rfl | rfl | rfl <;> first | decide | (unfold maxLen; omega) | (simp [ByteArray.size, maxLen, unhide hDl]) ) (by simp)
        rw [allB_3, show Dg.dig ((⟨#[110]⟩ : ByteArray).data.toList ++ (x.data.toList ++ (⟨D.toArray⟩ : ByteArray).data.toList)) = Dg.node x.data.toList D from rfl] at hof
        obtain ⟨N, hN⟩ : ∃ N, Dg.node x.data.toList D = N := ⟨_, rfl⟩
        rw [hN] at hof
        replace hof := hide hof; replace hN := hide hN; replace hrow := hide hrow
        clear hx
        go_wp2_with fail
        refine (unhide hof wr).mono ?_
        rintro e w3 ⟨rfl, hb3⟩
        have hrow3 := (hb3.block bd hbdl).trans (unhide hrow)
        obtain ⟨⟨c0, c1, c2', c3, c4', c5, c6, c7⟩, f0, f1, f2, f3, f4, f5, f6, f7⟩ := row8 hrow3
        replace hrow3 := hide hrow3
        clear hconv hof
        go_wp2_with fail
        have hset := eight_sets (.int .u8 (N[0]?.getD 0).toNat) (.int .u8 (N[1]?.getD 0).toNat) (.int .u8 (N[2]?.getD 0).toNat) (.int .u8 (N[3]?.getD 0).toNat) (.int .u8 (N[4]?.getD 0).toNat) (.int .u8 (N[5]?.getD 0).toNat) (.int .u8 (N[6]?.getD 0).toNat) (.int .u8 (N[7]?.getD 0).toNat) (unhide hrow3)
        have hbel := below8 (.int .u8 (N[0]?.getD 0).toNat) (.int .u8 (N[1]?.getD 0).toNat) (.int .u8 (N[2]?.getD 0).toNat) (.int .u8 (N[3]?.getD 0).toNat) (.int .u8 (N[4]?.getD 0).toNat) (.int .u8 (N[5]?.getD 0).toNat) (.int .u8 (N[6]?.getD 0).toNat) (.int .u8 (N[7]?.getD 0).toNat) bd w.heap.size hbd (hb.trans (hb3.mono hb.size))
        go_roundw
        case rel => exact ⟨k + 1, by omega, by go_num, by rw [unhide hnext]; exact by go_num, hall', by rw [unhide hnext, unhide hN]; exact hset, hbel⟩
        case measure => simp [intOf]; omega
    · obtain rfl : k = m := by omega
      have j1 : ¬ (k : Int) < (k : Int) := by omega
      obtain ⟨D, hD⟩ : ∃ D, (Dg.cl D0 q L k).1 = D := ⟨_, rfl⟩
      rw [hD] at hrow hcl8 hR
      obtain ⟨X, hX⟩ : ∃ X, r.data.toList = X := ⟨_, rfl⟩
      have hXl : X.length = 8 := by rw [← hX, data_len, c4]
      have hconv : ∀ w, (convert 9 32 (.string r)).run Try.prog w = .ok (.slice (some ⟨w.heap.size, 0, none⟩) 8 (grownCap w r.size 0 5)) (Lib.bytesWorld w 5 r) := fun w => by
        have := Lib.run_convert_string_bytes (P := Try.prog) w 9 32 5 r Try.underlying9 Try.underlying32 Try.underlying5
        rw [c4] at this ⊢
        exact this
      have harr := fun w a c => arr_at w a 8 c (Nat.le_refl _)
      have hcell : ∀ (w : World) (j : Nat), j < 8 → (Lib.bytesWorld w 5 r).cell? ⟨w.heap.size, j, none⟩ = some (.int .u8 (X[j]?.getD 0).toNat) := fun w j hj => by
        have := Lib.bytesWorld_cell w 5 r j (by omega)
        rw [hX] at this
        simpa using this
      have hbs := fun w => Lib.bytesWorld_size w 5 r
      have heq := fun w => eqD hXl hcl8 w
      have hbB := fun (B : Nat) (w : World) (h : B ≤ w.heap.size) => Joins.below_bytesWorld B w 5 r h
      have hfin : decide (X = D) = R := by
        rw [← unhide hR, Bool.eq_iff_iff, decide_eq_true_eq, decide_eq_true_eq, hX]
        exact ⟨fun h => ⟨fun x hx => hall x (by rw [List.take_of_length_le (by rw [unhide hLm]; exact Nat.le_refl _)]; exact hx), h⟩, fun h => h.2⟩
      replace hfin := hide hfin; replace hbB := hide hbB; replace hX := hide hX; replace hD := hide hD; replace hXl := hide hXl; replace hcl8 := hide hcl8; replace hrow := hide hrow
      clear hall hbnd
      go_wp2_with fail
      refine wp_region_frontG 6 (fun _ _ w' => Below wr.heap.size wr w') (fun wa wb => Below wa.heap.size wa wb)
        (fun i v w' => match i with
          | 0 => v = .string r
          | 1 => ∃ b cp, v = .slice (some ⟨b, 0, none⟩) 8 cp ∧ b < w'.heap.size ∧ ∀ j, j < 8 → w'.cell? ⟨b, j, none⟩ = some (.int .u8 (X[j]?.getD 0).toNat)
          | 2 => ∃ b, v = .pointer (some ⟨b, 0, none⟩) ∧ b < w'.heap.size ∧ ∀ j, j < 8 → w'.cell? ⟨b, j, none⟩ = some (.int .u8 (X[j]?.getD 0).toNat)
          | 3 => v = digV X
          | 4 => v = digV D
          | 5 => v = .bool (decide (X = D))
          | _ => True) (by rfl) (by kernel_rfl) ?_ ?_ ?_ ?_
      · exact (Below.refl _ _).drew
      · intro wa wb hR i v hv
        match i, hv with
        | 0, h => exact h
        | 1, h => obtain ⟨b, cp, h1, h2, h3⟩ := h; exact ⟨b, cp, h1, Nat.lt_of_lt_of_le h2 hR.size, fun j hj => (hR.cell (p := ⟨b, j, none⟩) h2).trans (h3 j hj)⟩
        | 2, h => obtain ⟨b, h1, h2, h3⟩ := h; exact ⟨b, h1, Nat.lt_of_lt_of_le h2 hR.size, fun j hj => (hR.cell (p := ⟨b, j, none⟩) h2).trans (h3 j hj)⟩
        | 3, h => exact h
        | 4, h => exact h
        | 5, h => exact h
        | _ + 6, _ => trivial
      · intro i hi
        obtain rfl | rfl | rfl | rfl | rfl | rfl : i = 0 ∨ i = 1 ∨ i = 2 ∨ i = 3 ∨ i = 4 ∨ i = 5 := by omega
        · refine FrontStep.of [] _ rfl (by kernel_rfl) ?_
          intro vs L wq hL hC hf
          simp only [putL, List.foldl_nil]
          go_wp2_with fail
          first | exact Below.refl _ _ | (trace_state; sorry)
        · refine FrontStep.of [0] _ rfl (by kernel_rfl) ?_
          intro vs L wq hL hC hf
          simp only [putL, List.foldl_nil, List.foldl_cons, List.getElem?_cons_zero]
          have e0 : vs 0 = _ := hf 0 (by simp)
          rw [e0]
          have hcv := hconv wq
          go_wp2_with fail
          exact ⟨hC.trans ((unhide hbB _ wq (Nat.le_refl _)).mono hC.size), unhide hbB _ wq (Nat.le_refl _), fun j hj => hcell wq j hj⟩
        · refine FrontStep.of [1] _ rfl (by kernel_rfl) ?_
          intro vs L wq hL hC hf
          simp only [putL, List.foldl_nil, List.foldl_cons, List.getElem?_cons_zero, List.getElem?_cons_succ]
          obtain ⟨b, cp, h9, hbl, hbc⟩ := hf 1 (by simp)
          rw [h9]
          go_wp2_with fail
          first | exact hbc | exact ⟨Below.refl _ _, hbc⟩
        · refine FrontStep.of [2] _ rfl (by kernel_rfl) ?_
          intro vs L wq hL hC hf
          simp only [putL, List.foldl_nil, List.foldl_cons, List.getElem?_cons_zero, List.getElem?_cons_succ]
          obtain ⟨b, h10, hbl, hbc⟩ := hf 2 (by simp)
          rw [h10]
          have c0 := hbc 0 (by omega)
          have c1 := hbc 1 (by omega)
          have c2 := hbc 2 (by omega)
          have c3 := hbc 3 (by omega)
          have c4 := hbc 4 (by omega)
          have c5 := hbc 5 (by omega)
          have c6 := hbc 6 (by omega)
          have c7 := hbc 7 (by omega)
          go_wp2_with fail
          first | exact Below.refl _ _ | (trace_state; sorry)
        · refine FrontStep.of [] _ rfl (by kernel_rfl) ?_
          intro vs L wq hL hC hf
          simp only [putL, List.foldl_nil]
          obtain ⟨⟨c0, c1, c2, c3, c4, c5, c6, c7⟩, _⟩ := row8 ((hC.block bd hbdl).trans (unhide hrow))
          go_wp2_with fail
          first | exact Below.refl _ _ | (trace_state; sorry)
        · refine FrontStep.of [3, 4] _ rfl (by kernel_rfl) ?_
          intro vs L wq hL hC hf
          simp only [putL, List.foldl_nil, List.foldl_cons, List.getElem?_cons_zero, List.getElem?_cons_succ]
          have e3 : vs 3 = _ := hf 3 (by simp)
          rw [e3]
          have e4 : vs 4 = _ := hf 4 (by simp)
          rw [e4]
          have hq := heq wq
          go_wp2_with fail
          first | exact Below.refl _ _ | (trace_state; sorry)
      · intro vs L wq hL hC hf
        have e5 : vs 5 = _ := hf 5 (by omega)
        rw [putSome_all]
        simp only [putL, List.range, List.range.loop, List.foldl_nil, List.foldl_cons, List.getElem?_cons_zero, List.getElem?_cons_succ, List.drop_succ_cons, List.drop_zero]
        rw [e5]
        go_wp2_with fail
        go_ret
        exact ⟨ret_bool (unhide hfin), hb.trans (hC.mono hb.size)⟩
end Go.Proofs.Ytlmaofibdjmkeaa
