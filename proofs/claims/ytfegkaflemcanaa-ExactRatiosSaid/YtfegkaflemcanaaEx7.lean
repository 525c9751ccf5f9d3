/- ratio, and the product of two ratios, the program's. -/
import Derived.Test.YtfegkaflemcanaaEx6
import Derived.Test.YtfegkaflemcanaaExQ
namespace Go.Proofs.Ytfegkaflemcanaa
open Go.RowKit

theorem kept {B b : Nat} {w w1 : World} {o : Obj} (hb : Below B w w1) (hlt : b < B) (h : w.heap[b]? = some o) : w1.heap[b]? = some o := (hb.block b hlt).trans h
theorem cells2 {w : World} {b T : Nat} {x y : Value} (h : w.heap[b]? = some (.cells #[x, y] T (0, 0))) : w.cell? ⟨b, 0, none⟩ = some x ∧ w.cell? ⟨b, 1, none⟩ = some y ∧ w.frozen? ⟨b, 0, none⟩ = false ∧ w.frozen? ⟨b, 1, none⟩ = false := by
  refine ⟨?_, ?_, ?_, ?_⟩ <;> simp [World.cell?, World.frozen?, h]
theorem new1 (w : World) (o : Obj) : (w.alloc o).heap[w.heap.size]? = some o := heap_alloc_new w o
theorem old1 {w : World} {b : Nat} {o o' : Obj} (h : w.heap[b]? = some o) : (w.alloc o').heap[b]? = some o :=
  kept ((Below.refl w.heap.size w).alloc (Nat.le_refl _) o') (Array.getElem?_eq_some_iff.1 h).1 h
theorem blk3 (w : World) (o1 o2 o3 : Obj) : (((w.alloc o1).alloc o2).alloc o3).heap[w.heap.size]? = some o1 ∧ (((w.alloc o1).alloc o2).alloc o3).heap[w.heap.size + 1]? = some o2 ∧ (((w.alloc o1).alloc o2).alloc o3).heap[w.heap.size + 1 + 1]? = some o3 :=
  ⟨old1 (old1 (new1 w o1)), old1 (by have := new1 (w.alloc o1) o2; simpa using this), by have := new1 ((w.alloc o1).alloc o2) o3; simpa using this⟩

theorem ratS_val (neg : Bool) (n d : Nat) :
    (okI (Ex.fitI (Ex.sg neg n)) = true → okI (Ex.fitI (Ex.sg false d)) = true → Ex.numR (Ex.ratS neg n d) = valI (Ex.fitI (Ex.sg neg n)) ∧ Ex.denR (Ex.ratS neg n d) = valI (Ex.fitI (Ex.sg false d)) ∧ Ex.okR (Ex.ratS neg n d) = true) ∧
    (okI (Ex.fitI (Ex.sg neg n)) = false ∨ okI (Ex.fitI (Ex.sg false d)) = false → Ex.numR (Ex.ratS neg n d) = 0 ∧ Ex.denR (Ex.ratS neg n d) = 0 ∧ Ex.okR (Ex.ratS neg n d) = false) := by
  unfold Ex.ratS
  cases Ex.fitI (Ex.sg neg n) <;> cases Ex.fitI (Ex.sg false d) <;> simp [okI, valI, Ex.numR, Ex.denR, Ex.okR]

set_option maxHeartbeats 1000000 in
theorem ratio_any (neg : Bool) (n d : Nat) (a b c e : Int) (w : World) (ha : a = hiW n) (hb : b = loW n) (hc : c = hiW d) (he : e = loW d) :
    Calls Try.prog 47 #[.bool neg, .agg #[.int .u64 a, .int .u64 b], .agg #[.int .u64 c, .int .u64 e]] w fun e w' => e = .returned (.tuple #[.agg #[.int .i64 (Ex.numR (Ex.ratS neg n d)), .int .i64 (Ex.denR (Ex.ratS neg n d))], .bool (Ex.okR (Ex.ratS neg n d))]) ∧ Below w.heap.size w w' := by
  subst ha; subst hb; subst hc; subst he
  obtain ⟨v1, v2⟩ := ratS_val neg n d
  have n1 := fun w => number_any neg _ _ n w rfl rfl
  have n2 := fun w => number_any false _ _ d w rfl rfl
  obtain ⟨x, hx⟩ : ∃ x, x = valI (Ex.fitI (Ex.sg neg n)) := ⟨_, rfl⟩
  obtain ⟨y, hy⟩ : ∃ y, y = valI (Ex.fitI (Ex.sg false d)) := ⟨_, rfl⟩
  obtain ⟨p, hp⟩ : ∃ p, p = okI (Ex.fitI (Ex.sg neg n)) := ⟨_, rfl⟩
  obtain ⟨q, hq⟩ : ∃ q, q = okI (Ex.fitI (Ex.sg false d)) := ⟨_, rfl⟩
  rw [← hx, ← hp] at n1
  rw [← hy, ← hq] at n2
  rw [← hx, ← hy, ← hp, ← hq] at v1
  rw [← hp, ← hq] at v2
  obtain ⟨X, hX⟩ : ∃ X, X = Ex.numR (Ex.ratS neg n d) := ⟨_, rfl⟩
  obtain ⟨Y, hY⟩ : ∃ Y, Y = Ex.denR (Ex.ratS neg n d) := ⟨_, rfl⟩
  obtain ⟨O, hO⟩ : ∃ O, O = Ex.okR (Ex.ratS neg n d) := ⟨_, rfl⟩
  rw [← hX, ← hY, ← hO] at v1 v2 ⊢
  clear hx hy hp hq hX hY hO
  replace n1 := hide n1; replace n2 := hide n2
  have hbw : ∀ o1 o2 o3, Below w.heap.size w (((w.alloc o1).alloc o2).alloc o3) := fun o1 o2 o3 => (((Below.refl _ _).alloc (Nat.le_refl _) _).alloc (by simp) _).alloc (by simp; omega) _
  have fin : (p = true ∧ q = true ∧ X = x ∧ Y = y ∧ O = true) ∨ ((p = false ∨ (p = true ∧ q = false)) ∧ X = 0 ∧ Y = 0 ∧ O = false) := by
    cases p <;> cases q
    · exact Or.inr ⟨Or.inl rfl, (v2 (Or.inl rfl)).1, (v2 (Or.inl rfl)).2.1, (v2 (Or.inl rfl)).2.2⟩
    · exact Or.inr ⟨Or.inl rfl, (v2 (Or.inl rfl)).1, (v2 (Or.inl rfl)).2.1, (v2 (Or.inl rfl)).2.2⟩
    · exact Or.inr ⟨Or.inr ⟨rfl, rfl⟩, (v2 (Or.inr rfl)).1, (v2 (Or.inr rfl)).2.1, (v2 (Or.inr rfl)).2.2⟩
    · exact Or.inl ⟨rfl, rfl, (v1 rfl rfl).1, (v1 rfl rfl).2.1, (v1 rfl rfl).2.2⟩
  clear v1 v2
  rcases fin with ⟨rfl, rfl, rfl, rfl, rfl⟩ | ⟨h, rfl, rfl, rfl⟩
  · go_enter Try.func47, Try.ntmps47
    go_wp2_with fail
    refine (unhide n1 _).mono ?_
    rintro e w1 ⟨rfl, hb1⟩
    clear n1
    obtain ⟨_, k2, k3⟩ := blk3 w (Obj.cells #[.int .u64 (hiW n), .int .u64 (loW n)] 55) (Obj.cells #[.int .u64 (hiW d), .int .u64 (loW d)] 55) (Obj.cells #[.int .i64 0, .int .i64 0] 33)
    replace k2 := kept hb1 (by simp) k2
    replace k3 := kept hb1 (by simp) k3
    replace hb1 := (hbw _ _ _).trans (hb1.mono (by simp; omega))
    obtain ⟨d0, d1, _, _⟩ := cells2 k2
    go_wp2_with fail
    refine (unhide n2 _).mono ?_
    rintro e w2 ⟨rfl, hb2⟩
    clear n2 d0 d1
    replace k3 := kept hb2 (Array.getElem?_eq_some_iff.1 k3).1 k3
    replace hb2 := hb1.trans (hb2.mono hb1.size)
    obtain ⟨c0, c1, f0, f1⟩ := cells2 k3
    clear k2 k3 hb1
    go_wp2_with fail
    refine bodyPost_ret (v := .tuple #[.agg #[.int .i64 X, .int .i64 Y], .bool true]) (by simp [results, Try.results47, go_sem, c0, c1]) rfl ⟨rfl, ?_⟩
    exact ((hb2.setCell (by simp; omega) _).setCell (by simp; omega) _)
  · rcases h with rfl | ⟨rfl, rfl⟩
    · go_enter Try.func47, Try.ntmps47
      go_wp2_with fail
      refine (unhide n1 _).mono ?_
      rintro e w1 ⟨rfl, hb1⟩
      clear n1
      obtain ⟨_, k2, k3⟩ := blk3 w (Obj.cells #[.int .u64 (hiW n), .int .u64 (loW n)] 55) (Obj.cells #[.int .u64 (hiW d), .int .u64 (loW d)] 55) (Obj.cells #[.int .i64 0, .int .i64 0] 33)
      replace k2 := kept hb1 (by simp) k2
      replace k3 := kept hb1 (by simp) k3
      replace hb1 := (hbw _ _ _).trans (hb1.mono (by simp; omega))
      obtain ⟨d0, d1, _, _⟩ := cells2 k2
      go_wp2_with fail
      refine (unhide n2 _).mono ?_
      rintro e w2 ⟨rfl, hb2⟩
      clear n2 d0 d1
      replace k3 := kept hb2 (Array.getElem?_eq_some_iff.1 k3).1 k3
      replace hb2 := hb1.trans (hb2.mono hb1.size)
      obtain ⟨c0, c1, f0, f1⟩ := cells2 k3
      clear k2 k3 hb1
      go_wp2_with fail
      refine bodyPost_ret (v := .tuple #[.agg #[.int .i64 0, .int .i64 0], .bool false]) (by simp [results, Try.results47, go_sem, c0, c1]) rfl ⟨rfl, ?_⟩
      exact ((hb2.setCell (by simp; omega) _).setCell (by simp; omega) _)
    · go_enter Try.func47, Try.ntmps47
      go_wp2_with fail
      refine (unhide n1 _).mono ?_
      rintro e w1 ⟨rfl, hb1⟩
      clear n1
      obtain ⟨_, k2, k3⟩ := blk3 w (Obj.cells #[.int .u64 (hiW n), .int .u64 (loW n)] 55) (Obj.cells #[.int .u64 (hiW d), .int .u64 (loW d)] 55) (Obj.cells #[.int .i64 0, .int .i64 0] 33)
      replace k2 := kept hb1 (by simp) k2
      replace k3 := kept hb1 (by simp) k3
      replace hb1 := (hbw _ _ _).trans (hb1.mono (by simp; omega))
      obtain ⟨d0, d1, _, _⟩ := cells2 k2
      go_wp2_with fail
      refine (unhide n2 _).mono ?_
      rintro e w2 ⟨rfl, hb2⟩
      clear n2 d0 d1
      replace k3 := kept hb2 (Array.getElem?_eq_some_iff.1 k3).1 k3
      replace hb2 := hb1.trans (hb2.mono hb1.size)
      obtain ⟨c0, c1, f0, f1⟩ := cells2 k3
      clear k2 k3 hb1
      go_wp2_with fail
      refine bodyPost_ret (v := .tuple #[.agg #[.int .i64 0, .int .i64 0], .bool false]) (by simp [results, Try.results47, go_sem, c0, c1]) rfl ⟨rfl, ?_⟩
      exact ((hb2.setCell (by simp; omega) _).setCell (by simp; omega) _)
end Go.Proofs.Ytfegkaflemcanaa
