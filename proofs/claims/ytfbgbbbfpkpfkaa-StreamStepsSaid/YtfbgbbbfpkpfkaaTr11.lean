/- Streams: open, Feed. -/
import Derived.Test.YtfbgbbbfpkpfkaaTr10
namespace Go.Proofs.Ytfbgbbbfpkpfkaa
open Go.RowKit
theorem Fam.tail {w : World} {S : Nat → Prop} {v : Value} {vs : List Value} {l : List Int} {ls : List (List Int)} (h : Fam w S (v :: vs) (l :: ls)) : Fam w S vs ls :=
  ⟨by have := h.len; simpa using this, fun i u m h1 h2 => h.view (i + 1) u m (by simpa using h1) (by simpa using h2), fun i j u u' b h1 h2 hij => h.ap (i + 1) (j + 1) u u' b (by simpa using h1) (by simpa using h2) (by omega)⟩
theorem Fam.nils {w : World} {S : Nat → Prop} {vs : List Value} {ls : List (List Int)} (h : Fam w S vs ls) : Fam w S (nilS :: vs) ([] :: ls) := by
  refine ⟨by simp [h.len], fun i u m h1 h2 => ?_, fun i j u u' b h1 h2 hij e1 e2 => ?_⟩
  · cases i with
    | zero =>
      simp at h1 h2
      subst h1; subst h2
      exact View.nil _ _
    | succ i => exact h.view i u m (by simpa using h1) (by simpa using h2)
  · cases i with
    | zero =>
      simp at h1
      subst h1
      cases e1
    | succ i =>
      cases j with
      | zero =>
        simp at h2
        subst h2
        cases e2
      | succ j => exact h.ap i j u u' b (by simpa using h1) (by simpa using h2) (by omega) e1 e2
theorem Fam.mem {w : World} {S : Nat → Prop} {vs : List Value} {ls : List (List Int)} (h : Fam w S vs ls) {v : Value} (hv : v ∈ vs) {b : Nat} (hb : v.ownBlock = some b) : S b ∧ b < w.heap.size ∧ ∃ cur, w.heap[b]? = some (.cells cur 3 (0, 0)) := by
  obtain ⟨i, hi, e⟩ := List.getElem_of_mem hv
  have hi' : i < ls.length := by rw [← h.len]; exact hi
  exact (h.view i v _ (by rw [List.getElem?_eq_getElem hi, e]) (List.getElem?_eq_getElem hi')).blk hb
theorem Fam.own {w : World} {S : Nat → Prop} {vs : List Value} {ls : List (List Int)} (h : Fam w S vs ls) {S' : Nat → Prop} (hS : ∀ v ∈ vs, ∀ b, v.ownBlock = some b → S' b) : Fam w S' vs ls := by
  refine ⟨h.len, fun i v l h1 h2 => ?_, h.ap⟩
  have hv := h.view i v l h1 h2
  rcases hv with ⟨rfl, rfl⟩ | ⟨g, off, cap, cur, rfl, _, e2⟩
  · exact View.nil _ _
  · exact .inr ⟨g, off, cap, cur, rfl, hS _ (List.mem_of_getElem? h1) g rfl, e2⟩
theorem lst_stg_i64 {w : World} {S : Nat → Prop} {a : Option Addr} {n : Nat} {sts : List Stg} (h : Lst Enc.stg w S a n sts) : ∀ s ∈ sts, AllI s.1 ∧ AllI s.2 := by
  intro s hs
  obtain ⟨i, hi, e⟩ := List.getElem_of_mem hs
  obtain ⟨b, off, t, a1, n1, c1, a2, n2, c2, _, _, ht, ⟨_, _, p1⟩, ⟨_, _, p2⟩, _⟩ := lst_stg h (k := i) (by have := h.1; omega)
  rw [List.getElem?_eq_getElem hi, e] at ht
  injection ht with ht
  subst ht
  exact ⟨p1.i64, p2.i64⟩
theorem tot_mem {sts : List Stg} {s : Stg} (hs : s ∈ sts) (out : List Int) : s.2.length + out.length ≤ tot sts out := by
  induction sts with
  | nil => cases hs
  | cons t sts ih =>
    rw [tot_cons]
    rcases List.mem_cons.1 hs with rfl | hs
    · unfold tot; omega
    · have := ih hs; omega
set_option maxHeartbeats 1000000 in
theorem open_none (la : Option Addr) (ln lc : Nat) (sa : Option Addr) (n sc : Nat) (w : World) (hne : n ≠ ln) :
    Calls Try.prog 31 #[.slice la ln lc, .agg #[.slice sa n sc]] w fun e w' => e = .returned (.pointer none) ∧ Below w.heap.size w w' := by
  have t1 : ((n : Int) != (ln : Int)) = true := by simp; omega
  have hb := (Below.refl w.heap.size w).alloc (Nat.le_refl _) (Obj.cells #[.slice sa n sc] 29)
  go_enter Try.func31, Try.ntmps31
  go_wp2_with fail
  go_ret
  exact ⟨rfl, hb⟩
set_option maxHeartbeats 1000000 in
theorem open_any (la : Option Addr) (ln lc : Nat) (sa : Option Addr) (sc : Nat) (sts : List Stg) (w : World) (hl : Lst Enc.stg w (fun b => b < w.heap.size) sa ln sts) (hn : ln ≤ 1000000) (hbd : ∀ s ∈ sts, s.1.length ≤ 300000 ∧ s.2.length ≤ 300000) :
    Calls Try.prog 31 #[.slice la ln lc, .agg #[.slice sa ln sc]] w fun e w' => ∃ bf bs vs, e = .returned (.pointer (some ⟨bf, 0, none⟩)) ∧ w'.heap[bf]? = some (.cells #[.slice la ln lc, .slice (some ⟨bs, 0, none⟩) ln ln] 68 (0, 0)) ∧ w'.heap[bs]? = some (.cells vs.toArray 33 (0, 0)) ∧ w.heap.size ≤ bf ∧ w.heap.size ≤ bs ∧ Fam w' (fun g => w.heap.size ≤ g) vs (flatS sts) ∧ Below w.heap.size w w' := by
  have t1 : ((ln : Int) != (ln : Int)) = false := by simp
  obtain ⟨b3x, V3, hb3, hV3, st⟩ := (St.start w).new (Obj.cells #[.slice sa ln sc] 29)
  obtain ⟨b4x, V4, hb4, hV4, st⟩ := st.new (Obj.cells #[.slice la ln lc, .slice sa ln sc] 68)
  have k4 := st.get 0 rfl
  have hz := st.below
  have hl4 := hl.under hz
  have hc4 : b3x + 1 = b4x := by rw [← hb4, ← hV3, World.size_alloc, hb3]
  have hcp := copied_any b4x (.slice la ln lc) sa ln sc sts V4 k4 hl4 hn hbd
  clear st k4 hl4 hl hbd
  replace hb3 := hide hb3; replace hV3 := hide hV3; replace hV4 := hide hV4; replace hc4 := hide hc4; replace hz := hide hz; replace hcp := hide hcp; replace hb4 := hide hb4
  go_enter Try.func31, Try.ntmps31
  go_wp2_with fail
  rw [unhide hV3, unhide hV4]
  try rw [unhide hb3]
  try rw [unhide hc4]
  refine (unhide hcp).mono ?_
  rintro e w1 ⟨bs, vs, rfl, hrow, hlo, hfam, hb⟩
  have hz1 := (unhide hz).trans (hb.mono (unhide hz).size)
  have hlo1 := Nat.le_trans (unhide hz).size hlo
  have hfam1 := hfam.wide (S' := fun g => w.heap.size ≤ g) (fun b hb => Nat.le_trans (unhide hz).size hb)
  have hba := (Below.refl w1.heap.size w1).alloc (Nat.le_refl _) (Obj.cells #[.slice la ln lc, .slice (some ⟨bs, 0, none⟩) ln ln] 68)
  have hn1 := heap_alloc_new w1 (Obj.cells #[.slice la ln lc, .slice (some ⟨bs, 0, none⟩) ln ln] 68)
  have hrow2 := kept' hba hrow
  have hfam2 := hfam1.below hba
  have hz2 := hz1.trans (hba.mono hz1.size)
  have hsz := hz1.size
  clear hcp hV3 hV4 hb3 hc4 hz hb hfam hlo hrow hfam1 hba hz1
  replace hn1 := hide hn1; replace hrow2 := hide hrow2; replace hfam2 := hide hfam2; replace hz2 := hide hz2; replace hsz := hide hsz; replace hlo1 := hide hlo1
  go_wp2_with fail
  go_ret
  exact ⟨_, bs, vs, rfl, unhide hn1, unhide hrow2, unhide hsz, unhide hlo1, unhide hfam2, unhide hz2⟩

/-- the blocks that hold no part of a state -/
def QS (w : World) (bs bo : Nat) (vo : Value) (vs : List Value) (b : Nat) : Prop := b < w.heap.size ∧ b ≠ bs ∧ b ≠ bo ∧ ∀ v ∈ vo :: vs, v.ownBlock ≠ some b
section
variable {Q : Nat → Prop} {bs bo : Nat} {w wS : World} {vs : List Value} {vo : Value} {sts : List Stg} {out : List Int}
theorem FlowI.again (h : FlowI Q bs bo w vs vo sts out) : FlowI (QS w bs bo vo vs) bs bo w vs vo sts out :=
  ⟨h.row, h.box, fun e => e.2.1 rfl, fun e => e.2.2.1 rfl, fun _ e => e.1, h.fam.own (fun v hv _ hb e => e.2.2.2 v hv hb), h.num, h.numo⟩
theorem FlowI.qsub (h : FlowI Q bs bo w vs vo sts out) : ∀ b, Q b → QS w bs bo vo vs b := fun b hb =>
  ⟨h.lt b hb, fun e => h.qs (e ▸ hb), fun e => h.qo (e ▸ hb), fun _ hv e => (h.fam.mem hv e).1 hb⟩
theorem FlowI.prot (h : FlowI Q bs bo w vs vo sts out) (hb : Below w.heap.size w wS) {b : Nat} {o : Obj} (ho : wS.heap[b]? = some o) (hbb : w.heap.size ≤ b ∨ ∃ cs T, o = .cells cs T (0, 0) ∧ T ≠ 33 ∧ T ≠ 22 ∧ T ≠ 3) : QS wS bs bo vo vs b := by
  have hrow := kept' hb h.row
  have hbox := kept' hb h.box
  have h1 := (Array.getElem?_eq_some_iff.1 h.row).1
  have h2 := (Array.getElem?_eq_some_iff.1 h.box).1
  refine ⟨(Array.getElem?_eq_some_iff.1 ho).1, fun e => ?_, fun e => ?_, fun v hv e => ?_⟩
  · rcases hbb with hbb | ⟨cs, T, rfl, t1, _, _⟩
    · omega
    · rw [e, hrow] at ho
      injection ho with ho
      injection ho with _ ht
      exact t1 ht.symm
  · rcases hbb with hbb | ⟨cs, T, rfl, _, t2, _⟩
    · omega
    · rw [e, hbox] at ho
      injection ho with ho
      injection ho with _ ht
      exact t2 ht.symm
  · obtain ⟨_, hlt, cur, hc⟩ := h.fam.mem hv e
    rcases hbb with hbb | ⟨cs, T, rfl, _, _, t3⟩
    · omega
    · rw [kept' hb hc] at ho
      injection ho with ho
      injection ho with _ ht
      exact t3 ht.symm
end
theorem ptr_nil (a : Addr) (w : World) : Sem.run Try.prog (binOp .eql 63 (.pointer (some a)) (.pointer none)) w = .ok (.bool false) w := by kernel_rfl
set_option maxRecDepth 100000 in
set_option maxHeartbeats 8000000 in
theorem feed_any (la : Option Addr) (ln lc : Nat) (l : List (List Sub)) (sa : Option Addr) (sc : Nat) (sts : List Stg) (g : Int) (w : World) (hll : Lst Enc.lk w (fun b => b < w.heap.size) la ln l) (hsm : ∀ x ∈ l, Small x) (hto : ∀ x ∈ l, ToI x) (hl : Lst Enc.stg w (fun b => b < w.heap.size) sa ln sts) (hn : ln ≤ 1000000) (hg : I64 g)
    (hbd : ∀ s ∈ sts, s.1.length ≤ 300000) (ht : tot sts [] + 1 ≤ 200000) :
    Calls Try.prog 20 #[.slice la ln lc, .agg #[.slice sa ln sc], .int .i64 g] w fun e w' => ∃ a a' c', e = .returned (.tuple #[.agg #[.slice a ln ln], .slice a' (feedS l sts g).2.length c']) ∧ Lst Enc.stg w' (fun b => w.heap.size ≤ b ∧ b < w'.heap.size) a ln (feedS l sts g).1 ∧ Lst Enc.int w' (fun b => w.heap.size ≤ b ∧ b < w'.heap.size) a' (feedS l sts g).2.length (feedS l sts g).2 ∧ Below w.heap.size w w' := by
  have hbd2 : ∀ s ∈ sts, s.1.length ≤ 300000 ∧ s.2.length ≤ 300000 := fun s hs => ⟨hbd s hs, by
    have := tot_mem hs []
    omega⟩
  have hln := hll.1
  have hsn := hl.1
  have hnum := lst_stg_i64 hl
  have hbd' := hbd
  obtain ⟨b4x, V4, hb4, hV4, st⟩ := (St.start w).new (Obj.cells #[.slice sa ln sc] 29)
  obtain ⟨b6x, V6, hb6, hV6, st⟩ := st.new (Obj.cells #[nilS] 29)
  have hc6 : b4x + 1 = b6x := by rw [← hb6, ← hV4, World.size_alloc, hb4]
  have d4 := st.cell 1 rfl 0 (v := .slice sa ln sc) rfl
  have k6 := st.get 0 rfl
  have hz := st.below
  have hge6 : w.heap.size ≤ b6x := by omega
  have hop := open_any la ln lc sa sc sts V6 (hl.under hz) hn hbd2
  have hl6 := hll.under hz
  have hll0 := hide hll
  clear st hl hll hbd2 hbd
  replace hb4 := hide hb4; replace hV4 := hide hV4; replace hV6 := hide hV6; replace hc6 := hide hc6; replace hb6 := hide hb6; replace hz := hide hz; replace hop := hide hop; replace hl6 := hide hl6; replace k6 := hide k6; replace hnum := hide hnum; replace hbd' := hide hbd'; replace ht := hide ht; replace hln := hide hln; replace hsn := hide hsn; replace hsm := hide hsm; replace hto := hide hto; replace hge6 := hide hge6
  go_enter Try.func20, Try.ntmps20
  go_upto_region 1 with fail
  rw [unhide hV4, unhide hV6, unhide hb4, unhide hc6]
  clear hV4 hV6 hb4 hc6 hb6
  obtain ⟨b4, rfl⟩ : ∃ b : Nat, b = b4x := ⟨_, rfl⟩
  obtain ⟨b6, rfl⟩ : ∃ b : Nat, b = b6x := ⟨_, rfl⟩
  go_wp2_with fail
  refine (unhide hop).mono ?_
  rintro e w1 ⟨bf, bs, vs, rfl, hflow, hrow, hlof, hlos, hfam, hb⟩
  have k6' := kept' hb (unhide k6)
  have hz1 := (unhide hz).trans (hb.mono (unhide hz).size)
  have hl1 := (unhide hl6).under hb
  have hsz6 := (unhide hz).size
  have p1 := ptr_nil ⟨bf, 0, none⟩ w1
  clear hop k6 hz hl6 d4 hb
  obtain ⟨b9x, V9, hb9, hV9, st⟩ := (St.start w1).new (Obj.cells #[nilS] 22)
  have hbb := st.below
  have hbox := st.get 0 rfl
  have hz9 := hz1.trans (hbb.mono hz1.size)
  have hge9 : w.heap.size ≤ b9x := by have := hz1.size; omega
  have hI0 : FlowI (fun b => b < w.heap.size) bs b9x V9 vs nilS sts [] := ⟨kept' hbb hrow, hbox, by omega, by omega, fun b hb => Nat.lt_of_lt_of_le hb hz9.size, ((hfam.below hbb).wide (fun b hb => by show ¬ b < w.heap.size; omega)).nils, unhide hnum, fun y hy => by cases hy⟩
  have hflow9 := kept' hbb hflow
  have k69 := kept' hbb k6'
  have hl9 := hl1.under hbb
  have hskc := sink_any bs b9x bf la ln lc ln l (unhide hsm) (unhide hto) hn (unhide hln) hn l.length 0 V9 37 #[.pointer (some ⟨b9x, 0, none⟩)] [] (by omega) (.inr ⟨.inl rfl, _, rfl⟩) (sinkOK_feed bs b9x la ln l) (fun p hp => by cases hp) (fun p hp => by cases hp) hflow9 hl9
  clear st hrow hfam hbb hbox hflow k6' hl1 hz1
  replace hb9 := hide hb9; replace hV9 := hide hV9; replace hI0 := hide hI0; replace hflow9 := hide hflow9; replace k69 := hide k69; replace hl9 := hide hl9; replace hskc := hide hskc; replace hz9 := hide hz9
  have hmf : ∀ (fn : Fn) (first cap : Array Value) (w : World), (Instr.makeFunc fn first cap).run Try.prog w = .ok (.func fn first cap) w := fun _ _ _ _ => rfl
  go_wp2_with fail
  rw [unhide hV9]
  try rw [unhide hb9]
  refine (unhide hskc).mono ?_
  rintro e wS ⟨v, rfl, ⟨fid, caps, L, rfl, hsh, hLh, hLp, _, hsk⟩, hb⟩
  have hIS := (unhide hI0).under hb
  have hIQ := hIS.again
  have hflS := kept' hb (unhide hflow9)
  have hzS := (unhide hz9).trans (hb.mono (unhide hz9).size)
  have hlS := (unhide hll0).below hzS
  have hQL : ∀ p ∈ L, QS wS bs b9x nilS vs p.1 ∧ wS.heap[p.1]? = some p.2 := fun p hp => ⟨by
    rcases hLp p hp with e | e | e
    · exact (unhide hI0).prot hb (hLh p hp) (.inr ⟨_, _, Option.some.inj ((hLh p hp).symm.trans (e ▸ hflS)), by decide, by decide, by decide⟩)
    · cases e
    · exact (unhide hI0).prot hb (hLh p hp) (.inl e), hLh p hp⟩
  have hQf : QS wS bs b9x nilS vs bf := (unhide hI0).prot hb hflS (.inr ⟨_, _, rfl, by decide, by decide, by decide⟩)
  have hQ6 : QS wS bs b9x nilS vs b6 := (unhide hI0).prot hb (kept' hb (unhide k69)) (.inr ⟨_, _, rfl, by decide, by decide, by decide⟩)
  have hQw : ∀ b, b < w.heap.size → QS wS bs b9x nilS vs b := hIS.qsub
  have hcall := hsk (QS wS bs b9x nilS vs) wS [] sts [] vs nilS g hQL (hlS.wide hQw) hIQ rfl (by rw [unhide hsn, List.drop_zero, unhide hln]) hg (unhide ht) (unhide hbd')
  have k6S := kept' hb (unhide k69)
  obtain ⟨FS, hFS⟩ : ∃ r, feedS l sts g = r := ⟨_, rfl⟩
  rw [List.drop_zero, hFS] at hcall
  simp only [List.nil_append] at hcall
  clear hskc hI0 hflow9 k69 hl9 hz9 hV9 hb9 hLh hLp hsk hIS hIQ hlS hQL hb
  replace hcall := hide hcall; replace hflS := hide hflS; replace k6S := hide k6S; replace hQf := hide hQf; replace hQ6 := hide hQ6; replace hQw := hide hQw; replace hzS := hide hzS; replace hFS := hide hFS
  rcases hsh with ⟨rfl, p1, p2, p3, p4, rfl⟩ | ⟨rfl | rfl, p1, rfl⟩
  all_goals
    replace hcall := hide (unhide hcall)
    go_wp2_with fail
    refine (unhide hcall).mono ?_
    rintro e wk ⟨rfl, ⟨vs', vo', hI'⟩, hk'⟩
    have hfl' := (hk'.block bf (unhide hQf)).trans (unhide hflS)
    have k6' := (hk'.block b6 (unhide hQ6)).trans (unhide k6S)
    have hz' : Below w.heap.size w wk := (unhide hzS).trans (hk'.sub (unhide hQw)).below
    have hV := hI'.fam.view 0 vo' FS.2 rfl rfl
    obtain ⟨a', c', hvo, _, _, hLo⟩ := hV.lst hI'.numo
    have hSt := stages_lst (n := ln) hI'.row hI'.fam.tail hI'.num (by rw [← unhide hFS, feedS_len _ _ _ (by rw [unhide hsn, unhide hln]), unhide hln])
    have hbx := hI'.box
    rw [hvo] at hbx
    have d9 := blk_cell hbx
    have df : wk.cell? ⟨bf, 1, none⟩ = some (.slice (some ⟨bs, 0, none⟩) ln ln) := by rw [cell_of_row wk bf _ _ _ _ hfl']; rfl
    have d6 : wk.cell? ⟨b6, 0, none⟩ = some nilS := blk_cell k6'
    obtain ⟨m, hm⟩ : ∃ m, FS.2.length = m := ⟨_, rfl⟩
    rw [hm] at d9
    rw [hvo] at hV
    have hV' := hide hV
    have hno' := hide hI'.numo
    have hnum' := hide hI'.num
    have hrow' := hide hI'.row
    have hfam' := hide hI'.fam.tail
    have hlen' : Hid (FS.1.length = ln) := hide (by rw [← unhide hFS, feedS_len _ _ _ (by rw [unhide hsn, unhide hln]), unhide hln])
    have hne9 : b9x ≠ b6 := fun e => by rw [e, k6'] at hbx; injection hbx with hbx; injection hbx with _ h; exact absurd h (by decide)
    have hnef : bf ≠ b6 := fun e => by rw [e, k6'] at hfl'; injection hfl' with hfl'; injection hfl' with _ h; exact absurd h (by decide)
    have hAny1 : ∀ wq : World, (Below wk.heap.size wk wq ∨ ∃ wy, Below wk.heap.size wk wy ∧ wq = wy.setCell ⟨b6, 0, none⟩ (.slice (some ⟨bs, 0, none⟩) ln ln)) → wq.cell? ⟨bf, 1, none⟩ = some (.slice (some ⟨bs, 0, none⟩) ln ln) := fun wq h => by
      rcases h with h | ⟨wy, h, rfl⟩
      · exact cell_under df h
      · rw [World.cell?_setCell_other _ _ _ _ (fun e => by injection e with e; exact hnef e.symm)]
        exact cell_under df h
    have hAny2 : ∀ wq : World, (Below wk.heap.size wk wq ∨ ∃ wy, Below wk.heap.size wk wy ∧ wq = wy.setCell ⟨b6, 0, none⟩ (.slice (some ⟨bs, 0, none⟩) ln ln)) → wq.cell? ⟨b9x, 0, none⟩ = some (.slice a' m c') := fun wq h => by
      rcases h with h | ⟨wy, h, rfl⟩
      · exact cell_under d9 h
      · rw [World.cell?_setCell_other _ _ _ _ (fun e => by injection e with e; exact hne9 e.symm)]
        exact cell_under d9 h
    have hlos' := hide (Nat.le_trans hsz6 hlos)
    have hQw' := hQw
    clear hcall hflS k6S hI' hk' hfl' hV hvo hbx hQf hQ6 hQw hzS hSt hLo hne9 hnef
    replace hz' := hide hz'; replace k6' := hide k6'; replace hm := hide hm
    go_upto_region 6 with fail
    clear d6
    refine wp_region_frontG 7 (fun LL vs w' => CA 6 [4] [] (fun wz => Below wk.heap.size wk wz) (fun _ wz => ∃ wy, Below wk.heap.size wk wy ∧ wz = wy.setCell ⟨b6, 0, none⟩ (.slice (some ⟨bs, 0, none⟩) ln ln)) LL vs w') (fun _ _ => True)
      (fun ix v w' => match ix with
        | 0 => v = .pointer (some ⟨bf, 0, none⟩)
        | 1 => v = .pointer (some ⟨bf, 0, none⟩)
        | 2 => v = .pointer (some ⟨bf, 1, none⟩)
        | 3 => v = .slice (some ⟨bs, 0, none⟩) ln ln
        | 4 => v = .agg #[.slice (some ⟨bs, 0, none⟩) ln ln]
        | 5 => v = .slice a' m c'
        | 6 => True
        | _ => True) (by rfl) (by kernel_rfl) ?_ ?_ ?_ ?_
    · exact CA.start 6 [4] [] _ (Below.refl _ _).drew
    · intro wa wb hR ix v hv
      match ix, hv with
      | 0, h => exact h
      | 1, h => exact h
      | 2, h => exact h
      | 3, h => exact h
      | 4, h => exact h
      | 5, h => exact h
      | 6, h => exact h
      | _ + 7, _ => trivial
    · intro ix hix
      obtain rfl | rfl | rfl | rfl | rfl | rfl | rfl : ix = 0 ∨ ix = 1 ∨ ix = 2 ∨ ix = 3 ∨ ix = 4 ∨ ix = 5 ∨ ix = 6 := by omega
      · refine FrontStep.of [] _ rfl (by kernel_rfl) ?_
        intro vs LL wq hLL hC hf
        simp only [putL, List.foldl_nil]
        have hcc : ∀ p ∈ ([] : List (Nat × Nat)), p.1 = 0 → LL p.2 = true := fun p hp e => by
          simp at hp
        go_wp2_with fail
        first | exact hC.keep 0 _ (by decide) hcc | exact ⟨hC.keep 0 _ (by decide) hcc, trivial⟩ | exact ⟨hC.keep 0 _ (by decide) hcc, trivial, by omega⟩
      · refine FrontStep.of [0] _ rfl (by kernel_rfl) ?_
        intro vs LL wq hLL hC hf
        simp only [putL, List.foldl_nil, List.foldl_cons, List.getElem?_cons_zero]
        have y0 : vs 0 = _ := hf 0 (by simp)
        try rw [y0]
        have hcc : ∀ p ∈ ([] : List (Nat × Nat)), p.1 = 1 → LL p.2 = true := fun p hp e => by
          simp at hp
        go_wp2_with fail
        first | exact hC.keep 1 _ (by decide) hcc | exact ⟨hC.keep 1 _ (by decide) hcc, trivial⟩ | exact ⟨hC.keep 1 _ (by decide) hcc, trivial, by omega⟩
      · refine FrontStep.of [1] _ rfl (by kernel_rfl) ?_
        intro vs LL wq hLL hC hf
        simp only [putL, List.foldl_nil, List.foldl_cons, List.getElem?_cons_zero, List.getElem?_cons_succ]
        have y1 : vs 1 = _ := hf 1 (by simp)
        try rw [y1]
        have hcc : ∀ p ∈ ([] : List (Nat × Nat)), p.1 = 2 → LL p.2 = true := fun p hp e => by
          simp at hp
        go_wp2_with fail
        first | exact hC.keep 2 _ (by decide) hcc | exact ⟨hC.keep 2 _ (by decide) hcc, trivial⟩ | exact ⟨hC.keep 2 _ (by decide) hcc, trivial, by omega⟩
      · refine FrontStep.of [2] _ rfl (by kernel_rfl) ?_
        intro vs LL wq hLL hC hf
        simp only [putL, List.foldl_nil, List.foldl_cons, List.getElem?_cons_zero, List.getElem?_cons_succ]
        have y2 : vs 2 = _ := hf 2 (by simp)
        try rw [y2]
        have hcc : ∀ p ∈ ([] : List (Nat × Nat)), p.1 = 3 → LL p.2 = true := fun p hp e => by
          simp at hp
        have g0 := hAny1 wq (by cases e : LL 6 with | false => exact .inl (hC.pre e) | true => exact .inr (hC.post e))
        go_wp2_with fail
        first | exact hC.keep 3 _ (by decide) hcc | exact ⟨hC.keep 3 _ (by decide) hcc, trivial⟩ | exact ⟨hC.keep 3 _ (by decide) hcc, trivial, by omega⟩
      · refine FrontStep.of [3] _ rfl (by kernel_rfl) ?_
        intro vs LL wq hLL hC hf
        simp only [putL, List.foldl_nil, List.foldl_cons, List.getElem?_cons_zero, List.getElem?_cons_succ]
        have y3 : vs 3 = _ := hf 3 (by simp)
        try rw [y3]
        have hP := (hC.early hLL (by simp)).2
        have hcc : ∀ p ∈ ([] : List (Nat × Nat)), p.1 = 4 → LL p.2 = true := fun p hp e => by
          simp at hp
        go_wp2_with fail
        first | exact hC.keep 4 _ (by decide) hcc | exact ⟨hC.keep 4 _ (by decide) hcc, trivial⟩ | exact ⟨hC.keep 4 _ (by decide) hcc, trivial, by omega⟩
      · refine FrontStep.of [] _ rfl (by kernel_rfl) ?_
        intro vs LL wq hLL hC hf
        simp only [putL, List.foldl_nil]
        have hcc : ∀ p ∈ ([] : List (Nat × Nat)), p.1 = 5 → LL p.2 = true := fun p hp e => by
          simp at hp
        have g0 := hAny2 wq (by cases e : LL 6 with | false => exact .inl (hC.pre e) | true => exact .inr (hC.post e))
        go_wp2_with fail
        first | exact hC.keep 5 _ (by decide) hcc | exact ⟨hC.keep 5 _ (by decide) hcc, trivial⟩ | exact ⟨hC.keep 5 _ (by decide) hcc, trivial, by omega⟩
      · refine FrontStep.of [0, 1, 2, 3, 4] _ rfl (by kernel_rfl) ?_
        intro vs LL wq hLL hC hf
        simp only [putL, List.foldl_nil, List.foldl_cons, List.getElem?_cons_zero, List.getElem?_cons_succ]
        have y0 : vs 0 = _ := hf 0 (by simp)
        try rw [y0]
        have y1 : vs 1 = _ := hf 1 (by simp)
        try rw [y1]
        have y2 : vs 2 = _ := hf 2 (by simp)
        try rw [y2]
        have y3 : vs 3 = _ := hf 3 (by simp)
        try rw [y3]
        have y4 : vs 4 = _ := hf 4 (by simp)
        try rw [y4]
        have hP := hC.pre hLL
        have k6q := kept' hP (unhide k6')
        have z0 := blk_cell k6q
        have z1 : wq.frozen? ⟨b6, 0, none⟩ = false := by simp [World.frozen?, k6q]
        have hrun := fun v w2 q => hC.run (w2 := w2) v (fun j hj => by simp at hj; subst hj; rw [y4]; exact fun h => by cases h) (fun p hp e => by cases hp) q
        have hfin := hrun (.bool true) _ ⟨wq, hP, rfl⟩
        replace hfin := hide hfin
        clear hrun hC hP k6q y4
        go_wp2_with fail
        first | exact ⟨.bool true, unhide hfin⟩ | exact ⟨.bool true, rfl, unhide hfin, trivial, trivial⟩ | exact unhide hfin | exact ⟨.bool true, unhide hfin, trivial⟩ | trace_state
    · intro vs LL wq hLL hC hf
      have e5 : vs 5 = _ := hf 5 (by omega)
      obtain ⟨wy, hy1, rfl⟩ := hC.post (hLL 6 (by omega))
      rw [putSome_all]
      simp only [putL, List.range, List.range.loop, List.foldl_nil, List.foldl_cons, List.getElem?_cons_zero, List.getElem?_cons_succ, List.drop_succ_cons, List.drop_zero]
      rw [e5]
      have k6q := kept' hy1 (unhide k6')
      have hz2 := ((unhide hz').trans (hy1.mono (unhide hz').size)).setCell (p := ⟨b6, 0, none⟩) (unhide hge6) (.slice (some ⟨bs, 0, none⟩) ln ln)
      have r6 := blk_cell (heap_set (off := 0) k6q (.slice (some ⟨bs, 0, none⟩) ln ln))
      have hoth : ∀ b, (∃ (cs : Array Value) (T : TypeId), wk.heap[b]? = some (Obj.cells cs T (0, 0)) ∧ T ≠ 29) → (wy.setCell ⟨b6, 0, none⟩ (.slice (some ⟨bs, 0, none⟩) ln ln)).heap[b]? = wk.heap[b]? := fun b hc => by
        obtain ⟨cs, T, hc, ht⟩ := hc
        refine (Below.heap_setCell _ _ _ _ (fun e => ?_)).trans (hy1.block b (Array.getElem?_eq_some_iff.1 hc).1)
        rw [e, unhide k6'] at hc
        injection hc with hc
        injection hc with _ h
        exact ht h.symm
      have hsz : wk.heap.size ≤ (wy.setCell ⟨b6, 0, none⟩ (.slice (some ⟨bs, 0, none⟩) ln ln)).heap.size := by simp [World.setCell]; exact hy1.size
      have hI2 := stages_lst2 (n := ln) (B := w.heap.size) ((hoth _ ⟨_, _, unhide hrow', by decide⟩).trans (unhide hrow')) ((unhide hfam').same (fun b _ hc => hoth b (by obtain ⟨cur, hc⟩ := hc; exact ⟨_, _, hc, by decide⟩))) (unhide hnum') (unhide hlen') (unhide hlos') (fun g hg => Classical.byContradiction fun h => hg (unhide hQw' g (by omega)))
      have hL2 : Lst Enc.int (wy.setCell ⟨b6, 0, none⟩ (.slice (some ⟨bs, 0, none⟩) ln ln)) (fun b => w.heap.size ≤ b ∧ b < (wy.setCell ⟨b6, 0, none⟩ (.slice (some ⟨bs, 0, none⟩) ln ln)).heap.size) a' m FS.2 := by
        obtain ⟨a2, n2, c2, e2, _, _, h2⟩ := ((((unhide hV').same (w' := wy.setCell ⟨b6, 0, none⟩ (.slice (some ⟨bs, 0, none⟩) ln ln)) (fun b hb => hoth b (by obtain ⟨_, _, cur, hc⟩ := (unhide hV').blk hb; exact ⟨_, _, hc, by decide⟩))).wide (S' := fun g => w.heap.size ≤ g) (fun g hg => Classical.byContradiction fun h => hg (unhide hQw' g (by omega)))).rep2 (unhide hno'))
        have e3 := e2
        rw [unhide hm] at e3
        injection e3 with e3
        injection e3 with e4 e5
        rw [e4, e5]
        exact h2
      obtain ⟨wz, hwz⟩ : ∃ W, wy.setCell ⟨b6, 0, none⟩ (.slice (some ⟨bs, 0, none⟩) ln ln) = W := ⟨_, rfl⟩
      rw [hwz] at hz2 r6 hI2 hL2 ⊢
      clear hwz hoth hsz hf hLL hC hy1 k6q e5 d9 df hAny1 hAny2
      replace hz2 := hide hz2; replace hI2 := hide hI2; replace hL2 := hide hL2
      go_simp
      go_wp2_with fail
      refine bodyPost_ret (v := .tuple #[.agg #[.slice (some ⟨bs, 0, none⟩) ln ln], .slice a' m c']) (by simp [results, Try.results20, go_sem, r6]) rfl ?_
      rw [unhide hFS]
      rw [unhide hm]
      exact ⟨_, a', c', rfl, unhide hI2, unhide hL2, unhide hz2⟩
end Go.Proofs.Ytfbgbbbfpkpfkaa
