/- The journal's read. -/
import Derived.Test.YtcliegeooooonaaJn4
import Derived.BigFrameIn
namespace Go.Proofs.Ytcliegeooooonaa
open Go.RowKit
attribute [local go_sem ↓] Go.wp_at_zero Go.wp_at_succ
theorem own_base {w : World} {B R : Nat} {e : TypeId} {s n : Nat} {v : Value} {xs : List Value} (h : w.ownsRow R e s v n xs) (hB : B ≤ R) : w.ownsRow B e s v n xs := by
  obtain ⟨hl, ⟨hv, hx⟩ | ⟨g, cap, cur, hv, hb, hr⟩⟩ := h
  · exact ⟨hl, .inl ⟨hv, hx⟩⟩
  · exact ⟨hl, .inr ⟨g, cap, cur, hv, Nat.le_trans hB hb, hr⟩⟩
/-- what read hands back -/
def ReadPost (all : List UInt8) (w : World) (e : Ending) (w' : World) : Prop :=
  ∃ v, e = .returned (.tuple #[v, .int .i64 ((all.length - (Jn.good b0L all).2.1.length : Nat) : Int), .string ⟨(Jn.good b0L all).2.2.toArray⟩]) ∧ w'.ownsRow w.heap.size 9 1 v (Jn.good b0L all).1.length ((Jn.good b0L all).1.map vl) ∧ Below w.heap.size w w'
section
attribute [local go_sem] Oper.semAt_some
set_option maxRecDepth 100000 in
set_option maxHeartbeats 4000000 in
theorem read_any (all : List UInt8) (w : World) (hall : all.length ≤ 1000000000) :
    Calls Try.prog 27 #[.string ⟨all.toArray⟩] w (ReadPost all w) := by
  refine (callsIn_wide (n := 8)).1 ?_
  obtain ⟨i1, hi1, hz0, hz1, hz2⟩ := info_parts info_str
  obtain ⟨b2, b3, bl, w1, e1, e2, e3, ew, st⟩ := St.new3 w (Obj.cells #[.slice none 0 0] 40) (Obj.cells #[.int .i64 0] 3) (Obj.cells #[.string ⟨#[]⟩] 9)
  have hb1 := st.below
  have h2 := st.get 2 rfl
  have h3 := st.get 1 rfl
  have hl : BoxS w1 bl [] := st.get 0 rfl
  have hrec := records_any all [] bl w1 hl
  have o1 : w.heap.size ≤ b2 ∧ w.heap.size ≤ b3 ∧ w.heap.size ≤ bl ∧ b2 < w1.heap.size ∧ b3 < w1.heap.size ∧ bl < w1.heap.size ∧ b2 ≠ bl ∧ b3 ≠ bl := by
    have := hl.lt
    refine ⟨by omega, by omega, by omega, by omega, by omega, by omega, by omega, by omega⟩
  clear st
  replace e1 := hide e1; replace e2 := hide e2; replace e3 := hide e3; replace ew := hide ew; replace hb1 := hide hb1; replace h2 := hide h2; replace h3 := hide h3; replace hl := hide hl; replace hrec := hide hrec; replace o1 := hide o1
  replace hi1 := hide hi1; replace hz0 := hide hz0; replace hz1 := hide hz1; replace hz2 := hide hz2
  refine callsIn_of_wp_marks Try.func27 rfl trivial ?_ rfl
  simp only [Try.ntmps27, List.size_toArray, List.length_cons, List.length_nil, Nat.reduceAdd, Nat.reduceSub, Array.replicate_succ, Array.replicate_zero, List.push_toArray, List.append_toArray, List.nil_append, List.cons_append]
  gi_wp2
  rw [unhide ew]
  try rw [unhide e3]
  try rw [unhide e2]
  try rw [unhide e1]
  refine ⟨trivial, (callsIn_wide.2 (unhide hrec)).mono ?_⟩
  rintro e w2 ⟨ball, bp, rfl, g1, g2, qa, qp, ql, ht⟩
  obtain ⟨B, hB⟩ : ∃ B, w.heap.size = B := ⟨_, rfl⟩
  have hj0 : JS w B w2.heap.size b2 b3 bl ball bp all [] 0 b0L w2 := by
    obtain ⟨o1, o2, o3, o4, o5, o6, o7, o8⟩ := unhide o1
    have hbb : Below B w w1 := hB ▸ unhide hb1
    have hsz := ht.size
    have hpl := (Array.getElem?_eq_some_iff.1 (show w2.heap[bp]? = _ from qp)).1
    have hal := qa.lt
    have hs1 := (unhide hb1).size
    exact ⟨Two.below hbb ht (by omega) (by omega) (by omega), ⟨by omega, by omega, by omega, by omega, by omega⟩, ⟨by omega, by omega, by omega, hal, hpl⟩, Nat.le_refl _, by omega, ⟨_, (ht.block b2 o4 o7 o7).trans (unhide h2), World.ownsRow_nil _ _ _ _⟩, (ht.block b3 o5 o8 o8).trans (unhide h3), ql, qa, qp⟩
  have hn0 : w2.heap[b2]? = some (.cells #[.slice none 0 0] 40 (0, 0)) := by
    obtain ⟨o1, o2, o3, o4, o5, o6, o7, o8⟩ := unhide o1
    exact (ht.block b2 o4 o7 o7).trans (unhide h2)
  have hBw : B ≤ w2.heap.size := hj0.hB
  obtain ⟨G, hG⟩ : ∃ G, Jn.good b0L all = G := ⟨_, rfl⟩
  clear hrec hb1 h2 h3 hl o1 ew e1 e2 e3 qa qp ql ht g1 g2
  replace hj0 := hide hj0; replace hn0 := hide hn0; replace hG := hide hG; replace hB := hide hB
  gi_wp2
  refine range_on rfl (by omega) (gf := 40) (lb := #[.pointer (some ⟨ball, 0, none⟩), .pointer (some ⟨bp, 0, none⟩)]) rfl trivial (enters_of Try.func40 (by kernel_rfl) rfl)
    (fun W => ∃ R, JS w B R b2 b3 bl ball bp all G.1 (all.length - G.2.1.length) G.2.2 W) ?call ?done
  case call =>
    intro fn W1 _ hL1 hbw1 hs1
    have hj1 := (unhide hj0).call hbw1
    have hn1 := kept' hbw1 (unhide hn0)
    obtain ⟨D, hD⟩ : ∃ D, w2.heap.size = D := ⟨_, rfl⟩
    rw [hD] at hL1 hs1 hj1 ⊢
    have it := iter_in 7 (D + 1) D w B D b2 b3 bl ball bp all b0L W1 fn _ _ _ _ hj1 hn1 hall rfl hL1 ?round
    case round =>
      intro br r L k b s k' Wr hj hbr hBr hla hk' hLn
      refine (yield_on (a₁ := ?a1) trivial hla (by omega) rfl (J := fun W' => JS w B (br + 1) b2 b3 bl ball bp all (L ++ [s]) k' b W' ∧ BoxS W' br r) (hassign := ?asg) (hbody := ?bd)).mono ?fin
      case fin =>
        rintro e W' ⟨rfl, ⟨q1, q2⟩, q3⟩
        exact ⟨rfl, q1, q2, q3⟩
      case asg =>
        intro K hK
        gi_wp2
        exact hK
      case bd =>
        intro Wb o hWb ho
        have hjb : JS w B (br + 1) b2 b3 bl ball bp all L k b Wb := by rw [hWb]; exact hj.put o hla.1 rfl (by omega)
        have hbrb : BoxS Wb br r := by rw [hWb]; exact put_far hla.1 rfl hbr
        have hWo : Wb.heap[D + 1]? = some o := by rw [hWb]; exact World.putObj_heap_same (Array.getElem?_eq_some_iff.1 hla.1).1
        obtain ⟨v, hv, hrow⟩ := hjb.row
        have d1 := blk_cell hv
        have hB1 : B ≤ Wb.heap.size := hjb.hB
        have hR1 := hjb.hR
        clear hWb
        replace hjb := hide hjb; replace hbrb := hide hbrb; replace hv := hide hv; replace hrow := hide hrow; replace hj := hide hj; replace hbr := hide hbr; replace hla := hide hla; replace hWo := hide hWo
        gi_wp2_with (gi_at_builtin; refine wpListIn_append_own _ rfl _ _ 40 rfl (br + 1) 9 i1 (.string ⟨#[]⟩) 1 16 Try.underlying40 (unhide hi1) (unhide hz0) (unhide hz1) (unhide hz2) rfl (by decide) _ _ _ rfl ((unhide hrow).alloc _) ⟨Wb.heap.size, 0, none⟩ 1 1 [vl s] rfl rfl ?c1 ?c2 ?c3 ?c4 ?c5 ?_)
        case c1 =>
          intro j u hj
          cases j with
          | zero => first | rfl | (simp at hj; subst hj; rfl)
          | succ j => simp at hj
        case c2 => rfl
        case c3 => unfold maxLen; omega
        case c4 => omega
        case c5 => omega
        intro v' W4 hown4 hg4 _
        have hbody := fun n' => (unhide hjb).body (s := s) (n' := n') (unhide hv) (unhide hrow) (by rw [List.map_append]; exact hown4) hg4
        obtain ⟨va', vc', rfl⟩ := own_shape hown4
        have hb1 : Below Wb.heap.size Wb (Wb.alloc (Obj.cells #[vl s] 9)) := (Below.refl _ _).alloc (Nat.le_refl _) _
        have hfar : ∀ x, x < br + 1 → v.ownBlock ≠ some x := fun x hx e => by have := ((unhide hrow).lt x e).1; omega
        have e2 := grown_far hg4 (kept' hb1 (unhide hv)) (hfar _ (unhide hjb).hi.1)
        have e3 := grown_far hg4 (kept' hb1 (unhide hjb).len) (hfar _ (unhide hjb).hi.2.1)
        have n23 : b2 ≠ b3 := box_ty (unhide hv) (unhide hjb).len (by decide)
        have n32 := n23.symm
        have d2 := blk_cell e2
        have d3 := blk_cell e3
        have f2 : W4.frozen? ⟨b2, 0, none⟩ = false := by simp [World.frozen?, e2]
        have f3 : W4.frozen? ⟨b3, 0, none⟩ = false := by simp [World.frozen?, e3]
        clear e2 e3 hfar d1
        replace hbody := hide hbody; replace hb1 := hide hb1; replace hown4 := hide hown4; replace hg4 := hide hg4
        gi_wp2
        obtain ⟨q1, q2, q3⟩ := unhide hbody k'
        obtain ⟨W5, hW5⟩ : ∃ W5, (W4.setCell ⟨b2, 0, none⟩ (.slice va' (L.length + 1) vc')).setCell ⟨b3, 0, none⟩ (.int .i64 (k' : Int)) = W5 := ⟨_, rfl⟩
        rw [hW5] at q1 q2 q3 ⊢
        refine ⟨q2, fun o3 => ?_⟩
        have h5 := q2.same (D + 1) o (unhide hWo) ho
        exact ⟨q1.put _ h5 ho (by omega), put_far h5 ho (q3 br r (unhide hbrb) (Nat.lt_succ_self _))⟩
    refine it.mono ?_
    rintro e W' ⟨hv, R, q1, q2⟩
    rw [unhide hG] at q1
    exact ⟨hv, q2, R, q1⟩
  case done =>
    rintro W' o ⟨R, hj⟩ hdef hsz ⟨o', ho'⟩
    have hjd := hj.put (.loop o) ho' rfl (by omega)
    have hdd := (World.putObj_heap_other (o := .loop o) (by omega : w2.heap.size ≠ w2.heap.size + 1)).trans hdef
    obtain ⟨W3, hW3⟩ : ∃ W3, W'.putObj (w2.heap.size + 1) (.loop o) = W3 := ⟨_, rfl⟩
    rw [hW3] at hjd hdd ⊢
    obtain ⟨v, hv, hrow⟩ := hjd.row
    obtain ⟨va, vc, rfl⟩ := own_shape hrow
    have hl2 := hjd.last
    have d1 := blk_cell hv
    have d2 := blk_cell hjd.len
    have d3 := blk_cell hl2
    have f1 : W3.frozen? ⟨b2, 0, none⟩ = false := by simp [World.frozen?, hv]
    have f2 : W3.frozen? ⟨b3, 0, none⟩ = false := by have := hjd.len; simp [World.frozen?, this]
    have f3 := hl2.frz
    have n1 : b2 ≠ b3 := box_ty hv hjd.len (by decide)
    have n2 : b2 ≠ bl := box_ty hv hl2 (by decide)
    have n3 : b3 ≠ bl := box_ty hjd.len hl2 (by decide)
    have n1' := n1.symm
    have n2' := n2.symm
    have n3' := n3.symm
    obtain ⟨gn, hgn⟩ : ∃ m, G.1.length = m := ⟨_, rfl⟩
    rw [hgn] at d1 hrow
    clear hj hdef hsz ho' hW3 W' o o' hj0 hn0
    replace hjd := hide hjd; replace hdd := hide hdd; replace hv := hide hv; replace hrow := hide hrow; replace hl2 := hide hl2; replace hgn := hide hgn
    gi_wp2
    refine wpIn_wide.2 ?_
    go_region
    have hv3 : W3.heap[b2]? = some (.cells #[.slice va gn vc] 40 (0, 0)) := by have := unhide hv; rw [unhide hgn] at this; exact this
    have s1 : W3.setCell ⟨b2, 0, none⟩ (.slice va gn vc) = W3 := set_same hv3 rfl
    have s2 : W3.setCell ⟨b3, 0, none⟩ (.int .i64 ((all.length - G.2.1.length : Nat) : Int)) = W3 := set_same (unhide hjd).len rfl
    have s3 : W3.setCell ⟨bl, 0, none⟩ (.string ⟨G.2.2.toArray⟩) = W3 := set_same (unhide hl2) rfl
    rw [s1, s2, s3]
    clear s1 s2 s3 hv3
    have hj4 := (unhide hjd).call (Below.refl _ _).drew
    have hd4 : W3.drew.heap[w2.heap.size]? = some (.deferred (some [])) := unhide hdd
    have hv4 : W3.drew.heap[b2]? = some (.cells #[.slice va gn vc] 40 (0, 0)) := by have := unhide hv; rw [unhide hgn] at this; exact this
    obtain ⟨W4, hW4⟩ : ∃ W4, W3.drew = W4 := ⟨_, rfl⟩
    rw [hW4] at hd4 hv4 ⊢
    have hj4' : JS w B R b2 b3 bl ball bp all G.1 (all.length - G.2.1.length) G.2.2 W4 := by rw [← hW4]; exact (unhide hjd).call (Below.refl _ _).drew
    have hrow4 : W4.ownsRow R 9 1 (.slice va gn vc) gn (G.1.map vl) := by rw [← hW4]; exact own_belowb (unhide hrow) (Below.refl _ _).drew
    clear hW4 d1 d2 d3 f1 f2 f3 hv hl2 hjd hdd hj4 hrow
    have hj5 := hj4'.put (.deferred none) hd4 rfl hBw
    have hv5 := put_far (o' := .deferred none) hd4 rfl hv4
    have hrow5 := ownsRow_putObj hrow4 (.deferred none) hd4 rfl
    have c2 := blk_cell hv5
    have c3 := blk_cell hj5.len
    have c4 := blk_cell hj5.last
    have hfin : ReadPost all w (.returned (.tuple #[.slice va gn vc, .int .i64 ((all.length - G.2.1.length : Nat) : Int), .string ⟨G.2.2.toArray⟩])) (W4.putObj w2.heap.size (.deferred none)) := by
      refine ⟨.slice va gn vc, by rw [unhide hG], ?_, ?_⟩
      · rw [unhide hG, unhide hgn]
        exact own_base hrow5 (by rw [unhide hB]; have := hj5.hi.1; have := hj5.lo.1; omega)
      · rw [unhide hB]; exact hj5.bel
    replace hj5 := hide hj5; replace hv5 := hide hv5; replace hrow5 := hide hrow5; replace hfin := hide hfin; replace hv4 := hide hv4; replace hj4' := hide hj4'; replace hrow4 := hide hrow4; replace hd4 := hide hd4
    gi_wp2
    refine ⟨by simp, .inl ⟨_, _, rfl, run_takeDeferred (unhide hd4), ?_⟩⟩
    exact ⟨_, by simp [results, Try.results27, go_sem, c2, c3, c4], unhide hfin⟩
end
end Go.Proofs.Ytcliegeooooonaa
