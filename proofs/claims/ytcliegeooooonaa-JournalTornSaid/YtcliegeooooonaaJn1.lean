/- The journal's small functions: New, HasPrefix, CutPrefix, record. -/
import Derived.Test.YtcliegeooooonaaJnP
import Derived.Test.YtcliegeooooonaaWi9
import Derived.Test.YtcliegeooooonaaDg3
namespace Go.Proofs.Ytcliegeooooonaa
open Go.RowKit
theorem rnew_any (s : List UInt8) (w : World) :
    Calls Try.prog 42 #[.string ⟨s.toArray⟩] w fun e w' => e = .returned (.pointer (some ⟨w.heap.size, 0, none⟩)) ∧ w' = w.alloc (.cells #[.string ⟨s.toArray⟩, .bool false] 83) := by
  go_enter Try.func42, Try.ntmps42
  go_wp2_with fail
  go_ret
  exact ⟨rfl, rfl⟩
theorem rnew_rd (s : List UInt8) (w : World) : Rd (w.alloc (.cells #[.string ⟨s.toArray⟩, .bool false] 83)) w.heap.size (some s) := heap_alloc_new w _
theorem ba_list (l : List UInt8) : (⟨l.toArray⟩ : ByteArray).data.toList = l := by simp
theorem str_add2 {w : World} (l m : List UInt8) (h : l.length + m.length ≤ 1000000000000) : (Op.stringOp .add ⟨l.toArray⟩ ⟨m.toArray⟩).run Try.prog w = .ok (.string ⟨(l ++ m).toArray⟩) w := by
  rw [str_add l ⟨m.toArray⟩ (by rw [ba_size]; omega), ba_list]
set_option maxHeartbeats 1000000 in
theorem hasPrefix_any (s p : List UInt8) (w : World) (_ : s.length ≤ 1000000000000) (_ : p.length ≤ 1000000000000) :
    Calls Try.prog 60 #[.string ⟨s.toArray⟩, .string ⟨p.toArray⟩] w fun e w' => e = .returned (.bool (decide (p <+: s))) ∧ w' = w := by
  have z1 : (⟨s.toArray⟩ : ByteArray).size = s.length := ba_size s
  have z2 : (⟨p.toArray⟩ : ByteArray).size = p.length := ba_size p
  obtain ⟨d, hd⟩ : ∃ d, decide (p <+: s) = d := ⟨_, rfl⟩
  rw [hd]
  by_cases hl : p.length ≤ s.length
  · have ht : (s.take p.length == p) = d := by
      rw [← hd]
      by_cases h : p <+: s
      · rw [decide_eq_true h, List.prefix_iff_eq_take.1 h, List.length_take, Nat.min_eq_left hl]
        simp
      · rw [decide_eq_false h]
        refine beq_eq_false_iff_ne.2 fun e => h ?_
        rw [← e]
        exact List.take_prefix _ _
    have hx : (⟨s.toArray⟩ : ByteArray).extract 0 p.length = ⟨(s.take p.length).toArray⟩ := ba_take s _
    replace hd := hide hd
    go_enter Try.func60, Try.ntmps60
    go_wp2_with fail
    go_ret
    exact ⟨rfl, rfl⟩
  · have hfin : d = false := by
      rw [← hd]
      exact decide_eq_false fun h => hl h.length_le
    replace hd := hide hd
    subst hfin
    go_enter Try.func60, Try.ntmps60
    go_wp2_with fail
    go_ret
    exact ⟨rfl, rfl⟩
set_option maxHeartbeats 1000000 in
theorem cutPrefix_yes (s p : List UInt8) (w : World) (hs : s.length ≤ 1000000000000) (hp : p.length ≤ 1000000000000) (h : p <+: s) :
    Calls Try.prog 44 #[.string ⟨s.toArray⟩, .string ⟨p.toArray⟩] w fun e w' => e = .returned (.tuple #[.string ⟨(s.drop p.length).toArray⟩, .bool true]) ∧ w' = w := by
  have hh := hasPrefix_any s p w hs hp
  rw [decide_eq_true h] at hh
  have hl := h.length_le
  have z1 : (⟨s.toArray⟩ : ByteArray).size = s.length := ba_size s
  have z2 : (⟨p.toArray⟩ : ByteArray).size = p.length := ba_size p
  have hx : (⟨s.toArray⟩ : ByteArray).extract p.length s.length = ⟨(s.drop p.length).toArray⟩ := ba_drop s _
  replace hh := hide hh
  have hin : Calls Try.prog 53 #[.string ⟨s.toArray⟩, .string ⟨p.toArray⟩] w fun e w' => e = .returned (.tuple #[.string ⟨(s.drop p.length).toArray⟩, .bool true]) ∧ w' = w := by
    go_enter Try.func53, Try.ntmps53
    go_wp2_with fail
    refine (unhide hh).mono ?_
    rintro e w1 ⟨rfl, rfl⟩
    go_wp2_with fail
    go_ret2
    exact ⟨rfl, rfl⟩
  replace hin := hide hin
  clear hh hx z1 z2
  go_enter Try.func44, Try.ntmps44
  go_wp2_with fail
  refine (unhide hin).mono ?_
  rintro e w1 ⟨rfl, rfl⟩
  go_wp2_with fail
  go_ret2
  exact ⟨rfl, rfl⟩
set_option maxHeartbeats 1000000 in
theorem cutPrefix_no (s p : List UInt8) (w : World) (hs : s.length ≤ 1000000000000) (hp : p.length ≤ 1000000000000) (h : ¬ p <+: s) :
    Calls Try.prog 44 #[.string ⟨s.toArray⟩, .string ⟨p.toArray⟩] w fun e w' => e = .returned (.tuple #[.string ⟨s.toArray⟩, .bool false]) ∧ w' = w := by
  have hh := hasPrefix_any s p w hs hp
  rw [decide_eq_false h] at hh
  replace hh := hide hh
  have hin : Calls Try.prog 53 #[.string ⟨s.toArray⟩, .string ⟨p.toArray⟩] w fun e w' => e = .returned (.tuple #[.string ⟨s.toArray⟩, .bool false]) ∧ w' = w := by
    go_enter Try.func53, Try.ntmps53
    go_wp2_with fail
    refine (unhide hh).mono ?_
    rintro e w1 ⟨rfl, rfl⟩
    go_wp2_with fail
    go_ret2
    exact ⟨rfl, rfl⟩
  replace hin := hide hin
  clear hh
  go_enter Try.func44, Try.ntmps44
  go_wp2_with fail
  refine (unhide hin).mono ?_
  rintro e w1 ⟨rfl, rfl⟩
  go_wp2_with fail
  go_ret2
  exact ⟨rfl, rfl⟩
theorem chain_ba (b s : List UInt8) : chainS ⟨b.toArray⟩ ⟨s.toArray⟩ = Jn.chL b s := by
  unfold chainS Jn.chL
  rw [ba_size, ba_list, ba_list]
theorem txt_len (s : List UInt8) : (Wi.txt s).length ≤ 11 + s.length := by
  unfold Wi.txt
  rw [List.length_append]
  have := (int_len (s.length : Int)).2
  omega
set_option maxHeartbeats 1000000 in
theorem record_any (b s : List UInt8) (w : World) (hb : b.length ≤ 1000000) (hs : s.length ≤ 1000000000) :
    Calls Try.prog 28 #[.string ⟨b.toArray⟩, .string ⟨s.toArray⟩] w fun e w' => e = .returned (.tuple #[.string ⟨(Jn.recd b s).toArray⟩, .string ⟨(Jn.chL b s).toArray⟩]) ∧ Below w.heap.size w w' := by
  have hc := dChain_any ⟨b.toArray⟩ ⟨s.toArray⟩ w (by rw [ba_size]; omega) (by rw [ba_size]; omega)
  rw [chain_ba] at hc
  have ht := fun w => wtext_any ⟨s.toArray⟩ w (by rw [ba_size]; omega)
  rw [ba_list] at ht
  have ha : ∀ w, (Op.stringOp .add ⟨(Wi.txt s).toArray⟩ ⟨(Jn.chL b s).toArray⟩).run Try.prog w = .ok (.string ⟨(Jn.recd b s).toArray⟩) w := fun w => str_add2 _ _ (by rw [Jn.chL_len]; have := txt_len s; omega)
  obtain ⟨c, hcc⟩ : ∃ c, Jn.chL b s = c := ⟨_, rfl⟩
  obtain ⟨r, hrr⟩ : ∃ c, Jn.recd b s = c := ⟨_, rfl⟩
  obtain ⟨t, htt⟩ : ∃ c, Wi.txt s = c := ⟨_, rfl⟩
  simp only [hcc, hrr, htt] at hc ht ha ⊢
  clear hcc hrr htt
  replace hc := hide hc; replace ht := hide ht
  go_enter Try.func28, Try.ntmps28
  go_wp2_with fail
  refine (unhide hc).mono ?_
  rintro e w1 ⟨rfl, h1⟩
  replace h1 := hide h1
  go_wp2_with fail
  refine (unhide ht _).mono ?_
  rintro e w2 ⟨rfl, h2⟩
  go_wp2_with fail
  go_ret2
  exact ⟨rfl, (unhide h1).trans (h2.mono (unhide h1).size)⟩
end Go.Proofs.Ytcliegeooooonaa
