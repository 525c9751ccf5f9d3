/- wire.Text and lists, the program's and the reference's. -/
import Derived.Test.YtcliegeooooonaaWi2
import Derived.Test.YtcliegeooooonaaLst
import Derived.Laws.Concat
namespace Go.Proofs.Ytcliegeooooonaa
open Go.RowKit

theorem int_len (n : Int) : 1 ≤ (Wi.int n).length ∧ (Wi.int n).length ≤ 11 := Wi.enc_len 10 _
theorem txt_eq (s : ByteArray) : (⟨(Wi.int (s.size : Int)).toArray⟩ : ByteArray) ++ s = ⟨(Wi.txt s.data.toList).toArray⟩ := by
  rw [ba_app]
  unfold Wi.txt
  rw [show (s.data.toList.length : Int) = (s.size : Int) from by rw [Array.length_toList]; rfl]
theorem txt_add (s : ByteArray) (hs : s.size ≤ 1000000000000) (w : World) : (Op.stringOp .add ⟨(Wi.int (s.size : Int)).toArray⟩ s).run Try.prog w = .ok (.string ⟨(Wi.txt s.data.toList).toArray⟩) w := by
  rw [run_string_add_sum _ _ _ (by rw [ba_size]; have := int_len (s.size : Int); omega), txt_eq]
set_option maxHeartbeats 400000 in
theorem wtext_any (s : ByteArray) (w : World) (hs : s.size ≤ 1000000000000) :
    Calls Try.prog 34 #[.string s] w fun e w' => e = .returned (.string ⟨(Wi.txt s.data.toList).toArray⟩) ∧ Below w.heap.size w w' := by
  have ha := txt_add s hs
  go_enter Try.func34, Try.ntmps34
  go_wp2_with fail
  refine (wint_any _ _ (size_i64 _ hs)).mono ?_
  rintro e w1 ⟨rfl, hb⟩
  go_wp2_with fail
  go_ret
  exact ⟨rfl, hb⟩
set_option maxHeartbeats 400000 in
theorem rtext_any (s : ByteArray) (w : World) (hs : s.size ≤ 1000000000000) :
    Calls Try.prog 31 #[.string s] w fun e w' => e = .returned (.string ⟨(Wi.txt s.data.toList).toArray⟩) ∧ Below w.heap.size w w' := by
  have ha := txt_add s hs
  go_enter Try.func31, Try.ntmps31
  go_wp2_with fail
  refine (rint_any _ _ (size_i64 _ hs)).mono ?_
  rintro e w1 ⟨rfl, hb⟩
  go_wp2_with fail
  go_ret
  exact ⟨rfl, hb⟩
end Go.Proofs.Ytcliegeooooonaa
