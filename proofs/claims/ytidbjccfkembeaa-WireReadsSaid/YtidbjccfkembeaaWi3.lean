/- wire.Text and lists, the program's and the reference's. -/
import Derived.Test.YtidbjccfkembeaaWi2
import Derived.Laws.Concat
namespace Go.Proofs.Ytidbjccfkembeaa
open Go.RowKit

theorem ba_app (l : List UInt8) (s : ByteArray) : (⟨l.toArray⟩ : ByteArray) ++ s = ⟨(l ++ s.data.toList).toArray⟩ := by
  apply ByteArray.ext
  simp [ByteArray.data_append]
theorem ba_size (l : List UInt8) : (⟨l.toArray⟩ : ByteArray).size = l.length := by
  show l.toArray.size = _
  simp
theorem size_i64 (n : Nat) (h : n ≤ 1000000000000) : I64 (n : Int) := ⟨by omega, by omega⟩
theorem int_len (n : Int) : 1 ≤ (Wi.int n).length ∧ (Wi.int n).length ≤ 11 := Wi.enc_len 10 _
theorem txt_eq (s : ByteArray) : (⟨(Wi.int (s.size : Int)).toArray⟩ : ByteArray) ++ s = ⟨(Wi.txt s.data.toList).toArray⟩ := by
  rw [ba_app]
  unfold Wi.txt
  rw [show (s.data.toList.length : Int) = (s.size : Int) from by rw [Array.length_toList]; rfl]
theorem str_add {w : World} (l : List UInt8) (s : ByteArray) (h : l.length + s.size ≤ 9223372036854775807) : (Op.stringOp .add ⟨l.toArray⟩ s).run Try.prog w = .ok (.string ⟨(l ++ s.data.toList).toArray⟩) w := by
  rw [run_string_add_sum _ _ _ (by rw [ba_size]; exact h), ba_app]
theorem txt_add (s : ByteArray) (hs : s.size ≤ 1000000000000) (w : World) : (Op.stringOp .add ⟨(Wi.int (s.size : Int)).toArray⟩ s).run Try.prog w = .ok (.string ⟨(Wi.txt s.data.toList).toArray⟩) w := by
  rw [run_string_add_sum _ _ _ (by rw [ba_size]; have := int_len (s.size : Int); omega), txt_eq]
set_option maxHeartbeats 400000 in
theorem wtext_any (s : ByteArray) (w : World) (hs : s.size ≤ 1000000000000) :
    Calls Try.prog 14 #[.string s] w fun e w' => e = .returned (.string ⟨(Wi.txt s.data.toList).toArray⟩) ∧ Below w.heap.size w w' := by
  have ha := txt_add s hs
  go_enter Try.func14, Try.ntmps14
  go_wp2_with fail
  refine (wint_any _ _ (size_i64 _ hs)).mono ?_
  rintro e w1 ⟨rfl, hb⟩
  go_wp2_with fail
  go_ret
  exact ⟨rfl, hb⟩
set_option maxHeartbeats 400000 in
theorem rtext_any (s : ByteArray) (w : World) (hs : s.size ≤ 1000000000000) :
    Calls Try.prog 15 #[.string s] w fun e w' => e = .returned (.string ⟨(Wi.txt s.data.toList).toArray⟩) ∧ Below w.heap.size w w' := by
  have ha := txt_add s hs
  go_enter Try.func15, Try.ntmps15
  go_wp2_with fail
  refine (rint_any _ _ (size_i64 _ hs)).mono ?_
  rintro e w1 ⟨rfl, hb⟩
  go_wp2_with fail
  go_ret
  exact ⟨rfl, hb⟩
end Go.Proofs.Ytidbjccfkembeaa
