/- Strings as lists of their bytes: cut, put together. -/
import Derived.Test.YtfaekhbofgkdjaaWords
import Derived.Lib.Strings
namespace Go.Proofs.Ytfaekhbofgkdjaa
open Go.RowKit

theorem nums_data (s : ByteArray) (l : List UInt8) (h : s.data.toList = l) : nums s = l.map fun b => (b.toNat : Int) := by unfold nums; rw [h]
theorem nums_extract (s : ByteArray) (a b : Nat) : nums (s.extract a b) = ((nums s).drop a).take (b - a) := by
  rw [nums_data _ _ (Lib.extract_data s a b)]
  unfold nums
  rw [List.map_take, List.map_drop]
theorem str_inj {a b : ByteArray} (h : nums a = nums b) : a = b := by rw [← str_nums a, h, str_nums]
theorem nums_append (a b : ByteArray) : nums (a ++ b) = nums a ++ nums b := by
  unfold nums
  simp
theorem str_of {s : ByteArray} {xs : List Int} (h : nums s = xs) : s = strOfNums xs := by rw [← h, str_nums]
theorem str_append (a b : List Int) : strOfNums (a ++ b) = strOfNums a ++ strOfNums b := by
  unfold strOfNums
  apply ByteArray.ext
  simp
theorem str_nil : strOfNums [] = ⟨#[]⟩ := rfl
theorem nums_nil_of {s : ByteArray} (h : s.size = 0) : s = ⟨#[]⟩ := by
  apply str_inj
  have : (nums s).length = 0 := by rw [nums_length, h]
  rw [List.eq_nil_of_length_eq_zero this]; rfl
theorem empty_no {s : ByteArray} (h : 0 < s.size) : s.toList.isEmpty = false := by
  rw [Lib.toList_data]
  rcases hl : s.data.toList with _ | ⟨x, l⟩
  · have : s.data.toList.length = s.size := by rw [Array.length_toList]; rfl
    rw [hl] at this; simp at this; omega
  · rfl
theorem empty_yes {s : ByteArray} (h : s.size = 0) : s.toList.isEmpty = true := by rw [nums_nil_of h, Lib.toList_data]; rfl
end Go.Proofs.Ytfaekhbofgkdjaa
