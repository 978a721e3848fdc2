/-
  Plain facts on strings as lists of bytes: equality, cuts, the bytes as numbers. No conditions; no program.
-/
import Derived.Test.YthjaepmfkgejkaaDoorUtfRef
import Derived.Laws.BytesArg
import Derived.Lib.Strings
import Derived.Lib.RabinKarpLaws
import Derived.Lib.SmallJoins
namespace Go.Proofs.YthjaepmfkgejkaaDoor

/-- A string's bytes. -/
abbrev L (s : ByteArray) : List UInt8 := s.data.toList
theorem L_length (s : ByteArray) : (L s).length = s.size := by simp [L]
theorem toList_L (s : ByteArray) : s.toList = L s := by
  have h := Lib.extract_toList s 0 s.size
  have h2 := Lib.extract_data s 0 s.size
  have e : s.extract 0 s.size = s := by
    apply ByteArray.ext
    apply Array.toList_inj.1
    rw [h2, List.drop_zero, List.take_of_length_le (by rw [← L_length]; exact Nat.le_refl _)]
  rw [e] at h
  rw [h, List.drop_zero, List.take_of_length_le (by rw [← L_length]; exact Nat.le_refl _)]
theorem L_inj {a b : ByteArray} (h : L a = L b) : a = b := by
  apply ByteArray.ext
  exact Array.toList_inj.1 h
end Go.Proofs.YthjaepmfkgejkaaDoor
