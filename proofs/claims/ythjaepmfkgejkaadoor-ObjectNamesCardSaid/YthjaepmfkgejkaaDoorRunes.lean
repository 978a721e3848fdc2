/-
  What the reference's Runes and Is give, and the two Bytes of layer 7. Condition: a text of at most 2^40 bytes (Runes makes a list).
-/
import Derived.Test.YthjaepmfkgejkaaDoorMerged1
namespace Go.Proofs.YthjaepmfkgejkaaDoor
open Go.RowKit
set_option linter.unusedVariables false

/-- Why a file's bytes may not be: an error's number. -/
def bytesS (s : ByteArray) : Int := if 4096 < s.size then 2 else if isText s then 0 else 5

theorem bytes_any (s : ByteArray) (w : World) (hs : s.size ≤ maxLen) : Calls Tryd.prog 92 #[.string s] w fun e w' => w = w' ∧ e = .returned (.int .i64 (bytesS s)) := by
  by_cases h : 4096 < s.size
  · rw [show bytesS s = 2 by simp [bytesS, h]]
    go_enter Tryd.func92, Tryd.ntmps92
    go_wp2_with fail
    go_ret
    exact ⟨rfl, rfl⟩
  · go_enter Tryd.func92, Tryd.ntmps92
    go_wp2_with fail
    refine (check_any s _ hs).mono ?_
    rintro e w1 ⟨rfl, ⟨ht, rfl⟩ | ⟨ht, n, rfl⟩⟩
    · have HT := Lib.hid ht; clear ht
      go_wp2_with fail
      go_ret
      exact ⟨rfl, by simp [bytesS, h, HT.out]⟩
    · have HT := Lib.hid ht; clear ht
      go_wp2_with fail
      go_ret
      exact ⟨rfl, by simp [bytesS, h, HT.out]⟩

end Go.Proofs.YthjaepmfkgejkaaDoor
