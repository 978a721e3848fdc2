/-
  A slice of texts, a slice of files that came in: its cells as a list of paths and bytes, each within the form's reach. No conditions.
-/
import Derived.Test.YthjaepmfkgejkaaGreatDoorFreshWalks
import Derived.Test.YthjaepmfkgejkaaGreatDoorFrame
import Derived.Deep.SlicePairs
namespace Go.Proofs.YthjaepmfkgejkaaGreatDoor
open Go.ChangeShapes Go.WideShapes Go.ChangeAt Go.RowKit
set_option linter.unusedVariables false

theorem addr_add (b off k : Nat) : (⟨b, off, none⟩ : Addr).add k = ⟨b, off + k, none⟩ := by unfold Addr.add; split <;> simp_all

end Go.Proofs.YthjaepmfkgejkaaGreatDoor
