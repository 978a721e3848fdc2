/-
  What the program's order of keys gives. Conditions: the keys are well formed.
-/
import Derived.Test.YthjaepmfkgejkaaGreatDoorOrdWalks
import Derived.Test.YthjaepmfkgejkaaGreatDoorKeyCells
import Derived.Test.YthjaepmfkgejkaaGreatDoorGr
import Derived.Deep.MidRow
import Derived.Test.YthjaepmfkgejkaaGreatDoorQuietTail
namespace Go.Proofs.YthjaepmfkgejkaaGreatDoor
open Go.RowKit
set_option linter.unusedVariables false

def at3 (x y z : Int) (i : Nat) : Int := if i = 0 then x else if i = 1 then y else z
theorem cells_box {w : World} {g : Nat} {cs : List Value} {t : TypeId} {fr : Nat × Nat} (h : w.heap[g]? = some (.cells cs.toArray t fr)) (j : Nat) : w.cell? ⟨g, j, none⟩ = cs[j]? := by
  rw [cell_of_row w g j _ t fr h]
  simp
end Go.Proofs.YthjaepmfkgejkaaGreatDoor
