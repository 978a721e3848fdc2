/-
  Slices inside a value have their length within their capacity. No conditions; no program.
-/
import Derived.Test.YthjaepmfkgejkaaGreatDoorMem
namespace Go.Proofs.YthjaepmfkgejkaaGreatDoor
set_option linter.unusedVariables false

end Go.Proofs.YthjaepmfkgejkaaGreatDoor
