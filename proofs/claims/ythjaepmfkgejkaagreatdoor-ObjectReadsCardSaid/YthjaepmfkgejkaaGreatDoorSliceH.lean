/-
  'x[:h]' as one step of a walk; what a part of a slice reads as. Over any program; conditions as each says.
-/
import Derived.Test.YthjaepmfkgejkaaGreatDoorSliceOp
import Derived.Test.YthjaepmfkgejkaaGreatDoorMem
import Derived.Test.YthjaepmfkgejkaaGreatDoorIdsSpec
namespace Go.Proofs.YthjaepmfkgejkaaGreatDoor
open Go.RowKit
set_option linter.unusedVariables false

section
variable {P : Program} {ρ : Operand → Value} {o : Oper} {w : World}
end
section
variable {w : World} {B n c sz : Nat} {A : Option Addr} {xs : List Value}
end
end Go.Proofs.YthjaepmfkgejkaaGreatDoor
