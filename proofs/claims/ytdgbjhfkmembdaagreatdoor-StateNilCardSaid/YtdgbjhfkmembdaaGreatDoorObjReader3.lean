/-
  What the reader's ref reads. Conditions: bytes that lie in memory; at most 2^40.
-/
import Derived.Test.YtdgbjhfkmembdaaGreatDoorShort0
import Derived.Test.YtdgbjhfkmembdaaGreatDoorObjReader
import Derived.Test.YtdgbjhfkmembdaaGreatDoorStoreM
import Derived.Test.YtdgbjhfkmembdaaGreatDoorObjIds
namespace Go.Proofs.YtdgbjhfkmembdaaGreatDoor
open Go.RowKit Go.Maps
set_option linter.unusedVariables false
set_option linter.unusedSimpArgs false

theorem zeroRef_run (w : World) : (zeroValue 110).run Tryz.prog w = .ok (.agg (refV zeroRef).toArray) w := by kernel_rfl
theorem refI_built (i : Nat) (w : World) : (Instr.build 110 #[(1, .int .i64 ((i : Nat) : Int))]).run Tryz.prog w = .ok (.agg (refV (zero32, ((i : Nat) : Int))).toArray) w := by kernel_rfl
end Go.Proofs.YtdgbjhfkmembdaaGreatDoor
