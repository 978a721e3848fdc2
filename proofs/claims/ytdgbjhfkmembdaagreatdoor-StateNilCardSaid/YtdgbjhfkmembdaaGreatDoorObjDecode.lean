/-
  What the deferred call of Decode does. Conditions: as each says.
-/
import Derived.Test.YtdgbjhfkmembdaaGreatDoorShort0
import Derived.Test.YtdgbjhfkmembdaaGreatDoorStoreM
import Derived.Test.YtdgbjhfkmembdaaGreatDoorReaderMem
import Derived.Defers
import Derived.Recover
namespace Go.Proofs.YtdgbjhfkmembdaaGreatDoor
open Go.RowKit Go.Maps
set_option linter.unusedVariables false
set_option linter.unusedSimpArgs false

def objZ : List Value := [.int .u8 0, .int .i64 0, .slice none 0 0, .string noneS, .slice none 0 0, .slice none 0 0, .slice none 0 0, .string noneS, .string noneS, .int .i64 0]
theorem objZ_built (w : World) : (Instr.build 70 #[]).run Tryz.prog w = .ok (.agg objZ.toArray) w := by kernel_rfl
end Go.Proofs.YtdgbjhfkmembdaaGreatDoor
