/-
  What the reader's number and text read. Conditions: bytes that lie in memory; at most 2^40.
-/
import Derived.Test.YtdgbjhfkmembdaaGreatDoorShort9
import Derived.Test.YtdgbjhfkmembdaaGreatDoorReaderMem
namespace Go.Proofs.YtdgbjhfkmembdaaGreatDoor
open Go.RowKit Go.Maps
set_option linter.unusedVariables false
set_option linter.unusedSimpArgs false

end Go.Proofs.YtdgbjhfkmembdaaGreatDoor
