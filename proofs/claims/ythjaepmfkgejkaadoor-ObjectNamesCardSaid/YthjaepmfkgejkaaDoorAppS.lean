/-
  'append([]T{}, xs...)': a copy of a slice that came in. No conditions; no program.
-/
import Derived.Test.YthjaepmfkgejkaaDoorMerged2
import Derived.Deep.AppendSrc
import Derived.BigFrame
import Derived.Laws.OwnMore
namespace Go.Proofs.YthjaepmfkgejkaaDoor
open Go.RowKit
set_option linter.unusedVariables false

end Go.Proofs.YthjaepmfkgejkaaDoor
