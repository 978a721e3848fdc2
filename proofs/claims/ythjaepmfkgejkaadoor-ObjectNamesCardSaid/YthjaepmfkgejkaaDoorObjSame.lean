/-
  The document's Same, of objects that are alike. Conditions: well formed; lists of at most 2^40.
-/
import Derived.Test.YthjaepmfkgejkaaDoorMerged2
import Derived.Test.YthjaepmfkgejkaaDoorObjReadOp
import Derived.Test.YthjaepmfkgejkaaDoorObjRight3
namespace Go.Proofs.YthjaepmfkgejkaaDoor
open Go.RowKit Go.Maps
set_option linter.unusedVariables false
set_option linter.unusedSimpArgs false

end Go.Proofs.YthjaepmfkgejkaaDoor
