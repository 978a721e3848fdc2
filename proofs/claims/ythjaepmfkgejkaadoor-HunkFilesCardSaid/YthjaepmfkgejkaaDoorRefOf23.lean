/-
  The program's hunks as the document's (of), and whether two lists of hunks are alike (Same), where they are. Conditions: few hunks, few lines.
-/
import Derived.Test.YthjaepmfkgejkaaDoorRefHunks23
import Derived.Test.YthjaepmfkgejkaaDoorQuietTail1
import Derived.Test.YthjaepmfkgejkaaDoorRowList
namespace Go.Proofs.YthjaepmfkgejkaaDoor
open Go.RowKit Go.Maps Go.Shelf
set_option linter.unusedVariables false
set_option linter.unusedSimpArgs false

theorem rows_one (l : List HkD) (h : HkD) : rowsV hkV (l ++ [h]) = rowsV hkV l ++ hkV h := by rw [rowsV_app]; simp [rowsV]
end Go.Proofs.YthjaepmfkgejkaaDoor
