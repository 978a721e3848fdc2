/-
  RegisterApart's walk. Conditions: claims well formed; the library's variable MaxLen holds a number.
-/
import Derived.Test.YtfjmbcljohobeaaGreatDoorAwake14
import Derived.Test.YtfjmbcljohobeaaGreatDoorRegFind
import Derived.Test.YtfjmbcljohobeaaGreatDoorHand
import Derived.IntWalk
namespace Go.Proofs.YtfjmbcljohobeaaGreatDoor
open Go.RowKit Go.Maps Go.Shelf
set_option linter.unusedVariables false
set_option linter.unusedSimpArgs false

theorem wp_region_wg {P : Program} {id : Nat} {Q : Exit → Act → World → Prop} {a : Act} {w : World} {l : List Oper} (hm : P.follows .mixedOrders = true) (hB : Region.lexB .any l.toArray = true)
    (h : wpQuiet P l.toArray (fun w' => ∃ n : Wg w, w' = n.val) (fun a' => ∀ w', (∃ n : Wg w, w' = n.val) → Q .normal a' w') l a) : (Code.region id l.toArray true).wp P Q a w :=
  wp_region_quiet (C := fun w' => ∃ n : Wg w, w' = n.val) hm hB ⟨⟨_, (Gr.refl w).drew⟩, rfl⟩ (by simpa using h)
end Go.Proofs.YtfjmbcljohobeaaGreatDoor
