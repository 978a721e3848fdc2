/-
  Two lists of hunks that are alike: Same tells so. Conditions: few hunks, few lines.
-/
import Derived.Test.YthjaepmfkgejkaaDoorRefOf23
namespace Go.Proofs.YthjaepmfkgejkaaDoor
open Go.RowKit Go.Maps Go.Shelf
set_option linter.unusedVariables false
set_option linter.unusedSimpArgs false

theorem mapL_inj : ∀ {a b : List ByteArray}, a.map L = b.map L → a = b
  | [], [], _ => rfl
  | [], _ :: _, h => by cases h
  | _ :: _, [], h => by cases h
  | x :: a, y :: b, h => by
    simp only [List.map_cons, List.cons.injEq] at h
    rw [L_inj h.1, mapL_inj h.2]
/-- Hunks that can be read: their rows, their lines. -/
def HsR (w : World) (A : Option Addr) (hs : List HkD) : Prop := Sl w w.heap.size A hs.length 3 (rowsV hkV hs) ∧ ∀ h ∈ hs, ∃ Al cl, h.2.2.1 = .slice Al h.2.2.2.length cl ∧ Sl w w.heap.size Al h.2.2.2.length 1 (strs h.2.2.2)
end Go.Proofs.YthjaepmfkgejkaaDoor
