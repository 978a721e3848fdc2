/-
  The program's ids as a map's keys. Conditions: the ids are well formed.
-/
import Derived.Test.YtdgbjhfkmembdaaGreatDoorKeyCells
import Derived.Test.YtdgbjhfkmembdaaGreatDoorMapView
namespace Go.Proofs.YtdgbjhfkmembdaaGreatDoor
open Go.RowKit
set_option linter.unusedVariables false

def idA (i : List UInt8) : Value := .agg (idV i).toArray
noncomputable def idL (i : List UInt8) : Lit := (keyOf Tryz.prog 41 (idA i)).getD (.bool false)
theorem idA_inj {a b : List UInt8} (h : idA a = idA b) : a = b := by
  unfold idA at h
  injection h with h
  exact idV_inj (by have := congrArg Array.toList h; simpa using this)
theorem keyOf_id {i : List UInt8} (hi : IdOk i) : keyOf Tryz.prog 41 (idA i) = some (idL i) := by
  obtain ⟨l, hl⟩ := eqId.is (by rw [idV_length, cellsId]; exact hi) (kbId hi)
  unfold idL
  have h2 : keyOf Tryz.prog 41 (idA i) = some l := hl
  rw [h2]; rfl
theorem idEnc : KeyEnc Tryz.prog 41 IdOk idA idL := ⟨eqId.keyed, fun i hi => keyOf_id hi, fun a b h => idA_inj h⟩
end Go.Proofs.YtdgbjhfkmembdaaGreatDoor
