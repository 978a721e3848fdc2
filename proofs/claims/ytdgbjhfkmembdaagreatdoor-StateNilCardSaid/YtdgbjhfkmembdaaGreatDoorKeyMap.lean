/-
  The program's keys as a map's keys. Conditions: the keys are well formed.
-/
import Derived.Test.YtdgbjhfkmembdaaGreatDoorKeyCells
import Derived.Test.YtdgbjhfkmembdaaGreatDoorMapView
namespace Go.Proofs.YtdgbjhfkmembdaaGreatDoor
open Go.RowKit
set_option linter.unusedVariables false

def keyA (k : KeyD) : Value := .agg (keyV k).toArray
noncomputable def keyL (k : KeyD) : Lit := (keyOf Tryz.prog 89 (keyA k)).getD (.bool false)
theorem keyA_inj {a b : KeyD} (h : keyA a = keyA b) : a = b := by
  unfold keyA at h
  injection h with h
  exact keyV_inj (by have := congrArg Array.toList h; simpa using this)
theorem keyOf_key {k : KeyD} (hk : KeyOk k) : keyOf Tryz.prog 89 (keyA k) = some (keyL k) := by
  obtain ⟨l, hl⟩ := eqKey.is (by rw [keyV_length hk, cellsKey]) (kbKey hk)
  unfold keyL
  have h2 : keyOf Tryz.prog 89 (keyA k) = some l := hl
  rw [h2]; rfl
theorem keyEnc : KeyEnc Tryz.prog 89 KeyOk keyA keyL := ⟨keyedKey, fun k hk => keyOf_key hk, fun a b h => keyA_inj h⟩
end Go.Proofs.YtdgbjhfkmembdaaGreatDoor
