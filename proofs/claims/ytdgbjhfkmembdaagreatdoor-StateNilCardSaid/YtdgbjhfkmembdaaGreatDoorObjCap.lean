/-
  Slices inside a value have their length within their capacity. No conditions; no program.
-/
import Derived.Test.YtdgbjhfkmembdaaGreatDoorMem
namespace Go.Proofs.YtdgbjhfkmembdaaGreatDoor
set_option linter.unusedVariables false

def CapOk (v : Value) : Prop := ∀ cs : List Value, v = .agg cs.toArray → ∀ A n c, Value.slice A n c ∈ cs → n ≤ c
end Go.Proofs.YtdgbjhfkmembdaaGreatDoor
