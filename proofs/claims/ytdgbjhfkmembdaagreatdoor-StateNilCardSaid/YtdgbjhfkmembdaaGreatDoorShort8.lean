/-
  Loads of refs, ids, operations in one word. Conditions: none.
-/
import Derived.Test.YtdgbjhfkmembdaaGreatDoorObjMem
import Derived.Deep.MidRow
namespace Go.Proofs.YtdgbjhfkmembdaaGreatDoor
open Go.RowKit
set_option linter.unusedVariables false

section
variable {ρ : Operand → Value} {o : Oper} {w : World} {b f : Nat} {x : Operand}
theorem ldR {r : RefD} (hr : RefOk r) (hc : w.rangeAt b f (refV r)) (ho : o.op = .load 110 x := by rfl) (hx : ρ x = .pointer (some ⟨b, f, none⟩) := by rfl) : (execOp ρ o).run Tryz.prog w = .ok (.value (.agg (refV r).toArray)) w :=
  ex_load 110 x ho hx (run_loadVar_mid w b f _ (refV r) _ hc Tryz.underlying110 rfl (by rw [refV_length hr]; kernel_rfl))
theorem ldI {i : List UInt8} (hi : IdOk i) (hc : w.rangeAt b f (idV i)) (ho : o.op = .load 41 x := by rfl) (hx : ρ x = .pointer (some ⟨b, f, none⟩) := by rfl) : (execOp ρ o).run Tryz.prog w = .ok (.value (.agg (idV i).toArray)) w :=
  ex_load 41 x ho hx (run_loadVar_mid w b f _ (idV i) _ hc Tryz.underlying41 rfl (by rw [idV_length, hi]; kernel_rfl))
theorem ldO {y : OpD} (hy : OpIn y) (hc : w.rangeAt b f (opV y)) (ho : o.op = .load 112 x := by rfl) (hx : ρ x = .pointer (some ⟨b, f, none⟩) := by rfl) : (execOp ρ o).run Tryz.prog w = .ok (.value (.agg (opV y).toArray)) w :=
  ex_load 112 x ho hx (run_loadVar_mid w b f _ (opV y) _ hc Tryz.underlying112 rfl (by rw [opV_length hy]; kernel_rfl))
end
end Go.Proofs.YtdgbjhfkmembdaaGreatDoor
