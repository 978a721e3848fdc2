/-
  A slice of one element of one cell, built at a step taken by hand. Over any program; conditions as it says.
-/
import Derived.Test.YtdgbjhfkmembdaaGreatDoorHandN
import Derived.Test.YtdgbjhfkmembdaaGreatDoorBuild
namespace Go.Proofs.YtdgbjhfkmembdaaGreatDoor
open Go.RowKit Go.Maps
set_option linter.unusedVariables false

theorem ex_build1c {P : Program} {ρ : Operand → Value} {o : Oper} {w : World} (t : TypeId) (x : Operand) (ho : o.op = .buildSlice t 1 #[(0, x)]) (e : TypeId) (ht : P.underlying t = some (.slice e)) (z : Value) (bytes : Nat) (hinf : (P.info? e).map (fun i => (i.zero, i.size, i.bytes)) = some (some z, 1, bytes)) (hz1 : z.cells.size = 1)
    (v : Value) (hx : ρ x = v) (hv : v.cells = #[v]) : (execOp ρ o).run P w = .ok (.value (.slice (some ⟨w.heap.size, 0, none⟩) 1 1)) (w.alloc (.cells #[v] e)) := by
  have hrun := run_buildSliceN w t e ht z 1 bytes hinf hz1 (by decide) [v] (fun u hu => by rw [List.mem_singleton.1 hu, hv]; rfl) (by simp) (by simp)
  simp only [List.flatMap_cons, List.flatMap_nil, List.append_nil, hv] at hrun
  unfold execOp
  have h2 : (Instr.buildSlice t 1 #[(0, v)]).run P w = .ok (.slice (some ⟨w.heap.size, 0, none⟩) 1 1) (w.alloc (.cells #[v] e)) := hrun
  simp only [ho, List.map_toArray, List.map_cons, List.map_nil, hx, Sem.run_bind, h2, Result.andThen_ok, Sem.run_pure]
end Go.Proofs.YtdgbjhfkmembdaaGreatDoor
