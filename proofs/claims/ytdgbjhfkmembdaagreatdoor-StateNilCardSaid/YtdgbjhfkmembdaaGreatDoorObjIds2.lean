/-
  What the reader's ids reads. Conditions: bytes that lie in memory.
-/
import Derived.Test.YtdgbjhfkmembdaaGreatDoorObjIds1
namespace Go.Proofs.YtdgbjhfkmembdaaGreatDoor
open Go.RowKit Go.Maps
set_option linter.unusedVariables false
set_option linter.unusedSimpArgs false

theorem run_load1 {P : Program} {w : World} {ty : TypeId} {p : Addr} {d : TypeDesc} (hu : P.underlying ty = some d) (hd : (match d with | .struct _ | .array _ _ => true | _ => false) = false) {v : Value} (hc : w.cell? p = some v) : (loadVar ty p).run P w = .ok v w := by
  unfold loadVar isAgg
  simp only [Sem.run_bind, run_underlying hu, Result.andThen_ok]
  cases d <;> first | (cases hd; done) | simp [Result.andThen, hc]
/-- A new variable of one cell. -/
theorem wp_allocM1 {P : Program} {o : Oper} {w : World} {ops : Array Oper} {rest : List Oper} {a : Act} {Q : Exit → Act → World → Prop} (hw : Region.wanted o (yielded ops a.tmps) = true) (t : TypeId) (ho : o.op = .alloc t) (v : Value) (hv : v.cells = #[v]) (hz : ∀ w : World, (zeroValue t).run P w = .ok v w)
    (h : ∀ W : World, Below w.heap.size w W → W.heap[w.heap.size]? = some (.cells [v].toArray t (0, 0)) → W.heap.size = w.heap.size + 1 → wpList P ops Q rest (a.put o.dst (.pointer (some ⟨w.heap.size, 0, none⟩))) W) : wpList P ops Q (o :: rest) a w := by
  refine BigFrame.wpList_want hw fun K hK => ?_
  have h2 : (execOp a.eval o).run P w = .ok (.value (.pointer (some ⟨w.heap.size, 0, none⟩))) (w.alloc (.cells [v].toArray t)) := by
    unfold execOp
    simp [ho, Instr.alloc, newVar, newRow, hz, Result.andThen, Sem.run_bind, hv]
  unfold Oper.wp
  rw [h2]
  exact hK _ _ (h _ ((Below.refl _ _).alloc (Nat.le_refl _) _) (heap_alloc_new _ _) (by simp))
/-- Ids that were read lie in a row of their own. -/
def IdsR (w : World) (ids : List (List UInt8)) (v : Value) (w' : World) : Prop := IdsOk ids ∧ w'.ownsRow w.heap.size 41 32 v ids.length (idsV ids)
end Go.Proofs.YtdgbjhfkmembdaaGreatDoor
