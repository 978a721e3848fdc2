/-
  What reading one id does. Conditions: as IdsJ says.
-/
import Derived.Test.YtdgbjhfkmembdaaGreatDoorShort0
import Derived.Test.YtdgbjhfkmembdaaGreatDoorShort9
import Derived.Test.YtdgbjhfkmembdaaGreatDoorObjList
import Derived.Test.YtdgbjhfkmembdaaGreatDoorLebId
import Derived.Test.YtdgbjhfkmembdaaGreatDoorStoreM
import Derived.Test.YtdgbjhfkmembdaaGreatDoorWriterMem
import Derived.Test.YtdgbjhfkmembdaaGreatDoorObjIds
namespace Go.Proofs.YtdgbjhfkmembdaaGreatDoor
open Go.RowKit Go.Maps
set_option linter.unusedVariables false
set_option linter.unusedSimpArgs false

theorem infoId : (Tryz.prog.info? 41).map (fun i => (i.zero, i.size, i.bytes)) = some (some (.agg (idV zero32).toArray), 32, 32) := by kernel_rfl
theorem zeroId_run (w : World) : (zeroValue 41).run Tryz.prog w = .ok (.agg (idV zero32).toArray) w := by kernel_rfl
/-- A slice of one element of several cells, at a step by hand. -/
theorem ex_buildR {P : Program} {ρ : Operand → Value} {o : Oper} {w : World} (t : TypeId) (x : Operand) (ho : o.op = .buildSlice t 1 #[(0, x)]) (e : TypeId) (ht : P.underlying t = some (.slice e)) (z : Value) (size bytes : Nat) (hinf : (P.info? e).map (fun i => (i.zero, i.size, i.bytes)) = some (some z, size, bytes)) (hz1 : z.cells.size = size) (hsz : 0 < size) (hmax : size ≤ 16777216)
    (us : List Value) (hl : us.length = size) (hx : ρ x = .agg us.toArray) : (execOp ρ o).run P w = .ok (.value (.slice (some ⟨w.heap.size, 0, none⟩) 1 1)) (w.alloc (.cells us.toArray e)) := by
  have hrun := run_buildSliceN w t e ht z size bytes hinf hz1 hsz [.agg us.toArray] (fun v hv => by rw [List.mem_singleton.1 hv]; exact hl) (by simp) (by simpa using hmax)
  simp only [List.flatMap_cons, List.flatMap_nil, List.append_nil] at hrun
  unfold execOp
  have h2 : (Instr.buildSlice t 1 #[(0, .agg us.toArray)]).run P w = .ok (.slice (some ⟨w.heap.size, 0, none⟩) 1 1) (w.alloc (.cells us.toArray e)) := hrun
  simp only [ho, List.map_toArray, List.map_cons, List.map_nil, hx, Sem.run_bind, h2, Result.andThen_ok, Sem.run_pure]
theorem own_not {w : World} {base n sz k : Nat} {e T : TypeId} {v : Value} {xs : List Value} {cs : List Value} (h : w.ownsRow base e sz v n xs) (hk : w.heap[k]? = some (.cells cs.toArray T (0, 0))) (hne : e ≠ T) : v.ownBlock ≠ some k := by
  intro hv
  rcases h.2 with ⟨h0, _⟩ | ⟨g, cap, cur, h0, _, hh, _⟩
  · rw [h0] at hv; cases hv
  · rw [h0] at hv
    have : g = k := by simpa [Value.ownBlock] using hv
    subst this
    rw [hk] at hh
    injection hh with hh
    injection hh with _ hh _
    exact hne hh.symm
theorem set1_heap {w : World} {k : Nat} {u v : Value} {T : TypeId} (hk : w.heap[k]? = some (.cells [u].toArray T (0, 0))) : (w.setCell ⟨k, 0, none⟩ v).heap[k]? = some (.cells [v].toArray T (0, 0)) := by
  simp [World.setCell, Array.getElem?_modify, hk]
theorem idsV_snoc (xs : List (List UInt8)) (i : List UInt8) : idsV (xs ++ [i]) = idsV xs ++ idV i := by simp [idsV]

end Go.Proofs.YtdgbjhfkmembdaaGreatDoor
