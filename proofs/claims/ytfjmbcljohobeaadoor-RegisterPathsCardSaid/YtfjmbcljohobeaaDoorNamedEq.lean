/-
  Named documents compared. Conditions: well formed.
-/
import Derived.Test.YtfjmbcljohobeaaDoorMerged1
namespace Go.Proofs.YtfjmbcljohobeaaDoor
open Go.RowKit
set_option linter.unusedVariables false

theorem kbNamed {n : NamedD} (hn : NamedOk n) : Kb Tryd.prog 4 37 (namedV n) := by
  have l0 := keyV_length hn.1
  have ct : Tryd.prog.cellsOf 37 = 35 := by kernel_rfl
  refine kb_struct Tryd.underlying37 (by rw [namedV_length hn, ct]) (by kernel_rfl) fun f hf => ?_
  simp only [List.mem_cons, List.not_mem_nil, or_false] at hf
  rcases hf with rfl | rfl
  · simp only [cellsKey, List.drop_zero]
    rw [show (namedV n).take 34 = keyV n.1 by unfold namedV; rw [← l0, List.take_left']; rfl]
    exact kbKey hn.1
  · simp only [cellsStr]
    rw [show ((namedV n).drop 34).take 1 = [.string n.2] from cut_end l0 rfl]
    exact fun d hd => kb_str Tryd.underlying9 hn.2 d (by omega)
set_option maxRecDepth 100000 in
theorem eqNamed : EqT Tryd.prog 37 4 := ⟨by kernel_rfl, of_decide_eq_true (by kernel_rfl), of_decide_eq_true (by kernel_rfl), by kernel_rfl, by kernel_rfl, of_decide_eq_true (by kernel_rfl), by kernel_rfl⟩
theorem namedV_inj' {a b : NamedD} (ha : NamedOk a) (hb : NamedOk b) (h : namedV a = namedV b) : a = b := namedV_inj ha hb h
theorem namedV_inj2 (a b : NamedD) (h : namedV a = namedV b) : a = b := by
  unfold namedV at h
  have hl := congrArg List.length h
  simp only [List.length_append, List.length_singleton] at hl
  obtain ⟨h1, h2⟩ := List.append_inj h (by omega)
  simp only [List.cons.injEq, Value.string.injEq, and_true] at h2
  exact Prod.ext (keyV_inj h1) h2
theorem run_eqNamed {a b : NamedD} (ha : NamedOk a) (hb : NamedOk b) (w : World) : (Op.equalIn 10000 37 (.agg (namedV a).toArray) (.agg (namedV b).toArray)).run Tryd.prog w = .ok (decide (a = b)) w :=
  eqNamed.run namedV namedV_inj2 (by rw [namedV_length ha]; kernel_rfl) (by rw [namedV_length hb]; kernel_rfl) (kbNamed ha) (kbNamed hb) w
end Go.Proofs.YtfjmbcljohobeaaDoor
