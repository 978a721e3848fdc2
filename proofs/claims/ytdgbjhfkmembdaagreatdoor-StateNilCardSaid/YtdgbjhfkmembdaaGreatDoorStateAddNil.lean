/-
  Nothing is added to a state that is not there. Conditions: the id and the change are well formed.
-/
import Derived.Test.YtdgbjhfkmembdaaGreatDoorStateNils
namespace Go.Proofs.YtdgbjhfkmembdaaGreatDoor
open Go.RowKit Go.Maps
set_option linter.unusedVariables false
set_option linter.unusedSimpArgs false

theorem load_err15 {w : World} {zo : Nat} {v : Value} (h : w.heap[zo]? = some (.cells [v].toArray 29 (0, 0))) : (loadVar 29 ⟨zo, 0, none⟩).run Tryz.prog w = .ok v w := by
  have hc : w.cell? ⟨zo, 0, none⟩ = some v := cells_at0 h 0
  unfold loadVar isAgg
  simp only [Sem.run_bind, run_underlying Tryz.underlying29, Result.andThen_ok]
  simp [Result.andThen, hc]
set_option maxHeartbeats 4000000 in
set_option maxRecDepth 100000 in
theorem add_nil (i : List UInt8) (n : Int) (dv ov : Value) (au : ByteArray) (w : World) (hi : IdOk i) : Calls Tryz.prog 17 #[.pointer none, .agg (idV i).toArray, .agg [.int .i64 n, dv, .string au, ov].toArray] w fun e w' => Below w.heap.size w w' ∧ e = .returned (.int .i64 1) := by
  have HI := Lib.hid hi
  clear hi
  go_enter_defers Tryz.func17, Tryz.ntmps17
  go_wp2_with fail
  refine ⟨_, results_one Tryz.results17 _ _ rfl (load_err15 ?_), ?_, rfl⟩
  · have h := heap_alloc_new ((w.alloc (.cells (idV i).toArray 41)).alloc (.cells #[.int .i64 n, dv, .string au, ov] 37)) (.cells #[.int .i64 1] 29)
    simp only [World.size_alloc] at h
    exact h
  · exact (((qB _ _).alloc (qR _) _).alloc (by simp) _).alloc (by simp; omega) _
end Go.Proofs.YtdgbjhfkmembdaaGreatDoor
