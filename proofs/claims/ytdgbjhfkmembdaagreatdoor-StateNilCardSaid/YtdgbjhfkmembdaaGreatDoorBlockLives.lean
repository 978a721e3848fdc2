/-
  The iterator of a document's live runs is made. Conditions: none.
-/
import Derived.Test.YtdgbjhfkmembdaaGreatDoorStateNils
namespace Go.Proofs.YtdgbjhfkmembdaaGreatDoor
open Go.RowKit Go.Maps
set_option linter.unusedVariables false
set_option linter.unusedSimpArgs false

set_option maxHeartbeats 4000000 in
set_option maxRecDepth 100000 in
theorem lives_any (d : Option Addr) (w : World) : Calls Tryz.prog 80 #[.pointer d] w fun e w' => Below w.heap.size w w' ∧ w'.heap[w.heap.size]? = some (.cells [.pointer d].toArray 92 (0, 0)) ∧ e = .returned (.func (.func 132) #[] #[.pointer (some ⟨w.heap.size, 0, none⟩)]) := by
  have hmf : ∀ (fn : Fn) (first cap : Array Value) (w : World), (Instr.makeFunc fn first cap).run Tryz.prog w = .ok (.func fn first cap) w := fun _ _ _ _ => rfl
  go_enter Tryz.func80, Tryz.ntmps80
  go_wp2_with (first
    | (with_reducible refine at_box ?_
       refine wp_boxM (by rfl) 92 _ rfl [.pointer d] _ rfl rfl (by kernel_rfl) ?_
       intro W0 hb0 hy0 hs0
       have HB0 := Lib.hid hb0; have HY0 := Lib.hid hy0
       clear hb0 hy0 hs0))
  go_ret
  exact ⟨HB0.out, HY0.out, rfl⟩
set_option maxHeartbeats 4000000 in
set_option maxRecDepth 100000 in
/-- Of a nil document: nothing is yielded. -/
theorem livesIt_nil (b : Nat) (y : Value) (w : World) (h : w.heap[b]? = some (.cells [.pointer none].toArray 92 (0, 0))) : Calls Tryz.prog 132 #[y, .pointer (some ⟨b, 0, none⟩)] w fun e w' => w' = w ∧ e = .returned (.tuple #[]) := by
  have c0 : w.cell? ⟨b, 0, none⟩ = some (.pointer none) := cells_at0 h 0
  clear h
  go_enter Tryz.func132, Tryz.ntmps132
  go_wp2
  refine bodyPost_ret (results_none (by kernel_rfl) _ _ _) rfl ?_
  exact ⟨rfl, rfl⟩
end Go.Proofs.YtdgbjhfkmembdaaGreatDoor
