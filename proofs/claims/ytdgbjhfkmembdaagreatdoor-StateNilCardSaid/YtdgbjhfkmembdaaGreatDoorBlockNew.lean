/-
  A new document. Conditions: none.
-/
import Derived.Test.YtdgbjhfkmembdaaGreatDoorBlockPut
namespace Go.Proofs.YtdgbjhfkmembdaaGreatDoor
open Go.RowKit Go.Maps
set_option linter.unusedVariables false
set_option linter.unusedSimpArgs false

theorem docZ_built (w : World) : (Instr.build 192 #[]).run Tryz.prog w = .ok (.agg [.slice none 0 0, .int .i64 0, .int .i64 0].toArray) w := by kernel_rfl
set_option maxHeartbeats 4000000 in
set_option maxRecDepth 100000 in
theorem docNew_any (B : Nat) (w : World) (hB : B ≤ w.heap.size) : Calls Tryz.prog 99 #[] w fun e w' => e = .returned (.pointer (some ⟨w.heap.size, 0, none⟩)) ∧ Below w.heap.size w w' ∧ DocRows w' B w.heap.size (.slice none 0 0) [] := by
  go_enter Tryz.func99, Tryz.ntmps99
  go_wp2_with (first
    | (with_reducible refine at_build ?_
       refine wp_val (by rfl) (ex_build 192 _ rfl (docZ_built _)) ?_)
    | (with_reducible refine at_box ?_
       refine wp_boxM (by rfl) 192 _ rfl [.slice none 0 0, .int .i64 0, .int .i64 0] _ rfl rfl (by kernel_rfl) ?_
       intro W0 hb0 hy0 hs0
       have HB0 := Lib.hid hb0; have HY0 := Lib.hid hy0
       clear hb0 hy0 hs0))
  go_ret
  exact ⟨rfl, HB0.out, ⟨0, 0, HY0.out⟩, hB, fun r hr => (by cases hr), World.ownsRow_nil _ _ _ _⟩
end Go.Proofs.YtdgbjhfkmembdaaGreatDoor
