/-
  state.need; a new state. Conditions: none.
-/
import Derived.Test.YtdgbjhfkmembdaaGreatDoorStateMem
import Derived.Test.YtdgbjhfkmembdaaGreatDoorBlockNew
namespace Go.Proofs.YtdgbjhfkmembdaaGreatDoor
open Go.RowKit Go.Maps
set_option linter.unusedVariables false
set_option linter.unusedSimpArgs false

/-- The panic that says why a change does not fit. -/
def stopP (e : Int) : List PanicEntry := [{ v := .iface 122 (.agg #[.int .i64 e]), recovered := false }]
set_option maxRecDepth 100000 in
theorem sneed_yes (n : Int) (w : World) : Calls Tryz.prog 51 #[.bool true, .int .i64 n] w fun e w' => e = .returned (.tuple #[]) ∧ w' = w := by
  go_enter Tryz.func51, Tryz.ntmps51
  go_wp2
  go_end0
  exact ⟨rfl, rfl⟩
theorem stop_built (n : Int) (w : World) : (Instr.build 122 #[(0, .int .i64 n)]).run Tryz.prog w = .ok (.agg #[.int .i64 n]) w := by kernel_rfl
set_option maxRecDepth 100000 in
theorem sneed_no (n : Int) (w : World) : Calls Tryz.prog 51 #[.bool false, .int .i64 n] w fun e w' => e = .panicked (stopP n) ∧ w' = w := by
  go_enter Tryz.func51, Tryz.ntmps51
  go_wp2_with (first
    | (with_reducible refine at_build ?_
       refine wp_val (by rfl) (ex_build 122 _ rfl (stop_built n)) ?_))
  exact ⟨rfl, rfl, rfl⟩
theorem shelf_built (m : Option Nat) (w : World) : (Instr.build 84 #[(0, .map m)]).run Tryz.prog w = .ok (.agg [.map m, .slice none 0 0].toArray) w := by kernel_rfl
theorem state_built (m n : Option Nat) (w : World) : (Instr.build 87 #[(0, .agg [.map m, .slice none 0 0].toArray), (1, .map n)]).run Tryz.prog w = .ok (.agg [.map m, .slice none 0 0, .map n].toArray) w := by kernel_rfl
set_option maxHeartbeats 4000000 in
set_option maxRecDepth 100000 in
theorem stateNew_any (B : Nat) (w : World) (hB : B ≤ w.heap.size) : Calls Tryz.prog 27 #[] w fun e w' => Below w.heap.size w w' ∧ ∃ s q, e = .returned (.pointer (some ⟨s, 0, none⟩)) ∧ StateAt w' B s newState q ∧ q.nd = 0 := by
  have hmm := @run_makeMap Tryz.prog
  have HM1 := Lib.hid (MapV.made w Tryz.prog 89 KeyOk keyL)
  have HM2 := Lib.hid (MapV.made (w.alloc (.map #[] 0)) Tryz.prog 41 IdOk idL)
  have HM3 := Lib.hid (HM1.out.alloc (.map #[] 0))
  have HBL := Lib.hid (((qB w.heap.size w).alloc (qR _) (.map #[] 0)).alloc (by simp) (.map #[] 0))
  go_enter Tryz.func27, Tryz.ntmps27
  go_wp2_with (first
    | (with_reducible refine at_build ?_
       refine wp_val (by rfl) (ex_build 84 _ rfl (shelf_built _)) ?_)
    | (with_reducible refine at_build ?_
       refine wp_val (by rfl) (ex_build 87 _ rfl (state_built _ _)) ?_)
    | (with_reducible refine at_box ?_
       refine wp_boxM (by rfl) 87 _ rfl [.map (some w.heap.size), .slice none 0 0, .map (some (w.heap.size + 1))] _ rfl rfl (by kernel_rfl) ?_
       intro W0 hb0 hy0 hs0
       have HB0 := Lib.hid hb0; have HY0 := Lib.hid hy0
       clear hb0 hy0 hs0))
  go_ret
  refine ⟨HBL.out.trans (HB0.out.mono HBL.out.size), _, ⟨w.heap.size, w.heap.size + 1, 0, .slice none 0 0, fun _ => 0, fun _ => .slice none 0 0, fun _ => (.slice none 0 0, .slice none 0 0, .slice none 0 0)⟩, rfl, ?_, rfl⟩
  have hy := HY0.out
  simp only [World.size_alloc] at hy
  refine ⟨hy, ⟨by omega, hB, by show B ≤ w.heap.size + 1; omega⟩, HM3.out.below HB0.out, ?_, by show w.heap.size ≠ w.heap.size + 1; omega, World.ownsRow_nil _ _ _ _, (fun c hc => by cases hc), (fun k d hd => by cases hd), (fun k k' hk => by cases hk), (fun i e he => by cases he)⟩
  have h := HM2.out.below HB0.out
  rw [World.size_alloc] at h
  exact h
end Go.Proofs.YtdgbjhfkmembdaaGreatDoor
