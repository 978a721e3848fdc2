/-
  What a state tells that is not there. Conditions: none.
-/
import Derived.Test.YtdgbjhfkmembdaaGreatDoorStateHas
namespace Go.Proofs.YtdgbjhfkmembdaaGreatDoor
open Go.RowKit Go.Maps
set_option linter.unusedVariables false
set_option linter.unusedSimpArgs false

set_option maxRecDepth 100000 in
theorem ids_nil (w : World) : Calls Tryz.prog 16 #[.pointer none] w fun e w' => w' = w ∧ e = .returned (.slice none 0 0) := by
  go_enter Tryz.func16, Tryz.ntmps16
  go_wp2
  go_ret
  exact ⟨rfl, rfl⟩
set_option maxRecDepth 100000 in
theorem files_nil (w : World) : Calls Tryz.prog 11 #[.pointer none] w fun e w' => w' = w ∧ e = .returned (.slice none 0 0) := by
  go_enter Tryz.func11, Tryz.ntmps11
  go_wp2
  go_ret
  exact ⟨rfl, rfl⟩
set_option maxRecDepth 100000 in
theorem copy_nil15 (w : World) : Calls Tryz.prog 24 #[.pointer none] w fun e w' => w' = w ∧ e = .returned (.pointer none) := by
  go_enter Tryz.func24, Tryz.ntmps24
  go_wp2
  go_ret
  exact ⟨rfl, rfl⟩
set_option maxRecDepth 100000 in
theorem time_nil (w : World) : Calls Tryz.prog 21 #[.pointer none] w fun e w' => w' = w ∧ e = .returned (.int .i64 0) := by
  go_enter Tryz.func21, Tryz.ntmps21
  go_wp2
  go_ret
  exact ⟨rfl, rfl⟩
set_option maxRecDepth 100000 in
theorem pieces_nil (w : World) : Calls Tryz.prog 41 #[.pointer none] w fun e w' => w' = w ∧ e = .returned (.slice none 0 0) := by
  go_enter Tryz.func41, Tryz.ntmps41
  go_wp2
  go_ret
  exact ⟨rfl, rfl⟩
/-- A result that lies in a block, and two that do not. -/
theorem results_ctt {P : Program} {fn : Func} {p t u : Tmp} {ty : TypeId} (h : fn.results = #[.cell p ty, .tmp t, .tmp u]) (tmps : Array Value) (w : World) {a : Addr} {r : Value} (hp : tmps.getD p undef = .pointer (some a)) (hl : (loadVar ty a).run P w = .ok r w) :
    (results fn tmps).run P w = .ok (.tuple #[r, tmps.getD t undef, tmps.getD u undef]) w := by
  have hp' : tmps[p]?.getD undef = .pointer (some a) := by simpa using hp
  simp only [results, h]
  simp [hp', asAddr, hl]
theorem results_ct {P : Program} {fn : Func} {p t : Tmp} {ty : TypeId} (h : fn.results = #[.cell p ty, .tmp t]) (tmps : Array Value) (w : World) {a : Addr} {r : Value} (hp : tmps.getD p undef = .pointer (some a)) (hl : (loadVar ty a).run P w = .ok r w) :
    (results fn tmps).run P w = .ok (.tuple #[r, tmps.getD t undef]) w := by
  have hp' : tmps[p]?.getD undef = .pointer (some a) := by simpa using hp
  simp only [results, h]
  simp [hp', asAddr, hl]
theorem keyZ_built (w : World) : (Instr.build 89 #[]).run Tryz.prog w = .ok (.agg (keyV (0, zero32, 0)).toArray) w := by kernel_rfl
set_option maxHeartbeats 4000000 in
set_option maxRecDepth 100000 in
theorem find_nil (p : ByteArray) (w : World) : Calls Tryz.prog 40 #[.pointer none, .string p] w fun e w' => Below w.heap.size w w' ∧ e = .returned (.tuple #[.agg (keyV (0, zero32, 0)).toArray, .pointer none, .int .i64 1]) := by
  go_enter Tryz.func40, Tryz.ntmps40
  go_wp2_with (first
    | (with_reducible refine at_alloc ?_
       refine wp_allocM (by rfl) 89 rfl (keyV (0, zero32, 0)) (keyZ_run _) ?_
       intro W0 hb0 hy0 hs0
       have HB0 := Lib.hid hb0; have HY0 := Lib.hid hy0
       clear hb0 hy0 hs0)
    | (with_reducible refine at_build ?_
       refine wp_val (by rfl) (ex_build 89 _ rfl (keyZ_built _)) ?_)
    | (with_reducible refine at_store ?_
       refine wp_storeM (by rfl) 89 _ _ rfl w.heap.size 0 [] (keyV (0, zero32, 0)) [] (keyV (0, zero32, 0)) 89 (.agg (keyV (0, zero32, 0)).toArray) rfl rfl rfl rfl (by simpa using HY0.out) rfl (by kernel_rfl) (keyV_one _) ?_
       intro W1 hb1 hy1 hs1
       have HY1 : Hid (W1.rangeAt w.heap.size 0 (keyV (0, zero32, 0))) := Lib.hid (fun j u hj => by rw [qZ]; exact (cells_at0 hy1 j).trans (by simpa using hj))
       have HB1 := Lib.hid (hb1.below (B := w.heap.size) HB0.out.size (fun k hk e => by
         have e2 : k = w.heap.size := e
         omega))
       clear hb1 hy1 hs1))
  refine bodyPost_ret (results_ctt Tryz.results40 _ _ rfl (qV _ w.heap.size 0 89 (keyV (0, zero32, 0)) _ HY1.out Tryz.underlying89 rfl (by kernel_rfl))) rfl ?_
  exact ⟨HB0.out.trans HB1.out, rfl⟩
def changeZ : List Value := [.int .i64 0, .slice none 0 0, .string noneS, .slice none 0 0]
theorem changeZ_run (w : World) : (zeroValue 37).run Tryz.prog w = .ok (.agg changeZ.toArray) w := by kernel_rfl
theorem changeZ_built (w : World) : (Instr.build 37 #[]).run Tryz.prog w = .ok (.agg changeZ.toArray) w := by kernel_rfl
set_option maxHeartbeats 4000000 in
set_option maxRecDepth 100000 in
theorem change_nil (i : List UInt8) (w : World) (hi : IdOk i) : Calls Tryz.prog 13 #[.pointer none, .agg (idV i).toArray] w fun e w' => Below w.heap.size w w' ∧ e = .returned (.tuple #[.agg changeZ.toArray, .int .i64 1]) := by
  have HI := Lib.hid hi
  clear hi
  go_enter Tryz.func13, Tryz.ntmps13
  go_wp2_with (first
    | (with_reducible refine at_box ?_
       refine wp_boxM (by rfl) 41 _ rfl (idV i) _ rfl rfl (by rw [idV_length, HI.out]; kernel_rfl) ?_
       intro W0 hb0 hy0 hs0
       have HB0 := Lib.hid hb0
       clear hb0 hy0 hs0)
    | (with_reducible refine at_alloc ?_
       refine wp_allocM (by rfl) 37 rfl changeZ (changeZ_run _) ?_
       intro W1 hb1 hy1 hs1
       have HB1 := Lib.hid hb1; have HY1 := Lib.hid hy1
       clear hb1 hy1 hs1)
    | (with_reducible refine at_build ?_
       refine wp_val (by rfl) (ex_build 37 _ rfl (changeZ_built _)) ?_)
    | (with_reducible refine at_store ?_
       refine wp_storeM (by rfl) 37 _ _ rfl W0.heap.size 0 [] changeZ [] changeZ 37 (.agg changeZ.toArray) rfl rfl rfl rfl (by simpa using HY1.out) rfl (by kernel_rfl) (by unfold changeZ; intro u hu; simp only [List.mem_cons, List.not_mem_nil, or_false] at hu; rcases hu with rfl | rfl | rfl | rfl <;> rfl) ?_
       intro W2 hb2 hy2 hs2
       have HY2 : Hid (W2.rangeAt W0.heap.size 0 changeZ) := Lib.hid (fun j u hj => by rw [qZ]; exact (cells_at0 hy2 j).trans (by simpa using hj))
       have HB2 := Lib.hid (hb2.below (B := W0.heap.size) HB1.out.size (fun k hk e => by
         have e2 : k = W0.heap.size := e
         omega))
       clear hb2 hy2 hs2))
  refine bodyPost_ret (results_ct Tryz.results13 _ _ rfl (qV _ W0.heap.size 0 37 changeZ _ HY2.out Tryz.underlying37 rfl (by kernel_rfl))) rfl ?_
  exact ⟨HB0.out.trans ((HB1.out.trans HB2.out).mono HB0.out.size), rfl⟩
set_option maxHeartbeats 4000000 in
set_option maxRecDepth 100000 in
theorem blame_nil (p : ByteArray) (w : World) : Calls Tryz.prog 12 #[.pointer none, .string p] w fun e w' => Below w.heap.size w w' ∧ e = .returned (.tuple #[.slice none 0 0, .int .i64 1]) := by
  go_enter Tryz.func12, Tryz.ntmps12
  go_wp2_with (first
    | (go_at_call 40; refine (find_nil p _).mono ?_; rintro e W1 ⟨hb1, rfl⟩
       have HB1 := Lib.hid hb1
       clear hb1)
    | (go_at_call 41; refine (pieces_nil _).mono ?_; rintro e W2 ⟨rfl, rfl⟩)
    | (with_reducible refine at_alloc ?_
       refine wp_allocM (by rfl) 89 rfl (keyV (0, zero32, 0)) (keyZ_run _) ?_
       intro W3 hb3 hy3 hs3
       have HB3 := Lib.hid hb3; have HY3 := Lib.hid hy3
       clear hb3 hy3 hs3)
    | (with_reducible refine at_store ?_
       refine wp_storeM (by rfl) 89 _ _ rfl W1.heap.size 0 [] (keyV (0, zero32, 0)) [] (keyV (0, zero32, 0)) 89 (.agg (keyV (0, zero32, 0)).toArray) rfl rfl rfl rfl (by simpa using HY3.out) rfl (by kernel_rfl) (keyV_one _) ?_
       intro W4 hb4 hy4 hs4
       have HB4 := Lib.hid (hb4.below (B := W1.heap.size) HB3.out.size (fun k hk e => by
         have e2 : k = W1.heap.size := e
         omega))
       clear hb4 hy4 hs4))
  go_loopw [9, 24] (fun t9 t wr => t9 = .slice none 0 0 ∧ t = .int .i64 0 ∧ Hid (Below w.heap.size w wr)) (fun _ _ _ => 0)
  case atStart => exact ⟨rfl, rfl, Lib.hid (HB1.out.trans ((HB3.out.trans HB4.out).mono HB1.out.size))⟩
  case round =>
    obtain ⟨rfl, rfl, HBR⟩ := hrel
    go_wp2_with fail
    go_ret2
    exact ⟨HBR.out, rfl⟩
end Go.Proofs.YtdgbjhfkmembdaaGreatDoor
