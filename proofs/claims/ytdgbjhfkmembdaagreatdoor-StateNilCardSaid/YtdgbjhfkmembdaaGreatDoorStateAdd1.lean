/-
  What Add's deferred function does: nothing, or it tells why a change does not fit. Conditions: none.
-/
import Derived.Test.YtdgbjhfkmembdaaGreatDoorObjDecode
import Derived.Test.YtdgbjhfkmembdaaGreatDoorStateClaim
namespace Go.Proofs.YtdgbjhfkmembdaaGreatDoor
open Go.RowKit Go.Maps
set_option linter.unusedVariables false
set_option linter.unusedSimpArgs false

set_option maxHeartbeats 4000000 in
set_option maxRecDepth 100000 in
theorem add_idle (p : Addr) (w : World) :
    CallsD Tryz.prog 50 #[.pointer (some p)] .returning w fun e u' w' => e = .returned (.tuple #[]) ∧ u' = .returning ∧ w' = w := by
  have hnn : ∀ w : World, (binOp .neq 20 .nilIface .nilIface).run Tryz.prog w = .ok (.bool false) w := fun w => by kernel_rfl
  refine callsD_of_wpS Tryz.func50 rfl fun c₀ cs hu => ?_
  apply wpS_seq
  apply wpS_region
  simp [wpOpsS, go_sem, recoverD, hu, Tryz.ntmps50, Exit.thenS]
  apply wpS_seq
  apply wpS_region
  simp [wpOpsS, go_sem, hnn, Exit.thenS]
  refine wpS_cond (t := false) (by simp [Act.eval, Array.replicate]) ?_
  simp only [Bool.false_eq_true, if_false]
  refine wpS_of_wp (wp_skip ?_)
  cases c₀
  simp_all [bodyPostS, results, Tryz.results50]
set_option maxHeartbeats 4000000 in
set_option maxRecDepth 100000 in
theorem add_stop (ze : Nat) (n m : Int) (w : World) (he : w.heap[ze]? = some (.cells [.int .i64 m].toArray 29 (0, 0))) :
    CallsD Tryz.prog 50 #[.pointer (some ⟨ze, 0, none⟩)] (.panicking (stopP n)) w fun e u' w' => e = .returned (.tuple #[]) ∧ settle u' = .returning ∧
      w'.heap[ze]? = some (.cells [Value.int .i64 n].toArray 29 (0, 0)) ∧ But (fun k => k = ze) w w' := by
  have hnn : ∀ w : World, (binOp .neq 20 (.iface 122 (.agg #[.int .i64 n])) .nilIface).run Tryz.prog w = .ok (.bool true) w := fun w => by kernel_rfl
  have hta : ∀ w : World, (Instr.typeAssert (.iface 122 (.agg #[.int .i64 n])) 20 122 true).run Tryz.prog w = .ok (.tuple #[.agg #[.int .i64 n], .bool true]) w := fun w => by kernel_rfl
  refine callsD_of_wpS Tryz.func50 rfl fun c₀ cs hu => ?_
  apply wpS_seq
  apply wpS_region
  simp [wpOpsS, go_sem, recoverD, hu, stopP, Tryz.ntmps50, Exit.thenS]
  refine wpS_of_wp ?_
  simp only [Array.replicate_succ, Array.replicate_zero, List.push_toArray, List.append_toArray, List.nil_append, List.cons_append, List.setIfInBounds_toArray, List.set_cons_zero, List.set_cons_succ]
  have hzw : ∀ u : World, (zeroValue 122).run Tryz.prog u = .ok (.agg ([.int .i64 0] : List Value).toArray) u := fun u => by kernel_rfl
  have HE := Lib.hid he
  clear he
  go_upto_region 5 with (first
    | (with_reducible refine at_alloc ?_
       refine wp_allocM (by rfl) 122 rfl [.int .i64 0] (hzw _) ?_
       intro W1 hb1 hz1 hs1
       have HE1 := Lib.hid ((hb1.block ze (qX HE.out)).trans HE.out)
       have HB1 := Lib.hid (But.of_below (X := fun k => k = ze) hb1); have HZ1 := Lib.hid hz1
       clear hb1 hz1 hs1)
    | (with_reducible refine at_store ?_
       refine wp_storeM (by rfl) 122 _ _ rfl w.heap.size 0 [] [.int .i64 0] [] [.int .i64 n] 122 (.agg #[.int .i64 n]) rfl rfl rfl rfl HZ1.out rfl (by kernel_rfl) (by intro u hu; rw [List.mem_singleton.1 hu]; rfl) ?_
       intro W2 hb2 hy2 hs2
       have HLe := (qX HE.out)
       have HE2 := Lib.hid ((hb2.block ze (qX HE1.out) (by omega)).trans HE1.out)
       have HB2 := Lib.hid (HB1.out.trans hb2 fun i hi e => absurd hi (by omega))
       have HY2 : Hid (W2.heap[w.heap.size]? = some (.cells [Value.int .i64 n].toArray 122 (0, 0))) := Lib.hid (by simpa using hy2)
       clear hb2 hy2 hs2 HLe))
  have c2 : W2.cell? ⟨w.heap.size, 0, none⟩ = some (.int .i64 n) := cells_at0 HY2.out 0
  go_wp2_with (first
    | (with_reducible refine at_store ?_
       refine wp_storeM (by rfl) 29 _ _ rfl ze 0 [] [.int .i64 m] [] [.int .i64 n] 29 (.int .i64 n) rfl rfl rfl rfl (by simpa using HE2.out) rfl (by kernel_rfl) (by intro u hu; simp only [List.mem_singleton] at hu; subst hu; rfl) ?_
       intro W4 hb4 hy4 hs4
       have HE4 : Hid (W4.heap[ze]? = some (.cells [Value.int .i64 n].toArray 29 (0, 0))) := Lib.hid (by simpa using hy4)
       have HB4 := Lib.hid (HB2.out.trans hb4 fun i hi e => e)
       clear hb4 hy4 hs4))
  exact ⟨rfl, _, rfl, _, results_none rfl _ _ _, rfl, rfl, HE4.out, HB4.out⟩
end Go.Proofs.YtdgbjhfkmembdaaGreatDoor
