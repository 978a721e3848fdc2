/-
  What the deferred call of Decode does. Conditions: as each says.
-/
import Derived.Test.YthjaepmfkgejkaaGreatDoorStoreM
import Derived.Test.YthjaepmfkgejkaaGreatDoorReaderMem
import Derived.Defers
import Derived.Recover
namespace Go.Proofs.YthjaepmfkgejkaaGreatDoor
open Go.RowKit Go.Maps
set_option linter.unusedVariables false
set_option linter.unusedSimpArgs false

set_option maxRecDepth 100000 in
theorem dec_idle (p q : Addr) (w : World) :
    CallsD Tryz.prog 23 #[.pointer (some p), .pointer (some q)] .returning w fun e u' w' => e = .returned (.tuple #[]) ∧ u' = .returning ∧ w' = w := by
  have hnn : ∀ w : World, (binOp .neq 20 .nilIface .nilIface).run Tryz.prog w = .ok (.bool false) w := fun w => by kernel_rfl
  refine callsD_of_wpS Tryz.func23 rfl fun c₀ cs hu => ?_
  apply wpS_seq
  apply wpS_region
  simp [wpOpsS, go_sem, recoverD, hu, Tryz.ntmps23, Exit.thenS]
  apply wpS_seq
  apply wpS_region
  simp [wpOpsS, go_sem, hnn, Exit.thenS]
  refine wpS_cond (t := false) (by simp [Act.eval, Array.replicate]) ?_
  simp only [Bool.false_eq_true, if_false]
  refine wpS_of_wp (wp_skip ?_)
  cases c₀
  simp_all [bodyPostS, results, Tryz.results23]
def objZ : List Value := [.int .u8 0, .int .i64 0, .slice none 0 0, .string noneS, .slice none 0 0, .slice none 0 0, .slice none 0 0, .string noneS, .string noneS, .int .i64 0]
theorem objZ_built (w : World) : (Instr.build 30 #[]).run Tryz.prog w = .ok (.agg objZ.toArray) w := by kernel_rfl
set_option maxHeartbeats 4000000 in
set_option maxRecDepth 100000 in
theorem dec_wrong (zo ze : Nat) (co ce : List Value) (w : World) (ho : w.heap[zo]? = some (.cells co.toArray 30 (0, 0))) (hl : co.length = 10) (he : w.heap[ze]? = some (.cells ce.toArray 31 (0, 0))) (hl2 : ce.length = 1) (hne : zo ≠ ze) :
    CallsD Tryz.prog 23 #[.pointer (some ⟨zo, 0, none⟩), .pointer (some ⟨ze, 0, none⟩)] (.panicking wrongP) w fun e u' w' => e = .returned (.tuple #[]) ∧ settle u' = .returning ∧
      w'.heap[zo]? = some (.cells objZ.toArray 30 (0, 0)) ∧ w'.heap[ze]? = some (.cells [Value.int .i64 6].toArray 31 (0, 0)) ∧ But (fun k => k = zo ∨ k = ze) w w' := by
  have hnn : ∀ w : World, (binOp .neq 20 (.iface 55 (.agg #[])) .nilIface).run Tryz.prog w = .ok (.bool true) w := fun w => by kernel_rfl
  have hta : ∀ w : World, (Instr.typeAssert (.iface 55 (.agg #[])) 20 55 true).run Tryz.prog w = .ok (.tuple #[.agg #[], .bool true]) w := fun w => by kernel_rfl
  have HB := Lib.hid objZ_built
  refine callsD_of_wpS Tryz.func23 rfl fun c₀ cs hu => ?_
  apply wpS_seq
  apply wpS_region
  simp [wpOpsS, go_sem, recoverD, hu, wrongP, Tryz.ntmps23, Exit.thenS]
  refine wpS_of_wp ?_
  simp only [Array.replicate_succ, Array.replicate_zero, List.push_toArray, List.append_toArray, List.nil_append, List.cons_append, List.setIfInBounds_toArray, List.set_cons_zero, List.set_cons_succ]
  have hzw : ∀ u : World, (zeroValue 55).run Tryz.prog u = .ok (.agg ([] : List Value).toArray) u := fun u => by kernel_rfl
  have HO := Lib.hid ho; have HE := Lib.hid he
  clear ho he
  go_wp2_with (first
    | (with_reducible refine at_alloc ?_
       refine wp_allocM (by rfl) 55 rfl [] (hzw _) ?_
       intro W1 hb1 hz1 hs1
       have HO1 := Lib.hid ((hb1.block zo (Array.getElem?_eq_some_iff.1 HO.out).1).trans HO.out)
       have HE1 := Lib.hid ((hb1.block ze (Array.getElem?_eq_some_iff.1 HE.out).1).trans HE.out)
       have HB1 := Lib.hid (But.of_below (X := fun k => k = zo ∨ k = ze) hb1); have HZ1 := Lib.hid hz1
       clear hb1 hz1 hs1)
    | (with_reducible refine at_store ?_
       refine wp_storeM (by rfl) 55 _ _ rfl w.heap.size 0 [] [] [] [] 55 (.agg #[]) rfl rfl rfl rfl HZ1.out rfl (by kernel_rfl) (by intro u hu; cases hu) ?_
       intro W2 hb2 hy2 hs2
       have HLz := (Array.getElem?_eq_some_iff.1 HO.out).1
       have HLe := (Array.getElem?_eq_some_iff.1 HE.out).1
       have HO2 := Lib.hid ((hb2.block zo (Array.getElem?_eq_some_iff.1 HO1.out).1 (by omega)).trans HO1.out)
       have HE2 := Lib.hid ((hb2.block ze (Array.getElem?_eq_some_iff.1 HE1.out).1 (by omega)).trans HE1.out)
       have HB2 := Lib.hid (HB1.out.trans hb2 fun i hi e => absurd hi (by omega))
       clear hb2 hy2 hs2 HLz HLe)
    | (with_reducible refine at_build ?_
       refine wp_val (by rfl) (ex_build 30 _ rfl (HB.out _)) ?_)
    | (with_reducible refine at_store ?_
       refine wp_storeM (by rfl) 30 _ _ rfl zo 0 [] co [] objZ 30 (.agg objZ.toArray) rfl rfl rfl rfl (by simpa using HO2.out) hl (by kernel_rfl) (by unfold objZ; intro u hu; simp only [List.mem_cons, List.not_mem_nil, or_false] at hu; rcases hu with rfl | rfl | rfl | rfl | rfl | rfl | rfl | rfl | rfl | rfl <;> rfl) ?_
       intro W3 hb3 hy3 hs3
       have HE3 := Lib.hid ((hb3.block ze (Array.getElem?_eq_some_iff.1 HE2.out).1 (fun e => hne e.symm)).trans HE2.out)
       have HO3 : Hid (W3.heap[zo]? = some (.cells objZ.toArray 30 (0, 0))) := Lib.hid (by simpa using hy3)
       have HB3 := Lib.hid (HB2.out.trans hb3 fun i hi e => .inl e)
       clear hb3 hy3 hs3)
    | (with_reducible refine at_store ?_
       refine wp_storeM (by rfl) 31 _ _ rfl ze 0 [] ce [] [.int .i64 6] 31 (.int .i64 6) rfl rfl rfl rfl (by simpa using HE3.out) hl2 (by kernel_rfl) (by intro u hu; simp only [List.mem_singleton] at hu; subst hu; rfl) ?_
       intro W4 hb4 hy4 hs4
       have HO4 := Lib.hid ((hb4.block zo (Array.getElem?_eq_some_iff.1 HO3.out).1 (fun e => hne e)).trans HO3.out)
       have HE4 : Hid (W4.heap[ze]? = some (.cells [Value.int .i64 6].toArray 31 (0, 0))) := Lib.hid (by simpa using hy4)
       have HB4 := Lib.hid (HB3.out.trans hb4 fun i hi e => .inr e)
       clear hb4 hy4 hs4))
  exact ⟨rfl, _, rfl, _, results_none rfl _ _ _, rfl, rfl, HO4.out, HE4.out, HB4.out⟩
end Go.Proofs.YthjaepmfkgejkaaGreatDoor
