/-
  What the register's functions give: good, Right. Conditions: claims well formed; at most 2^40 of them; the library's variable MaxLen holds a number.
-/
import Derived.Test.YtdgbjhfkmembdaaGreatDoorClaimCells
import Derived.Test.YtdgbjhfkmembdaaGreatDoorKeyWalks
import Derived.Test.YtdgbjhfkmembdaaGreatDoorKeyMap
import Derived.Test.YtdgbjhfkmembdaaGreatDoorPathNames
namespace Go.Proofs.YtdgbjhfkmembdaaGreatDoor
open Go.RowKit
set_option linter.unusedVariables false

theorem isEmpty_size (p : ByteArray) : p.toList.isEmpty = decide (p.size = 0) := by
  rw [toList_L, Bool.eq_iff_iff, decide_eq_true_eq, ← L_length, List.isEmpty_iff, List.length_eq_zero_iff]
set_option maxHeartbeats 1000000 in
set_option maxRecDepth 100000 in
theorem good_aux (cs : List Value) (k : Nat) (p : ByteArray) (w : World) (k0 : cs[68]? = some (.int .u8 (k : Int))) (k1 : cs[69]? = some (.string p)) (hsz : p.size ≤ maxLen) (hg : Glob w) :
    Calls Tryz.prog 123 #[.agg cs.toArray] w fun e w' => Below w.heap.size w w' ∧ e = .returned (.bool (goodB k p)) := by
  have h1 : (w.alloc (.cells cs.toArray 135)).heap[w.heap.size]? = some (.cells cs.toArray 135 (0, 0)) := heap_alloc_new _ _
  have c0 := (cells_box h1 68).trans k0
  have c1 := (cells_box h1 69).trans k1
  have hb : Below w.heap.size w (w.alloc (.cells cs.toArray 135)) := (Below.refl _ _).alloc (Nat.le_refl _) _
  have HG := Lib.hid (hg.next hb)
  have HB := Lib.hid hb
  have HZ := Lib.hid hsz
  clear hsz hb k0 k1 h1
  have hout : ∀ j : Nat, ¬ j = 3 → ¬ j = 4 → ¬ j = 5 → goodB j p = false := by
    intro j h3 h4 h5
    unfold goodB
    rw [if_neg (by omega), if_neg h5]
  have d3 : k < 3 ∨ 5 < k → ((k : Int) == 3) = false := by intro h; rw [beq_eq_false_iff_ne]; omega
  have d4 : k < 3 ∨ 5 < k → ((k : Int) == 4) = false := by intro h; rw [beq_eq_false_iff_ne]; omega
  have d5 : k < 3 ∨ 5 < k → ((k : Int) == 5) = false := by intro h; rw [beq_eq_false_iff_ne]; omega
  rcases (by omega : (k < 3 ∨ 5 < k) ∨ k = 3 ∨ k = 4 ∨ k = 5) with h | rfl | rfl | rfl
  · rw [hout k (by omega) (by omega) (by omega)]
    have d3 := d3 h; have d4 := d4 h; have d5 := d5 h
    clear hout h
    go_enter Tryz.func123, Tryz.ntmps123
    go_upto_region 1 with fail
    generalize w.alloc (.cells cs.toArray 135) = W at *
    go_wp2_with fail
    go_ret
    exact ⟨HB.out, rfl⟩
  · rw [show goodB 3 p = pathB p by simp [goodB]]
    clear hout d3 d4 d5
    go_enter Tryz.func123, Tryz.ntmps123
    go_upto_region 1 with fail
    generalize w.alloc (.cells cs.toArray 135) = W at *
    go_wp2_with (go_at_call 173; refine (path_any p _ HZ.out HG.out).mono ?_; rintro e w3 ⟨hb3, rfl⟩)
    go_ret
    exact ⟨HB.out.trans (hb3.mono HB.out.size), rfl⟩
  · rw [show goodB 4 p = pathB p by simp [goodB]]
    clear hout d3 d4 d5
    go_enter Tryz.func123, Tryz.ntmps123
    go_upto_region 1 with fail
    generalize w.alloc (.cells cs.toArray 135) = W at *
    go_wp2_with (go_at_call 173; refine (path_any p _ HZ.out HG.out).mono ?_; rintro e w3 ⟨hb3, rfl⟩)
    go_ret
    exact ⟨HB.out.trans (hb3.mono HB.out.size), rfl⟩
  · rw [show goodB 5 p = p.toList.isEmpty by simp [goodB, isEmpty_size]]
    clear hout d3 d4 d5
    go_enter Tryz.func123, Tryz.ntmps123
    go_upto_region 1 with fail
    generalize w.alloc (.cells cs.toArray 135) = W at *
    go_wp2_with fail
    go_ret
    exact ⟨HB.out, rfl⟩
theorem good_any (c : ClaimD) (w : World) (hc : ClaimOk c) (hg : Glob w) :
    Calls Tryz.prog 123 #[.agg (claimV c).toArray] w fun e w' => Below w.heap.size w w' ∧ e = .returned (.bool (goodB c.2.2.1 c.2.2.2)) :=
  good_aux _ _ _ w (claim_cell hc).1 (claim_cell hc).2 hc.2.2.2 hg
end Go.Proofs.YtdgbjhfkmembdaaGreatDoor
