/-
  What the program's order of keys gives. Conditions: the keys are well formed.
-/
import Derived.Test.YtdgbjhfkmembdaaGreatDoorOrdWalks
import Derived.Test.YtdgbjhfkmembdaaGreatDoorKeyCells
import Derived.Test.YtdgbjhfkmembdaaGreatDoorGr
import Derived.Deep.MidRow
import Derived.Test.YtdgbjhfkmembdaaGreatDoorQuietTail
namespace Go.Proofs.YtdgbjhfkmembdaaGreatDoor
open Go.RowKit
set_option linter.unusedVariables false

set_option maxRecDepth 100000 in
theorem isNaN_int (x : Int) (w : World) : Calls Tryz.prog 176 #[.int .i64 x] w fun e w' => e = .returned (.bool false) ∧ w' = w := by
  go_enter Tryz.func176, Tryz.ntmps176
  go_wp2_with fail
  go_ret
  exact ⟨rfl, rfl⟩
set_option maxRecDepth 100000 in
theorem cmpInt_any (x y : Int) (w : World) : Calls Tryz.prog 128 #[.int .i64 x, .int .i64 y] w fun e w' => e = .returned (.int .i64 (cmpI x y)) ∧ w' = w := by
  have HE : Hid (cmpI x y = if x < y then -1 else if y < x then 1 else 0) := rfl
  go_enter Tryz.func128, Tryz.ntmps128
  rcases (by omega : x < y ∨ (¬ x < y ∧ y < x) ∨ (¬ x < y ∧ ¬ y < x)) with h | ⟨h, h2⟩ | ⟨h, h2⟩
  all_goals
    go_wp2_with (go_at_call 176; refine (isNaN_int _ _).mono ?_; rintro e w' ⟨rfl, rfl⟩)
    go_ret
  · exact ⟨by rw [HE.out, if_pos h]; rfl, rfl⟩
  · exact ⟨by rw [HE.out, if_neg (by omega), if_pos h2]; rfl, rfl⟩
  · exact ⟨by rw [HE.out, if_neg (by omega), if_neg (by omega)]; rfl, rfl⟩

def or3 (x y z : Int) : Int := if x ≠ 0 then x else if y ≠ 0 then y else z
def at3 (x y z : Int) (i : Nat) : Int := if i = 0 then x else if i = 1 then y else z
set_option maxRecDepth 100000 in
theorem cmpOr_any (x y z : Int) (g : Nat) (w : World) (h0 : w.cell? ⟨g, 0, none⟩ = some (.int .i64 x)) (h1 : w.cell? ⟨g, 1, none⟩ = some (.int .i64 y)) (h2 : w.cell? ⟨g, 2, none⟩ = some (.int .i64 z)) :
    Calls Tryz.prog 127 #[.slice (some ⟨g, 0, none⟩) 3 3] w fun e w' => e = .returned (.int .i64 (or3 x y z)) ∧ w' = w := by
  have hall : Hid (∀ i : Nat, i < 3 → w.cell? ⟨g, i, none⟩ = some (.int .i64 (at3 x y z i))) := by
    intro i hi
    rcases (by omega : i = 0 ∨ i = 1 ∨ i = 2) with rfl | rfl | rfl
    · exact h0
    · exact h1
    · exact h2
  have hstop : Hid (∀ i : Nat, i < 3 → (∀ j, j < i → at3 x y z j = 0) → at3 x y z i ≠ 0 → or3 x y z = at3 x y z i) := by
    intro i hi hb hn
    rcases (by omega : i = 0 ∨ i = 1 ∨ i = 2) with rfl | rfl | rfl
    · unfold or3; rw [if_pos (by simpa [at3] using hn)]; rfl
    · have := hb 0 (by omega)
      unfold or3; rw [if_neg (by simpa [at3] using this), if_pos (by simpa [at3] using hn)]; rfl
    · have a0 := hb 0 (by omega)
      have a1 := hb 1 (by omega)
      unfold or3; rw [if_neg (by simpa [at3] using a0), if_neg (by simpa [at3] using a1)]; rfl
  have hend : Hid ((∀ j, j < 3 → at3 x y z j = 0) → or3 x y z = 0) := by
    intro h
    have a0 := h 0 (by omega)
    have a1 := h 1 (by omega)
    have a2 := h 2 (by omega)
    unfold or3; rw [if_neg (by simpa [at3] using a0), if_neg (by simpa [at3] using a1)]; simpa [at3] using a2
  generalize or3 x y z = r at *
  generalize at3 x y z = f at *
  clear h0 h1 h2
  go_enter Tryz.func127, Tryz.ntmps127
  go_wp2_with fail
  go_loopw [8] (fun t wr => ∃ i : Nat, t = .int .i64 i ∧ wr = w ∧ i ≤ 3 ∧ Hid (∀ j, j < i → f j = 0)) (fun t _ => 3 - (intOf t).toNat)
  case atStart => exact ⟨0, rfl, rfl, by omega, fun j hj => absurd hj (by omega)⟩
  case round =>
    obtain ⟨i, rfl, rfl, hi, hI⟩ := hrel
    by_cases hlt : i < 3
    · have hc := hall.out i hlt
      have i0 : (0 : Int) ≤ (i : Int) := by omega
      have i3 : (i : Int) < 3 := by omega
      have hst := Lib.hid (hstop.out i hlt hI.out)
      have hnx : Hid (f i = 0 → ∀ j, j < i + 1 → f j = 0) := by
        intro h j hj
        rcases (by omega : j < i ∨ j = i) with q | rfl
        · exact hI.out j q
        · exact h
      generalize f i = v at *
      rcases (by omega : v < 0 ∨ 0 < v ∨ v = 0) with hv | hv | rfl
      · have hv2 : decide (v = 0) = false := by simp; omega
        have hv3 : ¬ v = 0 := by omega
        go_wp2_with fail
        go_ret
        exact ⟨by rw [hst.out hv3]; rfl, rfl⟩
      · have hv2 : decide (v = 0) = false := by simp; omega
        have hv3 : ¬ v = 0 := by omega
        go_wp2_with fail
        go_ret
        exact ⟨by rw [hst.out hv3]; rfl, rfl⟩
      · go_wp2_with fail
        go_roundw
        case rel => exact ⟨i + 1, by go_num, by first | rfl | trivial, by omega, hnx.out rfl⟩
        case measure => simp [intOf]; omega
    · have i3 : ¬ (i : Int) < 3 := by omega
      go_wp2_with fail
      go_ret
      exact ⟨by rw [hend.out (fun j hj => hI.out j (by omega))]; rfl, rfl⟩

theorem cmpK_or (a b : KeyD) : or3 (cmpI a.1 b.1) (cmpB a.2.1 b.2.1) (cmpI a.2.2 b.2.2) = cmpK a b := by
  unfold or3 cmpK; rfl
theorem key_cells {k : KeyD} (h : KeyOk k) : (keyV k)[0]? = some (.int .i64 k.1) ∧ (keyV k)[33]? = some (.int .i64 k.2.2) ∧ ∀ j u, (idV k.2.1)[j]? = some u → (keyV k)[1 + j]? = some u := by
  have hid : (idV k.2.1).length = 32 := by rw [idV_length]; exact h.2.1
  refine ⟨rfl, ?_, ?_⟩
  · unfold keyV
    rw [show 33 = 32 + 1 from rfl, List.getElem?_cons_succ, List.getElem?_append_right (by omega), hid]; rfl
  · intro j u hj
    unfold keyV
    rw [Nat.add_comm, List.getElem?_cons_succ, List.getElem?_append_left (List.getElem?_eq_some_iff.1 hj).1]
    exact hj
theorem cells_box {w : World} {g : Nat} {cs : List Value} {t : TypeId} {fr : Nat × Nat} (h : w.heap[g]? = some (.cells cs.toArray t fr)) (j : Nat) : w.cell? ⟨g, j, none⟩ = cs[j]? := by
  rw [cell_of_row w g j _ t fr h]
  simp

set_option maxHeartbeats 2000000 in
set_option maxRecDepth 100000 in
theorem keys_gr (a b : KeyD) (w : World) (ha : KeyOk a) (hb : KeyOk b) :
    Calls Tryz.prog 78 #[.agg (keyV a).toArray, .agg (keyV b).toArray] w fun e w' => Gr w w' ∧ e = .returned (.int .i64 (cmpK a b)) := by
  obtain ⟨a0, a1, a2⟩ := key_cells ha
  obtain ⟨b0, b1, b2⟩ := key_cells hb
  have h1 : (w.alloc (.cells (keyV a).toArray 89)).heap[w.heap.size]? = some (.cells (keyV a).toArray 89 (0, 0)) := heap_alloc_new _ _
  go_enter Tryz.func78, Tryz.ntmps78
  go_upto_region 1 with fail
  obtain ⟨W, hW⟩ : ∃ W, (w.alloc (.cells (keyV a).toArray 89)).alloc (.cells (keyV b).toArray 89) = W := ⟨_, rfl⟩
  have hA : W.heap[w.heap.size]? = some (.cells (keyV a).toArray 89 (0, 0)) := by
    rw [← hW]
    exact (heap_alloc_old (w.alloc (.cells (keyV a).toArray 89)) _ (by simp)).trans h1
  have hB : W.heap[w.heap.size + 1]? = some (.cells (keyV b).toArray 89 (0, 0)) := by
    rw [← hW]
    have := heap_alloc_new (w.alloc (.cells (keyV a).toArray 89)) (.cells (keyV b).toArray 89)
    rw [World.size_alloc] at this
    exact this
  have hbW : Gr w W := by rw [← hW]; exact ((Gr.refl _).alloc _).alloc _
  have hsW : W.heap.size = w.heap.size + 2 := by rw [← hW]; simp
  rw [hW]
  clear hW h1
  have ca0 := (cells_box hA 0).trans a0
  have ca1 := (cells_box hA 33).trans a1
  have ca2 : W.rangeAt w.heap.size 1 (idV a.2.1) := fun j v hj => (cells_box hA (1 + j)).trans (a2 j v hj)
  have cb0 := (cells_box hB 0).trans b0
  have cb1 := (cells_box hB 33).trans b1
  have cb2 : W.rangeAt (w.heap.size + 1) 1 (idV b.2.1) := fun j v hj => (cells_box hB (1 + j)).trans (b2 j v hj)
  clear hA hB a0 a1 a2 b0 b1 b2
  have sa : (Tryz.prog.info? 41).map (·.size) = some (idV a.2.1).length := by rw [idV_length, show a.2.1.length = 32 from ha.2.1]; kernel_rfl
  have sb : (Tryz.prog.info? 41).map (·.size) = some (idV b.2.1).length := by rw [idV_length, show b.2.1.length = 32 from hb.2.1]; kernel_rfl
  have cc := fun (q : World) => compare_gr a.2.1 b.2.1 q ha.2.1 hb.2.1
  have HK := Lib.hid (cmpK_or a b)
  have A0 := Wg.cell ca0 (show w.heap.size < W.heap.size by omega)
  have A1 := Wg.cell ca1 (show w.heap.size < W.heap.size by omega)
  have B0 := Wg.cell cb0 (show w.heap.size + 1 < W.heap.size by omega)
  have B1 := Wg.cell cb1 (show w.heap.size + 1 < W.heap.size by omega)
  have A2 := Lib.hid (Wg.row ca2 (show w.heap.size < W.heap.size by omega))
  have B2 := Lib.hid (Wg.row cb2 (show w.heap.size + 1 < W.heap.size by omega))
  have HBW := Lib.hid hbW
  have CC := Lib.hid cc
  have HSW := Lib.hid hsW
  clear ca0 ca1 ca2 cb0 cb1 cb2 ha hb hsW hbW cc
  refine wp_region_tail_wg 15 (by kernel_rfl) (by kernel_rfl) (by kernel_rfl) (by kernel_rfl) (by kernel_rfl) ?_
  simp only [List.take_succ_cons, List.take_zero, List.drop_succ_cons, List.drop_zero]
  repeat (first
    | go_big_quiet_skip
    | (go_big_quiet_want
       first
         | (refine quiet_val (fun w' hw' => ex_load 41 _ rfl (p := ⟨w.heap.size, 1, none⟩) rfl (run_loadVar_mid w' _ _ _ (idV a.2.1) _ (A2.out w' hw') Tryz.underlying41 rfl sa)) ?_
            go_big_quiet_on
            simp only [Act.put, List.setIfInBounds_toArray, List.set_cons_zero, List.set_cons_succ])
         | (refine quiet_val (fun w' hw' => ex_load 41 _ rfl (p := ⟨w.heap.size + 1, 1, none⟩) rfl (run_loadVar_mid w' _ _ _ (idV b.2.1) _ (B2.out w' hw') Tryz.underlying41 rfl sb)) ?_
            go_big_quiet_on
            simp only [Act.put, List.setIfInBounds_toArray, List.set_cons_zero, List.set_cons_succ])
         | (go_big_quiet_op
            first
              | go_big_quiet_on
              | go_big_quiet_call (first
                  | (go_at_call 128; exact (cmpInt_any _ _ _).mono fun e w'' ⟨he, hw⟩ => ⟨he, ⟨_, hw⟩⟩)
                  | (go_at_call 129; exact Wg.call (fun w' => CC.out w') _)))))
  refine wpQuiet_nil ?_
  rintro w' ⟨k, rfl⟩
  have hk := k.2
  generalize k.val = w2 at *
  have hb2 : Gr w w2 := HBW.out.trans hk
  have HB2 := Lib.hid hb2
  clear A0 A1 B0 B1 hb2 hk k
  go_wp2_with (go_at_call 127; refine (cmpOr_any _ _ _ _ _ (by rw [World.cell?_alloc_new]; rfl) (by rw [World.cell?_alloc_new]; rfl) (by rw [World.cell?_alloc_new]; rfl)).mono ?_; rintro e w' ⟨rfl, rfl⟩)
  go_ret
  exact ⟨HB2.out.alloc _, by rw [HK.out]; rfl⟩
theorem keys_any (a b : KeyD) (w : World) (ha : KeyOk a) (hb : KeyOk b) :
    Calls Tryz.prog 78 #[.agg (keyV a).toArray, .agg (keyV b).toArray] w fun e w' => Below w.heap.size w w' ∧ e = .returned (.int .i64 (cmpK a b)) :=
  (keys_gr a b w ha hb).mono fun _ _ ⟨h, e⟩ => ⟨h.below, e⟩
end Go.Proofs.YtdgbjhfkmembdaaGreatDoor
