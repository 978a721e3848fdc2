/-
  What object.absent gives. Conditions: the operation is well formed; the parts are of a kind.
-/
import Derived.Test.YtdgbjhfkmembdaaGreatDoorShort0
import Derived.Test.YtdgbjhfkmembdaaGreatDoorShort8
import Derived.Test.YtdgbjhfkmembdaaGreatDoorObjReadOp
namespace Go.Proofs.YtdgbjhfkmembdaaGreatDoor
open Go.RowKit Go.Maps
set_option linter.unusedVariables false
set_option linter.unusedSimpArgs false

theorem isEmpty8 (p : ByteArray) : p.toList.isEmpty = decide (p = noneS) := by
  rw [toList_L, Bool.eq_iff_iff, decide_eq_true_eq, List.isEmpty_iff]
  constructor
  · intro h; exact L_inj (h.trans rfl)
  · rintro rfl; rfl
set_option maxHeartbeats 4000000 in
set_option maxRecDepth 100000 in
theorem absent_1 (k : UInt8) (d r : RefD) (t : ByteArray) (n : Int) (q : ByteArray) (w : World) (hx : OpIn (k, d, r, t, n, q)) :
    Calls Tryz.prog 249 #[.agg (opV (k, d, r, t, n, q)).toArray, partV (true, true, true, false, false)] w fun e w' => Below w.heap.size w w' ∧ e = .returned (.bool (absentB (k, d, r, t, n, q) (true, true, true, false, false))) := by
  have HX := Lib.hid hx
  clear hx
  go_enter Tryz.func249, Tryz.ntmps249
  go_upto_region 1 with (first
    | (with_reducible refine at_box ?_
       refine wp_boxM (by rfl) 112 _ rfl (opV (k, d, r, t, n, q)) _ rfl rfl (by rw [opV_length HX.out]; exact sizeOp70) ?_
       intro W0 hb0 hy0 hs0
       have HB0 := Lib.hid hb0; have HY0 := Lib.hid hy0
       clear hb0 hy0 hs0)
    | (with_reducible refine at_box ?_
       refine wp_boxM (by rfl) 320 _ rfl (partC (true, true, true, false, false)) _ rfl rfl sizePart5 ?_
       intro W1 hb1 hy1 hs1
       have HB1 := Lib.hid hb1; have HY1 := Lib.hid hy1
       clear hb1 hy1 hs1))
  have hzx : w.heap.size < W0.heap.size := (qX HY0.out)
  have HYX := Lib.hid ((HB1.out.block w.heap.size hzx).trans HY0.out)
  have c0 : W1.cell? ⟨W0.heap.size, 0, none⟩ = some (.bool true) := cells_at0 HY1.out 0
  have c1 : W1.cell? ⟨W0.heap.size, 1, none⟩ = some (.bool true) := cells_at0 HY1.out 1
  have c2 : W1.cell? ⟨W0.heap.size, 2, none⟩ = some (.bool true) := cells_at0 HY1.out 2
  have c3 : W1.cell? ⟨W0.heap.size, 3, none⟩ = some (.bool false) := cells_at0 HY1.out 3
  have c4 : W1.cell? ⟨W0.heap.size, 4, none⟩ = some (.bool false) := cells_at0 HY1.out 4
  have x3 : W1.cell? ⟨w.heap.size, 67, none⟩ = some (.string t) := (cells_at0 HYX.out 67).trans (op_cells HX.out).2.2.2.1
  have x4 : W1.cell? ⟨w.heap.size, 68, none⟩ = some (.int .i64 n) := (cells_at0 HYX.out 68).trans (op_cells HX.out).2.2.2.2.1
  have x5 : W1.cell? ⟨w.heap.size, 69, none⟩ = some (.string q) := (cells_at0 HYX.out 69).trans (op_cells HX.out).2.2.2.2.2
  clear hzx
  by_cases h4 : n = 0
  · by_cases h5 : q = noneS
    · have e4 : (n == 0) = true := by rw [h4]; rfl
      have e5 : q.toList.isEmpty = true := by rw [isEmpty8]; exact dT h5
      have HE : Hid (absentB (k, d, r, t, n, q) (true, true, true, false, false) = true) := Lib.hid (by unfold absentB; simp [h4, h5])
      clear h4 h5
      go_wp2_with fail
      go_ret
      exact ⟨HB0.out.trans (HB1.out.mono (by have := HB0.out.size; omega)), by rw [HE.out]; rfl⟩
    · have e4 : (n == 0) = true := by rw [h4]; rfl
      have e5 : q.toList.isEmpty = false := by rw [isEmpty8]; exact dF h5
      have HE : Hid (absentB (k, d, r, t, n, q) (true, true, true, false, false) = false) := Lib.hid (by unfold absentB; simp [h4, h5])
      clear h4 h5
      go_wp2_with fail
      go_ret
      exact ⟨HB0.out.trans (HB1.out.mono (by have := HB0.out.size; omega)), by rw [HE.out]; rfl⟩
  · have e4 : (n == 0) = false := by rw [beq_eq_false_iff_ne]; exact h4
    have HE : Hid (absentB (k, d, r, t, n, q) (true, true, true, false, false) = false) := Lib.hid (by unfold absentB; simp [h4])
    clear h4
    go_wp2_with fail
    go_ret
    exact ⟨HB0.out.trans (HB1.out.mono (by have := HB0.out.size; omega)), by rw [HE.out]; rfl⟩
set_option maxHeartbeats 4000000 in
set_option maxRecDepth 100000 in
theorem absent_2 (k : UInt8) (d r : RefD) (t : ByteArray) (n : Int) (q : ByteArray) (w : World) (hx : OpIn (k, d, r, t, n, q)) :
    Calls Tryz.prog 249 #[.agg (opV (k, d, r, t, n, q)).toArray, partV (true, true, false, true, false)] w fun e w' => Below w.heap.size w w' ∧ e = .returned (.bool (absentB (k, d, r, t, n, q) (true, true, false, true, false))) := by
  have HX := Lib.hid hx
  clear hx
  go_enter Tryz.func249, Tryz.ntmps249
  go_upto_region 1 with (first
    | (with_reducible refine at_box ?_
       refine wp_boxM (by rfl) 112 _ rfl (opV (k, d, r, t, n, q)) _ rfl rfl (by rw [opV_length HX.out]; exact sizeOp70) ?_
       intro W0 hb0 hy0 hs0
       have HB0 := Lib.hid hb0; have HY0 := Lib.hid hy0
       clear hb0 hy0 hs0)
    | (with_reducible refine at_box ?_
       refine wp_boxM (by rfl) 320 _ rfl (partC (true, true, false, true, false)) _ rfl rfl sizePart5 ?_
       intro W1 hb1 hy1 hs1
       have HB1 := Lib.hid hb1; have HY1 := Lib.hid hy1
       clear hb1 hy1 hs1))
  have hzx : w.heap.size < W0.heap.size := (qX HY0.out)
  have HYX := Lib.hid ((HB1.out.block w.heap.size hzx).trans HY0.out)
  have c0 : W1.cell? ⟨W0.heap.size, 0, none⟩ = some (.bool true) := cells_at0 HY1.out 0
  have c1 : W1.cell? ⟨W0.heap.size, 1, none⟩ = some (.bool true) := cells_at0 HY1.out 1
  have c2 : W1.cell? ⟨W0.heap.size, 2, none⟩ = some (.bool false) := cells_at0 HY1.out 2
  have c3 : W1.cell? ⟨W0.heap.size, 3, none⟩ = some (.bool true) := cells_at0 HY1.out 3
  have c4 : W1.cell? ⟨W0.heap.size, 4, none⟩ = some (.bool false) := cells_at0 HY1.out 4
  have x3 : W1.cell? ⟨w.heap.size, 67, none⟩ = some (.string t) := (cells_at0 HYX.out 67).trans (op_cells HX.out).2.2.2.1
  have x4 : W1.cell? ⟨w.heap.size, 68, none⟩ = some (.int .i64 n) := (cells_at0 HYX.out 68).trans (op_cells HX.out).2.2.2.2.1
  have x5 : W1.cell? ⟨w.heap.size, 69, none⟩ = some (.string q) := (cells_at0 HYX.out 69).trans (op_cells HX.out).2.2.2.2.2
  clear hzx
  by_cases h3 : t = noneS
  · have e3 : t.toList.isEmpty = true := by rw [isEmpty8]; exact dT h3
    by_cases h5 : q = noneS
    · have e5 : q.toList.isEmpty = true := by rw [isEmpty8]; exact dT h5
      have HE : Hid (absentB (k, d, r, t, n, q) (true, true, false, true, false) = true) := Lib.hid (by unfold absentB; simp [h3, h5])
      clear h3 h5
      go_wp2_with fail
      go_ret
      exact ⟨HB0.out.trans (HB1.out.mono (by have := HB0.out.size; omega)), by rw [HE.out]; rfl⟩
    · have e5 : q.toList.isEmpty = false := by rw [isEmpty8]; exact dF h5
      have HE : Hid (absentB (k, d, r, t, n, q) (true, true, false, true, false) = false) := Lib.hid (by unfold absentB; simp [h3, h5])
      clear h3 h5
      go_wp2_with fail
      go_ret
      exact ⟨HB0.out.trans (HB1.out.mono (by have := HB0.out.size; omega)), by rw [HE.out]; rfl⟩
  · have e3 : t.toList.isEmpty = false := by rw [isEmpty8]; exact dF h3
    have HE : Hid (absentB (k, d, r, t, n, q) (true, true, false, true, false) = false) := Lib.hid (by unfold absentB; simp [h3])
    clear h3
    go_wp2_with fail
    go_ret
    exact ⟨HB0.out.trans (HB1.out.mono (by have := HB0.out.size; omega)), by rw [HE.out]; rfl⟩
set_option maxHeartbeats 4000000 in
set_option maxRecDepth 100000 in
theorem absent_3 (k : UInt8) (d r : RefD) (t : ByteArray) (n : Int) (q : ByteArray) (w : World) (hx : OpIn (k, d, r, t, n, q)) :
    Calls Tryz.prog 249 #[.agg (opV (k, d, r, t, n, q)).toArray, partV (false, false, false, false, true)] w fun e w' => Below w.heap.size w w' ∧ e = .returned (.bool (absentB (k, d, r, t, n, q) (false, false, false, false, true))) := by
  have HX := Lib.hid hx
  clear hx
  go_enter Tryz.func249, Tryz.ntmps249
  go_upto_region 1 with (first
    | (with_reducible refine at_box ?_
       refine wp_boxM (by rfl) 112 _ rfl (opV (k, d, r, t, n, q)) _ rfl rfl (by rw [opV_length HX.out]; exact sizeOp70) ?_
       intro W0 hb0 hy0 hs0
       have HB0 := Lib.hid hb0; have HY0 := Lib.hid hy0
       clear hb0 hy0 hs0)
    | (with_reducible refine at_box ?_
       refine wp_boxM (by rfl) 320 _ rfl (partC (false, false, false, false, true)) _ rfl rfl sizePart5 ?_
       intro W1 hb1 hy1 hs1
       have HB1 := Lib.hid hb1; have HY1 := Lib.hid hy1
       clear hb1 hy1 hs1))
  have hzx : w.heap.size < W0.heap.size := (qX HY0.out)
  have HYX := Lib.hid ((HB1.out.block w.heap.size hzx).trans HY0.out)
  have c0 : W1.cell? ⟨W0.heap.size, 0, none⟩ = some (.bool false) := cells_at0 HY1.out 0
  have c1 : W1.cell? ⟨W0.heap.size, 1, none⟩ = some (.bool false) := cells_at0 HY1.out 1
  have c2 : W1.cell? ⟨W0.heap.size, 2, none⟩ = some (.bool false) := cells_at0 HY1.out 2
  have c3 : W1.cell? ⟨W0.heap.size, 3, none⟩ = some (.bool false) := cells_at0 HY1.out 3
  have c4 : W1.cell? ⟨W0.heap.size, 4, none⟩ = some (.bool true) := cells_at0 HY1.out 4
  have x3 : W1.cell? ⟨w.heap.size, 67, none⟩ = some (.string t) := (cells_at0 HYX.out 67).trans (op_cells HX.out).2.2.2.1
  have x4 : W1.cell? ⟨w.heap.size, 68, none⟩ = some (.int .i64 n) := (cells_at0 HYX.out 68).trans (op_cells HX.out).2.2.2.2.1
  have x5 : W1.cell? ⟨w.heap.size, 69, none⟩ = some (.string q) := (cells_at0 HYX.out 69).trans (op_cells HX.out).2.2.2.2.2
  clear hzx
  by_cases h1 : d = zeroRef
  · have EQ1 := Lib.hid (fun (u : World) => (run_eqRef HX.out.1.1 zeroRef_ok u).trans (by rw [dT h1]))
    by_cases h2 : r = zeroRef
    · have EQ2 := Lib.hid (fun (u : World) => (run_eqRef HX.out.1.2.1 zeroRef_ok u).trans (by rw [dT h2]))
      by_cases h3 : t = noneS
      · have e3 : t.toList.isEmpty = true := by rw [isEmpty8]; exact dT h3
        by_cases h4 : n = 0
        · have e4 : (n == 0) = true := by rw [h4]; rfl
          have HE : Hid (absentB (k, d, r, t, n, q) (false, false, false, false, true) = true) := Lib.hid (by unfold absentB; simp [h1, h2, h3, h4])
          clear h1 h2 h3 h4
          go_wp2_with (first
            | (with_reducible refine at_load ?_
               refine wp_val (by rfl) (ldR (b := w.heap.size) (f := 1) (r := d) HX.out.1.1 (fun j u hj => (cells_at0 HYX.out (1 + j)).trans ((op_cells HX.out).2.1 j u hj))) ?_)
            | (with_reducible refine at_binOp ?_
               refine wp_val (by rfl) (ex_eql 110 _ _ _ rfl (xs := (refV d).toArray) (ys := (refV zeroRef).toArray) rfl rfl (r := true) eqRef.noGuard (EQ1.out _)) ?_)
            | (with_reducible refine at_load ?_
               refine wp_val (by rfl) (ldR (b := w.heap.size) (f := 34) (r := r) HX.out.1.2.1 (fun j u hj => (cells_at0 HYX.out (34 + j)).trans ((op_cells HX.out).2.2.1 j u hj))) ?_)
            | (with_reducible refine at_binOp ?_
               refine wp_val (by rfl) (ex_eql 110 _ _ _ rfl (xs := (refV r).toArray) (ys := (refV zeroRef).toArray) rfl rfl (r := true) eqRef.noGuard (EQ2.out _)) ?_)
            | (with_reducible refine at_build ?_
               refine wp_val (by rfl) (ex_build 110 #[] rfl (zeroRef_built _)) ?_))
          go_ret
          exact ⟨HB0.out.trans (HB1.out.mono (by have := HB0.out.size; omega)), by rw [HE.out]; rfl⟩
        · have e4 : (n == 0) = false := by rw [beq_eq_false_iff_ne]; exact h4
          have HE : Hid (absentB (k, d, r, t, n, q) (false, false, false, false, true) = false) := Lib.hid (by unfold absentB; simp [h1, h2, h3, h4])
          clear h1 h2 h3 h4
          go_wp2_with (first
            | (with_reducible refine at_load ?_
               refine wp_val (by rfl) (ldR (b := w.heap.size) (f := 1) (r := d) HX.out.1.1 (fun j u hj => (cells_at0 HYX.out (1 + j)).trans ((op_cells HX.out).2.1 j u hj))) ?_)
            | (with_reducible refine at_binOp ?_
               refine wp_val (by rfl) (ex_eql 110 _ _ _ rfl (xs := (refV d).toArray) (ys := (refV zeroRef).toArray) rfl rfl (r := true) eqRef.noGuard (EQ1.out _)) ?_)
            | (with_reducible refine at_load ?_
               refine wp_val (by rfl) (ldR (b := w.heap.size) (f := 34) (r := r) HX.out.1.2.1 (fun j u hj => (cells_at0 HYX.out (34 + j)).trans ((op_cells HX.out).2.2.1 j u hj))) ?_)
            | (with_reducible refine at_binOp ?_
               refine wp_val (by rfl) (ex_eql 110 _ _ _ rfl (xs := (refV r).toArray) (ys := (refV zeroRef).toArray) rfl rfl (r := true) eqRef.noGuard (EQ2.out _)) ?_)
            | (with_reducible refine at_build ?_
               refine wp_val (by rfl) (ex_build 110 #[] rfl (zeroRef_built _)) ?_))
          go_ret
          exact ⟨HB0.out.trans (HB1.out.mono (by have := HB0.out.size; omega)), by rw [HE.out]; rfl⟩
      · have e3 : t.toList.isEmpty = false := by rw [isEmpty8]; exact dF h3
        have HE : Hid (absentB (k, d, r, t, n, q) (false, false, false, false, true) = false) := Lib.hid (by unfold absentB; simp [h1, h2, h3])
        clear h1 h2 h3
        go_wp2_with (first
          | (with_reducible refine at_load ?_
             refine wp_val (by rfl) (ldR (b := w.heap.size) (f := 1) (r := d) HX.out.1.1 (fun j u hj => (cells_at0 HYX.out (1 + j)).trans ((op_cells HX.out).2.1 j u hj))) ?_)
          | (with_reducible refine at_binOp ?_
             refine wp_val (by rfl) (ex_eql 110 _ _ _ rfl (xs := (refV d).toArray) (ys := (refV zeroRef).toArray) rfl rfl (r := true) eqRef.noGuard (EQ1.out _)) ?_)
          | (with_reducible refine at_load ?_
             refine wp_val (by rfl) (ldR (b := w.heap.size) (f := 34) (r := r) HX.out.1.2.1 (fun j u hj => (cells_at0 HYX.out (34 + j)).trans ((op_cells HX.out).2.2.1 j u hj))) ?_)
          | (with_reducible refine at_binOp ?_
             refine wp_val (by rfl) (ex_eql 110 _ _ _ rfl (xs := (refV r).toArray) (ys := (refV zeroRef).toArray) rfl rfl (r := true) eqRef.noGuard (EQ2.out _)) ?_)
          | (with_reducible refine at_build ?_
             refine wp_val (by rfl) (ex_build 110 #[] rfl (zeroRef_built _)) ?_))
        go_ret
        exact ⟨HB0.out.trans (HB1.out.mono (by have := HB0.out.size; omega)), by rw [HE.out]; rfl⟩
    · have EQ2 := Lib.hid (fun (u : World) => (run_eqRef HX.out.1.2.1 zeroRef_ok u).trans (by rw [dF h2]))
      have HE : Hid (absentB (k, d, r, t, n, q) (false, false, false, false, true) = false) := Lib.hid (by unfold absentB; simp [h1, h2])
      clear h1 h2
      go_wp2_with (first
        | (with_reducible refine at_load ?_
           refine wp_val (by rfl) (ldR (b := w.heap.size) (f := 1) (r := d) HX.out.1.1 (fun j u hj => (cells_at0 HYX.out (1 + j)).trans ((op_cells HX.out).2.1 j u hj))) ?_)
        | (with_reducible refine at_binOp ?_
           refine wp_val (by rfl) (ex_eql 110 _ _ _ rfl (xs := (refV d).toArray) (ys := (refV zeroRef).toArray) rfl rfl (r := true) eqRef.noGuard (EQ1.out _)) ?_)
        | (with_reducible refine at_load ?_
           refine wp_val (by rfl) (ldR (b := w.heap.size) (f := 34) (r := r) HX.out.1.2.1 (fun j u hj => (cells_at0 HYX.out (34 + j)).trans ((op_cells HX.out).2.2.1 j u hj))) ?_)
        | (with_reducible refine at_binOp ?_
           refine wp_val (by rfl) (ex_eql 110 _ _ _ rfl (xs := (refV r).toArray) (ys := (refV zeroRef).toArray) rfl rfl (r := false) eqRef.noGuard (EQ2.out _)) ?_)
        | (with_reducible refine at_build ?_
           refine wp_val (by rfl) (ex_build 110 #[] rfl (zeroRef_built _)) ?_))
      go_ret
      exact ⟨HB0.out.trans (HB1.out.mono (by have := HB0.out.size; omega)), by rw [HE.out]; rfl⟩
  · have EQ1 := Lib.hid (fun (u : World) => (run_eqRef HX.out.1.1 zeroRef_ok u).trans (by rw [dF h1]))
    have HE : Hid (absentB (k, d, r, t, n, q) (false, false, false, false, true) = false) := Lib.hid (by unfold absentB; simp [h1])
    clear h1
    go_wp2_with (first
      | (with_reducible refine at_load ?_
         refine wp_val (by rfl) (ldR (b := w.heap.size) (f := 1) (r := d) HX.out.1.1 (fun j u hj => (cells_at0 HYX.out (1 + j)).trans ((op_cells HX.out).2.1 j u hj))) ?_)
      | (with_reducible refine at_binOp ?_
         refine wp_val (by rfl) (ex_eql 110 _ _ _ rfl (xs := (refV d).toArray) (ys := (refV zeroRef).toArray) rfl rfl (r := false) eqRef.noGuard (EQ1.out _)) ?_)
      | (with_reducible refine at_build ?_
         refine wp_val (by rfl) (ex_build 110 #[] rfl (zeroRef_built _)) ?_))
    go_ret
    exact ⟨HB0.out.trans (HB1.out.mono (by have := HB0.out.size; omega)), by rw [HE.out]; rfl⟩
set_option maxHeartbeats 4000000 in
set_option maxRecDepth 100000 in
theorem absent_4 (k : UInt8) (d r : RefD) (t : ByteArray) (n : Int) (q : ByteArray) (w : World) (hx : OpIn (k, d, r, t, n, q)) :
    Calls Tryz.prog 249 #[.agg (opV (k, d, r, t, n, q)).toArray, partV (true, false, false, false, true)] w fun e w' => Below w.heap.size w w' ∧ e = .returned (.bool (absentB (k, d, r, t, n, q) (true, false, false, false, true))) := by
  have HX := Lib.hid hx
  clear hx
  go_enter Tryz.func249, Tryz.ntmps249
  go_upto_region 1 with (first
    | (with_reducible refine at_box ?_
       refine wp_boxM (by rfl) 112 _ rfl (opV (k, d, r, t, n, q)) _ rfl rfl (by rw [opV_length HX.out]; exact sizeOp70) ?_
       intro W0 hb0 hy0 hs0
       have HB0 := Lib.hid hb0; have HY0 := Lib.hid hy0
       clear hb0 hy0 hs0)
    | (with_reducible refine at_box ?_
       refine wp_boxM (by rfl) 320 _ rfl (partC (true, false, false, false, true)) _ rfl rfl sizePart5 ?_
       intro W1 hb1 hy1 hs1
       have HB1 := Lib.hid hb1; have HY1 := Lib.hid hy1
       clear hb1 hy1 hs1))
  have hzx : w.heap.size < W0.heap.size := (qX HY0.out)
  have HYX := Lib.hid ((HB1.out.block w.heap.size hzx).trans HY0.out)
  have c0 : W1.cell? ⟨W0.heap.size, 0, none⟩ = some (.bool true) := cells_at0 HY1.out 0
  have c1 : W1.cell? ⟨W0.heap.size, 1, none⟩ = some (.bool false) := cells_at0 HY1.out 1
  have c2 : W1.cell? ⟨W0.heap.size, 2, none⟩ = some (.bool false) := cells_at0 HY1.out 2
  have c3 : W1.cell? ⟨W0.heap.size, 3, none⟩ = some (.bool false) := cells_at0 HY1.out 3
  have c4 : W1.cell? ⟨W0.heap.size, 4, none⟩ = some (.bool true) := cells_at0 HY1.out 4
  have x3 : W1.cell? ⟨w.heap.size, 67, none⟩ = some (.string t) := (cells_at0 HYX.out 67).trans (op_cells HX.out).2.2.2.1
  have x4 : W1.cell? ⟨w.heap.size, 68, none⟩ = some (.int .i64 n) := (cells_at0 HYX.out 68).trans (op_cells HX.out).2.2.2.2.1
  have x5 : W1.cell? ⟨w.heap.size, 69, none⟩ = some (.string q) := (cells_at0 HYX.out 69).trans (op_cells HX.out).2.2.2.2.2
  clear hzx
  by_cases h2 : r = zeroRef
  · have EQ2 := Lib.hid (fun (u : World) => (run_eqRef HX.out.1.2.1 zeroRef_ok u).trans (by rw [dT h2]))
    by_cases h3 : t = noneS
    · have e3 : t.toList.isEmpty = true := by rw [isEmpty8]; exact dT h3
      by_cases h4 : n = 0
      · have e4 : (n == 0) = true := by rw [h4]; rfl
        have HE : Hid (absentB (k, d, r, t, n, q) (true, false, false, false, true) = true) := Lib.hid (by unfold absentB; simp [h2, h3, h4])
        clear h2 h3 h4
        go_wp2_with (first
          | (with_reducible refine at_load ?_
             refine wp_val (by rfl) (ldR (b := w.heap.size) (f := 34) (r := r) HX.out.1.2.1 (fun j u hj => (cells_at0 HYX.out (34 + j)).trans ((op_cells HX.out).2.2.1 j u hj))) ?_)
          | (with_reducible refine at_binOp ?_
             refine wp_val (by rfl) (ex_eql 110 _ _ _ rfl (xs := (refV r).toArray) (ys := (refV zeroRef).toArray) rfl rfl (r := true) eqRef.noGuard (EQ2.out _)) ?_)
          | (with_reducible refine at_build ?_
             refine wp_val (by rfl) (ex_build 110 #[] rfl (zeroRef_built _)) ?_))
        go_ret
        exact ⟨HB0.out.trans (HB1.out.mono (by have := HB0.out.size; omega)), by rw [HE.out]; rfl⟩
      · have e4 : (n == 0) = false := by rw [beq_eq_false_iff_ne]; exact h4
        have HE : Hid (absentB (k, d, r, t, n, q) (true, false, false, false, true) = false) := Lib.hid (by unfold absentB; simp [h2, h3, h4])
        clear h2 h3 h4
        go_wp2_with (first
          | (with_reducible refine at_load ?_
             refine wp_val (by rfl) (ldR (b := w.heap.size) (f := 34) (r := r) HX.out.1.2.1 (fun j u hj => (cells_at0 HYX.out (34 + j)).trans ((op_cells HX.out).2.2.1 j u hj))) ?_)
          | (with_reducible refine at_binOp ?_
             refine wp_val (by rfl) (ex_eql 110 _ _ _ rfl (xs := (refV r).toArray) (ys := (refV zeroRef).toArray) rfl rfl (r := true) eqRef.noGuard (EQ2.out _)) ?_)
          | (with_reducible refine at_build ?_
             refine wp_val (by rfl) (ex_build 110 #[] rfl (zeroRef_built _)) ?_))
        go_ret
        exact ⟨HB0.out.trans (HB1.out.mono (by have := HB0.out.size; omega)), by rw [HE.out]; rfl⟩
    · have e3 : t.toList.isEmpty = false := by rw [isEmpty8]; exact dF h3
      have HE : Hid (absentB (k, d, r, t, n, q) (true, false, false, false, true) = false) := Lib.hid (by unfold absentB; simp [h2, h3])
      clear h2 h3
      go_wp2_with (first
        | (with_reducible refine at_load ?_
           refine wp_val (by rfl) (ldR (b := w.heap.size) (f := 34) (r := r) HX.out.1.2.1 (fun j u hj => (cells_at0 HYX.out (34 + j)).trans ((op_cells HX.out).2.2.1 j u hj))) ?_)
        | (with_reducible refine at_binOp ?_
           refine wp_val (by rfl) (ex_eql 110 _ _ _ rfl (xs := (refV r).toArray) (ys := (refV zeroRef).toArray) rfl rfl (r := true) eqRef.noGuard (EQ2.out _)) ?_)
        | (with_reducible refine at_build ?_
           refine wp_val (by rfl) (ex_build 110 #[] rfl (zeroRef_built _)) ?_))
      go_ret
      exact ⟨HB0.out.trans (HB1.out.mono (by have := HB0.out.size; omega)), by rw [HE.out]; rfl⟩
  · have EQ2 := Lib.hid (fun (u : World) => (run_eqRef HX.out.1.2.1 zeroRef_ok u).trans (by rw [dF h2]))
    have HE : Hid (absentB (k, d, r, t, n, q) (true, false, false, false, true) = false) := Lib.hid (by unfold absentB; simp [h2])
    clear h2
    go_wp2_with (first
      | (with_reducible refine at_load ?_
         refine wp_val (by rfl) (ldR (b := w.heap.size) (f := 34) (r := r) HX.out.1.2.1 (fun j u hj => (cells_at0 HYX.out (34 + j)).trans ((op_cells HX.out).2.2.1 j u hj))) ?_)
      | (with_reducible refine at_binOp ?_
         refine wp_val (by rfl) (ex_eql 110 _ _ _ rfl (xs := (refV r).toArray) (ys := (refV zeroRef).toArray) rfl rfl (r := false) eqRef.noGuard (EQ2.out _)) ?_)
      | (with_reducible refine at_build ?_
         refine wp_val (by rfl) (ex_build 110 #[] rfl (zeroRef_built _)) ?_))
    go_ret
    exact ⟨HB0.out.trans (HB1.out.mono (by have := HB0.out.size; omega)), by rw [HE.out]; rfl⟩
set_option maxHeartbeats 4000000 in
set_option maxRecDepth 100000 in
theorem absent_5 (k : UInt8) (d r : RefD) (t : ByteArray) (n : Int) (q : ByteArray) (w : World) (hx : OpIn (k, d, r, t, n, q)) :
    Calls Tryz.prog 249 #[.agg (opV (k, d, r, t, n, q)).toArray, partV (true, false, false, false, false)] w fun e w' => Below w.heap.size w w' ∧ e = .returned (.bool (absentB (k, d, r, t, n, q) (true, false, false, false, false))) := by
  have HX := Lib.hid hx
  clear hx
  go_enter Tryz.func249, Tryz.ntmps249
  go_upto_region 1 with (first
    | (with_reducible refine at_box ?_
       refine wp_boxM (by rfl) 112 _ rfl (opV (k, d, r, t, n, q)) _ rfl rfl (by rw [opV_length HX.out]; exact sizeOp70) ?_
       intro W0 hb0 hy0 hs0
       have HB0 := Lib.hid hb0; have HY0 := Lib.hid hy0
       clear hb0 hy0 hs0)
    | (with_reducible refine at_box ?_
       refine wp_boxM (by rfl) 320 _ rfl (partC (true, false, false, false, false)) _ rfl rfl sizePart5 ?_
       intro W1 hb1 hy1 hs1
       have HB1 := Lib.hid hb1; have HY1 := Lib.hid hy1
       clear hb1 hy1 hs1))
  have hzx : w.heap.size < W0.heap.size := (qX HY0.out)
  have HYX := Lib.hid ((HB1.out.block w.heap.size hzx).trans HY0.out)
  have c0 : W1.cell? ⟨W0.heap.size, 0, none⟩ = some (.bool true) := cells_at0 HY1.out 0
  have c1 : W1.cell? ⟨W0.heap.size, 1, none⟩ = some (.bool false) := cells_at0 HY1.out 1
  have c2 : W1.cell? ⟨W0.heap.size, 2, none⟩ = some (.bool false) := cells_at0 HY1.out 2
  have c3 : W1.cell? ⟨W0.heap.size, 3, none⟩ = some (.bool false) := cells_at0 HY1.out 3
  have c4 : W1.cell? ⟨W0.heap.size, 4, none⟩ = some (.bool false) := cells_at0 HY1.out 4
  have x3 : W1.cell? ⟨w.heap.size, 67, none⟩ = some (.string t) := (cells_at0 HYX.out 67).trans (op_cells HX.out).2.2.2.1
  have x4 : W1.cell? ⟨w.heap.size, 68, none⟩ = some (.int .i64 n) := (cells_at0 HYX.out 68).trans (op_cells HX.out).2.2.2.2.1
  have x5 : W1.cell? ⟨w.heap.size, 69, none⟩ = some (.string q) := (cells_at0 HYX.out 69).trans (op_cells HX.out).2.2.2.2.2
  clear hzx
  by_cases h2 : r = zeroRef
  · have EQ2 := Lib.hid (fun (u : World) => (run_eqRef HX.out.1.2.1 zeroRef_ok u).trans (by rw [dT h2]))
    by_cases h3 : t = noneS
    · have e3 : t.toList.isEmpty = true := by rw [isEmpty8]; exact dT h3
      by_cases h4 : n = 0
      · have e4 : (n == 0) = true := by rw [h4]; rfl
        by_cases h5 : q = noneS
        · have e5 : q.toList.isEmpty = true := by rw [isEmpty8]; exact dT h5
          have HE : Hid (absentB (k, d, r, t, n, q) (true, false, false, false, false) = true) := Lib.hid (by unfold absentB; simp [h2, h3, h4, h5])
          clear h2 h3 h4 h5
          go_wp2_with (first
            | (with_reducible refine at_load ?_
               refine wp_val (by rfl) (ldR (b := w.heap.size) (f := 34) (r := r) HX.out.1.2.1 (fun j u hj => (cells_at0 HYX.out (34 + j)).trans ((op_cells HX.out).2.2.1 j u hj))) ?_)
            | (with_reducible refine at_binOp ?_
               refine wp_val (by rfl) (ex_eql 110 _ _ _ rfl (xs := (refV r).toArray) (ys := (refV zeroRef).toArray) rfl rfl (r := true) eqRef.noGuard (EQ2.out _)) ?_)
            | (with_reducible refine at_build ?_
               refine wp_val (by rfl) (ex_build 110 #[] rfl (zeroRef_built _)) ?_))
          go_ret
          exact ⟨HB0.out.trans (HB1.out.mono (by have := HB0.out.size; omega)), by rw [HE.out]; rfl⟩
        · have e5 : q.toList.isEmpty = false := by rw [isEmpty8]; exact dF h5
          have HE : Hid (absentB (k, d, r, t, n, q) (true, false, false, false, false) = false) := Lib.hid (by unfold absentB; simp [h2, h3, h4, h5])
          clear h2 h3 h4 h5
          go_wp2_with (first
            | (with_reducible refine at_load ?_
               refine wp_val (by rfl) (ldR (b := w.heap.size) (f := 34) (r := r) HX.out.1.2.1 (fun j u hj => (cells_at0 HYX.out (34 + j)).trans ((op_cells HX.out).2.2.1 j u hj))) ?_)
            | (with_reducible refine at_binOp ?_
               refine wp_val (by rfl) (ex_eql 110 _ _ _ rfl (xs := (refV r).toArray) (ys := (refV zeroRef).toArray) rfl rfl (r := true) eqRef.noGuard (EQ2.out _)) ?_)
            | (with_reducible refine at_build ?_
               refine wp_val (by rfl) (ex_build 110 #[] rfl (zeroRef_built _)) ?_))
          go_ret
          exact ⟨HB0.out.trans (HB1.out.mono (by have := HB0.out.size; omega)), by rw [HE.out]; rfl⟩
      · have e4 : (n == 0) = false := by rw [beq_eq_false_iff_ne]; exact h4
        have HE : Hid (absentB (k, d, r, t, n, q) (true, false, false, false, false) = false) := Lib.hid (by unfold absentB; simp [h2, h3, h4])
        clear h2 h3 h4
        go_wp2_with (first
          | (with_reducible refine at_load ?_
             refine wp_val (by rfl) (ldR (b := w.heap.size) (f := 34) (r := r) HX.out.1.2.1 (fun j u hj => (cells_at0 HYX.out (34 + j)).trans ((op_cells HX.out).2.2.1 j u hj))) ?_)
          | (with_reducible refine at_binOp ?_
             refine wp_val (by rfl) (ex_eql 110 _ _ _ rfl (xs := (refV r).toArray) (ys := (refV zeroRef).toArray) rfl rfl (r := true) eqRef.noGuard (EQ2.out _)) ?_)
          | (with_reducible refine at_build ?_
             refine wp_val (by rfl) (ex_build 110 #[] rfl (zeroRef_built _)) ?_))
        go_ret
        exact ⟨HB0.out.trans (HB1.out.mono (by have := HB0.out.size; omega)), by rw [HE.out]; rfl⟩
    · have e3 : t.toList.isEmpty = false := by rw [isEmpty8]; exact dF h3
      have HE : Hid (absentB (k, d, r, t, n, q) (true, false, false, false, false) = false) := Lib.hid (by unfold absentB; simp [h2, h3])
      clear h2 h3
      go_wp2_with (first
        | (with_reducible refine at_load ?_
           refine wp_val (by rfl) (ldR (b := w.heap.size) (f := 34) (r := r) HX.out.1.2.1 (fun j u hj => (cells_at0 HYX.out (34 + j)).trans ((op_cells HX.out).2.2.1 j u hj))) ?_)
        | (with_reducible refine at_binOp ?_
           refine wp_val (by rfl) (ex_eql 110 _ _ _ rfl (xs := (refV r).toArray) (ys := (refV zeroRef).toArray) rfl rfl (r := true) eqRef.noGuard (EQ2.out _)) ?_)
        | (with_reducible refine at_build ?_
           refine wp_val (by rfl) (ex_build 110 #[] rfl (zeroRef_built _)) ?_))
      go_ret
      exact ⟨HB0.out.trans (HB1.out.mono (by have := HB0.out.size; omega)), by rw [HE.out]; rfl⟩
  · have EQ2 := Lib.hid (fun (u : World) => (run_eqRef HX.out.1.2.1 zeroRef_ok u).trans (by rw [dF h2]))
    have HE : Hid (absentB (k, d, r, t, n, q) (true, false, false, false, false) = false) := Lib.hid (by unfold absentB; simp [h2])
    clear h2
    go_wp2_with (first
      | (with_reducible refine at_load ?_
         refine wp_val (by rfl) (ldR (b := w.heap.size) (f := 34) (r := r) HX.out.1.2.1 (fun j u hj => (cells_at0 HYX.out (34 + j)).trans ((op_cells HX.out).2.2.1 j u hj))) ?_)
      | (with_reducible refine at_binOp ?_
         refine wp_val (by rfl) (ex_eql 110 _ _ _ rfl (xs := (refV r).toArray) (ys := (refV zeroRef).toArray) rfl rfl (r := false) eqRef.noGuard (EQ2.out _)) ?_)
      | (with_reducible refine at_build ?_
         refine wp_val (by rfl) (ex_build 110 #[] rfl (zeroRef_built _)) ?_))
    go_ret
    exact ⟨HB0.out.trans (HB1.out.mono (by have := HB0.out.size; omega)), by rw [HE.out]; rfl⟩
theorem absent_any (x : OpD) (p : PartD) (k : UInt8) (w : World) (hx : OpIn x) (hp : partsOf k = some p) :
    Calls Tryz.prog 249 #[.agg (opV x).toArray, partV p] w fun e w' => Below w.heap.size w w' ∧ e = .returned (.bool (absentB x p)) := by
  obtain ⟨k', d, r, t, n, q⟩ := x
  rcases partsOf_cases hp with ⟨_, rfl⟩ | ⟨_, rfl⟩ | ⟨_, rfl⟩ | ⟨_, rfl⟩ | ⟨_, rfl⟩
  · exact absent_1 k' d r t n q w hx
  · exact absent_2 k' d r t n q w hx
  · exact absent_3 k' d r t n q w hx
  · exact absent_4 k' d r t n q w hx
  · exact absent_5 k' d r t n q w hx
end Go.Proofs.YtdgbjhfkmembdaaGreatDoor
