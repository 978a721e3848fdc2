/-
  What object.absent gives. Conditions: the operation is well formed; the parts are of a kind.
-/
import Derived.Test.YthjaepmfkgejkaaGreatDoorMerged1
import Derived.Test.YthjaepmfkgejkaaGreatDoorMerged13
import Derived.Test.YthjaepmfkgejkaaGreatDoorObjReadOp
set_option linter.unusedVariables false
set_option linter.unusedSimpArgs false
set_option maxHeartbeats 4000000
set_option maxRecDepth 100000
namespace Go.Proofs.YthjaepmfkgejkaaGreatDoor
open Lib (hid)
open Go.RowKit Go.Maps
theorem kx (p : ByteArray) : p.toList.isEmpty = decide (p = kc) := by
  rw [ug, Bool.eq_iff_iff, decide_eq_true_eq, List.isEmpty_iff]
  constructor
  · intro h; exact L_inj (h.trans rfl)
  · rintro rfl; rfl
theorem absent_1 (k : UInt8) (d r : jQ) (t : ByteArray) (n : Int) (q : ByteArray) (w : World) (hx : Je (k, d, r, t, n, q)) :
    Calls Tryz.prog 99 #[.agg (opV (k, d, r, t, n, q)).toArray, zq (true, true, true, false, false)] w fun e w' => Below w.heap.size w w' ∧ e = .returned (.bool (ki (k, d, r, t, n, q) (true, true, true, false, false))) := by
  have HX := hid hx
  clear hx
  go_enter Tryz.func99, Tryz.ntmps99
  go_upto_region 1 with (first
    | (with_reducible refine kz ?_
       refine ko (by rfl) 70 _ rfl (opV (k, d, r, t, n, q)) _ rfl rfl (by rw [kq HX.out]; exact js) ?_
       intro W0 hb0 hy0 hs0
       have HB0 := hid hb0; have HY0 := hid hy0
       clear hb0 hy0 hs0)
    | (with_reducible refine kz ?_
       refine ko (by rfl) 117 _ rfl (jd (true, true, true, false, false)) _ rfl rfl je ?_
       intro W1 hb1 hy1 hs1
       have HB1 := hid hb1; have HY1 := hid hy1
       clear hb1 hy1 hs1))
  have hzx : w.heap.size < W0.heap.size := (qX HY0.out)
  have HYX := hid ((HB1.out.block w.heap.size hzx).trans HY0.out)
  have c0 : W1.cell? ⟨W0.heap.size, 0, none⟩ = some (.bool true) := k5 HY1.out 0
  have c1 : W1.cell? ⟨W0.heap.size, 1, none⟩ = some (.bool true) := k5 HY1.out 1
  have c2 : W1.cell? ⟨W0.heap.size, 2, none⟩ = some (.bool true) := k5 HY1.out 2
  have c3 : W1.cell? ⟨W0.heap.size, 3, none⟩ = some (.bool false) := k5 HY1.out 3
  have c4 : W1.cell? ⟨W0.heap.size, 4, none⟩ = some (.bool false) := k5 HY1.out 4
  have x3 : W1.cell? ⟨w.heap.size, 67, none⟩ = some (.string t) := (k5 HYX.out 67).trans (kn HX.out).2.2.2.1
  have x4 : W1.cell? ⟨w.heap.size, 68, none⟩ = some (.int .i64 n) := (k5 HYX.out 68).trans (kn HX.out).2.2.2.2.1
  have x5 : W1.cell? ⟨w.heap.size, 69, none⟩ = some (.string q) := (k5 HYX.out 69).trans (kn HX.out).2.2.2.2.2
  clear hzx
  by_cases h4 : n = 0
  ·
   by_cases h5 : q = kc
   ·
    have e4 : (n == 0) = true := by rw [h4]; rfl
    have e5 : q.toList.isEmpty = true := by rw [kx]; exact dT h5
    have HE : Hid (ki (k, d, r, t, n, q) (true, true, true, false, false) = true) := hid (by unfold ki; simp [h4, h5])
    clear h4 h5
    go_wp2_with fail
    go_ret
    exact ⟨HB0.out.trans (HB1.out.mono (by have := HB0.out.size; omega)), by rw [HE.out]; rfl⟩
   ·
    have e4 : (n == 0) = true := by rw [h4]; rfl
    have e5 : q.toList.isEmpty = false := by rw [kx]; exact dF h5
    have HE : Hid (ki (k, d, r, t, n, q) (true, true, true, false, false) = false) := hid (by unfold ki; simp [h4, h5])
    clear h4 h5
    go_wp2_with fail
    go_ret
    exact ⟨HB0.out.trans (HB1.out.mono (by have := HB0.out.size; omega)), by rw [HE.out]; rfl⟩
  ·
   have e4 : (n == 0) = false := by rw [beq_eq_false_iff_ne]; exact h4
   have HE : Hid (ki (k, d, r, t, n, q) (true, true, true, false, false) = false) := hid (by unfold ki; simp [h4])
   clear h4
   go_wp2_with fail
   go_ret
   exact ⟨HB0.out.trans (HB1.out.mono (by have := HB0.out.size; omega)), by rw [HE.out]; rfl⟩
theorem absent_2 (k : UInt8) (d r : jQ) (t : ByteArray) (n : Int) (q : ByteArray) (w : World) (hx : Je (k, d, r, t, n, q)) :
    Calls Tryz.prog 99 #[.agg (opV (k, d, r, t, n, q)).toArray, zq (true, true, false, true, false)] w fun e w' => Below w.heap.size w w' ∧ e = .returned (.bool (ki (k, d, r, t, n, q) (true, true, false, true, false))) := by
  have HX := hid hx
  clear hx
  go_enter Tryz.func99, Tryz.ntmps99
  go_upto_region 1 with (first
    | (with_reducible refine kz ?_
       refine ko (by rfl) 70 _ rfl (opV (k, d, r, t, n, q)) _ rfl rfl (by rw [kq HX.out]; exact js) ?_
       intro W0 hb0 hy0 hs0
       have HB0 := hid hb0; have HY0 := hid hy0
       clear hb0 hy0 hs0)
    | (with_reducible refine kz ?_
       refine ko (by rfl) 117 _ rfl (jd (true, true, false, true, false)) _ rfl rfl je ?_
       intro W1 hb1 hy1 hs1
       have HB1 := hid hb1; have HY1 := hid hy1
       clear hb1 hy1 hs1))
  have hzx : w.heap.size < W0.heap.size := (qX HY0.out)
  have HYX := hid ((HB1.out.block w.heap.size hzx).trans HY0.out)
  have c0 : W1.cell? ⟨W0.heap.size, 0, none⟩ = some (.bool true) := k5 HY1.out 0
  have c1 : W1.cell? ⟨W0.heap.size, 1, none⟩ = some (.bool true) := k5 HY1.out 1
  have c2 : W1.cell? ⟨W0.heap.size, 2, none⟩ = some (.bool false) := k5 HY1.out 2
  have c3 : W1.cell? ⟨W0.heap.size, 3, none⟩ = some (.bool true) := k5 HY1.out 3
  have c4 : W1.cell? ⟨W0.heap.size, 4, none⟩ = some (.bool false) := k5 HY1.out 4
  have x3 : W1.cell? ⟨w.heap.size, 67, none⟩ = some (.string t) := (k5 HYX.out 67).trans (kn HX.out).2.2.2.1
  have x4 : W1.cell? ⟨w.heap.size, 68, none⟩ = some (.int .i64 n) := (k5 HYX.out 68).trans (kn HX.out).2.2.2.2.1
  have x5 : W1.cell? ⟨w.heap.size, 69, none⟩ = some (.string q) := (k5 HYX.out 69).trans (kn HX.out).2.2.2.2.2
  clear hzx
  by_cases h3 : t = kc
  ·
   have e3 : t.toList.isEmpty = true := by rw [kx]; exact dT h3
   by_cases h5 : q = kc
   ·
    have e5 : q.toList.isEmpty = true := by rw [kx]; exact dT h5
    have HE : Hid (ki (k, d, r, t, n, q) (true, true, false, true, false) = true) := hid (by unfold ki; simp [h3, h5])
    clear h3 h5
    go_wp2_with fail
    go_ret
    exact ⟨HB0.out.trans (HB1.out.mono (by have := HB0.out.size; omega)), by rw [HE.out]; rfl⟩
   ·
    have e5 : q.toList.isEmpty = false := by rw [kx]; exact dF h5
    have HE : Hid (ki (k, d, r, t, n, q) (true, true, false, true, false) = false) := hid (by unfold ki; simp [h3, h5])
    clear h3 h5
    go_wp2_with fail
    go_ret
    exact ⟨HB0.out.trans (HB1.out.mono (by have := HB0.out.size; omega)), by rw [HE.out]; rfl⟩
  ·
   have e3 : t.toList.isEmpty = false := by rw [kx]; exact dF h3
   have HE : Hid (ki (k, d, r, t, n, q) (true, true, false, true, false) = false) := hid (by unfold ki; simp [h3])
   clear h3
   go_wp2_with fail
   go_ret
   exact ⟨HB0.out.trans (HB1.out.mono (by have := HB0.out.size; omega)), by rw [HE.out]; rfl⟩
theorem absent_3 (k : UInt8) (d r : jQ) (t : ByteArray) (n : Int) (q : ByteArray) (w : World) (hx : Je (k, d, r, t, n, q)) :
    Calls Tryz.prog 99 #[.agg (opV (k, d, r, t, n, q)).toArray, zq (false, false, false, false, true)] w fun e w' => Below w.heap.size w w' ∧ e = .returned (.bool (ki (k, d, r, t, n, q) (false, false, false, false, true))) := by
  have HX := hid hx
  clear hx
  go_enter Tryz.func99, Tryz.ntmps99
  go_upto_region 1 with (first
    | (with_reducible refine kz ?_
       refine ko (by rfl) 70 _ rfl (opV (k, d, r, t, n, q)) _ rfl rfl (by rw [kq HX.out]; exact js) ?_
       intro W0 hb0 hy0 hs0
       have HB0 := hid hb0; have HY0 := hid hy0
       clear hb0 hy0 hs0)
    | (with_reducible refine kz ?_
       refine ko (by rfl) 117 _ rfl (jd (false, false, false, false, true)) _ rfl rfl je ?_
       intro W1 hb1 hy1 hs1
       have HB1 := hid hb1; have HY1 := hid hy1
       clear hb1 hy1 hs1))
  have hzx : w.heap.size < W0.heap.size := (qX HY0.out)
  have HYX := hid ((HB1.out.block w.heap.size hzx).trans HY0.out)
  have c0 : W1.cell? ⟨W0.heap.size, 0, none⟩ = some (.bool false) := k5 HY1.out 0
  have c1 : W1.cell? ⟨W0.heap.size, 1, none⟩ = some (.bool false) := k5 HY1.out 1
  have c2 : W1.cell? ⟨W0.heap.size, 2, none⟩ = some (.bool false) := k5 HY1.out 2
  have c3 : W1.cell? ⟨W0.heap.size, 3, none⟩ = some (.bool false) := k5 HY1.out 3
  have c4 : W1.cell? ⟨W0.heap.size, 4, none⟩ = some (.bool true) := k5 HY1.out 4
  have x3 : W1.cell? ⟨w.heap.size, 67, none⟩ = some (.string t) := (k5 HYX.out 67).trans (kn HX.out).2.2.2.1
  have x4 : W1.cell? ⟨w.heap.size, 68, none⟩ = some (.int .i64 n) := (k5 HYX.out 68).trans (kn HX.out).2.2.2.2.1
  have x5 : W1.cell? ⟨w.heap.size, 69, none⟩ = some (.string q) := (k5 HYX.out 69).trans (kn HX.out).2.2.2.2.2
  clear hzx
  by_cases h1 : d = kd
  ·
   have EQ1 := hid (fun (u : World) => (kR HX.out.1.1 kp u).trans (by rw [dT h1]))
   by_cases h2 : r = kd
   ·
    have EQ2 := hid (fun (u : World) => (kR HX.out.1.2.1 kp u).trans (by rw [dT h2]))
    by_cases h3 : t = kc
    ·
     have e3 : t.toList.isEmpty = true := by rw [kx]; exact dT h3
     by_cases h4 : n = 0
     focus
       have e4 : (n == 0) = true := by rw [h4]; rfl
       have HE : Hid (ki (k, d, r, t, n, q) (false, false, false, false, true) = true) := hid (by unfold ki; simp [h1, h2, h3, h4])
     rotate_left
     focus
       have e4 : (n == 0) = false := by rw [beq_eq_false_iff_ne]; exact h4
       have HE : Hid (ki (k, d, r, t, n, q) (false, false, false, false, true) = false) := hid (by unfold ki; simp [h1, h2, h3, h4])
     all_goals
       clear h1 h2 h3 h4
       go_wp2_with (first
         | (with_reducible refine k7 ?_
            refine k6 (by rfl) (ldR (b := w.heap.size) (f := 1) (r := d) HX.out.1.1 (fun j u hj => (k5 HYX.out (1 + j)).trans ((kn HX.out).2.1 j u hj))) ?_)
         | (with_reducible refine kC ?_
            refine k6 (by rfl) (K8 68 _ _ _ rfl (xs := (ke d).toArray) (ys := (ke kd).toArray) rfl rfl (r := true) eqRef.noGuard (EQ1.out _)) ?_)
         | (with_reducible refine k7 ?_
            refine k6 (by rfl) (ldR (b := w.heap.size) (f := 34) (r := r) HX.out.1.2.1 (fun j u hj => (k5 HYX.out (34 + j)).trans ((kn HX.out).2.2.1 j u hj))) ?_)
         | (with_reducible refine kC ?_
            refine k6 (by rfl) (K8 68 _ _ _ rfl (xs := (ke r).toArray) (ys := (ke kd).toArray) rfl rfl (r := true) eqRef.noGuard (EQ2.out _)) ?_)
         | (with_reducible refine kQ ?_
            refine k6 (by rfl) (kB 68 #[] rfl (jy _)) ?_))
       go_ret
       exact ⟨HB0.out.trans (HB1.out.mono (by have := HB0.out.size; omega)), by rw [HE.out]; rfl⟩
    ·
     have e3 : t.toList.isEmpty = false := by rw [kx]; exact dF h3
     have HE : Hid (ki (k, d, r, t, n, q) (false, false, false, false, true) = false) := hid (by unfold ki; simp [h1, h2, h3])
     clear h1 h2 h3
     go_wp2_with (first
       | (with_reducible refine k7 ?_
          refine k6 (by rfl) (ldR (b := w.heap.size) (f := 1) (r := d) HX.out.1.1 (fun j u hj => (k5 HYX.out (1 + j)).trans ((kn HX.out).2.1 j u hj))) ?_)
       | (with_reducible refine kC ?_
          refine k6 (by rfl) (K8 68 _ _ _ rfl (xs := (ke d).toArray) (ys := (ke kd).toArray) rfl rfl (r := true) eqRef.noGuard (EQ1.out _)) ?_)
       | (with_reducible refine k7 ?_
          refine k6 (by rfl) (ldR (b := w.heap.size) (f := 34) (r := r) HX.out.1.2.1 (fun j u hj => (k5 HYX.out (34 + j)).trans ((kn HX.out).2.2.1 j u hj))) ?_)
       | (with_reducible refine kC ?_
          refine k6 (by rfl) (K8 68 _ _ _ rfl (xs := (ke r).toArray) (ys := (ke kd).toArray) rfl rfl (r := true) eqRef.noGuard (EQ2.out _)) ?_)
       | (with_reducible refine kQ ?_
          refine k6 (by rfl) (kB 68 #[] rfl (jy _)) ?_))
     go_ret
     exact ⟨HB0.out.trans (HB1.out.mono (by have := HB0.out.size; omega)), by rw [HE.out]; rfl⟩
   ·
    have EQ2 := hid (fun (u : World) => (kR HX.out.1.2.1 kp u).trans (by rw [dF h2]))
    have HE : Hid (ki (k, d, r, t, n, q) (false, false, false, false, true) = false) := hid (by unfold ki; simp [h1, h2])
    clear h1 h2
    go_wp2_with (first
      | (with_reducible refine k7 ?_
         refine k6 (by rfl) (ldR (b := w.heap.size) (f := 1) (r := d) HX.out.1.1 (fun j u hj => (k5 HYX.out (1 + j)).trans ((kn HX.out).2.1 j u hj))) ?_)
      | (with_reducible refine kC ?_
         refine k6 (by rfl) (K8 68 _ _ _ rfl (xs := (ke d).toArray) (ys := (ke kd).toArray) rfl rfl (r := true) eqRef.noGuard (EQ1.out _)) ?_)
      | (with_reducible refine k7 ?_
         refine k6 (by rfl) (ldR (b := w.heap.size) (f := 34) (r := r) HX.out.1.2.1 (fun j u hj => (k5 HYX.out (34 + j)).trans ((kn HX.out).2.2.1 j u hj))) ?_)
      | (with_reducible refine kC ?_
         refine k6 (by rfl) (K8 68 _ _ _ rfl (xs := (ke r).toArray) (ys := (ke kd).toArray) rfl rfl (r := false) eqRef.noGuard (EQ2.out _)) ?_)
      | (with_reducible refine kQ ?_
         refine k6 (by rfl) (kB 68 #[] rfl (jy _)) ?_))
    go_ret
    exact ⟨HB0.out.trans (HB1.out.mono (by have := HB0.out.size; omega)), by rw [HE.out]; rfl⟩
  ·
   have EQ1 := hid (fun (u : World) => (kR HX.out.1.1 kp u).trans (by rw [dF h1]))
   have HE : Hid (ki (k, d, r, t, n, q) (false, false, false, false, true) = false) := hid (by unfold ki; simp [h1])
   clear h1
   go_wp2_with (first
     | (with_reducible refine k7 ?_
        refine k6 (by rfl) (ldR (b := w.heap.size) (f := 1) (r := d) HX.out.1.1 (fun j u hj => (k5 HYX.out (1 + j)).trans ((kn HX.out).2.1 j u hj))) ?_)
     | (with_reducible refine kC ?_
        refine k6 (by rfl) (K8 68 _ _ _ rfl (xs := (ke d).toArray) (ys := (ke kd).toArray) rfl rfl (r := false) eqRef.noGuard (EQ1.out _)) ?_)
     | (with_reducible refine kQ ?_
        refine k6 (by rfl) (kB 68 #[] rfl (jy _)) ?_))
   go_ret
   exact ⟨HB0.out.trans (HB1.out.mono (by have := HB0.out.size; omega)), by rw [HE.out]; rfl⟩
theorem absent_4 (k : UInt8) (d r : jQ) (t : ByteArray) (n : Int) (q : ByteArray) (w : World) (hx : Je (k, d, r, t, n, q)) :
    Calls Tryz.prog 99 #[.agg (opV (k, d, r, t, n, q)).toArray, zq (true, false, false, false, true)] w fun e w' => Below w.heap.size w w' ∧ e = .returned (.bool (ki (k, d, r, t, n, q) (true, false, false, false, true))) := by
  have HX := hid hx
  clear hx
  go_enter Tryz.func99, Tryz.ntmps99
  go_upto_region 1 with (first
    | (with_reducible refine kz ?_
       refine ko (by rfl) 70 _ rfl (opV (k, d, r, t, n, q)) _ rfl rfl (by rw [kq HX.out]; exact js) ?_
       intro W0 hb0 hy0 hs0
       have HB0 := hid hb0; have HY0 := hid hy0
       clear hb0 hy0 hs0)
    | (with_reducible refine kz ?_
       refine ko (by rfl) 117 _ rfl (jd (true, false, false, false, true)) _ rfl rfl je ?_
       intro W1 hb1 hy1 hs1
       have HB1 := hid hb1; have HY1 := hid hy1
       clear hb1 hy1 hs1))
  have hzx : w.heap.size < W0.heap.size := (qX HY0.out)
  have HYX := hid ((HB1.out.block w.heap.size hzx).trans HY0.out)
  have c0 : W1.cell? ⟨W0.heap.size, 0, none⟩ = some (.bool true) := k5 HY1.out 0
  have c1 : W1.cell? ⟨W0.heap.size, 1, none⟩ = some (.bool false) := k5 HY1.out 1
  have c2 : W1.cell? ⟨W0.heap.size, 2, none⟩ = some (.bool false) := k5 HY1.out 2
  have c3 : W1.cell? ⟨W0.heap.size, 3, none⟩ = some (.bool false) := k5 HY1.out 3
  have c4 : W1.cell? ⟨W0.heap.size, 4, none⟩ = some (.bool true) := k5 HY1.out 4
  have x3 : W1.cell? ⟨w.heap.size, 67, none⟩ = some (.string t) := (k5 HYX.out 67).trans (kn HX.out).2.2.2.1
  have x4 : W1.cell? ⟨w.heap.size, 68, none⟩ = some (.int .i64 n) := (k5 HYX.out 68).trans (kn HX.out).2.2.2.2.1
  have x5 : W1.cell? ⟨w.heap.size, 69, none⟩ = some (.string q) := (k5 HYX.out 69).trans (kn HX.out).2.2.2.2.2
  clear hzx
  by_cases h2 : r = kd
  ·
   have EQ2 := hid (fun (u : World) => (kR HX.out.1.2.1 kp u).trans (by rw [dT h2]))
   by_cases h3 : t = kc
   ·
    have e3 : t.toList.isEmpty = true := by rw [kx]; exact dT h3
    by_cases h4 : n = 0
    focus
      have e4 : (n == 0) = true := by rw [h4]; rfl
      have HE : Hid (ki (k, d, r, t, n, q) (true, false, false, false, true) = true) := hid (by unfold ki; simp [h2, h3, h4])
    rotate_left
    focus
      have e4 : (n == 0) = false := by rw [beq_eq_false_iff_ne]; exact h4
      have HE : Hid (ki (k, d, r, t, n, q) (true, false, false, false, true) = false) := hid (by unfold ki; simp [h2, h3, h4])
    all_goals
      clear h2 h3 h4
      go_wp2_with (first
        | (with_reducible refine k7 ?_
           refine k6 (by rfl) (ldR (b := w.heap.size) (f := 34) (r := r) HX.out.1.2.1 (fun j u hj => (k5 HYX.out (34 + j)).trans ((kn HX.out).2.2.1 j u hj))) ?_)
        | (with_reducible refine kC ?_
           refine k6 (by rfl) (K8 68 _ _ _ rfl (xs := (ke r).toArray) (ys := (ke kd).toArray) rfl rfl (r := true) eqRef.noGuard (EQ2.out _)) ?_)
        | (with_reducible refine kQ ?_
           refine k6 (by rfl) (kB 68 #[] rfl (jy _)) ?_))
      go_ret
      exact ⟨HB0.out.trans (HB1.out.mono (by have := HB0.out.size; omega)), by rw [HE.out]; rfl⟩
   ·
    have e3 : t.toList.isEmpty = false := by rw [kx]; exact dF h3
    have HE : Hid (ki (k, d, r, t, n, q) (true, false, false, false, true) = false) := hid (by unfold ki; simp [h2, h3])
    clear h2 h3
    go_wp2_with (first
      | (with_reducible refine k7 ?_
         refine k6 (by rfl) (ldR (b := w.heap.size) (f := 34) (r := r) HX.out.1.2.1 (fun j u hj => (k5 HYX.out (34 + j)).trans ((kn HX.out).2.2.1 j u hj))) ?_)
      | (with_reducible refine kC ?_
         refine k6 (by rfl) (K8 68 _ _ _ rfl (xs := (ke r).toArray) (ys := (ke kd).toArray) rfl rfl (r := true) eqRef.noGuard (EQ2.out _)) ?_)
      | (with_reducible refine kQ ?_
         refine k6 (by rfl) (kB 68 #[] rfl (jy _)) ?_))
    go_ret
    exact ⟨HB0.out.trans (HB1.out.mono (by have := HB0.out.size; omega)), by rw [HE.out]; rfl⟩
  ·
   have EQ2 := hid (fun (u : World) => (kR HX.out.1.2.1 kp u).trans (by rw [dF h2]))
   have HE : Hid (ki (k, d, r, t, n, q) (true, false, false, false, true) = false) := hid (by unfold ki; simp [h2])
   clear h2
   go_wp2_with (first
     | (with_reducible refine k7 ?_
        refine k6 (by rfl) (ldR (b := w.heap.size) (f := 34) (r := r) HX.out.1.2.1 (fun j u hj => (k5 HYX.out (34 + j)).trans ((kn HX.out).2.2.1 j u hj))) ?_)
     | (with_reducible refine kC ?_
        refine k6 (by rfl) (K8 68 _ _ _ rfl (xs := (ke r).toArray) (ys := (ke kd).toArray) rfl rfl (r := false) eqRef.noGuard (EQ2.out _)) ?_)
     | (with_reducible refine kQ ?_
        refine k6 (by rfl) (kB 68 #[] rfl (jy _)) ?_))
   go_ret
   exact ⟨HB0.out.trans (HB1.out.mono (by have := HB0.out.size; omega)), by rw [HE.out]; rfl⟩
theorem absent_5 (k : UInt8) (d r : jQ) (t : ByteArray) (n : Int) (q : ByteArray) (w : World) (hx : Je (k, d, r, t, n, q)) :
    Calls Tryz.prog 99 #[.agg (opV (k, d, r, t, n, q)).toArray, zq (true, false, false, false, false)] w fun e w' => Below w.heap.size w w' ∧ e = .returned (.bool (ki (k, d, r, t, n, q) (true, false, false, false, false))) := by
  have HX := hid hx
  clear hx
  go_enter Tryz.func99, Tryz.ntmps99
  go_upto_region 1 with (first
    | (with_reducible refine kz ?_
       refine ko (by rfl) 70 _ rfl (opV (k, d, r, t, n, q)) _ rfl rfl (by rw [kq HX.out]; exact js) ?_
       intro W0 hb0 hy0 hs0
       have HB0 := hid hb0; have HY0 := hid hy0
       clear hb0 hy0 hs0)
    | (with_reducible refine kz ?_
       refine ko (by rfl) 117 _ rfl (jd (true, false, false, false, false)) _ rfl rfl je ?_
       intro W1 hb1 hy1 hs1
       have HB1 := hid hb1; have HY1 := hid hy1
       clear hb1 hy1 hs1))
  have hzx : w.heap.size < W0.heap.size := (qX HY0.out)
  have HYX := hid ((HB1.out.block w.heap.size hzx).trans HY0.out)
  have c0 : W1.cell? ⟨W0.heap.size, 0, none⟩ = some (.bool true) := k5 HY1.out 0
  have c1 : W1.cell? ⟨W0.heap.size, 1, none⟩ = some (.bool false) := k5 HY1.out 1
  have c2 : W1.cell? ⟨W0.heap.size, 2, none⟩ = some (.bool false) := k5 HY1.out 2
  have c3 : W1.cell? ⟨W0.heap.size, 3, none⟩ = some (.bool false) := k5 HY1.out 3
  have c4 : W1.cell? ⟨W0.heap.size, 4, none⟩ = some (.bool false) := k5 HY1.out 4
  have x3 : W1.cell? ⟨w.heap.size, 67, none⟩ = some (.string t) := (k5 HYX.out 67).trans (kn HX.out).2.2.2.1
  have x4 : W1.cell? ⟨w.heap.size, 68, none⟩ = some (.int .i64 n) := (k5 HYX.out 68).trans (kn HX.out).2.2.2.2.1
  have x5 : W1.cell? ⟨w.heap.size, 69, none⟩ = some (.string q) := (k5 HYX.out 69).trans (kn HX.out).2.2.2.2.2
  clear hzx
  by_cases h2 : r = kd
  ·
   have EQ2 := hid (fun (u : World) => (kR HX.out.1.2.1 kp u).trans (by rw [dT h2]))
   by_cases h3 : t = kc
   ·
    have e3 : t.toList.isEmpty = true := by rw [kx]; exact dT h3
    by_cases h4 : n = 0
    ·
     have e4 : (n == 0) = true := by rw [h4]; rfl
     by_cases h5 : q = kc
     focus
       have e5 : q.toList.isEmpty = true := by rw [kx]; exact dT h5
       have HE : Hid (ki (k, d, r, t, n, q) (true, false, false, false, false) = true) := hid (by unfold ki; simp [h2, h3, h4, h5])
     rotate_left
     focus
       have e5 : q.toList.isEmpty = false := by rw [kx]; exact dF h5
       have HE : Hid (ki (k, d, r, t, n, q) (true, false, false, false, false) = false) := hid (by unfold ki; simp [h2, h3, h4, h5])
     all_goals
       clear h2 h3 h4 h5
       go_wp2_with (first
         | (with_reducible refine k7 ?_
            refine k6 (by rfl) (ldR (b := w.heap.size) (f := 34) (r := r) HX.out.1.2.1 (fun j u hj => (k5 HYX.out (34 + j)).trans ((kn HX.out).2.2.1 j u hj))) ?_)
         | (with_reducible refine kC ?_
            refine k6 (by rfl) (K8 68 _ _ _ rfl (xs := (ke r).toArray) (ys := (ke kd).toArray) rfl rfl (r := true) eqRef.noGuard (EQ2.out _)) ?_)
         | (with_reducible refine kQ ?_
            refine k6 (by rfl) (kB 68 #[] rfl (jy _)) ?_))
       go_ret
       exact ⟨HB0.out.trans (HB1.out.mono (by have := HB0.out.size; omega)), by rw [HE.out]; rfl⟩
    ·
     have e4 : (n == 0) = false := by rw [beq_eq_false_iff_ne]; exact h4
     have HE : Hid (ki (k, d, r, t, n, q) (true, false, false, false, false) = false) := hid (by unfold ki; simp [h2, h3, h4])
     clear h2 h3 h4
     go_wp2_with (first
       | (with_reducible refine k7 ?_
          refine k6 (by rfl) (ldR (b := w.heap.size) (f := 34) (r := r) HX.out.1.2.1 (fun j u hj => (k5 HYX.out (34 + j)).trans ((kn HX.out).2.2.1 j u hj))) ?_)
       | (with_reducible refine kC ?_
          refine k6 (by rfl) (K8 68 _ _ _ rfl (xs := (ke r).toArray) (ys := (ke kd).toArray) rfl rfl (r := true) eqRef.noGuard (EQ2.out _)) ?_)
       | (with_reducible refine kQ ?_
          refine k6 (by rfl) (kB 68 #[] rfl (jy _)) ?_))
     go_ret
     exact ⟨HB0.out.trans (HB1.out.mono (by have := HB0.out.size; omega)), by rw [HE.out]; rfl⟩
   ·
    have e3 : t.toList.isEmpty = false := by rw [kx]; exact dF h3
    have HE : Hid (ki (k, d, r, t, n, q) (true, false, false, false, false) = false) := hid (by unfold ki; simp [h2, h3])
    clear h2 h3
    go_wp2_with (first
      | (with_reducible refine k7 ?_
         refine k6 (by rfl) (ldR (b := w.heap.size) (f := 34) (r := r) HX.out.1.2.1 (fun j u hj => (k5 HYX.out (34 + j)).trans ((kn HX.out).2.2.1 j u hj))) ?_)
      | (with_reducible refine kC ?_
         refine k6 (by rfl) (K8 68 _ _ _ rfl (xs := (ke r).toArray) (ys := (ke kd).toArray) rfl rfl (r := true) eqRef.noGuard (EQ2.out _)) ?_)
      | (with_reducible refine kQ ?_
         refine k6 (by rfl) (kB 68 #[] rfl (jy _)) ?_))
    go_ret
    exact ⟨HB0.out.trans (HB1.out.mono (by have := HB0.out.size; omega)), by rw [HE.out]; rfl⟩
  ·
   have EQ2 := hid (fun (u : World) => (kR HX.out.1.2.1 kp u).trans (by rw [dF h2]))
   have HE : Hid (ki (k, d, r, t, n, q) (true, false, false, false, false) = false) := hid (by unfold ki; simp [h2])
   clear h2
   go_wp2_with (first
     | (with_reducible refine k7 ?_
        refine k6 (by rfl) (ldR (b := w.heap.size) (f := 34) (r := r) HX.out.1.2.1 (fun j u hj => (k5 HYX.out (34 + j)).trans ((kn HX.out).2.2.1 j u hj))) ?_)
     | (with_reducible refine kC ?_
        refine k6 (by rfl) (K8 68 _ _ _ rfl (xs := (ke r).toArray) (ys := (ke kd).toArray) rfl rfl (r := false) eqRef.noGuard (EQ2.out _)) ?_)
     | (with_reducible refine kQ ?_
        refine k6 (by rfl) (kB 68 #[] rfl (jy _)) ?_))
   go_ret
   exact ⟨HB0.out.trans (HB1.out.mono (by have := HB0.out.size; omega)), by rw [HE.out]; rfl⟩
theorem ji (x : OpD) (p : Jy) (k : UInt8) (w : World) (hx : Je x) (hp : kj k = some p) :
    Calls Tryz.prog 99 #[.agg (opV x).toArray, zq p] w fun e w' => Below w.heap.size w w' ∧ e = .returned (.bool (ki x p)) := by
  obtain ⟨k', d, r, t, n, q⟩ := x
  rcases Jn hp with ⟨_, rfl⟩ | ⟨_, rfl⟩ | ⟨_, rfl⟩ | ⟨_, rfl⟩ | ⟨_, rfl⟩
  · exact absent_1 k' d r t n q w hx
  · exact absent_2 k' d r t n q w hx
  · exact absent_3 k' d r t n q w hx
  · exact absent_4 k' d r t n q w hx
  · exact absent_5 k' d r t n q w hx
end Go.Proofs.YthjaepmfkgejkaaGreatDoor
