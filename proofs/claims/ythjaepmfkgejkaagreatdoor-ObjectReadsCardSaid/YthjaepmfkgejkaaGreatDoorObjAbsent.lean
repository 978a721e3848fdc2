/-
  What object.absent gives. Conditions: the operation is well formed; the parts are of a kind.
-/
import Derived.Test.YthjaepmfkgejkaaGreatDoorObjReadOp
set_option linter.unusedVariables false
set_option linter.unusedSimpArgs false
set_option maxHeartbeats 4000000
set_option maxRecDepth 100000
namespace Go.Proofs.YthjaepmfkgejkaaGreatDoor
open Lib (hid)
open Go.RowKit Go.Maps
theorem kD (p : ByteArray) : p.toList.isEmpty = decide (p = k7) := by
  rw [vw, Bool.eq_iff_iff, decide_eq_true_eq, List.isEmpty_iff]
  constructor
  · intro h; exact L_inj (h.trans rfl)
  · rintro rfl; rfl
theorem absent_1 (k : UInt8) (d r : za) (t : ByteArray) (n : Int) (q : ByteArray) (w : World) (hx : KW (k, d, r, t, n, q)) :
    Calls Tryz.prog 99 #[.agg (opV (k, d, r, t, n, q)).toArray, zC (true, true, true, false, false)] w fun e w' => Below w.heap.size w w' ∧ e = .returned (.bool (ks (k, d, r, t, n, q) (true, true, true, false, false))) := by
  have HX := hid hx
  clear hx
  go_enter Tryz.func99, Tryz.ntmps99
  go_upto_region 1 with (first
    | (with_reducible refine kH ?_
       refine kA (by rfl) 70 _ rfl (opV (k, d, r, t, n, q)) _ rfl rfl (by rw [kg HX.out]; exact kw) ?_
       intro W0 hb0 hy0 hs0
       have HB0 := hid hb0; have HY0 := hid hy0
       clear hb0 hy0 hs0)
    | (with_reducible refine kH ?_
       refine kA (by rfl) 117 _ rfl (jq (true, true, true, false, false)) _ rfl rfl jr ?_
       intro W1 hb1 hy1 hs1
       have HB1 := hid hb1; have HY1 := hid hy1
       clear hb1 hy1 hs1))
  have hzx : w.heap.size < W0.heap.size := (Array.getElem?_eq_some_iff.1 HY0.out).1
  have HYX := hid ((HB1.out.block w.heap.size hzx).trans HY0.out)
  have c0 : W1.cell? ⟨W0.heap.size, 0, none⟩ = some (.bool true) := k6 HY1.out 0
  have c1 : W1.cell? ⟨W0.heap.size, 1, none⟩ = some (.bool true) := k6 HY1.out 1
  have c2 : W1.cell? ⟨W0.heap.size, 2, none⟩ = some (.bool true) := k6 HY1.out 2
  have c3 : W1.cell? ⟨W0.heap.size, 3, none⟩ = some (.bool false) := k6 HY1.out 3
  have c4 : W1.cell? ⟨W0.heap.size, 4, none⟩ = some (.bool false) := k6 HY1.out 4
  have x3 : W1.cell? ⟨w.heap.size, 67, none⟩ = some (.string t) := (k6 HYX.out 67).trans (ky HX.out).2.2.2.1
  have x4 : W1.cell? ⟨w.heap.size, 68, none⟩ = some (.int .i64 n) := (k6 HYX.out 68).trans (ky HX.out).2.2.2.2.1
  have x5 : W1.cell? ⟨w.heap.size, 69, none⟩ = some (.string q) := (k6 HYX.out 69).trans (ky HX.out).2.2.2.2.2
  clear hzx
  by_cases h4 : n = 0
  ·
   by_cases h5 : q = k7
   ·
    have e4 : (n == 0) = true := by rw [h4]; rfl
    have e5 : q.toList.isEmpty = true := by rw [kD]; exact decide_eq_true h5
    have HE : Hid (ks (k, d, r, t, n, q) (true, true, true, false, false) = true) := hid (by unfold ks; simp [h4, h5])
    clear h4 h5
    go_wp2_with fail
    go_ret
    exact ⟨HB0.out.trans (HB1.out.mono (by have := HB0.out.size; omega)), by rw [HE.out]; rfl⟩
   ·
    have e4 : (n == 0) = true := by rw [h4]; rfl
    have e5 : q.toList.isEmpty = false := by rw [kD]; exact decide_eq_false h5
    have HE : Hid (ks (k, d, r, t, n, q) (true, true, true, false, false) = false) := hid (by unfold ks; simp [h4, h5])
    clear h4 h5
    go_wp2_with fail
    go_ret
    exact ⟨HB0.out.trans (HB1.out.mono (by have := HB0.out.size; omega)), by rw [HE.out]; rfl⟩
  ·
   have e4 : (n == 0) = false := by rw [beq_eq_false_iff_ne]; exact h4
   have HE : Hid (ks (k, d, r, t, n, q) (true, true, true, false, false) = false) := hid (by unfold ks; simp [h4])
   clear h4
   go_wp2_with fail
   go_ret
   exact ⟨HB0.out.trans (HB1.out.mono (by have := HB0.out.size; omega)), by rw [HE.out]; rfl⟩
theorem absent_2 (k : UInt8) (d r : za) (t : ByteArray) (n : Int) (q : ByteArray) (w : World) (hx : KW (k, d, r, t, n, q)) :
    Calls Tryz.prog 99 #[.agg (opV (k, d, r, t, n, q)).toArray, zC (true, true, false, true, false)] w fun e w' => Below w.heap.size w w' ∧ e = .returned (.bool (ks (k, d, r, t, n, q) (true, true, false, true, false))) := by
  have HX := hid hx
  clear hx
  go_enter Tryz.func99, Tryz.ntmps99
  go_upto_region 1 with (first
    | (with_reducible refine kH ?_
       refine kA (by rfl) 70 _ rfl (opV (k, d, r, t, n, q)) _ rfl rfl (by rw [kg HX.out]; exact kw) ?_
       intro W0 hb0 hy0 hs0
       have HB0 := hid hb0; have HY0 := hid hy0
       clear hb0 hy0 hs0)
    | (with_reducible refine kH ?_
       refine kA (by rfl) 117 _ rfl (jq (true, true, false, true, false)) _ rfl rfl jr ?_
       intro W1 hb1 hy1 hs1
       have HB1 := hid hb1; have HY1 := hid hy1
       clear hb1 hy1 hs1))
  have hzx : w.heap.size < W0.heap.size := (Array.getElem?_eq_some_iff.1 HY0.out).1
  have HYX := hid ((HB1.out.block w.heap.size hzx).trans HY0.out)
  have c0 : W1.cell? ⟨W0.heap.size, 0, none⟩ = some (.bool true) := k6 HY1.out 0
  have c1 : W1.cell? ⟨W0.heap.size, 1, none⟩ = some (.bool true) := k6 HY1.out 1
  have c2 : W1.cell? ⟨W0.heap.size, 2, none⟩ = some (.bool false) := k6 HY1.out 2
  have c3 : W1.cell? ⟨W0.heap.size, 3, none⟩ = some (.bool true) := k6 HY1.out 3
  have c4 : W1.cell? ⟨W0.heap.size, 4, none⟩ = some (.bool false) := k6 HY1.out 4
  have x3 : W1.cell? ⟨w.heap.size, 67, none⟩ = some (.string t) := (k6 HYX.out 67).trans (ky HX.out).2.2.2.1
  have x4 : W1.cell? ⟨w.heap.size, 68, none⟩ = some (.int .i64 n) := (k6 HYX.out 68).trans (ky HX.out).2.2.2.2.1
  have x5 : W1.cell? ⟨w.heap.size, 69, none⟩ = some (.string q) := (k6 HYX.out 69).trans (ky HX.out).2.2.2.2.2
  clear hzx
  by_cases h3 : t = k7
  ·
   by_cases h5 : q = k7
   ·
    have e3 : t.toList.isEmpty = true := by rw [kD]; exact decide_eq_true h3
    have e5 : q.toList.isEmpty = true := by rw [kD]; exact decide_eq_true h5
    have HE : Hid (ks (k, d, r, t, n, q) (true, true, false, true, false) = true) := hid (by unfold ks; simp [h3, h5])
    clear h3 h5
    go_wp2_with fail
    go_ret
    exact ⟨HB0.out.trans (HB1.out.mono (by have := HB0.out.size; omega)), by rw [HE.out]; rfl⟩
   ·
    have e3 : t.toList.isEmpty = true := by rw [kD]; exact decide_eq_true h3
    have e5 : q.toList.isEmpty = false := by rw [kD]; exact decide_eq_false h5
    have HE : Hid (ks (k, d, r, t, n, q) (true, true, false, true, false) = false) := hid (by unfold ks; simp [h3, h5])
    clear h3 h5
    go_wp2_with fail
    go_ret
    exact ⟨HB0.out.trans (HB1.out.mono (by have := HB0.out.size; omega)), by rw [HE.out]; rfl⟩
  ·
   have e3 : t.toList.isEmpty = false := by rw [kD]; exact decide_eq_false h3
   have HE : Hid (ks (k, d, r, t, n, q) (true, true, false, true, false) = false) := hid (by unfold ks; simp [h3])
   clear h3
   go_wp2_with fail
   go_ret
   exact ⟨HB0.out.trans (HB1.out.mono (by have := HB0.out.size; omega)), by rw [HE.out]; rfl⟩
theorem absent_3 (k : UInt8) (d r : za) (t : ByteArray) (n : Int) (q : ByteArray) (w : World) (hx : KW (k, d, r, t, n, q)) :
    Calls Tryz.prog 99 #[.agg (opV (k, d, r, t, n, q)).toArray, zC (false, false, false, false, true)] w fun e w' => Below w.heap.size w w' ∧ e = .returned (.bool (ks (k, d, r, t, n, q) (false, false, false, false, true))) := by
  have HX := hid hx
  clear hx
  go_enter Tryz.func99, Tryz.ntmps99
  go_upto_region 1 with (first
    | (with_reducible refine kH ?_
       refine kA (by rfl) 70 _ rfl (opV (k, d, r, t, n, q)) _ rfl rfl (by rw [kg HX.out]; exact kw) ?_
       intro W0 hb0 hy0 hs0
       have HB0 := hid hb0; have HY0 := hid hy0
       clear hb0 hy0 hs0)
    | (with_reducible refine kH ?_
       refine kA (by rfl) 117 _ rfl (jq (false, false, false, false, true)) _ rfl rfl jr ?_
       intro W1 hb1 hy1 hs1
       have HB1 := hid hb1; have HY1 := hid hy1
       clear hb1 hy1 hs1))
  have hzx : w.heap.size < W0.heap.size := (Array.getElem?_eq_some_iff.1 HY0.out).1
  have HYX := hid ((HB1.out.block w.heap.size hzx).trans HY0.out)
  have c0 : W1.cell? ⟨W0.heap.size, 0, none⟩ = some (.bool false) := k6 HY1.out 0
  have c1 : W1.cell? ⟨W0.heap.size, 1, none⟩ = some (.bool false) := k6 HY1.out 1
  have c2 : W1.cell? ⟨W0.heap.size, 2, none⟩ = some (.bool false) := k6 HY1.out 2
  have c3 : W1.cell? ⟨W0.heap.size, 3, none⟩ = some (.bool false) := k6 HY1.out 3
  have c4 : W1.cell? ⟨W0.heap.size, 4, none⟩ = some (.bool true) := k6 HY1.out 4
  have x3 : W1.cell? ⟨w.heap.size, 67, none⟩ = some (.string t) := (k6 HYX.out 67).trans (ky HX.out).2.2.2.1
  have x4 : W1.cell? ⟨w.heap.size, 68, none⟩ = some (.int .i64 n) := (k6 HYX.out 68).trans (ky HX.out).2.2.2.2.1
  have x5 : W1.cell? ⟨w.heap.size, 69, none⟩ = some (.string q) := (k6 HYX.out 69).trans (ky HX.out).2.2.2.2.2
  clear hzx
  by_cases h1 : d = kc
  ·
   by_cases h2 : r = kc
   ·
    by_cases h3 : t = k7
    ·
     by_cases h4 : n = 0
     all_goals
       have EQ1 := hid (fun (u : World) => (kM HX.out.1.1 ku u).trans (by rw [decide_eq_true h1]))
       have EQ2 := hid (fun (u : World) => (kM HX.out.1.2.1 ku u).trans (by rw [decide_eq_true h2]))
       have e3 : t.toList.isEmpty = true := by rw [kD]; exact decide_eq_true h3
     focus
       have e4 : (n == 0) = true := by rw [h4]; rfl
       have HE : Hid (ks (k, d, r, t, n, q) (false, false, false, false, true) = true) := hid (by unfold ks; simp [h1, h2, h3, h4])
     rotate_left
     focus
       have e4 : (n == 0) = false := by rw [beq_eq_false_iff_ne]; exact h4
       have HE : Hid (ks (k, d, r, t, n, q) (false, false, false, false, true) = false) := hid (by unfold ks; simp [h1, h2, h3, h4])
     all_goals
       clear h1 h2 h3 h4
       go_wp2_with (first
         | (with_reducible refine ke ?_
            refine k9 (by rfl) (kd 68 _ rfl (p := ⟨w.heap.size, 1, none⟩) rfl (run_loadVar_mid _ _ _ _ (kf d) _ (fun j u hj => (k6 HYX.out (1 + j)).trans ((ky HX.out).2.1 j u hj)) Tryz.underlying68 rfl (by rw [k8 HX.out.1.1]; exact kn))) ?_)
         | (with_reducible refine kP ?_
            refine k9 (by rfl) (Kc 68 _ _ _ rfl (xs := (kf d).toArray) (ys := (kf kc).toArray) rfl rfl (r := true) eqRef.noGuard (EQ1.out _)) ?_)
         | (with_reducible refine ke ?_
            refine k9 (by rfl) (kd 68 _ rfl (p := ⟨w.heap.size, 34, none⟩) rfl (run_loadVar_mid _ _ _ _ (kf r) _ (fun j u hj => (k6 HYX.out (34 + j)).trans ((ky HX.out).2.2.1 j u hj)) Tryz.underlying68 rfl (by rw [k8 HX.out.1.2.1]; exact kn))) ?_)
         | (with_reducible refine kP ?_
            refine k9 (by rfl) (Kc 68 _ _ _ rfl (xs := (kf r).toArray) (ys := (kf kc).toArray) rfl rfl (r := true) eqRef.noGuard (EQ2.out _)) ?_)
         | (with_reducible refine kQ ?_
            refine k9 (by rfl) (kF 68 #[] rfl (jF _)) ?_))
       go_ret
       exact ⟨HB0.out.trans (HB1.out.mono (by have := HB0.out.size; omega)), by rw [HE.out]; rfl⟩
    ·
     have EQ1 := hid (fun (u : World) => (kM HX.out.1.1 ku u).trans (by rw [decide_eq_true h1]))
     have EQ2 := hid (fun (u : World) => (kM HX.out.1.2.1 ku u).trans (by rw [decide_eq_true h2]))
     have e3 : t.toList.isEmpty = false := by rw [kD]; exact decide_eq_false h3
     have HE : Hid (ks (k, d, r, t, n, q) (false, false, false, false, true) = false) := hid (by unfold ks; simp [h1, h2, h3])
     clear h1 h2 h3
     go_wp2_with (first
       | (with_reducible refine ke ?_
          refine k9 (by rfl) (kd 68 _ rfl (p := ⟨w.heap.size, 1, none⟩) rfl (run_loadVar_mid _ _ _ _ (kf d) _ (fun j u hj => (k6 HYX.out (1 + j)).trans ((ky HX.out).2.1 j u hj)) Tryz.underlying68 rfl (by rw [k8 HX.out.1.1]; exact kn))) ?_)
       | (with_reducible refine kP ?_
          refine k9 (by rfl) (Kc 68 _ _ _ rfl (xs := (kf d).toArray) (ys := (kf kc).toArray) rfl rfl (r := true) eqRef.noGuard (EQ1.out _)) ?_)
       | (with_reducible refine ke ?_
          refine k9 (by rfl) (kd 68 _ rfl (p := ⟨w.heap.size, 34, none⟩) rfl (run_loadVar_mid _ _ _ _ (kf r) _ (fun j u hj => (k6 HYX.out (34 + j)).trans ((ky HX.out).2.2.1 j u hj)) Tryz.underlying68 rfl (by rw [k8 HX.out.1.2.1]; exact kn))) ?_)
       | (with_reducible refine kP ?_
          refine k9 (by rfl) (Kc 68 _ _ _ rfl (xs := (kf r).toArray) (ys := (kf kc).toArray) rfl rfl (r := true) eqRef.noGuard (EQ2.out _)) ?_)
       | (with_reducible refine kQ ?_
          refine k9 (by rfl) (kF 68 #[] rfl (jF _)) ?_))
     go_ret
     exact ⟨HB0.out.trans (HB1.out.mono (by have := HB0.out.size; omega)), by rw [HE.out]; rfl⟩
   ·
    have EQ1 := hid (fun (u : World) => (kM HX.out.1.1 ku u).trans (by rw [decide_eq_true h1]))
    have EQ2 := hid (fun (u : World) => (kM HX.out.1.2.1 ku u).trans (by rw [decide_eq_false h2]))
    have HE : Hid (ks (k, d, r, t, n, q) (false, false, false, false, true) = false) := hid (by unfold ks; simp [h1, h2])
    clear h1 h2
    go_wp2_with (first
      | (with_reducible refine ke ?_
         refine k9 (by rfl) (kd 68 _ rfl (p := ⟨w.heap.size, 1, none⟩) rfl (run_loadVar_mid _ _ _ _ (kf d) _ (fun j u hj => (k6 HYX.out (1 + j)).trans ((ky HX.out).2.1 j u hj)) Tryz.underlying68 rfl (by rw [k8 HX.out.1.1]; exact kn))) ?_)
      | (with_reducible refine kP ?_
         refine k9 (by rfl) (Kc 68 _ _ _ rfl (xs := (kf d).toArray) (ys := (kf kc).toArray) rfl rfl (r := true) eqRef.noGuard (EQ1.out _)) ?_)
      | (with_reducible refine ke ?_
         refine k9 (by rfl) (kd 68 _ rfl (p := ⟨w.heap.size, 34, none⟩) rfl (run_loadVar_mid _ _ _ _ (kf r) _ (fun j u hj => (k6 HYX.out (34 + j)).trans ((ky HX.out).2.2.1 j u hj)) Tryz.underlying68 rfl (by rw [k8 HX.out.1.2.1]; exact kn))) ?_)
      | (with_reducible refine kP ?_
         refine k9 (by rfl) (Kc 68 _ _ _ rfl (xs := (kf r).toArray) (ys := (kf kc).toArray) rfl rfl (r := false) eqRef.noGuard (EQ2.out _)) ?_)
      | (with_reducible refine kQ ?_
         refine k9 (by rfl) (kF 68 #[] rfl (jF _)) ?_))
    go_ret
    exact ⟨HB0.out.trans (HB1.out.mono (by have := HB0.out.size; omega)), by rw [HE.out]; rfl⟩
  ·
   have EQ1 := hid (fun (u : World) => (kM HX.out.1.1 ku u).trans (by rw [decide_eq_false h1]))
   have HE : Hid (ks (k, d, r, t, n, q) (false, false, false, false, true) = false) := hid (by unfold ks; simp [h1])
   clear h1
   go_wp2_with (first
     | (with_reducible refine ke ?_
        refine k9 (by rfl) (kd 68 _ rfl (p := ⟨w.heap.size, 1, none⟩) rfl (run_loadVar_mid _ _ _ _ (kf d) _ (fun j u hj => (k6 HYX.out (1 + j)).trans ((ky HX.out).2.1 j u hj)) Tryz.underlying68 rfl (by rw [k8 HX.out.1.1]; exact kn))) ?_)
     | (with_reducible refine kP ?_
        refine k9 (by rfl) (Kc 68 _ _ _ rfl (xs := (kf d).toArray) (ys := (kf kc).toArray) rfl rfl (r := false) eqRef.noGuard (EQ1.out _)) ?_)
     | (with_reducible refine kQ ?_
        refine k9 (by rfl) (kF 68 #[] rfl (jF _)) ?_))
   go_ret
   exact ⟨HB0.out.trans (HB1.out.mono (by have := HB0.out.size; omega)), by rw [HE.out]; rfl⟩
theorem absent_4 (k : UInt8) (d r : za) (t : ByteArray) (n : Int) (q : ByteArray) (w : World) (hx : KW (k, d, r, t, n, q)) :
    Calls Tryz.prog 99 #[.agg (opV (k, d, r, t, n, q)).toArray, zC (true, false, false, false, true)] w fun e w' => Below w.heap.size w w' ∧ e = .returned (.bool (ks (k, d, r, t, n, q) (true, false, false, false, true))) := by
  have HX := hid hx
  clear hx
  go_enter Tryz.func99, Tryz.ntmps99
  go_upto_region 1 with (first
    | (with_reducible refine kH ?_
       refine kA (by rfl) 70 _ rfl (opV (k, d, r, t, n, q)) _ rfl rfl (by rw [kg HX.out]; exact kw) ?_
       intro W0 hb0 hy0 hs0
       have HB0 := hid hb0; have HY0 := hid hy0
       clear hb0 hy0 hs0)
    | (with_reducible refine kH ?_
       refine kA (by rfl) 117 _ rfl (jq (true, false, false, false, true)) _ rfl rfl jr ?_
       intro W1 hb1 hy1 hs1
       have HB1 := hid hb1; have HY1 := hid hy1
       clear hb1 hy1 hs1))
  have hzx : w.heap.size < W0.heap.size := (Array.getElem?_eq_some_iff.1 HY0.out).1
  have HYX := hid ((HB1.out.block w.heap.size hzx).trans HY0.out)
  have c0 : W1.cell? ⟨W0.heap.size, 0, none⟩ = some (.bool true) := k6 HY1.out 0
  have c1 : W1.cell? ⟨W0.heap.size, 1, none⟩ = some (.bool false) := k6 HY1.out 1
  have c2 : W1.cell? ⟨W0.heap.size, 2, none⟩ = some (.bool false) := k6 HY1.out 2
  have c3 : W1.cell? ⟨W0.heap.size, 3, none⟩ = some (.bool false) := k6 HY1.out 3
  have c4 : W1.cell? ⟨W0.heap.size, 4, none⟩ = some (.bool true) := k6 HY1.out 4
  have x3 : W1.cell? ⟨w.heap.size, 67, none⟩ = some (.string t) := (k6 HYX.out 67).trans (ky HX.out).2.2.2.1
  have x4 : W1.cell? ⟨w.heap.size, 68, none⟩ = some (.int .i64 n) := (k6 HYX.out 68).trans (ky HX.out).2.2.2.2.1
  have x5 : W1.cell? ⟨w.heap.size, 69, none⟩ = some (.string q) := (k6 HYX.out 69).trans (ky HX.out).2.2.2.2.2
  clear hzx
  by_cases h2 : r = kc
  ·
   by_cases h3 : t = k7
   ·
    by_cases h4 : n = 0
    all_goals
      have EQ2 := hid (fun (u : World) => (kM HX.out.1.2.1 ku u).trans (by rw [decide_eq_true h2]))
      have e3 : t.toList.isEmpty = true := by rw [kD]; exact decide_eq_true h3
    focus
      have e4 : (n == 0) = true := by rw [h4]; rfl
      have HE : Hid (ks (k, d, r, t, n, q) (true, false, false, false, true) = true) := hid (by unfold ks; simp [h2, h3, h4])
    rotate_left
    focus
      have e4 : (n == 0) = false := by rw [beq_eq_false_iff_ne]; exact h4
      have HE : Hid (ks (k, d, r, t, n, q) (true, false, false, false, true) = false) := hid (by unfold ks; simp [h2, h3, h4])
    all_goals
      clear h2 h3 h4
      go_wp2_with (first
        | (with_reducible refine ke ?_
           refine k9 (by rfl) (kd 68 _ rfl (p := ⟨w.heap.size, 34, none⟩) rfl (run_loadVar_mid _ _ _ _ (kf r) _ (fun j u hj => (k6 HYX.out (34 + j)).trans ((ky HX.out).2.2.1 j u hj)) Tryz.underlying68 rfl (by rw [k8 HX.out.1.2.1]; exact kn))) ?_)
        | (with_reducible refine kP ?_
           refine k9 (by rfl) (Kc 68 _ _ _ rfl (xs := (kf r).toArray) (ys := (kf kc).toArray) rfl rfl (r := true) eqRef.noGuard (EQ2.out _)) ?_)
        | (with_reducible refine kQ ?_
           refine k9 (by rfl) (kF 68 #[] rfl (jF _)) ?_))
      go_ret
      exact ⟨HB0.out.trans (HB1.out.mono (by have := HB0.out.size; omega)), by rw [HE.out]; rfl⟩
   ·
    have EQ2 := hid (fun (u : World) => (kM HX.out.1.2.1 ku u).trans (by rw [decide_eq_true h2]))
    have e3 : t.toList.isEmpty = false := by rw [kD]; exact decide_eq_false h3
    have HE : Hid (ks (k, d, r, t, n, q) (true, false, false, false, true) = false) := hid (by unfold ks; simp [h2, h3])
    clear h2 h3
    go_wp2_with (first
      | (with_reducible refine ke ?_
         refine k9 (by rfl) (kd 68 _ rfl (p := ⟨w.heap.size, 34, none⟩) rfl (run_loadVar_mid _ _ _ _ (kf r) _ (fun j u hj => (k6 HYX.out (34 + j)).trans ((ky HX.out).2.2.1 j u hj)) Tryz.underlying68 rfl (by rw [k8 HX.out.1.2.1]; exact kn))) ?_)
      | (with_reducible refine kP ?_
         refine k9 (by rfl) (Kc 68 _ _ _ rfl (xs := (kf r).toArray) (ys := (kf kc).toArray) rfl rfl (r := true) eqRef.noGuard (EQ2.out _)) ?_)
      | (with_reducible refine kQ ?_
         refine k9 (by rfl) (kF 68 #[] rfl (jF _)) ?_))
    go_ret
    exact ⟨HB0.out.trans (HB1.out.mono (by have := HB0.out.size; omega)), by rw [HE.out]; rfl⟩
  ·
   have EQ2 := hid (fun (u : World) => (kM HX.out.1.2.1 ku u).trans (by rw [decide_eq_false h2]))
   have HE : Hid (ks (k, d, r, t, n, q) (true, false, false, false, true) = false) := hid (by unfold ks; simp [h2])
   clear h2
   go_wp2_with (first
     | (with_reducible refine ke ?_
        refine k9 (by rfl) (kd 68 _ rfl (p := ⟨w.heap.size, 34, none⟩) rfl (run_loadVar_mid _ _ _ _ (kf r) _ (fun j u hj => (k6 HYX.out (34 + j)).trans ((ky HX.out).2.2.1 j u hj)) Tryz.underlying68 rfl (by rw [k8 HX.out.1.2.1]; exact kn))) ?_)
     | (with_reducible refine kP ?_
        refine k9 (by rfl) (Kc 68 _ _ _ rfl (xs := (kf r).toArray) (ys := (kf kc).toArray) rfl rfl (r := false) eqRef.noGuard (EQ2.out _)) ?_)
     | (with_reducible refine kQ ?_
        refine k9 (by rfl) (kF 68 #[] rfl (jF _)) ?_))
   go_ret
   exact ⟨HB0.out.trans (HB1.out.mono (by have := HB0.out.size; omega)), by rw [HE.out]; rfl⟩
theorem absent_5 (k : UInt8) (d r : za) (t : ByteArray) (n : Int) (q : ByteArray) (w : World) (hx : KW (k, d, r, t, n, q)) :
    Calls Tryz.prog 99 #[.agg (opV (k, d, r, t, n, q)).toArray, zC (true, false, false, false, false)] w fun e w' => Below w.heap.size w w' ∧ e = .returned (.bool (ks (k, d, r, t, n, q) (true, false, false, false, false))) := by
  have HX := hid hx
  clear hx
  go_enter Tryz.func99, Tryz.ntmps99
  go_upto_region 1 with (first
    | (with_reducible refine kH ?_
       refine kA (by rfl) 70 _ rfl (opV (k, d, r, t, n, q)) _ rfl rfl (by rw [kg HX.out]; exact kw) ?_
       intro W0 hb0 hy0 hs0
       have HB0 := hid hb0; have HY0 := hid hy0
       clear hb0 hy0 hs0)
    | (with_reducible refine kH ?_
       refine kA (by rfl) 117 _ rfl (jq (true, false, false, false, false)) _ rfl rfl jr ?_
       intro W1 hb1 hy1 hs1
       have HB1 := hid hb1; have HY1 := hid hy1
       clear hb1 hy1 hs1))
  have hzx : w.heap.size < W0.heap.size := (Array.getElem?_eq_some_iff.1 HY0.out).1
  have HYX := hid ((HB1.out.block w.heap.size hzx).trans HY0.out)
  have c0 : W1.cell? ⟨W0.heap.size, 0, none⟩ = some (.bool true) := k6 HY1.out 0
  have c1 : W1.cell? ⟨W0.heap.size, 1, none⟩ = some (.bool false) := k6 HY1.out 1
  have c2 : W1.cell? ⟨W0.heap.size, 2, none⟩ = some (.bool false) := k6 HY1.out 2
  have c3 : W1.cell? ⟨W0.heap.size, 3, none⟩ = some (.bool false) := k6 HY1.out 3
  have c4 : W1.cell? ⟨W0.heap.size, 4, none⟩ = some (.bool false) := k6 HY1.out 4
  have x3 : W1.cell? ⟨w.heap.size, 67, none⟩ = some (.string t) := (k6 HYX.out 67).trans (ky HX.out).2.2.2.1
  have x4 : W1.cell? ⟨w.heap.size, 68, none⟩ = some (.int .i64 n) := (k6 HYX.out 68).trans (ky HX.out).2.2.2.2.1
  have x5 : W1.cell? ⟨w.heap.size, 69, none⟩ = some (.string q) := (k6 HYX.out 69).trans (ky HX.out).2.2.2.2.2
  clear hzx
  by_cases h2 : r = kc
  ·
   by_cases h3 : t = k7
   ·
    by_cases h4 : n = 0
    ·
     by_cases h5 : q = k7
     all_goals
       have EQ2 := hid (fun (u : World) => (kM HX.out.1.2.1 ku u).trans (by rw [decide_eq_true h2]))
       have e3 : t.toList.isEmpty = true := by rw [kD]; exact decide_eq_true h3
       have e4 : (n == 0) = true := by rw [h4]; rfl
     focus
       have e5 : q.toList.isEmpty = true := by rw [kD]; exact decide_eq_true h5
       have HE : Hid (ks (k, d, r, t, n, q) (true, false, false, false, false) = true) := hid (by unfold ks; simp [h2, h3, h4, h5])
     rotate_left
     focus
       have e5 : q.toList.isEmpty = false := by rw [kD]; exact decide_eq_false h5
       have HE : Hid (ks (k, d, r, t, n, q) (true, false, false, false, false) = false) := hid (by unfold ks; simp [h2, h3, h4, h5])
     all_goals
       clear h2 h3 h4 h5
       go_wp2_with (first
         | (with_reducible refine ke ?_
            refine k9 (by rfl) (kd 68 _ rfl (p := ⟨w.heap.size, 34, none⟩) rfl (run_loadVar_mid _ _ _ _ (kf r) _ (fun j u hj => (k6 HYX.out (34 + j)).trans ((ky HX.out).2.2.1 j u hj)) Tryz.underlying68 rfl (by rw [k8 HX.out.1.2.1]; exact kn))) ?_)
         | (with_reducible refine kP ?_
            refine k9 (by rfl) (Kc 68 _ _ _ rfl (xs := (kf r).toArray) (ys := (kf kc).toArray) rfl rfl (r := true) eqRef.noGuard (EQ2.out _)) ?_)
         | (with_reducible refine kQ ?_
            refine k9 (by rfl) (kF 68 #[] rfl (jF _)) ?_))
       go_ret
       exact ⟨HB0.out.trans (HB1.out.mono (by have := HB0.out.size; omega)), by rw [HE.out]; rfl⟩
    ·
     have EQ2 := hid (fun (u : World) => (kM HX.out.1.2.1 ku u).trans (by rw [decide_eq_true h2]))
     have e3 : t.toList.isEmpty = true := by rw [kD]; exact decide_eq_true h3
     have e4 : (n == 0) = false := by rw [beq_eq_false_iff_ne]; exact h4
     have HE : Hid (ks (k, d, r, t, n, q) (true, false, false, false, false) = false) := hid (by unfold ks; simp [h2, h3, h4])
     clear h2 h3 h4
     go_wp2_with (first
       | (with_reducible refine ke ?_
          refine k9 (by rfl) (kd 68 _ rfl (p := ⟨w.heap.size, 34, none⟩) rfl (run_loadVar_mid _ _ _ _ (kf r) _ (fun j u hj => (k6 HYX.out (34 + j)).trans ((ky HX.out).2.2.1 j u hj)) Tryz.underlying68 rfl (by rw [k8 HX.out.1.2.1]; exact kn))) ?_)
       | (with_reducible refine kP ?_
          refine k9 (by rfl) (Kc 68 _ _ _ rfl (xs := (kf r).toArray) (ys := (kf kc).toArray) rfl rfl (r := true) eqRef.noGuard (EQ2.out _)) ?_)
       | (with_reducible refine kQ ?_
          refine k9 (by rfl) (kF 68 #[] rfl (jF _)) ?_))
     go_ret
     exact ⟨HB0.out.trans (HB1.out.mono (by have := HB0.out.size; omega)), by rw [HE.out]; rfl⟩
   ·
    have EQ2 := hid (fun (u : World) => (kM HX.out.1.2.1 ku u).trans (by rw [decide_eq_true h2]))
    have e3 : t.toList.isEmpty = false := by rw [kD]; exact decide_eq_false h3
    have HE : Hid (ks (k, d, r, t, n, q) (true, false, false, false, false) = false) := hid (by unfold ks; simp [h2, h3])
    clear h2 h3
    go_wp2_with (first
      | (with_reducible refine ke ?_
         refine k9 (by rfl) (kd 68 _ rfl (p := ⟨w.heap.size, 34, none⟩) rfl (run_loadVar_mid _ _ _ _ (kf r) _ (fun j u hj => (k6 HYX.out (34 + j)).trans ((ky HX.out).2.2.1 j u hj)) Tryz.underlying68 rfl (by rw [k8 HX.out.1.2.1]; exact kn))) ?_)
      | (with_reducible refine kP ?_
         refine k9 (by rfl) (Kc 68 _ _ _ rfl (xs := (kf r).toArray) (ys := (kf kc).toArray) rfl rfl (r := true) eqRef.noGuard (EQ2.out _)) ?_)
      | (with_reducible refine kQ ?_
         refine k9 (by rfl) (kF 68 #[] rfl (jF _)) ?_))
    go_ret
    exact ⟨HB0.out.trans (HB1.out.mono (by have := HB0.out.size; omega)), by rw [HE.out]; rfl⟩
  ·
   have EQ2 := hid (fun (u : World) => (kM HX.out.1.2.1 ku u).trans (by rw [decide_eq_false h2]))
   have HE : Hid (ks (k, d, r, t, n, q) (true, false, false, false, false) = false) := hid (by unfold ks; simp [h2])
   clear h2
   go_wp2_with (first
     | (with_reducible refine ke ?_
        refine k9 (by rfl) (kd 68 _ rfl (p := ⟨w.heap.size, 34, none⟩) rfl (run_loadVar_mid _ _ _ _ (kf r) _ (fun j u hj => (k6 HYX.out (34 + j)).trans ((ky HX.out).2.2.1 j u hj)) Tryz.underlying68 rfl (by rw [k8 HX.out.1.2.1]; exact kn))) ?_)
     | (with_reducible refine kP ?_
        refine k9 (by rfl) (Kc 68 _ _ _ rfl (xs := (kf r).toArray) (ys := (kf kc).toArray) rfl rfl (r := false) eqRef.noGuard (EQ2.out _)) ?_)
     | (with_reducible refine kQ ?_
        refine k9 (by rfl) (kF 68 #[] rfl (jF _)) ?_))
   go_ret
   exact ⟨HB0.out.trans (HB1.out.mono (by have := HB0.out.size; omega)), by rw [HE.out]; rfl⟩
theorem jz (x : OpD) (p : Jq) (k : UInt8) (w : World) (hx : KW x) (hp : kq k = some p) :
    Calls Tryz.prog 99 #[.agg (opV x).toArray, zC p] w fun e w' => Below w.heap.size w w' ∧ e = .returned (.bool (ks x p)) := by
  obtain ⟨k', d, r, t, n, q⟩ := x
  rcases Jh hp with ⟨_, rfl⟩ | ⟨_, rfl⟩ | ⟨_, rfl⟩ | ⟨_, rfl⟩ | ⟨_, rfl⟩
  · exact absent_1 k' d r t n q w hx
  · exact absent_2 k' d r t n q w hx
  · exact absent_3 k' d r t n q w hx
  · exact absent_4 k' d r t n q w hx
  · exact absent_5 k' d r t n q w hx
end Go.Proofs.YthjaepmfkgejkaaGreatDoor
