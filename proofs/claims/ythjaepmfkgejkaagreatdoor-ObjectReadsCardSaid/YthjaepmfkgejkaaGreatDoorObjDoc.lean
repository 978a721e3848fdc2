/-
  What the checker's doc gives. Conditions: ids of 32 bytes; lists of at most 2^40.
-/
import Derived.Test.YthjaepmfkgejkaaGreatDoorMerged12
set_option linter.unusedVariables false
set_option linter.unusedSimpArgs false
set_option maxHeartbeats 4000000
set_option maxRecDepth 100000
namespace Go.Proofs.YthjaepmfkgejkaaGreatDoor
open Lib (hid)
open Go.RowKit Go.Maps
theorem KV (g : Nat) (deps : List (List UInt8)) (mk : List jK) (r : za) (w : World) (hk : CkAt w g deps mk) (ho : IdsOk deps) (hn : deps.length ≤ 1099511627776) (hmn : mk.length ≤ 1099511627776) (hm : ∀ m ∈ mk, JT m) (hr : zb r) :
    Calls Tryz.prog 100 #[.pointer (some ⟨g, 0, none⟩), .agg (kf r).toArray] w fun e w' => Below w.heap.size w w' ∧ e = .returned (.bool (KP deps mk r)) := by
  have hsz : (Tryz.prog.info? 47).map (·.size) = some (idV r.1).length := by rw [km, show r.1.length = 32 from hr.1]; exact kR
  have hsr : (Tryz.prog.info? 68).map (·.size) = some (kf r).length := by rw [k8 hr]; exact kn
  have HSZ := hid hsz; have HSR := hid hsr
  have HW := hid (jM hr.2)
  have EQ0 := hid (fun (u : World) => zV hr.1 zM u)
  have ZB := hid jX
  have HCK := hid hk; have HO := hid ho; have HR := hid hr
  clear hsz hsr
  have HM := hid hm
  by_cases hz : r.1 = zero32
  ·
   have dz : decide (r.1 = zero32) = true := by simp [hz]
   have EQ := hid (fun (u : World) => (EQ0.out u).trans (by rw [dz]))
   clear dz EQ0
   have HF : Hid (KP deps mk r = (decide (0 ≤ r.2) && decide (r.2 < mk.length) && (mk.getD r.2.toNat (false, kc)).1)) := hid (by unfold KP; rw [if_neg (by simp [hz])])
   clear hz hk ho hr hm
   rcases (by omega : r.2 < 0 ∨ (0 ≤ r.2 ∧ (mk.length : Int) ≤ r.2) ∨ (0 ≤ r.2 ∧ r.2 < mk.length)) with q | ⟨q, q2⟩ | ⟨q, q2⟩
   focus
     have d1 : decide (0 ≤ r.2) = false := by simp; omega
     have HE : Hid (KP deps mk r = false) := hid (by rw [HF.out, d1]; rfl)
     clear q
     go_enter Tryz.func100, Tryz.ntmps100
     go_upto_region 1 with fail
     obtain ⟨W0, hW0⟩ : ∃ W0, (w.alloc (.cells (kf r).toArray 68)) = W0 := ⟨_, rfl⟩
     have HB0 := hid (show Below w.heap.size w W0 by rw [← hW0]; exact (Below.refl _ _).alloc (Nat.le_refl _) _)
     have HZ := hid (show w.heap.size < W0.heap.size by rw [← hW0]; simp)
     have HX32 := hid (show W0.cell? ⟨w.heap.size, 32, none⟩ = some (.int .i64 r.2) by rw [← hW0]; exact jp w _ _ _ _ (kI HR.out).2)
     have HXI := hid (show W0.rangeAt w.heap.size 0 (idV r.1) by rw [← hW0]; exact fun j u hj => by rw [Nat.zero_add]; exact jp w _ _ _ _ ((kI HR.out).1 j u hj))
     have HXR := hid (show W0.rangeAt w.heap.size 0 (kf r) by rw [← hW0]; exact fun j u hj => by rw [Nat.zero_add]; exact jp w _ _ _ _ hj)
     rw [hW0]
     clear hW0
     go_upto_region 3 with (first
       | (refine k9 (by rfl) (kd 47 _ rfl (p := ⟨w.heap.size, 0, none⟩) rfl (run_loadVar_mid _ _ _ _ _ _ HXI.out Tryz.underlying47 rfl HSZ.out)) ?_)
       | (refine k9 (by rfl) (kF 47 #[] rfl (ZB.out _)) ?_)
       | (refine k9 (by rfl) (jc 47 _ _ _ rfl (xs := (idV r.1).toArray) (ys := (idV zero32).toArray) rfl rfl (r := true) eqId.noGuard (EQ.out _)) ?_; simp only [Act.put, List.setIfInBounds_toArray, List.set_cons_zero, List.set_cons_succ, Bool.not_true, Bool.not_false]))
     have c32 := Wg.cell HX32.out HZ.out
   rotate_left
   focus
     have d1 : decide (0 ≤ r.2) = true := by simp; omega
     have d2 : decide (r.2 < (mk.length : Int)) = false := by simp; omega
     have HE : Hid (KP deps mk r = false) := hid (by rw [HF.out, d1, d2]; rfl)
     clear q q2
     go_enter Tryz.func100, Tryz.ntmps100
     go_upto_region 1 with fail
     obtain ⟨W0, hW0⟩ : ∃ W0, (w.alloc (.cells (kf r).toArray 68)) = W0 := ⟨_, rfl⟩
     have HB0 := hid (show Below w.heap.size w W0 by rw [← hW0]; exact (Below.refl _ _).alloc (Nat.le_refl _) _)
     have HZ := hid (show w.heap.size < W0.heap.size by rw [← hW0]; simp)
     have HX32 := hid (show W0.cell? ⟨w.heap.size, 32, none⟩ = some (.int .i64 r.2) by rw [← hW0]; exact jp w _ _ _ _ (kI HR.out).2)
     have HXI := hid (show W0.rangeAt w.heap.size 0 (idV r.1) by rw [← hW0]; exact fun j u hj => by rw [Nat.zero_add]; exact jp w _ _ _ _ ((kI HR.out).1 j u hj))
     have HXR := hid (show W0.rangeAt w.heap.size 0 (kf r) by rw [← hW0]; exact fun j u hj => by rw [Nat.zero_add]; exact jp w _ _ _ _ hj)
     rw [hW0]
     clear hW0
     go_upto_region 3 with (first
       | (refine k9 (by rfl) (kd 47 _ rfl (p := ⟨w.heap.size, 0, none⟩) rfl (run_loadVar_mid _ _ _ _ _ _ HXI.out Tryz.underlying47 rfl HSZ.out)) ?_)
       | (refine k9 (by rfl) (kF 47 #[] rfl (ZB.out _)) ?_)
       | (refine k9 (by rfl) (jc 47 _ _ _ rfl (xs := (idV r.1).toArray) (ys := (idV zero32).toArray) rfl rfl (r := true) eqId.noGuard (EQ.out _)) ?_; simp only [Act.put, List.setIfInBounds_toArray, List.set_cons_zero, List.set_cons_succ, Bool.not_true, Bool.not_false]))
     have c32 := Wg.cell HX32.out HZ.out
     obtain ⟨Ad, cd, vm, h1, h2, h3⟩ := HCK.out
     have cm := Wg.cell ((HB0.out.cell (p := ⟨g, 1, none⟩) HCK.out.lt).trans (k6 h1 1)) (Nat.lt_of_lt_of_le HCK.out.lt HB0.out.size)
     obtain ⟨Am, cm2, rfl⟩ : ∃ Am cm2, vm = .slice Am mk.length cm2 := kB h3
     clear h1 h2 h3
   rotate_left
   focus
     obtain ⟨i, hi⟩ : ∃ i : Nat, r.2 = (i : Int) := ⟨r.2.toNat, by omega⟩
     have hil : i < mk.length := by omega
     have hpos : 0 < mk.length := by omega
     have HE : Hid (KP deps mk r = mk[i].1) := hid (by rw [HF.out, decide_eq_true q, decide_eq_true q2, hi, Int.toNat_natCast, List.getD_eq_getElem?_getD, List.getElem?_eq_getElem hil]; rfl)
     have HI := hid hi
     have i1 : (0 : Int) ≤ (i : Int) := by omega
     have i2 : (i : Int) < (mk.length : Int) := by omega
     clear q q2 hi
     go_enter Tryz.func100, Tryz.ntmps100
     go_upto_region 1 with fail
     obtain ⟨W0, hW0⟩ : ∃ W0, (w.alloc (.cells (kf r).toArray 68)) = W0 := ⟨_, rfl⟩
     have HB0 := hid (show Below w.heap.size w W0 by rw [← hW0]; exact (Below.refl _ _).alloc (Nat.le_refl _) _)
     have HZ := hid (show w.heap.size < W0.heap.size by rw [← hW0]; simp)
     have HX32 := hid (show W0.cell? ⟨w.heap.size, 32, none⟩ = some (.int .i64 r.2) by rw [← hW0]; exact jp w _ _ _ _ (kI HR.out).2)
     have HXI := hid (show W0.rangeAt w.heap.size 0 (idV r.1) by rw [← hW0]; exact fun j u hj => by rw [Nat.zero_add]; exact jp w _ _ _ _ ((kI HR.out).1 j u hj))
     have HXR := hid (show W0.rangeAt w.heap.size 0 (kf r) by rw [← hW0]; exact fun j u hj => by rw [Nat.zero_add]; exact jp w _ _ _ _ hj)
     rw [hW0]
     clear hW0
     go_upto_region 3 with (first
       | (refine k9 (by rfl) (kd 47 _ rfl (p := ⟨w.heap.size, 0, none⟩) rfl (run_loadVar_mid _ _ _ _ _ _ HXI.out Tryz.underlying47 rfl HSZ.out)) ?_)
       | (refine k9 (by rfl) (kF 47 #[] rfl (ZB.out _)) ?_)
       | (refine k9 (by rfl) (jc 47 _ _ _ rfl (xs := (idV r.1).toArray) (ys := (idV zero32).toArray) rfl rfl (r := true) eqId.noGuard (EQ.out _)) ?_; simp only [Act.put, List.setIfInBounds_toArray, List.set_cons_zero, List.set_cons_succ, Bool.not_true, Bool.not_false]))
     have c32 := Wg.cell HX32.out HZ.out
     obtain ⟨Ad, cd, vm, h1, h2, h3⟩ := HCK.out
     have cm := Wg.cell ((HB0.out.cell (p := ⟨g, 1, none⟩) HCK.out.lt).trans (k6 h1 1)) (Nat.lt_of_lt_of_le HCK.out.lt HB0.out.size)
     obtain ⟨gm, cm2, rfl, -⟩ := vO h3 hpos
     have cell := h3.cellAt (i * 34 + 0) (by omega)
     rw [Z4 (fun m h => kX (HM.out m h)) i hil 0 (.bool mk[i].1) rfl] at cell
     have CD := Wg.cell ((HB0.out.cell (p := ⟨gm, i * 34 + 0, none⟩) (h3.lt gm rfl).2).trans cell) (Nat.lt_of_lt_of_le (h3.lt gm rfl).2 HB0.out.size)
     rw [Nat.add_zero] at CD
     rw [HI.out] at c32
     clear h1 h2 h3 cell
   all_goals
     refine jv (by kernel_rfl) (by kernel_rfl) ?_
     repeat (first
       | go_big_quiet_skip
       | (go_big_quiet_want
          first
            | (go_big_quiet_op
               first
                 | go_big_quiet_on
                 | go_big_quiet_call (first | (fail)))))
     refine wpQuiet_nil ?_
     rintro w' ⟨kk, rfl⟩
     have hk2 := kk.2
     generalize kk.val = w2 at *
     clear kk
     have HB2 := hid (HB0.out.trans (hk2.below.mono HB0.out.size))
     go_wp2_with fail
     go_ret
     exact ⟨HB2.out, by rw [HE.out]; rfl⟩
  ·
   have dz : decide (r.1 = zero32) = false := by simp [hz]
   have EQ := hid (fun (u : World) => (EQ0.out u).trans (by rw [dz]))
   clear dz EQ0
   have HE : Hid (KP deps mk r = zl deps r) := hid (by unfold KP; rw [if_pos hz])
   clear hz hk ho hr hm
   go_enter Tryz.func100, Tryz.ntmps100
   go_upto_region 1 with fail
   obtain ⟨W0, hW0⟩ : ∃ W0, (w.alloc (.cells (kf r).toArray 68)) = W0 := ⟨_, rfl⟩
   have HB0 := hid (show Below w.heap.size w W0 by rw [← hW0]; exact (Below.refl _ _).alloc (Nat.le_refl _) _)
   have HZ := hid (show w.heap.size < W0.heap.size by rw [← hW0]; simp)
   have HX32 := hid (show W0.cell? ⟨w.heap.size, 32, none⟩ = some (.int .i64 r.2) by rw [← hW0]; exact jp w _ _ _ _ (kI HR.out).2)
   have HXI := hid (show W0.rangeAt w.heap.size 0 (idV r.1) by rw [← hW0]; exact fun j u hj => by rw [Nat.zero_add]; exact jp w _ _ _ _ ((kI HR.out).1 j u hj))
   have HXR := hid (show W0.rangeAt w.heap.size 0 (kf r) by rw [← hW0]; exact fun j u hj => by rw [Nat.zero_add]; exact jp w _ _ _ _ hj)
   rw [hW0]
   clear hW0
   have HCK0 := hid (HCK.out.keep HB0.out)
   go_wp2_with (first
     | (refine k9 (by rfl) (kd 47 _ rfl (p := ⟨w.heap.size, 0, none⟩) rfl (run_loadVar_mid _ _ _ _ _ _ HXI.out Tryz.underlying47 rfl HSZ.out)) ?_)
     | (refine k9 (by rfl) (kF 47 #[] rfl (ZB.out _)) ?_)
     | (refine k9 (by rfl) (jc 47 _ _ _ rfl (xs := (idV r.1).toArray) (ys := (idV zero32).toArray) rfl rfl (r := false) eqId.noGuard (EQ.out _)) ?_; simp only [Act.put, List.setIfInBounds_toArray, List.set_cons_zero, List.set_cons_succ, Bool.not_true, Bool.not_false])
     | (refine k9 (by rfl) (kd 68 _ rfl (p := ⟨w.heap.size, 0, none⟩) rfl (run_loadVar_mid _ _ _ _ _ _ HXR.out Tryz.underlying68 rfl HSR.out)) ?_)
     | (go_at_call 123; refine (uu g deps mk r W0 HCK0.out HO.out hn HR.out).mono ?_; rintro e w2 ⟨hb2, rfl⟩))
   go_ret
   exact ⟨HB0.out.trans (hb2.mono HB0.out.size), by rw [HE.out]; rfl⟩
end Go.Proofs.YthjaepmfkgejkaaGreatDoor
