/-
  What the checker's elements gives. Conditions: as each says.
-/
import Derived.Test.YtdgbjhfkmembdaaGreatDoorShort0
import Derived.Test.YtdgbjhfkmembdaaGreatDoorShort9
import Derived.Test.YtdgbjhfkmembdaaGreatDoorShort8
import Derived.Test.YtdgbjhfkmembdaaGreatDoorObjDoc
import Derived.Test.YtdgbjhfkmembdaaGreatDoorStoreM
import Derived.Test.YtdgbjhfkmembdaaGreatDoorSliceOp
namespace Go.Proofs.YtdgbjhfkmembdaaGreatDoor
open Go.RowKit Go.Maps
set_option linter.unusedVariables false
set_option linter.unusedSimpArgs false

theorem sizeMade : (Tryz.prog.info? 373).map (·.size) = some 34 := by kernel_rfl
theorem zeroMade_run (w : World) : (zeroValue 373).run Tryz.prog w = .ok (.agg (madeV (false, zeroRef)).toArray) w := by kernel_rfl
def okM (d : RefD) (m : MadeD) : Bool := !m.1 && decide (m.2 = d)
theorem elems_all (deps : List (List UInt8)) (mk : List MadeD) (r d : RefD) (i m : Nat) (hz : r.1 = zero32) (hi : r.2 = (i : Int)) (hm : i + m ≤ mk.length) : elemsB deps mk r d (m : Int) = ((mk.drop i).take m).all (okM d) := by
  unfold elemsB
  rw [if_neg (by simp [hz]), hi]
  have h1 : decide ((0 : Int) ≤ (i : Int)) = true := by simp
  have h2 : decide ((m : Int) ≤ (mk.length : Int)) = true := by simp; omega
  have h3 : decide ((i : Int) ≤ (mk.length : Int) - (m : Int)) = true := by simp; omega
  rw [h1, h2, h3]
  rfl
set_option maxHeartbeats 4000000 in
set_option maxRecDepth 100000 in
theorem elements_any (g : Nat) (deps : List (List UInt8)) (mk : List MadeD) (r d : RefD) (m : Nat) (w : World) (hk : CkAt w g deps mk) (ho : IdsOk deps) (hn : deps.length ≤ 1099511627776) (hmn : mk.length ≤ 1099511627776) (hmk : ∀ m ∈ mk, MadeOk m) (hr : RefOk r) (hd : RefOk d) (hm1 : 1 ≤ m) (hm2 : m ≤ 4096) :
    Calls Tryz.prog 251 #[.pointer (some ⟨g, 0, none⟩), .agg (refV r).toArray, .agg (refV d).toArray, .int .i64 (m : Int)] w fun e w' => Below w.heap.size w w' ∧ e = .returned (.bool (elemsB deps mk r d (m : Int))) := by
  have hk2 := hk
  have hsz : (Tryz.prog.info? 41).map (·.size) = some (idV r.1).length := by rw [idV_length, show r.1.length = 32 from hr.1]; exact sizeId2
  have HSZ := Lib.hid hsz; have HR := Lib.hid hr; have HD := Lib.hid hd; have HCK := Lib.hid hk; have HO := Lib.hid ho; have HM := Lib.hid hmk
  have HWF := Lib.hid (wf_bound hr.2)
  have EQ0 := Lib.hid (fun (u : World) => run_eqId hr.1 zero32_ok u)
  have ZB := Lib.hid zeroId_built
  by_cases hz : r.1 = zero32
  · have EQ := Lib.hid (fun (u : World) => (EQ0.out u).trans (by rw [dT hz]))
    have HF : Hid (elemsB deps mk r d (m : Int) = (decide (0 ≤ r.2) && decide ((m : Int) ≤ mk.length) && decide (r.2 ≤ mk.length - (m : Int)) && ((mk.drop r.2.toNat).take (m : Int).toNat).all fun q => !q.1 && decide (q.2 = d))) := Lib.hid (by unfold elemsB; rw [if_neg (by simp [hz])])
    have HZ0 := Lib.hid hz
    clear hsz EQ0 hz hr hd hk ho hmk
    rcases (by omega : r.2 < 0 ∨ (0 ≤ r.2 ∧ mk.length < m) ∨ (0 ≤ r.2 ∧ m ≤ mk.length ∧ (mk.length : Int) - m < r.2) ∨ (0 ≤ r.2 ∧ m ≤ mk.length ∧ r.2 ≤ (mk.length : Int) - m)) with q | ⟨q, q2⟩ | ⟨q, q2, q3⟩ | ⟨q, q2, q3⟩
    · have d1 : decide (r.2 < 0) = true := dT q
      have HE : Hid (elemsB deps mk r d (m : Int) = false) := Lib.hid (by rw [HF.out, dF (show ¬ (0 : Int) ≤ r.2 by omega)]; rfl)
      clear q
      go_enter Tryz.func251, Tryz.ntmps251
      go_upto_region 1 with (first
        | (with_reducible refine at_box ?_
           refine wp_boxM (by rfl) 110 _ rfl (refV r) _ rfl rfl (by rw [refV_length HR.out]; exact sizeRef33) ?_
           intro W0 hb0 hy0 hs0
           have HB0 := Lib.hid hb0; have HY0 := Lib.hid hy0; have HS0 := Lib.hid hs0
           clear hb0 hy0 hs0)
        | (with_reducible refine at_box ?_
           refine wp_boxM (by rfl) 110 _ rfl (refV d) _ rfl rfl (by rw [refV_length HD.out]; exact sizeRef33) ?_
           intro W1 hb1 hy1 hs1
           have HB1 := Lib.hid hb1; have HY1 := Lib.hid hy1; have HS1 := Lib.hid hs1
           clear hb1 hy1 hs1))
      have HLTG := Lib.hid hk2.lt
      have hzr : w.heap.size < W0.heap.size := (qX HY0.out)
      have HYR := Lib.hid ((HB1.out.block w.heap.size hzr).trans HY0.out)
      have HBW := Lib.hid (HB0.out.trans (HB1.out.mono (Nat.le_of_lt hzr)))
      have HCK1 := Lib.hid (HCK.out.keep HBW.out)
      have hzr1 : w.heap.size < W1.heap.size := qL hzr HB1.out.size
      have hzd1 : W0.heap.size < W1.heap.size := (qX HY1.out)
      obtain ⟨zr, hzr0⟩ : ∃ zr, w.heap.size = zr := ⟨_, rfl⟩
      obtain ⟨zd, hzd0⟩ : ∃ zd, W0.heap.size = zd := ⟨_, rfl⟩
      rw [hzr0] at HYR hzr1 ⊢
      rw [hzd0] at HY1 hzd1 ⊢
      have HZR := Lib.hid hzr0
      clear hzr hzr0 hzd0 HS0 HS1 HY0
      go_upto_region 3 with (first
        | (with_reducible refine at_load ?_
           refine wp_val (by rfl) (ex_load 41 _ rfl (p := ⟨zr, 0, none⟩) rfl (qV _ _ _ _ (idV r.1) _ (fun j u hj => by rw [qZ]; exact (cells_at0 HYR.out j).trans ((ref_cells HR.out).1 j u hj)) Tryz.underlying41 rfl HSZ.out)) ?_)
        | (with_reducible refine at_build ?_
           refine wp_val (by rfl) (ex_build 41 #[] rfl (ZB.out _)) ?_)
        | (with_reducible refine at_binOp ?_
           refine wp_val (by rfl) (ex_neq 41 _ _ _ rfl (xs := (idV r.1).toArray) (ys := (idV zero32).toArray) rfl rfl (r := true) eqId.noGuard (EQ.out _)) ?_; go_frame; try simp only [nTF]))
      have c32 := Wg.cell (show W1.cell? ⟨zr, 32, none⟩ = some (.int .i64 r.2) from (cells_at0 HYR.out 32).trans (ref_cells HR.out).2) hzr1
      obtain ⟨Ad, cd, vm, h1, h2, h3⟩ := HCK1.out
      have cm := Wg.cell (cells_at0 h1 1) HCK1.out.lt
      obtain ⟨Am, cm2, rfl⟩ : ∃ Am cm2, vm = .slice Am mk.length cm2 := own_form' h3
      clear h1 h2 h3
      refine wp_region_wr (by kernel_rfl) (by kernel_rfl) ?_
      repeat (first
        | go_big_quiet_skip
        | (go_big_quiet_want
           first
             | (go_big_quiet_op
                first
                  | go_big_quiet_on
                  | go_big_quiet_call (first | (fail)))))
      refine wpQuiet_nil ?_
      rintro w' ⟨kk, rfl⟩
      have hk5 := kk.2
      generalize kk.val = w5 at *
      clear kk
      have HB5 := Lib.hid (HBW.out.trans (hk5.below.mono HBW.out.size))
      clear c32 cm hk5
      go_wp2_with fail
      go_ret
      exact ⟨HB5.out, by rw [HE.out]; rfl⟩
    · have d1 : decide (r.2 < 0) = false := dF (by omega)
      have d2 : decide ((mk.length : Int) < (m : Int)) = true := dT (by omega)
      have d2' : decide (mk.length < m) = true := dT q2
      have HE : Hid (elemsB deps mk r d (m : Int) = false) := Lib.hid (by rw [HF.out, dF (show ¬ (m : Int) ≤ mk.length by omega)]; simp)
      clear q q2
      go_enter Tryz.func251, Tryz.ntmps251
      go_upto_region 1 with (first
        | (with_reducible refine at_box ?_
           refine wp_boxM (by rfl) 110 _ rfl (refV r) _ rfl rfl (by rw [refV_length HR.out]; exact sizeRef33) ?_
           intro W0 hb0 hy0 hs0
           have HB0 := Lib.hid hb0; have HY0 := Lib.hid hy0; have HS0 := Lib.hid hs0
           clear hb0 hy0 hs0)
        | (with_reducible refine at_box ?_
           refine wp_boxM (by rfl) 110 _ rfl (refV d) _ rfl rfl (by rw [refV_length HD.out]; exact sizeRef33) ?_
           intro W1 hb1 hy1 hs1
           have HB1 := Lib.hid hb1; have HY1 := Lib.hid hy1; have HS1 := Lib.hid hs1
           clear hb1 hy1 hs1))
      have HLTG := Lib.hid hk2.lt
      have hzr : w.heap.size < W0.heap.size := (qX HY0.out)
      have HYR := Lib.hid ((HB1.out.block w.heap.size hzr).trans HY0.out)
      have HBW := Lib.hid (HB0.out.trans (HB1.out.mono (Nat.le_of_lt hzr)))
      have HCK1 := Lib.hid (HCK.out.keep HBW.out)
      have hzr1 : w.heap.size < W1.heap.size := qL hzr HB1.out.size
      have hzd1 : W0.heap.size < W1.heap.size := (qX HY1.out)
      obtain ⟨zr, hzr0⟩ : ∃ zr, w.heap.size = zr := ⟨_, rfl⟩
      obtain ⟨zd, hzd0⟩ : ∃ zd, W0.heap.size = zd := ⟨_, rfl⟩
      rw [hzr0] at HYR hzr1 ⊢
      rw [hzd0] at HY1 hzd1 ⊢
      have HZR := Lib.hid hzr0
      clear hzr hzr0 hzd0 HS0 HS1 HY0
      go_upto_region 3 with (first
        | (with_reducible refine at_load ?_
           refine wp_val (by rfl) (ex_load 41 _ rfl (p := ⟨zr, 0, none⟩) rfl (qV _ _ _ _ (idV r.1) _ (fun j u hj => by rw [qZ]; exact (cells_at0 HYR.out j).trans ((ref_cells HR.out).1 j u hj)) Tryz.underlying41 rfl HSZ.out)) ?_)
        | (with_reducible refine at_build ?_
           refine wp_val (by rfl) (ex_build 41 #[] rfl (ZB.out _)) ?_)
        | (with_reducible refine at_binOp ?_
           refine wp_val (by rfl) (ex_neq 41 _ _ _ rfl (xs := (idV r.1).toArray) (ys := (idV zero32).toArray) rfl rfl (r := true) eqId.noGuard (EQ.out _)) ?_; go_frame; try simp only [nTF]))
      have c32 := Wg.cell (show W1.cell? ⟨zr, 32, none⟩ = some (.int .i64 r.2) from (cells_at0 HYR.out 32).trans (ref_cells HR.out).2) hzr1
      obtain ⟨Ad, cd, vm, h1, h2, h3⟩ := HCK1.out
      have cm := Wg.cell (cells_at0 h1 1) HCK1.out.lt
      obtain ⟨Am, cm2, rfl⟩ : ∃ Am cm2, vm = .slice Am mk.length cm2 := own_form' h3
      clear h1 h2 h3
      refine wp_region_wr (by kernel_rfl) (by kernel_rfl) ?_
      repeat (first
        | go_big_quiet_skip
        | (go_big_quiet_want
           first
             | (go_big_quiet_op
                first
                  | go_big_quiet_on
                  | go_big_quiet_call (first | (fail)))))
      refine wpQuiet_nil ?_
      rintro w' ⟨kk, rfl⟩
      have hk5 := kk.2
      generalize kk.val = w5 at *
      clear kk
      have HB5 := Lib.hid (HBW.out.trans (hk5.below.mono HBW.out.size))
      clear c32 cm hk5
      go_wp2_with fail
      go_ret
      exact ⟨HB5.out, by rw [HE.out]; rfl⟩
    · have d1 : decide (r.2 < 0) = false := dF (by omega)
      have d2 : decide ((mk.length : Int) < (m : Int)) = false := dF (by omega)
      have d2' : decide (mk.length < m) = false := dF (by omega)
      have d4 : IntKind.i64.wrap ((mk.length : Int) - (m : Int)) = (mk.length : Int) - (m : Int) := IntWalk.i64_in _ ⟨by omega, by omega⟩
      have d3 : decide ((mk.length : Int) - (m : Int) < r.2) = true := dT q3
      have HE : Hid (elemsB deps mk r d (m : Int) = false) := Lib.hid (by rw [HF.out, dF (show ¬ r.2 ≤ (mk.length : Int) - m by omega)]; simp)
      clear q q2 q3
      go_enter Tryz.func251, Tryz.ntmps251
      go_upto_region 1 with (first
        | (with_reducible refine at_box ?_
           refine wp_boxM (by rfl) 110 _ rfl (refV r) _ rfl rfl (by rw [refV_length HR.out]; exact sizeRef33) ?_
           intro W0 hb0 hy0 hs0
           have HB0 := Lib.hid hb0; have HY0 := Lib.hid hy0; have HS0 := Lib.hid hs0
           clear hb0 hy0 hs0)
        | (with_reducible refine at_box ?_
           refine wp_boxM (by rfl) 110 _ rfl (refV d) _ rfl rfl (by rw [refV_length HD.out]; exact sizeRef33) ?_
           intro W1 hb1 hy1 hs1
           have HB1 := Lib.hid hb1; have HY1 := Lib.hid hy1; have HS1 := Lib.hid hs1
           clear hb1 hy1 hs1))
      have HLTG := Lib.hid hk2.lt
      have hzr : w.heap.size < W0.heap.size := (qX HY0.out)
      have HYR := Lib.hid ((HB1.out.block w.heap.size hzr).trans HY0.out)
      have HBW := Lib.hid (HB0.out.trans (HB1.out.mono (Nat.le_of_lt hzr)))
      have HCK1 := Lib.hid (HCK.out.keep HBW.out)
      have hzr1 : w.heap.size < W1.heap.size := qL hzr HB1.out.size
      have hzd1 : W0.heap.size < W1.heap.size := (qX HY1.out)
      obtain ⟨zr, hzr0⟩ : ∃ zr, w.heap.size = zr := ⟨_, rfl⟩
      obtain ⟨zd, hzd0⟩ : ∃ zd, W0.heap.size = zd := ⟨_, rfl⟩
      rw [hzr0] at HYR hzr1 ⊢
      rw [hzd0] at HY1 hzd1 ⊢
      have HZR := Lib.hid hzr0
      clear hzr hzr0 hzd0 HS0 HS1 HY0
      go_upto_region 3 with (first
        | (with_reducible refine at_load ?_
           refine wp_val (by rfl) (ex_load 41 _ rfl (p := ⟨zr, 0, none⟩) rfl (qV _ _ _ _ (idV r.1) _ (fun j u hj => by rw [qZ]; exact (cells_at0 HYR.out j).trans ((ref_cells HR.out).1 j u hj)) Tryz.underlying41 rfl HSZ.out)) ?_)
        | (with_reducible refine at_build ?_
           refine wp_val (by rfl) (ex_build 41 #[] rfl (ZB.out _)) ?_)
        | (with_reducible refine at_binOp ?_
           refine wp_val (by rfl) (ex_neq 41 _ _ _ rfl (xs := (idV r.1).toArray) (ys := (idV zero32).toArray) rfl rfl (r := true) eqId.noGuard (EQ.out _)) ?_; go_frame; try simp only [nTF]))
      have c32 := Wg.cell (show W1.cell? ⟨zr, 32, none⟩ = some (.int .i64 r.2) from (cells_at0 HYR.out 32).trans (ref_cells HR.out).2) hzr1
      obtain ⟨Ad, cd, vm, h1, h2, h3⟩ := HCK1.out
      have cm := Wg.cell (cells_at0 h1 1) HCK1.out.lt
      obtain ⟨Am, cm2, rfl⟩ : ∃ Am cm2, vm = .slice Am mk.length cm2 := own_form' h3
      clear h1 h2 h3
      refine wp_region_wr (by kernel_rfl) (by kernel_rfl) ?_
      repeat (first
        | go_big_quiet_skip
        | (go_big_quiet_want
           first
             | (go_big_quiet_op
                first
                  | go_big_quiet_on
                  | go_big_quiet_call (first | (fail)))))
      refine wpQuiet_nil ?_
      rintro w' ⟨kk, rfl⟩
      have hk5 := kk.2
      generalize kk.val = w5 at *
      clear kk
      have HB5 := Lib.hid (HBW.out.trans (hk5.below.mono HBW.out.size))
      clear c32 cm hk5
      go_wp2_with fail
      go_ret
      exact ⟨HB5.out, by rw [HE.out]; rfl⟩
    · obtain ⟨i, hi⟩ : ∃ i : Nat, r.2 = (i : Int) := ⟨r.2.toNat, by omega⟩
      have him : i + m ≤ mk.length := by omega
      have HEA := Lib.hid (elems_all deps mk r d i m HZ0.out hi him)
      have d1 : decide ((i : Int) < 0) = false := dF (by omega)
      have d2 : decide ((mk.length : Int) < (m : Int)) = false := dF (by omega)
      have d2' : decide (mk.length < m) = false := dF (by omega)
      have d4 : IntKind.i64.wrap ((mk.length : Int) - (m : Int)) = (mk.length : Int) - (m : Int) := IntWalk.i64_in _ ⟨by omega, by omega⟩
      have d3 : decide ((mk.length : Int) - (m : Int) < (i : Int)) = false := dF (by omega)
      have e5 : IntKind.i64.wrap ((i : Int) + (m : Int)) = (i : Int) + (m : Int) := IntWalk.i64_in _ ⟨by omega, by omega⟩
      have HI := Lib.hid hi
      clear q q2 q3 hi
      go_enter Tryz.func251, Tryz.ntmps251
      go_upto_region 1 with (first
        | (with_reducible refine at_box ?_
           refine wp_boxM (by rfl) 110 _ rfl (refV r) _ rfl rfl (by rw [refV_length HR.out]; exact sizeRef33) ?_
           intro W0 hb0 hy0 hs0
           have HB0 := Lib.hid hb0; have HY0 := Lib.hid hy0; have HS0 := Lib.hid hs0
           clear hb0 hy0 hs0)
        | (with_reducible refine at_box ?_
           refine wp_boxM (by rfl) 110 _ rfl (refV d) _ rfl rfl (by rw [refV_length HD.out]; exact sizeRef33) ?_
           intro W1 hb1 hy1 hs1
           have HB1 := Lib.hid hb1; have HY1 := Lib.hid hy1; have HS1 := Lib.hid hs1
           clear hb1 hy1 hs1))
      have HLTG := Lib.hid hk2.lt
      have hzr : w.heap.size < W0.heap.size := (qX HY0.out)
      have HYR := Lib.hid ((HB1.out.block w.heap.size hzr).trans HY0.out)
      have HBW := Lib.hid (HB0.out.trans (HB1.out.mono (Nat.le_of_lt hzr)))
      have HCK1 := Lib.hid (HCK.out.keep HBW.out)
      have hzr1 : w.heap.size < W1.heap.size := qL hzr HB1.out.size
      have hzd1 : W0.heap.size < W1.heap.size := (qX HY1.out)
      obtain ⟨zr, hzr0⟩ : ∃ zr, w.heap.size = zr := ⟨_, rfl⟩
      obtain ⟨zd, hzd0⟩ : ∃ zd, W0.heap.size = zd := ⟨_, rfl⟩
      rw [hzr0] at HYR hzr1 ⊢
      rw [hzd0] at HY1 hzd1 ⊢
      have HZR := Lib.hid hzr0
      clear hzr hzr0 hzd0 HS0 HS1 HY0
      go_upto_region 3 with (first
        | (with_reducible refine at_load ?_
           refine wp_val (by rfl) (ex_load 41 _ rfl (p := ⟨zr, 0, none⟩) rfl (qV _ _ _ _ (idV r.1) _ (fun j u hj => by rw [qZ]; exact (cells_at0 HYR.out j).trans ((ref_cells HR.out).1 j u hj)) Tryz.underlying41 rfl HSZ.out)) ?_)
        | (with_reducible refine at_build ?_
           refine wp_val (by rfl) (ex_build 41 #[] rfl (ZB.out _)) ?_)
        | (with_reducible refine at_binOp ?_
           refine wp_val (by rfl) (ex_neq 41 _ _ _ rfl (xs := (idV r.1).toArray) (ys := (idV zero32).toArray) rfl rfl (r := true) eqId.noGuard (EQ.out _)) ?_; go_frame; try simp only [nTF]))
      have c32 := Wg.cell (show W1.cell? ⟨zr, 32, none⟩ = some (.int .i64 (i : Int)) from (cells_at0 HYR.out 32).trans ((ref_cells HR.out).2.trans (by rw [HI.out]))) hzr1
      obtain ⟨Ad, cd, vm, h1, h2, h3⟩ := HCK1.out
      have cm := Wg.cell (cells_at0 h1 1) HCK1.out.lt
      obtain ⟨gm, cm2, rfl, -⟩ := own_addr h3 (by omega)
      have hcap : mk.length ≤ cm2 := by
        rcases h3.2 with ⟨h0, _⟩ | ⟨g', cap, cur, h0, _, _, hle, _⟩
        · cases h0
        · injection h0 with _ _ h0; omega
      have hgm := (h3.lt gm rfl).2
      have HRW := Lib.hid (fun (k : Nat) (hk : k < mk.length) (j : Nat) (u : Value) (hj : (madeV mk[k])[j]? = some u) => (show W1.cell? ⟨gm, k * 34 + j, none⟩ = some u from
        (h3.cellAt (k * 34 + j) (by have h9 := (List.getElem?_eq_some_iff.1 hj).1; rw [madeV_length (HM.out _ (List.getElem_mem hk))] at h9; omega)).trans (rowsV_get (fun m h => madeV_length (HM.out m h)) k hk j u hj)))
      have HSLV : Hid (sliced (some ⟨gm, 0, none⟩) i (i + m) cm2 34 = .slice (some ⟨gm, i * 34, none⟩) m (cm2 - i)) := Lib.hid (by
        unfold sliced
        rw [if_neg (by omega), Nat.add_sub_cancel_left]
        have e1 : (⟨gm, 0, none⟩ : Addr).add (i * 34) = ⟨gm, i * 34, none⟩ := by unfold Addr.add; split <;> simp_all
        rw [Option.map_some, e1])
      have HCM := Lib.hid (cells_at0 h1 1)
      clear h1 h2 h3
      refine wp_region_wr (by kernel_rfl) (by kernel_rfl) ?_
      repeat (first
        | go_big_quiet_skip
        | (go_big_quiet_want
           first
             | (go_big_quiet_op
                first
                  | go_big_quiet_on
                  | go_big_quiet_call (first | (fail)))))
      refine wpQuiet_nil ?_
      rintro w' ⟨kk, rfl⟩
      have hk5 := kk.2
      generalize kk.val = w5 at *
      clear kk
      clear c32 cm
      go_upto_region 5 with fail
      have c32 := Wg.cell ((hk5.below.cell (p := ⟨zr, 32, none⟩) hzr1).trans ((cells_at0 HYR.out 32).trans ((ref_cells HR.out).2.trans (by rw [HI.out])))) (qL hzr1 hk5.below.size)
      have cm := Wg.cell ((hk5.below.cell (p := ⟨g, 1, none⟩) HCK1.out.lt).trans HCM.out) (qL HCK1.out.lt hk5.below.size)
      refine wp_region_wr (by kernel_rfl) (by kernel_rfl) ?_
      repeat (first
        | go_big_quiet_skip
        | (go_big_quiet_want
           first
             | (refine quiet_val (fun w' hw' => ex_slice_lh 347 _ _ _ rfl (A := some ⟨gm, 0, none⟩) (n := mk.length) (c := cm2) (l := i) (h := i + m) rfl rfl (by first | rfl | (exact congrArg (Value.int .i64) (by omega))) Tryz.underlying347 sizeMade (by omega) (by omega) HSLV.out) ?_
                go_big_quiet_on
                simp only [Act.put, List.setIfInBounds_toArray, List.set_cons_zero, List.set_cons_succ])
             | (go_big_quiet_op
                first
                  | go_big_quiet_on
                  | go_big_quiet_call (first | (fail)))))
      refine wpQuiet_nil ?_
      rintro w' ⟨kk, rfl⟩
      have hk6 := kk.2
      generalize kk.val = w6 at *
      clear kk
      have HB5 := Lib.hid (hk5.below.trans (hk6.below.mono hk5.below.size))
      clear c32 cm hk5 hk6
      go_wp2_with fail
      go_loopw [54] (fun t wr => ∃ j : Nat, j ≤ m ∧ t = .int .i64 (j : Int) ∧ Hid (Below W1.heap.size W1 wr) ∧ Hid (∀ q (h : i + q < mk.length), q < j → okM d mk[i + q] = true)) (fun t _ => m - (intOf t).toNat)
      case atStart => exact ⟨0, Nat.zero_le _, rfl, HB5, Lib.hid (fun q _ h => absurd h (by omega))⟩
      case round =>
        obtain ⟨j, hj, rfl, HBR, HALL⟩ := hrel
        by_cases hjm : j < m
        · have j0 : (0 : Int) ≤ (j : Int) := by omega
          have j1 : (j : Int) < (m : Int) := by omega
          have hij : i + j < mk.length := by omega
          have HROW := Lib.hid (fun (jj : Nat) (u : Value) (h : (madeV mk[i + j])[jj]? = some u) => (show wr.cell? ⟨gm, i * 34 + j * 34 + jj, none⟩ = some u from by
            rw [show i * 34 + j * 34 + jj = (i + j) * 34 + jj by rw [Nat.add_mul]]
            exact (HBR.out.cell (p := ⟨gm, (i + j) * 34 + jj, none⟩) hgm).trans (HRW.out (i + j) hij jj u h)))
          have HMX := Lib.hid (show RefOk mk[i + j].2 from HM.out _ (List.getElem_mem hij))
          have HNX := Lib.hid (fun (h : okM d mk[i + j] = true) (q : Nat) (hq : i + q < mk.length) (hqj : q < j + 1) => (show okM d mk[i + q] = true by
            rcases (by omega : q < j ∨ q = j) with h1 | h1
            · exact HALL.out q hq h1
            · subst h1; exact h))
          have HFA := Lib.hid (fun (h : okM d mk[i + j] = false) => (show elemsB deps mk r d (m : Int) = false by
            rw [HEA.out, Bool.eq_false_iff]
            intro h2
            have h3 := List.all_eq_true.1 h2 mk[i + j] (by
              have h4 : ((mk.drop i).take m)[j]? = some mk[i + j] := by
                rw [List.getElem?_take_of_lt hjm, List.getElem?_drop, List.getElem?_eq_getElem hij]
              exact List.mem_of_getElem? h4)
            rw [h] at h3; cases h3))
          generalize mk[i + j] = x at *
          cases hx1 : x.1
          · go_upto_region 8 with (first
              | (with_reducible refine at_load ?_
                 refine wp_loadN rfl 373 _ rfl gm _ rfl (madeV x) _ HROW.out Tryz.underlying373 rfl (by rw [madeV_length HMX.out]; exact sizeMade) ?_)
              | (with_reducible refine at_alloc ?_
                 refine wp_allocM (by rfl) 373 rfl (madeV (false, zeroRef)) (zeroMade_run _) ?_
                 intro W6 hb6 hy6 hs6
                 have HB6 := Lib.hid hb6; have HY6 := Lib.hid hy6; have HS6 := Lib.hid hs6
                 clear hb6 hy6 hs6)
              | (with_reducible refine at_store ?_
                 refine wp_storeM (by rfl) 373 _ _ rfl wr.heap.size 0 [] (madeV (false, zeroRef)) [] (madeV x) 373 _ rfl rfl rfl rfl (by simpa using HY6.out) (by rw [madeV_length HMX.out]; rfl) (by rw [madeV_length HMX.out]; exact sizeMade) (madeV_one _) ?_
                 intro W7 hb7 hy7 hs7
                 have HB7 := Lib.hid hb7
                 have HY7 : Hid (W7.heap[wr.heap.size]? = some (.cells (madeV x).toArray 373 (0, 0))) := Lib.hid (by simpa using hy7)
                 clear hb7 hy7 hs7))
            have HBR7 : Hid (Below wr.heap.size wr W7) := Lib.hid (HB6.out.trans (HB7.out.below (by have := HS6.out; omega) (fun k hk e => by omega)))
            have x0 : W7.cell? ⟨wr.heap.size, 0, none⟩ = some (.bool x.1) := cells_at0 HY7.out 0
            have HX2 := Lib.hid (show W7.rangeAt wr.heap.size 1 (refV x.2) from fun j u hj => (cells_at0 HY7.out (1 + j)).trans (by rw [Nat.add_comm]; exact hj))
            have HXD := Lib.hid (show W7.rangeAt zd 0 (refV d) from fun j u hj => by rw [qZ]; exact ((HBR7.out.cell (p := ⟨zd, j, none⟩) (qL hzd1 HBR.out.size)).trans ((HBR.out.cell (p := ⟨zd, j, none⟩) hzd1).trans (cells_at0 HY1.out j))).trans hj)
            have HB97 := Lib.hid (HBR.out.trans (HBR7.out.mono HBR.out.size))
            rw [hx1] at x0
            by_cases hx2 : x.2 = d
            · have EX := Lib.hid (fun (u : World) => (run_eqRef HMX.out HD.out u).trans (by rw [dT hx2]))
              have HOKX := Lib.hid (HNX.out (by unfold okM; rw [hx1, dT hx2]; rfl))
              clear hx2
              go_wp2_with (first
                | (with_reducible refine at_load ?_
                   refine wp_val (by rfl) (ldR HMX.out HX2.out) ?_)
                | (with_reducible refine at_load ?_
                   refine wp_val (by rfl) (ldR HD.out HXD.out) ?_)
                | (with_reducible refine at_binOp ?_
                   refine wp_val (by rfl) (ex_neq 110 _ _ _ rfl (xs := (refV x.2).toArray) (ys := (refV d).toArray) rfl rfl (r := true) eqRef.noGuard (EX.out _)) ?_))
              go_roundw
              case rel => exact ⟨j + 1, by omega, by go_num, HB97, HOKX⟩
              case measure => (simp [intOf]) <;> omega
            · have EX := Lib.hid (fun (u : World) => (run_eqRef HMX.out HD.out u).trans (by rw [dF hx2]))
              have HE := Lib.hid (HFA.out (by unfold okM; rw [dF hx2, Bool.and_false]))
              clear hx2
              go_wp2_with (first
                | (with_reducible refine at_load ?_
                   refine wp_val (by rfl) (ldR HMX.out HX2.out) ?_)
                | (with_reducible refine at_load ?_
                   refine wp_val (by rfl) (ldR HD.out HXD.out) ?_)
                | (with_reducible refine at_binOp ?_
                   refine wp_val (by rfl) (ex_neq 110 _ _ _ rfl (xs := (refV x.2).toArray) (ys := (refV d).toArray) rfl rfl (r := false) eqRef.noGuard (EX.out _)) ?_))
              go_ret
              exact ⟨HBW.out.trans (HB97.out.mono HBW.out.size), by rw [HE.out]; rfl⟩
          · have HE := Lib.hid (HFA.out (by unfold okM; rw [hx1]; rfl))
            go_upto_region 8 with (first
              | (with_reducible refine at_load ?_
                 refine wp_loadN rfl 373 _ rfl gm _ rfl (madeV x) _ HROW.out Tryz.underlying373 rfl (by rw [madeV_length HMX.out]; exact sizeMade) ?_)
              | (with_reducible refine at_alloc ?_
                 refine wp_allocM (by rfl) 373 rfl (madeV (false, zeroRef)) (zeroMade_run _) ?_
                 intro W6 hb6 hy6 hs6
                 have HB6 := Lib.hid hb6; have HY6 := Lib.hid hy6; have HS6 := Lib.hid hs6
                 clear hb6 hy6 hs6)
              | (with_reducible refine at_store ?_
                 refine wp_storeM (by rfl) 373 _ _ rfl wr.heap.size 0 [] (madeV (false, zeroRef)) [] (madeV x) 373 _ rfl rfl rfl rfl (by simpa using HY6.out) (by rw [madeV_length HMX.out]; rfl) (by rw [madeV_length HMX.out]; exact sizeMade) (madeV_one _) ?_
                 intro W7 hb7 hy7 hs7
                 have HB7 := Lib.hid hb7
                 have HY7 : Hid (W7.heap[wr.heap.size]? = some (.cells (madeV x).toArray 373 (0, 0))) := Lib.hid (by simpa using hy7)
                 clear hb7 hy7 hs7))
            have HBR7 : Hid (Below wr.heap.size wr W7) := Lib.hid (HB6.out.trans (HB7.out.below (by have := HS6.out; omega) (fun k hk e => by omega)))
            have x0 : W7.cell? ⟨wr.heap.size, 0, none⟩ = some (.bool x.1) := cells_at0 HY7.out 0
            have HX2 := Lib.hid (show W7.rangeAt wr.heap.size 1 (refV x.2) from fun j u hj => (cells_at0 HY7.out (1 + j)).trans (by rw [Nat.add_comm]; exact hj))
            have HXD := Lib.hid (show W7.rangeAt zd 0 (refV d) from fun j u hj => by rw [qZ]; exact ((HBR7.out.cell (p := ⟨zd, j, none⟩) (qL hzd1 HBR.out.size)).trans ((HBR.out.cell (p := ⟨zd, j, none⟩) hzd1).trans (cells_at0 HY1.out j))).trans hj)
            have HB97 := Lib.hid (HBR.out.trans (HBR7.out.mono HBR.out.size))
            rw [hx1] at x0
            go_wp2_with fail
            go_ret
            exact ⟨HBW.out.trans (HB97.out.mono HBW.out.size), by rw [HE.out]; rfl⟩
        · have j1 : ¬ (j : Int) < (m : Int) := by omega
          have hje : j = m := by omega
          have HE : Hid (elemsB deps mk r d (m : Int) = true) := Lib.hid (by
            rw [HEA.out, List.all_eq_true]
            intro q hq
            obtain ⟨n, hn, rfl⟩ := List.getElem_of_mem hq
            have hn1 : n < m := by rw [List.length_take] at hn; omega
            have h1 := HALL.out n (by omega) (by omega)
            rw [List.getElem_take, List.getElem_drop]
            exact h1)
          clear hje
          go_wp2_with fail
          go_ret
          exact ⟨HBW.out.trans (HBR.out.mono HBW.out.size), by rw [HE.out]; rfl⟩
  · have EQ := Lib.hid (fun (u : World) => (EQ0.out u).trans (by rw [dF hz]))
    have HE : Hid (elemsB deps mk r d (m : Int) = foreignB deps r) := Lib.hid (by unfold elemsB; rw [if_pos hz])
    clear hsz EQ0 hz hr hd hk ho hmk
    go_enter Tryz.func251, Tryz.ntmps251
    go_upto_region 1 with (first
      | (with_reducible refine at_box ?_
         refine wp_boxM (by rfl) 110 _ rfl (refV r) _ rfl rfl (by rw [refV_length HR.out]; exact sizeRef33) ?_
         intro W0 hb0 hy0 hs0
         have HB0 := Lib.hid hb0; have HY0 := Lib.hid hy0; have HS0 := Lib.hid hs0
         clear hb0 hy0 hs0)
      | (with_reducible refine at_box ?_
         refine wp_boxM (by rfl) 110 _ rfl (refV d) _ rfl rfl (by rw [refV_length HD.out]; exact sizeRef33) ?_
         intro W1 hb1 hy1 hs1
         have HB1 := Lib.hid hb1; have HY1 := Lib.hid hy1; have HS1 := Lib.hid hs1
         clear hb1 hy1 hs1))
    have HLTG := Lib.hid hk2.lt
    have hzr : w.heap.size < W0.heap.size := (qX HY0.out)
    have HYR := Lib.hid ((HB1.out.block w.heap.size hzr).trans HY0.out)
    have HBW := Lib.hid (HB0.out.trans (HB1.out.mono (Nat.le_of_lt hzr)))
    have HCK1 := Lib.hid (HCK.out.keep HBW.out)
    have hzr1 : w.heap.size < W1.heap.size := qL hzr HB1.out.size
    have hzd1 : W0.heap.size < W1.heap.size := (qX HY1.out)
    obtain ⟨zr, hzr0⟩ : ∃ zr, w.heap.size = zr := ⟨_, rfl⟩
    obtain ⟨zd, hzd0⟩ : ∃ zd, W0.heap.size = zd := ⟨_, rfl⟩
    rw [hzr0] at HYR hzr1 ⊢
    rw [hzd0] at HY1 hzd1 ⊢
    have HZR := Lib.hid hzr0
    clear hzr hzr0 hzd0 HS0 HS1 HY0
    go_wp2_with (first
      | (with_reducible refine at_load ?_
         refine wp_val (by rfl) (ex_load 41 _ rfl (p := ⟨zr, 0, none⟩) rfl (qV _ _ _ _ (idV r.1) _ (fun j u hj => by rw [qZ]; exact (cells_at0 HYR.out j).trans ((ref_cells HR.out).1 j u hj)) Tryz.underlying41 rfl HSZ.out)) ?_)
      | (with_reducible refine at_build ?_
         refine wp_val (by rfl) (ex_build 41 #[] rfl (ZB.out _)) ?_)
      | (with_reducible refine at_binOp ?_
         refine wp_val (by rfl) (ex_neq 41 _ _ _ rfl (xs := (idV r.1).toArray) (ys := (idV zero32).toArray) rfl rfl (r := false) eqId.noGuard (EQ.out _)) ?_; go_frame; try simp only [nTF])
      | (with_reducible refine at_load ?_
         refine wp_val (by rfl) (ldR (b := zr) (f := 0) (r := r) HR.out (fun j u hj => by rw [qZ]; exact (cells_at0 HYR.out j).trans hj)) ?_)
      | (go_at_call 275; refine (foreign_any g deps mk r W1 HCK1.out HO.out hn HR.out).mono ?_; rintro e w2 ⟨hb2, rfl⟩))
    go_ret
    exact ⟨HBW.out.trans (hb2.mono HBW.out.size), by rw [HE.out]; rfl⟩
end Go.Proofs.YtdgbjhfkmembdaaGreatDoor
