/-
  What the checker's doc gives. Conditions: ids of 32 bytes; lists of at most 2^40.
-/
import Derived.Test.YtdgbjhfkmembdaaGreatDoorShort0
import Derived.Test.YtdgbjhfkmembdaaGreatDoorShort9
import Derived.Test.YtdgbjhfkmembdaaGreatDoorObjCheck
namespace Go.Proofs.YtdgbjhfkmembdaaGreatDoor
open Go.RowKit Go.Maps
set_option linter.unusedVariables false
set_option linter.unusedSimpArgs false

theorem rowsV_made {mk : List MadeD} (hm : ∀ m ∈ mk, MadeOk m) : (rowsV madeV mk).length = mk.length * 34 := rowsV_length fun m h => madeV_length (hm m h)
set_option maxHeartbeats 4000000 in
set_option maxRecDepth 100000 in
theorem doc_any (g : Nat) (deps : List (List UInt8)) (mk : List MadeD) (r : RefD) (w : World) (hk : CkAt w g deps mk) (ho : IdsOk deps) (hn : deps.length ≤ 1099511627776) (hmn : mk.length ≤ 1099511627776) (hm : ∀ m ∈ mk, MadeOk m) (hr : RefOk r) :
    Calls Tryz.prog 250 #[.pointer (some ⟨g, 0, none⟩), .agg (refV r).toArray] w fun e w' => Below w.heap.size w w' ∧ e = .returned (.bool (docB deps mk r)) := by
  have hsz : (Tryz.prog.info? 41).map (·.size) = some (idV r.1).length := by rw [idV_length, show r.1.length = 32 from hr.1]; exact sizeId2
  have hsr : (Tryz.prog.info? 110).map (·.size) = some (refV r).length := by rw [refV_length hr]; exact sizeRef33
  have HSZ := Lib.hid hsz; have HSR := Lib.hid hsr
  have HW := Lib.hid (wf_bound hr.2)
  have EQ0 := Lib.hid (fun (u : World) => run_eqId hr.1 zero32_ok u)
  have ZB := Lib.hid zeroId_built
  have HCK := Lib.hid hk; have HO := Lib.hid ho; have HR := Lib.hid hr
  clear hsz hsr
  have HM := Lib.hid hm
  by_cases hz : r.1 = zero32
  · have dz : decide (r.1 = zero32) = true := by simp [hz]
    have EQ := Lib.hid (fun (u : World) => (EQ0.out u).trans (by rw [dz]))
    clear dz EQ0
    have HF : Hid (docB deps mk r = (decide (0 ≤ r.2) && decide (r.2 < mk.length) && (mk.getD r.2.toNat (false, zeroRef)).1)) := Lib.hid (by unfold docB; rw [if_neg (by simp [hz])])
    clear hz hk ho hr hm
    rcases (by omega : r.2 < 0 ∨ (0 ≤ r.2 ∧ (mk.length : Int) ≤ r.2) ∨ (0 ≤ r.2 ∧ r.2 < mk.length)) with q | ⟨q, q2⟩ | ⟨q, q2⟩
    · have d1 : decide (0 ≤ r.2) = false := by simp; omega
      have HE : Hid (docB deps mk r = false) := Lib.hid (by rw [HF.out, d1]; rfl)
      clear q
      go_enter Tryz.func250, Tryz.ntmps250
      go_upto_region 1 with fail
      obtain ⟨W0, hW0⟩ : ∃ W0, (w.alloc (.cells (refV r).toArray 110)) = W0 := ⟨_, rfl⟩
      have HB0 := Lib.hid (show Below w.heap.size w W0 by rw [← hW0]; exact (qB _ _).alloc (qR _) _)
      have HZ := Lib.hid (show w.heap.size < W0.heap.size by rw [← hW0]; simp)
      have HX32 := Lib.hid (show W0.cell? ⟨w.heap.size, 32, none⟩ = some (.int .i64 r.2) by rw [← hW0]; exact laid_cells w _ _ _ _ (ref_cells HR.out).2)
      have HXI := Lib.hid (show W0.rangeAt w.heap.size 0 (idV r.1) by rw [← hW0]; exact fun j u hj => by rw [qZ]; exact laid_cells w _ _ _ _ ((ref_cells HR.out).1 j u hj))
      have HXR := Lib.hid (show W0.rangeAt w.heap.size 0 (refV r) by rw [← hW0]; exact fun j u hj => by rw [qZ]; exact laid_cells w _ _ _ _ hj)
      rw [hW0]
      clear hW0
      go_upto_region 3 with (first
        | (refine wp_val (by rfl) (ex_load 41 _ rfl (p := ⟨w.heap.size, 0, none⟩) rfl (qV _ _ _ _ _ _ HXI.out Tryz.underlying41 rfl HSZ.out)) ?_)
        | (refine wp_val (by rfl) (ex_build 41 #[] rfl (ZB.out _)) ?_)
        | (refine wp_val (by rfl) (ex_neq 41 _ _ _ rfl (xs := (idV r.1).toArray) (ys := (idV zero32).toArray) rfl rfl (r := true) eqId.noGuard (EQ.out _)) ?_; go_frame; try simp only [nTF]))
      have c32 := Wg.cell HX32.out HZ.out
      refine wp_region_wr (by kernel_rfl) (by kernel_rfl) ?_
      repeat (first
        | go_big_quiet_skip
        | (go_big_quiet_want
           first
             | (go_big_quiet_op
                first
                  | go_big_quiet_on
                  | go_big_quiet_call (first | (fail)))))
      refine wpQuiet_nil ?_
      rintro w' ⟨kk, rfl⟩
      have hk2 := kk.2
      generalize kk.val = w2 at *
      clear kk
      have HB2 := Lib.hid (HB0.out.trans (hk2.below.mono HB0.out.size))
      go_wp2_with fail
      go_ret
      exact ⟨HB2.out, by rw [HE.out]; rfl⟩
    · have d1 : decide (0 ≤ r.2) = true := by simp; omega
      have d2 : decide (r.2 < (mk.length : Int)) = false := by simp; omega
      have HE : Hid (docB deps mk r = false) := Lib.hid (by rw [HF.out, d1, d2]; rfl)
      clear q q2
      go_enter Tryz.func250, Tryz.ntmps250
      go_upto_region 1 with fail
      obtain ⟨W0, hW0⟩ : ∃ W0, (w.alloc (.cells (refV r).toArray 110)) = W0 := ⟨_, rfl⟩
      have HB0 := Lib.hid (show Below w.heap.size w W0 by rw [← hW0]; exact (qB _ _).alloc (qR _) _)
      have HZ := Lib.hid (show w.heap.size < W0.heap.size by rw [← hW0]; simp)
      have HX32 := Lib.hid (show W0.cell? ⟨w.heap.size, 32, none⟩ = some (.int .i64 r.2) by rw [← hW0]; exact laid_cells w _ _ _ _ (ref_cells HR.out).2)
      have HXI := Lib.hid (show W0.rangeAt w.heap.size 0 (idV r.1) by rw [← hW0]; exact fun j u hj => by rw [qZ]; exact laid_cells w _ _ _ _ ((ref_cells HR.out).1 j u hj))
      have HXR := Lib.hid (show W0.rangeAt w.heap.size 0 (refV r) by rw [← hW0]; exact fun j u hj => by rw [qZ]; exact laid_cells w _ _ _ _ hj)
      rw [hW0]
      clear hW0
      go_upto_region 3 with (first
        | (refine wp_val (by rfl) (ex_load 41 _ rfl (p := ⟨w.heap.size, 0, none⟩) rfl (qV _ _ _ _ _ _ HXI.out Tryz.underlying41 rfl HSZ.out)) ?_)
        | (refine wp_val (by rfl) (ex_build 41 #[] rfl (ZB.out _)) ?_)
        | (refine wp_val (by rfl) (ex_neq 41 _ _ _ rfl (xs := (idV r.1).toArray) (ys := (idV zero32).toArray) rfl rfl (r := true) eqId.noGuard (EQ.out _)) ?_; go_frame; try simp only [nTF]))
      have c32 := Wg.cell HX32.out HZ.out
      obtain ⟨Ad, cd, vm, h1, h2, h3⟩ := HCK.out
      have cm := Wg.cell ((HB0.out.cell (p := ⟨g, 1, none⟩) HCK.out.lt).trans (cells_at0 h1 1)) (qL HCK.out.lt HB0.out.size)
      obtain ⟨Am, cm2, rfl⟩ : ∃ Am cm2, vm = .slice Am mk.length cm2 := own_form' h3
      clear h1 h2 h3
      refine wp_region_wr (by kernel_rfl) (by kernel_rfl) ?_
      repeat (first
        | go_big_quiet_skip
        | (go_big_quiet_want
           first
             | (go_big_quiet_op
                first
                  | go_big_quiet_on
                  | go_big_quiet_call (first | (fail)))))
      refine wpQuiet_nil ?_
      rintro w' ⟨kk, rfl⟩
      have hk2 := kk.2
      generalize kk.val = w2 at *
      clear kk
      have HB2 := Lib.hid (HB0.out.trans (hk2.below.mono HB0.out.size))
      go_wp2_with fail
      go_ret
      exact ⟨HB2.out, by rw [HE.out]; rfl⟩
    · obtain ⟨i, hi⟩ : ∃ i : Nat, r.2 = (i : Int) := ⟨r.2.toNat, by omega⟩
      have hil : i < mk.length := by omega
      have hpos : 0 < mk.length := by omega
      have HE : Hid (docB deps mk r = mk[i].1) := Lib.hid (by rw [HF.out, dT q, dT q2, hi, Int.toNat_natCast, List.getD_eq_getElem?_getD, List.getElem?_eq_getElem hil]; rfl)
      have HI := Lib.hid hi
      have i1 : (0 : Int) ≤ (i : Int) := by omega
      have i2 : (i : Int) < (mk.length : Int) := by omega
      clear q q2 hi
      go_enter Tryz.func250, Tryz.ntmps250
      go_upto_region 1 with fail
      obtain ⟨W0, hW0⟩ : ∃ W0, (w.alloc (.cells (refV r).toArray 110)) = W0 := ⟨_, rfl⟩
      have HB0 := Lib.hid (show Below w.heap.size w W0 by rw [← hW0]; exact (qB _ _).alloc (qR _) _)
      have HZ := Lib.hid (show w.heap.size < W0.heap.size by rw [← hW0]; simp)
      have HX32 := Lib.hid (show W0.cell? ⟨w.heap.size, 32, none⟩ = some (.int .i64 r.2) by rw [← hW0]; exact laid_cells w _ _ _ _ (ref_cells HR.out).2)
      have HXI := Lib.hid (show W0.rangeAt w.heap.size 0 (idV r.1) by rw [← hW0]; exact fun j u hj => by rw [qZ]; exact laid_cells w _ _ _ _ ((ref_cells HR.out).1 j u hj))
      have HXR := Lib.hid (show W0.rangeAt w.heap.size 0 (refV r) by rw [← hW0]; exact fun j u hj => by rw [qZ]; exact laid_cells w _ _ _ _ hj)
      rw [hW0]
      clear hW0
      go_upto_region 3 with (first
        | (refine wp_val (by rfl) (ex_load 41 _ rfl (p := ⟨w.heap.size, 0, none⟩) rfl (qV _ _ _ _ _ _ HXI.out Tryz.underlying41 rfl HSZ.out)) ?_)
        | (refine wp_val (by rfl) (ex_build 41 #[] rfl (ZB.out _)) ?_)
        | (refine wp_val (by rfl) (ex_neq 41 _ _ _ rfl (xs := (idV r.1).toArray) (ys := (idV zero32).toArray) rfl rfl (r := true) eqId.noGuard (EQ.out _)) ?_; go_frame; try simp only [nTF]))
      have c32 := Wg.cell HX32.out HZ.out
      obtain ⟨Ad, cd, vm, h1, h2, h3⟩ := HCK.out
      have cm := Wg.cell ((HB0.out.cell (p := ⟨g, 1, none⟩) HCK.out.lt).trans (cells_at0 h1 1)) (qL HCK.out.lt HB0.out.size)
      obtain ⟨gm, cm2, rfl, -⟩ := own_addr h3 hpos
      have cell := h3.cellAt (i * 34 + 0) (by omega)
      rw [rowsV_get (fun m h => madeV_length (HM.out m h)) i hil 0 (.bool mk[i].1) rfl] at cell
      have CD := Wg.cell ((HB0.out.cell (p := ⟨gm, i * 34 + 0, none⟩) (h3.lt gm rfl).2).trans cell) (qL (h3.lt gm rfl).2 HB0.out.size)
      rw [Nat.add_zero] at CD
      rw [HI.out] at c32
      clear h1 h2 h3 cell
      refine wp_region_wr (by kernel_rfl) (by kernel_rfl) ?_
      repeat (first
        | go_big_quiet_skip
        | (go_big_quiet_want
           first
             | (go_big_quiet_op
                first
                  | go_big_quiet_on
                  | go_big_quiet_call (first | (fail)))))
      refine wpQuiet_nil ?_
      rintro w' ⟨kk, rfl⟩
      have hk2 := kk.2
      generalize kk.val = w2 at *
      clear kk
      have HB2 := Lib.hid (HB0.out.trans (hk2.below.mono HB0.out.size))
      go_wp2_with fail
      go_ret
      exact ⟨HB2.out, by rw [HE.out]; rfl⟩
  · have dz : decide (r.1 = zero32) = false := by simp [hz]
    have EQ := Lib.hid (fun (u : World) => (EQ0.out u).trans (by rw [dz]))
    clear dz EQ0
    have HE : Hid (docB deps mk r = foreignB deps r) := Lib.hid (by unfold docB; rw [if_pos hz])
    clear hz hk ho hr hm
    go_enter Tryz.func250, Tryz.ntmps250
    go_upto_region 1 with fail
    obtain ⟨W0, hW0⟩ : ∃ W0, (w.alloc (.cells (refV r).toArray 110)) = W0 := ⟨_, rfl⟩
    have HB0 := Lib.hid (show Below w.heap.size w W0 by rw [← hW0]; exact (qB _ _).alloc (qR _) _)
    have HZ := Lib.hid (show w.heap.size < W0.heap.size by rw [← hW0]; simp)
    have HX32 := Lib.hid (show W0.cell? ⟨w.heap.size, 32, none⟩ = some (.int .i64 r.2) by rw [← hW0]; exact laid_cells w _ _ _ _ (ref_cells HR.out).2)
    have HXI := Lib.hid (show W0.rangeAt w.heap.size 0 (idV r.1) by rw [← hW0]; exact fun j u hj => by rw [qZ]; exact laid_cells w _ _ _ _ ((ref_cells HR.out).1 j u hj))
    have HXR := Lib.hid (show W0.rangeAt w.heap.size 0 (refV r) by rw [← hW0]; exact fun j u hj => by rw [qZ]; exact laid_cells w _ _ _ _ hj)
    rw [hW0]
    clear hW0
    have HCK0 := Lib.hid (HCK.out.keep HB0.out)
    go_wp2_with (first
      | (refine wp_val (by rfl) (ex_load 41 _ rfl (p := ⟨w.heap.size, 0, none⟩) rfl (qV _ _ _ _ _ _ HXI.out Tryz.underlying41 rfl HSZ.out)) ?_)
      | (refine wp_val (by rfl) (ex_build 41 #[] rfl (ZB.out _)) ?_)
      | (refine wp_val (by rfl) (ex_neq 41 _ _ _ rfl (xs := (idV r.1).toArray) (ys := (idV zero32).toArray) rfl rfl (r := false) eqId.noGuard (EQ.out _)) ?_; go_frame; try simp only [nTF])
      | (refine wp_val (by rfl) (ex_load 110 _ rfl (p := ⟨w.heap.size, 0, none⟩) rfl (qV _ _ _ _ _ _ HXR.out Tryz.underlying110 rfl HSR.out)) ?_)
      | (go_at_call 275; refine (foreign_any g deps mk r W0 HCK0.out HO.out hn HR.out).mono ?_; rintro e w2 ⟨hb2, rfl⟩))
    go_ret
    exact ⟨HB0.out.trans (hb2.mono HB0.out.size), by rw [HE.out]; rfl⟩
end Go.Proofs.YtdgbjhfkmembdaaGreatDoor
