/-
  The document's foreign, doc, elements. Conditions: ids of 32 bytes; at most 2^40 of them; the changes hung on are a set.
-/
import Derived.Test.YtdgbjhfkmembdaaGreatDoorShort0
import Derived.Test.YtdgbjhfkmembdaaGreatDoorShort9
import Derived.Test.YtdgbjhfkmembdaaGreatDoorShort8
import Derived.Test.YtdgbjhfkmembdaaGreatDoorRefIn8
import Derived.Test.YtdgbjhfkmembdaaGreatDoorObjCheck
import Derived.Test.YtdgbjhfkmembdaaGreatDoorObjMem
namespace Go.Proofs.YtdgbjhfkmembdaaGreatDoor
open Go.RowKit Go.Maps
set_option linter.unusedVariables false
set_option linter.unusedSimpArgs false

theorem sizeRef8 : (Tryz.prog.info? 110).map (·.size) = some 33 := by kernel_rfl
set_option maxHeartbeats 4000000 in
set_option maxRecDepth 100000 in
theorem refForeign_any (deps : List (List UInt8)) (r : RefD) (A : Option Addr) (c : Nat) (w : World) (hn : deps.length ≤ 1099511627776) (ho : IdsOk deps) (hr : RefOk r) (hset : isSetB deps = true) (hs : Sl w w.heap.size A deps.length 32 (idsV deps)) :
    Calls Tryz.prog 276 #[.slice A deps.length c, .agg (refV r).toArray] w fun e w' => Below w.heap.size w w' ∧ e = .returned (.bool (foreignB deps r)) := by
  obtain ⟨rc, ri⟩ := r
  have HO := Lib.hid ho; have HS := Lib.hid hs; have H0R := Lib.hid hr
  have HF := Lib.hid (show foreignB deps (rc, ri) = (decide (rc ∈ deps) && decide (0 ≤ ri) && decide (ri ≤ 2147483647)) by unfold foreignB; rw [hset, Bool.true_and])
  clear ho hs hr hset
  obtain ⟨m, hm⟩ : ∃ m, decide (rc ∈ deps) = m := ⟨_, rfl⟩
  have HM := Lib.hid hm
  clear hm
  go_enter Tryz.func276, Tryz.ntmps276
  go_upto_region 1 with (first
    | (with_reducible refine at_box ?_
       refine wp_boxM (by rfl) 110 _ rfl (refV (rc, ri)) _ rfl rfl (by rw [refV_length H0R.out]; exact sizeRef8) ?_
       intro W0 hb0 hz0 hs0
       have HB0 := Lib.hid hb0; have HZ0 := Lib.hid hz0
       clear hb0 hz0 hs0))
  obtain ⟨z, hz⟩ : ∃ z, w.heap.size = z := ⟨_, rfl⟩
  rw [hz] at HZ0 ⊢
  have HZL := Lib.hid (show z < W0.heap.size from (qX HZ0.out))
  try simp only [Act.put, List.setIfInBounds_toArray, List.set_cons_zero, List.set_cons_succ]
  clear hz
  have HXI := Lib.hid (show W0.rangeAt z 0 (idV rc) from fun j u hj => by rw [qZ]; exact (cells_at0 HZ0.out j).trans ((ref_cells H0R.out).1 j u hj))
  have HXR := Lib.hid (show W0.rangeAt z 0 (refV (rc, ri)) from fun j u hj => by rw [qZ]; exact (cells_at0 HZ0.out j).trans hj)
  have c32 : W0.cell? ⟨z, 32, none⟩ = some (.int .i64 ri) := (cells_at0 HZ0.out 32).trans (ref_cells H0R.out).2
  have CALL := Lib.hid ((refIn_any deps rc A c W0 hn HO.out H0R.out.1 ((HS.out.keep HB0.out).more HB0.out.size)))
  cases m
  · go_wp2_with (first
      | (refine wp_val (by rfl) (ex_load 41 _ rfl (p := ⟨z, 0, none⟩) rfl (qV _ _ _ _ (idV rc) _ HXI.out Tryz.underlying41 rfl (by rw [idV_length, show rc.length = 32 from H0R.out.1]; exact sizeId2))) ?_)
      | (go_at_call 30; refine CALL.out.mono ?_; rintro e w1 ⟨hb1, rfl⟩
         rw [HM.out]
         have HB1 := Lib.hid (HB0.out.trans (hb1.mono HB0.out.size))
         clear hb1))
    go_ret
    exact ⟨HB1.out, by rw [HF.out, HM.out]; rfl⟩
  · have HZ1 := Lib.hid (fun (u : World) (hu : Below W0.heap.size W0 u) => (show u.cell? ⟨z, 32, none⟩ = some (.int .i64 ri) from (hu.cell (p := ⟨z, 32, none⟩) HZL.out).trans c32))
    clear c32
    rcases (by omega : ri < 0 ∨ (0 ≤ ri ∧ 2147483647 < ri) ∨ (0 ≤ ri ∧ ri ≤ 2147483647)) with q | ⟨q, q2⟩ | ⟨q, q2⟩
    · have d1 : decide ((0 : Int) ≤ ri) = false := by simp; omega
      go_wp2_with (first
        | (refine wp_val (by rfl) (ex_load 41 _ rfl (p := ⟨z, 0, none⟩) rfl (qV _ _ _ _ (idV rc) _ HXI.out Tryz.underlying41 rfl (by rw [idV_length, show rc.length = 32 from H0R.out.1]; exact sizeId2))) ?_)
        | (go_at_call 30; refine CALL.out.mono ?_; rintro e w1 ⟨hb1, rfl⟩
           rw [HM.out]
           have c32 := HZ1.out w1 hb1
           have HB1 := Lib.hid (HB0.out.trans (hb1.mono HB0.out.size))
           clear hb1))
      go_ret
      exact ⟨HB1.out, by rw [HF.out, HM.out]; simp only [d1, Bool.and_true, Bool.and_false, Bool.true_and]; try rfl⟩
    · have d1 : decide ((0 : Int) ≤ ri) = true := by simp; omega
      have d2 : decide (ri ≤ 2147483647) = false := by simp; omega
      go_wp2_with (first
        | (refine wp_val (by rfl) (ex_load 41 _ rfl (p := ⟨z, 0, none⟩) rfl (qV _ _ _ _ (idV rc) _ HXI.out Tryz.underlying41 rfl (by rw [idV_length, show rc.length = 32 from H0R.out.1]; exact sizeId2))) ?_)
        | (go_at_call 30; refine CALL.out.mono ?_; rintro e w1 ⟨hb1, rfl⟩
           rw [HM.out]
           have c32 := HZ1.out w1 hb1
           have HB1 := Lib.hid (HB0.out.trans (hb1.mono HB0.out.size))
           clear hb1))
      go_ret
      exact ⟨HB1.out, by rw [HF.out, HM.out]; simp only [d1, d2, Bool.and_true, Bool.and_false, Bool.true_and]; try rfl⟩
    · have d1 : decide ((0 : Int) ≤ ri) = true := by simp; omega
      have d2 : decide (ri ≤ 2147483647) = true := by simp; omega
      go_wp2_with (first
        | (refine wp_val (by rfl) (ex_load 41 _ rfl (p := ⟨z, 0, none⟩) rfl (qV _ _ _ _ (idV rc) _ HXI.out Tryz.underlying41 rfl (by rw [idV_length, show rc.length = 32 from H0R.out.1]; exact sizeId2))) ?_)
        | (go_at_call 30; refine CALL.out.mono ?_; rintro e w1 ⟨hb1, rfl⟩
           rw [HM.out]
           have c32 := HZ1.out w1 hb1
           have HB1 := Lib.hid (HB0.out.trans (hb1.mono HB0.out.size))
           clear hb1))
      go_ret
      exact ⟨HB1.out, by rw [HF.out, HM.out]; simp only [d1, d2, Bool.and_true, Bool.and_false, Bool.true_and]; try rfl⟩
set_option maxHeartbeats 4000000 in
set_option maxRecDepth 100000 in
theorem refDoc_any (deps : List (List UInt8)) (mk : List MadeD) (r : RefD) (A : Option Addr) (c : Nat) (Am : Option Addr) (cm : Nat) (w : World) (hn : deps.length ≤ 1099511627776) (hmn : mk.length ≤ 1099511627776) (ho : IdsOk deps) (hm : ∀ m ∈ mk, MadeOk m) (hr : RefOk r) (hset : isSetB deps = true) (hs : Sl w w.heap.size A deps.length 32 (idsV deps)) (hsm : Sl w w.heap.size Am mk.length 34 (rowsV madeV mk)) :
    Calls Tryz.prog 261 #[.slice A deps.length c, .slice Am mk.length cm, .agg (refV r).toArray] w fun e w' => Below w.heap.size w w' ∧ e = .returned (.bool (docB deps mk r)) := by
  obtain ⟨rc, ri⟩ := r
  have HO := Lib.hid ho; have HS := Lib.hid hs; have H0R := Lib.hid hr; have HSM := Lib.hid hsm; have HM := Lib.hid hm
  clear ho hs hr hsm hm
  by_cases hz0 : rc = zero32
  · have EQ : Hid (∀ u : World, (Op.equalIn 10000 41 (.agg (idV rc).toArray) (.agg (idV zero32).toArray)).run Tryz.prog u = .ok true u) := Lib.hid (fun u => (run_eqId H0R.out.1 zero32_ok u).trans (by rw [dT hz0]))
    have HF := Lib.hid (show docB deps mk (rc, ri) = (decide (0 ≤ ri) && decide (ri < mk.length) && (mk.getD ri.toNat (false, zeroRef)).1) by unfold docB; rw [if_neg (by simp [hz0])])
    clear hz0
    rcases (by omega : ri < 0 ∨ (0 ≤ ri ∧ (mk.length : Int) ≤ ri) ∨ (0 ≤ ri ∧ ri < mk.length)) with q | ⟨q, q2⟩ | ⟨q, q2⟩
    · have d1 : decide ((0 : Int) ≤ ri) = false := by simp; omega
      go_enter Tryz.func261, Tryz.ntmps261
      go_upto_region 1 with (first
        | (with_reducible refine at_box ?_
           refine wp_boxM (by rfl) 110 _ rfl (refV (rc, ri)) _ rfl rfl (by rw [refV_length H0R.out]; exact sizeRef8) ?_
           intro W0 hb0 hz0 hs0
           have HB0 := Lib.hid hb0; have HZ0 := Lib.hid hz0
           clear hb0 hz0 hs0))
      obtain ⟨z, hz⟩ : ∃ z, w.heap.size = z := ⟨_, rfl⟩
      rw [hz] at HZ0 ⊢
      have HZL := Lib.hid (show z < W0.heap.size from (qX HZ0.out))
      try simp only [Act.put, List.setIfInBounds_toArray, List.set_cons_zero, List.set_cons_succ]
      clear hz
      have HXI := Lib.hid (show W0.rangeAt z 0 (idV rc) from fun j u hj => by rw [qZ]; exact (cells_at0 HZ0.out j).trans ((ref_cells H0R.out).1 j u hj))
      have HXR := Lib.hid (show W0.rangeAt z 0 (refV (rc, ri)) from fun j u hj => by rw [qZ]; exact (cells_at0 HZ0.out j).trans hj)
      have c32 : W0.cell? ⟨z, 32, none⟩ = some (.int .i64 ri) := (cells_at0 HZ0.out 32).trans (ref_cells H0R.out).2
      go_wp2_with (first
        | (refine wp_val (by rfl) (ex_load 41 _ rfl (p := ⟨z, 0, none⟩) rfl (qV _ _ _ _ (idV rc) _ HXI.out Tryz.underlying41 rfl (by rw [idV_length, show rc.length = 32 from H0R.out.1]; exact sizeId2))) ?_)
        | (refine wp_val (by rfl) (ex_build 41 #[] rfl (zeroId_built _)) ?_)
        | (refine wp_val (by rfl) (ex_neq 41 _ _ _ rfl (xs := (idV rc).toArray) (ys := (idV zero32).toArray) rfl rfl (r := true) eqId.noGuard (EQ.out _)) ?_; go_frame; try simp only [nTF]))
      go_ret
      exact ⟨HB0.out, by rw [HF.out]; simp only [d1, Bool.false_and]; rfl⟩
    · have d1 : decide ((0 : Int) ≤ ri) = true := by simp; omega
      have d2 : decide (ri < (mk.length : Int)) = false := by simp; omega
      go_enter Tryz.func261, Tryz.ntmps261
      go_upto_region 1 with (first
        | (with_reducible refine at_box ?_
           refine wp_boxM (by rfl) 110 _ rfl (refV (rc, ri)) _ rfl rfl (by rw [refV_length H0R.out]; exact sizeRef8) ?_
           intro W0 hb0 hz0 hs0
           have HB0 := Lib.hid hb0; have HZ0 := Lib.hid hz0
           clear hb0 hz0 hs0))
      obtain ⟨z, hz⟩ : ∃ z, w.heap.size = z := ⟨_, rfl⟩
      rw [hz] at HZ0 ⊢
      have HZL := Lib.hid (show z < W0.heap.size from (qX HZ0.out))
      try simp only [Act.put, List.setIfInBounds_toArray, List.set_cons_zero, List.set_cons_succ]
      clear hz
      have HXI := Lib.hid (show W0.rangeAt z 0 (idV rc) from fun j u hj => by rw [qZ]; exact (cells_at0 HZ0.out j).trans ((ref_cells H0R.out).1 j u hj))
      have HXR := Lib.hid (show W0.rangeAt z 0 (refV (rc, ri)) from fun j u hj => by rw [qZ]; exact (cells_at0 HZ0.out j).trans hj)
      have c32 : W0.cell? ⟨z, 32, none⟩ = some (.int .i64 ri) := (cells_at0 HZ0.out 32).trans (ref_cells H0R.out).2
      go_wp2_with (first
        | (refine wp_val (by rfl) (ex_load 41 _ rfl (p := ⟨z, 0, none⟩) rfl (qV _ _ _ _ (idV rc) _ HXI.out Tryz.underlying41 rfl (by rw [idV_length, show rc.length = 32 from H0R.out.1]; exact sizeId2))) ?_)
        | (refine wp_val (by rfl) (ex_build 41 #[] rfl (zeroId_built _)) ?_)
        | (refine wp_val (by rfl) (ex_neq 41 _ _ _ rfl (xs := (idV rc).toArray) (ys := (idV zero32).toArray) rfl rfl (r := true) eqId.noGuard (EQ.out _)) ?_; go_frame; try simp only [nTF]))
      go_ret
      exact ⟨HB0.out, by rw [HF.out]; simp only [d1, d2, Bool.true_and, Bool.false_and]; rfl⟩
    · obtain ⟨i, rfl⟩ : ∃ i : Nat, ri = (i : Int) := ⟨ri.toNat, by omega⟩
      have hil : i < mk.length := by omega
      have d1 : decide ((0 : Int) ≤ (i : Int)) = true := by simp
      have d2 : decide ((i : Int) < (mk.length : Int)) = true := by simp; omega
      obtain ⟨b, off, rfl, hbl, hcl⟩ := HSM.out.2 (by omega)
      have hrow := Sl.row (fun m h => madeV_length (HM.out m h)) hcl hil 0 (.bool mk[i].1) rfl
      have HRW := Lib.hid hrow
      have HG := Lib.hid (show (mk.getD (i : Int).toNat (false, zeroRef)) = mk[i] by rw [Int.toNat_natCast, List.getD_eq_getElem?_getD, List.getElem?_eq_getElem hil]; rfl)
      clear hrow hcl
      go_enter Tryz.func261, Tryz.ntmps261
      go_upto_region 1 with (first
        | (with_reducible refine at_box ?_
           refine wp_boxM (by rfl) 110 _ rfl (refV (rc, (i : Int))) _ rfl rfl (by rw [refV_length H0R.out]; exact sizeRef8) ?_
           intro W0 hb0 hz0 hs0
           have HB0 := Lib.hid hb0; have HZ0 := Lib.hid hz0
           clear hb0 hz0 hs0))
      obtain ⟨z, hz⟩ : ∃ z, w.heap.size = z := ⟨_, rfl⟩
      rw [hz] at HZ0 ⊢
      have HZL := Lib.hid (show z < W0.heap.size from (qX HZ0.out))
      try simp only [Act.put, List.setIfInBounds_toArray, List.set_cons_zero, List.set_cons_succ]
      clear hz
      have HXI := Lib.hid (show W0.rangeAt z 0 (idV rc) from fun j u hj => by rw [qZ]; exact (cells_at0 HZ0.out j).trans ((ref_cells H0R.out).1 j u hj))
      have HXR := Lib.hid (show W0.rangeAt z 0 (refV (rc, (i : Int))) from fun j u hj => by rw [qZ]; exact (cells_at0 HZ0.out j).trans hj)
      have c32 : W0.cell? ⟨z, 32, none⟩ = some (.int .i64 (i : Int)) := (cells_at0 HZ0.out 32).trans (ref_cells H0R.out).2
      have CD : W0.cell? ⟨b, off + i * 34, none⟩ = some (.bool mk[i].1) := (HB0.out.cell (p := ⟨b, off + i * 34, none⟩) hbl).trans HRW.out
      go_wp2_with (first
        | (refine wp_val (by rfl) (ex_load 41 _ rfl (p := ⟨z, 0, none⟩) rfl (qV _ _ _ _ (idV rc) _ HXI.out Tryz.underlying41 rfl (by rw [idV_length, show rc.length = 32 from H0R.out.1]; exact sizeId2))) ?_)
        | (refine wp_val (by rfl) (ex_build 41 #[] rfl (zeroId_built _)) ?_)
        | (refine wp_val (by rfl) (ex_neq 41 _ _ _ rfl (xs := (idV rc).toArray) (ys := (idV zero32).toArray) rfl rfl (r := true) eqId.noGuard (EQ.out _)) ?_; go_frame; try simp only [nTF]))
      go_ret
      exact ⟨HB0.out, by rw [HF.out]; simp only [d1, d2, Bool.true_and]; rw [HG.out]; rfl⟩
  · have EQ : Hid (∀ u : World, (Op.equalIn 10000 41 (.agg (idV rc).toArray) (.agg (idV zero32).toArray)).run Tryz.prog u = .ok false u) := Lib.hid (fun u => (run_eqId H0R.out.1 zero32_ok u).trans (by rw [dF hz0]))
    have HF := Lib.hid (show docB deps mk (rc, ri) = foreignB deps (rc, ri) by unfold docB; rw [if_pos (by simp [hz0])])
    clear hz0
    go_enter Tryz.func261, Tryz.ntmps261
    go_upto_region 1 with (first
      | (with_reducible refine at_box ?_
         refine wp_boxM (by rfl) 110 _ rfl (refV (rc, ri)) _ rfl rfl (by rw [refV_length H0R.out]; exact sizeRef8) ?_
         intro W0 hb0 hz0 hs0
         have HB0 := Lib.hid hb0; have HZ0 := Lib.hid hz0
         clear hb0 hz0 hs0))
    obtain ⟨z, hz⟩ : ∃ z, w.heap.size = z := ⟨_, rfl⟩
    rw [hz] at HZ0 ⊢
    have HZL := Lib.hid (show z < W0.heap.size from (qX HZ0.out))
    try simp only [Act.put, List.setIfInBounds_toArray, List.set_cons_zero, List.set_cons_succ]
    clear hz
    have HXI := Lib.hid (show W0.rangeAt z 0 (idV rc) from fun j u hj => by rw [qZ]; exact (cells_at0 HZ0.out j).trans ((ref_cells H0R.out).1 j u hj))
    have HXR := Lib.hid (show W0.rangeAt z 0 (refV (rc, ri)) from fun j u hj => by rw [qZ]; exact (cells_at0 HZ0.out j).trans hj)
    have c32 : W0.cell? ⟨z, 32, none⟩ = some (.int .i64 ri) := (cells_at0 HZ0.out 32).trans (ref_cells H0R.out).2
    go_wp2_with (first
      | (refine wp_val (by rfl) (ex_load 41 _ rfl (p := ⟨z, 0, none⟩) rfl (qV _ _ _ _ (idV rc) _ HXI.out Tryz.underlying41 rfl (by rw [idV_length, show rc.length = 32 from H0R.out.1]; exact sizeId2))) ?_)
      | (refine wp_val (by rfl) (ex_build 41 #[] rfl (zeroId_built _)) ?_)
      | (refine wp_val (by rfl) (ex_neq 41 _ _ _ rfl (xs := (idV rc).toArray) (ys := (idV zero32).toArray) rfl rfl (r := false) eqId.noGuard (EQ.out _)) ?_; go_frame; try simp only [nTF])
      | (refine wp_val (by rfl) (ldR H0R.out HXR.out) ?_)
      | (go_at_call 276; refine (refForeign_any deps (rc, ri) A c W0 hn HO.out H0R.out hset ((HS.out.keep HB0.out).more HB0.out.size)).mono ?_; rintro e w2 ⟨hb2, rfl⟩
         have HB2 := Lib.hid (HB0.out.trans (hb2.mono HB0.out.size))
         clear hb2))
    go_ret
    exact ⟨HB2.out, by rw [HF.out]; rfl⟩
/-- What has been looked at is as it must be. -/
def ElUpto (mk : List MadeD) (ri : Int) (d : RefD) (i : Nat) : Prop := ∀ j, j < i → 0 ≤ ri ∧ ∃ h : ri.toNat + j < mk.length, mk[ri.toNat + j].1 = false ∧ mk[ri.toNat + j].2 = d
theorem refEls_all {deps : List (List UInt8)} {mk : List MadeD} {rc : List UInt8} {ri : Int} {d : RefD} {m : Nat} (hz : rc = zero32) (hm : 1 ≤ m) (h : ElUpto mk ri d m) : elemsB deps mk (rc, ri) d (m : Int) = true := by
  obtain ⟨h0, hl, _⟩ := h (m - 1) (by omega)
  unfold elemsB
  rw [if_neg (by simp [hz])]
  simp only [Bool.and_eq_true, decide_eq_true_eq]
  refine ⟨⟨⟨h0, by omega⟩, by omega⟩, ?_⟩
  rw [List.all_eq_true]
  intro x hx
  obtain ⟨j, hj, rfl⟩ := List.getElem_of_mem hx
  rw [List.length_take, List.length_drop] at hj
  rw [List.getElem_take, List.getElem_drop]
  obtain ⟨_, hl2, h1, h2⟩ := h j (by omega)
  simp [h1, h2]
theorem refEls_not {deps : List (List UInt8)} {mk : List MadeD} {rc : List UInt8} {ri : Int} {d : RefD} {m j : Nat} (hz : rc = zero32) (hj : j < m) (h : 0 ≤ ri → ∀ hl : ri.toNat + j < mk.length, mk[ri.toNat + j].1 = true ∨ mk[ri.toNat + j].2 ≠ d) : elemsB deps mk (rc, ri) d (m : Int) = false := by
  rw [Bool.eq_false_iff]
  intro he
  unfold elemsB at he
  rw [if_neg (by simp [hz])] at he
  simp only [Bool.and_eq_true, decide_eq_true_eq] at he
  obtain ⟨⟨⟨h0, h1⟩, h2⟩, h3⟩ := he
  have hl : ri.toNat + j < mk.length := by omega
  rw [List.all_eq_true] at h3
  have h4 := h3 mk[ri.toNat + j] (by
    have hlen : j < ((mk.drop ri.toNat).take (m : Int).toNat).length := by rw [List.length_take, List.length_drop]; omega
    have := List.getElem_mem hlen
    rwa [List.getElem_take, List.getElem_drop] at this)
  simp only [Bool.and_eq_true, Bool.not_eq_true', decide_eq_true_eq] at h4
  rcases h h0 hl with q | q
  · rw [q] at h4; exact absurd h4.1 (by simp)
  · exact q h4.2
set_option maxHeartbeats 4000000 in
set_option maxRecDepth 100000 in
theorem refElems_any (deps : List (List UInt8)) (mk : List MadeD) (r d : RefD) (m : Nat) (A : Option Addr) (c : Nat) (Am : Option Addr) (cm : Nat) (w : World) (hm1 : 1 ≤ m) (hm2 : m ≤ 4096) (hn : deps.length ≤ 1099511627776) (hmn : mk.length ≤ 1099511627776) (ho : IdsOk deps) (hm : ∀ m ∈ mk, MadeOk m) (hr : RefOk r) (hd : RefOk d) (hset : isSetB deps = true) (hs : Sl w w.heap.size A deps.length 32 (idsV deps)) (hsm : Sl w w.heap.size Am mk.length 34 (rowsV madeV mk)) :
    Calls Tryz.prog 263 #[.slice A deps.length c, .slice Am mk.length cm, .agg (refV r).toArray, .agg (refV d).toArray, .int .i64 (m : Int)] w fun e w' => Below w.heap.size w w' ∧ e = .returned (.bool (elemsB deps mk r d (m : Int))) := by
  obtain ⟨rc, ri⟩ := r
  have HO := Lib.hid ho; have HS := Lib.hid hs; have H0R := Lib.hid hr; have H1R := Lib.hid hd; have HSM := Lib.hid hsm; have HM := Lib.hid hm
  have HWF := Lib.hid (wf_bound hr.2)
  clear ho hs hr hsm hm hd
  by_cases hz0 : rc = zero32
  · have EQ : Hid (∀ u : World, (Op.equalIn 10000 41 (.agg (idV rc).toArray) (.agg (idV zero32).toArray)).run Tryz.prog u = .ok true u) := Lib.hid (fun u => (run_eqId H0R.out.1 zero32_ok u).trans (by rw [dT hz0]))
    have HZQ := Lib.hid hz0
    clear hz0
    go_enter Tryz.func263, Tryz.ntmps263
    go_upto_region 1 with (first
      | (with_reducible refine at_box ?_
         refine wp_boxM (by rfl) 110 _ rfl (refV (rc, ri)) _ rfl rfl (by rw [refV_length H0R.out]; exact sizeRef8) ?_
         intro W0 hb0 hz0 hs0
         have HB0 := Lib.hid hb0; have HZ0 := Lib.hid hz0
         clear hb0 hz0 hs0)
      | (with_reducible refine at_box ?_
         refine wp_boxM (by rfl) 110 _ rfl (refV d) _ rfl rfl (by rw [refV_length H1R.out]; exact sizeRef8) ?_
         intro W1 hb1 hz1 hs1
         have HB1 := Lib.hid hb1; have HZ1 := Lib.hid hz1
         clear hb1 hz1 hs1))
    obtain ⟨z, hz⟩ : ∃ z, w.heap.size = z := ⟨_, rfl⟩
    obtain ⟨z1, hz1⟩ : ∃ z, W0.heap.size = z := ⟨_, rfl⟩
    have HZL := Lib.hid (show z < W1.heap.size by rw [← hz]; exact qL (qX HZ0.out) HB1.out.size)
    have HZL1 := Lib.hid (show z1 < W1.heap.size by rw [← hz1]; exact (qX HZ1.out))
    have HZA := Lib.hid ((HB1.out.block _ (qX HZ0.out)).trans HZ0.out)
    have HBW := Lib.hid (HB0.out.trans (HB1.out.mono HB0.out.size))
    rw [hz] at HZA ⊢
    rw [hz1] at HZ1 ⊢
    try simp only [Act.put, List.setIfInBounds_toArray, List.set_cons_zero, List.set_cons_succ]
    clear hz hz1 HZ0 HB0 HB1
    have HXI := Lib.hid (show W1.rangeAt z 0 (idV rc) from fun j u hj => by rw [qZ]; exact (cells_at0 HZA.out j).trans ((ref_cells H0R.out).1 j u hj))
    have HXR := Lib.hid (show W1.rangeAt z 0 (refV (rc, ri)) from fun j u hj => by rw [qZ]; exact (cells_at0 HZA.out j).trans hj)
    have c32 : W1.cell? ⟨z, 32, none⟩ = some (.int .i64 ri) := (cells_at0 HZA.out 32).trans (ref_cells H0R.out).2
    go_upto_region 4 with (first
      | (refine wp_val (by rfl) (ex_load 41 _ rfl (p := ⟨z, 0, none⟩) rfl (qV _ _ _ _ (idV rc) _ HXI.out Tryz.underlying41 rfl (by rw [idV_length, show rc.length = 32 from H0R.out.1]; exact sizeId2))) ?_)
      | (refine wp_val (by rfl) (ex_build 41 #[] rfl (zeroId_built _)) ?_)
      | (refine wp_val (by rfl) (ex_neq 41 _ _ _ rfl (xs := (idV rc).toArray) (ys := (idV zero32).toArray) rfl rfl (r := true) eqId.noGuard (EQ.out _)) ?_; go_frame; try simp only [nTF]))
    have HC32 := Lib.hid (fun (u : World) (hu : Below W1.heap.size W1 u) => (show u.cell? ⟨z, 32, none⟩ = some (.int .i64 ri) from (hu.cell (p := ⟨z, 32, none⟩) HZL.out).trans c32))
    have HD33 := Lib.hid (fun (u : World) (hu : Below W1.heap.size W1 u) => (show ∀ j v, (refV d)[j]? = some v → u.cell? ⟨z1, 0 + j, none⟩ = some v from fun j v hj => by rw [qZ]; exact ((hu.cell (p := ⟨z1, j, none⟩) HZL1.out).trans (cells_at0 HZ1.out j)).trans hj))
    clear c32 HXI HXR HZ1 HZA
    go_wp2_with fail
    go_loopw [11] (fun t wr => ∃ i : Nat, i ≤ m ∧ t = .int .i64 (i : Int) ∧ Hid (Below W1.heap.size W1 wr) ∧ Hid (ElUpto mk ri d i)) (fun t _ => m - (intOf t).toNat)
    case atStart => exact ⟨0, Nat.zero_le _, rfl, Lib.hid (qB _ _), Lib.hid fun j hj => absurd hj (by omega)⟩
    case round =>
      obtain ⟨i, hi, rfl, HBR, HU⟩ := hrel
      by_cases hlt : i < m
      · have i1 : (i : Int) < (m : Int) := by omega
        have c32 := Wd.cell (base := wr.heap.size) (HC32.out wr HBR.out) (qL HZL.out HBR.out.size)
        have HSTP := Lib.hid (fun h => refEls_not (deps := deps) (mk := mk) (ri := ri) (d := d) (m := m) (j := i) HZQ.out hlt h)
        by_cases hneg : ri < 0
        · have d1 : decide (ri < 0) = true := dT hneg
          have HSTOP := Lib.hid (HSTP.out fun h => absurd h (by omega))
          go_wp2_with fail
          refine wp_region_wd (base := wr.heap.size) wr (qB _ _) (by kernel_rfl) (by kernel_rfl) ?_
          repeat (first
            | go_big_quiet_skip
            | (go_big_quiet_want
               first
                 | (go_big_quiet_op
                    go_big_quiet_on)))
          refine wpQuiet_nil ?_
          rintro w' ⟨kk, rfl⟩
          have hk9 := kk.2
          generalize kk.val = w9 at *
          clear kk
          have HBN := Lib.hid (HBR.out.trans (hk9.mono HBR.out.size))
          clear hk9
          go_wp2_with fail
          go_ret
          exact ⟨HBW.out.trans (HBN.out.mono HBW.out.size), by rw [HSTOP.out]; rfl⟩
        · obtain ⟨k, rfl⟩ : ∃ k : Nat, ri = (k : Int) := ⟨ri.toNat, by omega⟩
          have hkb := HWF.out
          have d1 : decide ((k : Int) < 0) = false := by simp
          have ew : IntKind.i64.wrap ((mk.length : Int) - (i : Int)) = (mk.length : Int) - (i : Int) := IntWalk.i64_in _ ⟨by omega, by omega⟩
          by_cases hfar : (mk.length : Int) - (i : Int) ≤ (k : Int)
          · have d2 : decide ((mk.length : Int) - (i : Int) ≤ (k : Int)) = true := dT hfar
            have HSTOP := Lib.hid (HSTP.out fun _ hl => absurd hl (by rw [Int.toNat_natCast]; omega))
            go_wp2_with fail
            refine wp_region_wd (base := wr.heap.size) wr (qB _ _) (by kernel_rfl) (by kernel_rfl) ?_
            repeat (first
              | go_big_quiet_skip
              | (go_big_quiet_want
                 first
                   | (go_big_quiet_op
                      go_big_quiet_on)))
            refine wpQuiet_nil ?_
            rintro w' ⟨kk, rfl⟩
            have hk9 := kk.2
            generalize kk.val = w9 at *
            clear kk
            have HBN := Lib.hid (HBR.out.trans (hk9.mono HBR.out.size))
            clear hk9
            go_wp2_with fail
            go_ret
            exact ⟨HBW.out.trans (HBN.out.mono HBW.out.size), by rw [HSTOP.out]; rfl⟩
          · have d2 : decide ((mk.length : Int) - (i : Int) ≤ (k : Int)) = false := dF hfar
            have ew2 : IntKind.i64.wrap ((k : Int) + (i : Int)) = ((k + i : Nat) : Int) := by rw [IntWalk.i64_in _ ⟨by omega, by omega⟩]; omega
            have hkl : k + i < mk.length := by omega
            have q1 : ((k + i : Nat) : Int) < (mk.length : Int) := by omega
            have q0 : (0 : Int) ≤ ((k + i : Nat) : Int) := by omega
            obtain ⟨b, off, rfl, hbl, hcl⟩ := ((HSM.out.keep HBW.out).keep (HBR.out.mono HBW.out.size)).2 (by omega)
            have hrow := Sl.row (fun m h => madeV_length (HM.out m h)) hcl hkl
            have hbl2 : b < wr.heap.size := qL hbl (qT HBW.out.size HBR.out.size)
            have HYO := Lib.hid (show RefOk mk[k + i].2 from HM.out _ (List.getElem_mem hkl))
            have HNX := Lib.hid (show mk[k + i].1 = false → mk[k + i].2 = d → ElUpto mk (k : Int) d (i + 1) from fun h1 h2 j hj => by
              rcases (by omega : j < i ∨ j = i) with q | q
              · exact HU.out j q
              · subst q
                exact ⟨by omega, by simpa using hkl, by simpa using h1, by simpa using h2⟩)
            have HST2 := Lib.hid (show (mk[k + i].1 = true ∨ mk[k + i].2 ≠ d) → elemsB deps mk (rc, (k : Int)) d (m : Int) = false from fun h => HSTP.out fun _ hl => by simpa using h)
            clear HSTP hcl HU
            obtain ⟨y, hy⟩ : ∃ y, mk[k + i] = y := ⟨_, rfl⟩
            rw [hy] at hrow HYO HNX HST2
            clear hy
            have CD := Wd.cell (base := wr.heap.size) (b := b) (o := off + (k + i) * 34) (hrow 0 (.bool y.1) rfl) hbl2
            have R1 := Lib.hid (Wd.row (base := wr.heap.size) (b := b) (o := off + (k + i) * 34 + 1) (cs := refV y.2) (fun j u hj => by rw [Nat.add_assoc]; exact hrow (1 + j) u (by unfold madeV; rw [Nat.add_comm 1 j]; exact hj)) hbl2)
            have R2 := Lib.hid (Wd.row (base := wr.heap.size) (HD33.out wr HBR.out) (qL HZL1.out HBR.out.size))
            clear hrow
            rcases hy1 : y.1 with _ | _
            · rw [hy1] at CD
              by_cases hy2 : y.2 = d
              · have HEQ : Hid (∀ u : World, (Op.equalIn 10000 110 (.agg (refV y.2).toArray) (.agg (refV d).toArray)).run Tryz.prog u = .ok true u) := Lib.hid (fun u => (run_eqRef HYO.out H1R.out u).trans (by rw [dT hy2]))
                have HN := Lib.hid (HNX.out hy1 hy2)
                clear hy1 hy2 HNX HST2
                go_wp2_with fail
                refine wp_region_wd (base := wr.heap.size) wr (qB _ _) (by kernel_rfl) (by kernel_rfl) ?_
                repeat (first
                  | go_big_quiet_skip
                  | (go_big_quiet_want
                     first
                       | (refine quiet_val (fun w' hw' => ldR HYO.out (R1.out w' hw')) ?_
                          go_big_quiet_on
                          go_frame; try simp only [nTF])
                       | (refine quiet_val (fun w' hw' => ldR H1R.out (R2.out w' hw')) ?_
                          go_big_quiet_on
                          go_frame; try simp only [nTF])
                       | (refine quiet_val (fun w' hw' => ex_neq 110 _ _ _ rfl (xs := (refV y.2).toArray) (ys := (refV d).toArray) rfl rfl (r := true) eqRef.noGuard (HEQ.out w')) ?_
                          go_big_quiet_on
                          go_frame; try simp only [nTF])
                       | (go_big_quiet_op
                          go_big_quiet_on)))
                refine wpQuiet_nil ?_
                rintro w' ⟨kk, rfl⟩
                have hk9 := kk.2
                generalize kk.val = w9 at *
                clear kk
                have HBN := Lib.hid (HBR.out.trans (hk9.mono HBR.out.size))
                clear hk9
                go_wp2_with fail
                go_roundw
                case rel => exact ⟨i + 1, by omega, by go_num, HBN, HN⟩
                case measure => (simp [intOf]) <;> omega
              · have HEQ : Hid (∀ u : World, (Op.equalIn 10000 110 (.agg (refV y.2).toArray) (.agg (refV d).toArray)).run Tryz.prog u = .ok false u) := Lib.hid (fun u => (run_eqRef HYO.out H1R.out u).trans (by rw [dF hy2]))
                have HSTOP := Lib.hid (HST2.out (.inr hy2))
                clear hy1 hy2 HNX HST2
                go_wp2_with fail
                refine wp_region_wd (base := wr.heap.size) wr (qB _ _) (by kernel_rfl) (by kernel_rfl) ?_
                repeat (first
                  | go_big_quiet_skip
                  | (go_big_quiet_want
                     first
                       | (refine quiet_val (fun w' hw' => ldR HYO.out (R1.out w' hw')) ?_
                          go_big_quiet_on
                          go_frame; try simp only [nTF])
                       | (refine quiet_val (fun w' hw' => ldR H1R.out (R2.out w' hw')) ?_
                          go_big_quiet_on
                          go_frame; try simp only [nTF])
                       | (refine quiet_val (fun w' hw' => ex_neq 110 _ _ _ rfl (xs := (refV y.2).toArray) (ys := (refV d).toArray) rfl rfl (r := false) eqRef.noGuard (HEQ.out w')) ?_
                          go_big_quiet_on
                          go_frame; try simp only [nTF])
                       | (go_big_quiet_op
                          go_big_quiet_on)))
                refine wpQuiet_nil ?_
                rintro w' ⟨kk, rfl⟩
                have hk9 := kk.2
                generalize kk.val = w9 at *
                clear kk
                have HBN := Lib.hid (HBR.out.trans (hk9.mono HBR.out.size))
                clear hk9
                go_wp2_with fail
                go_ret
                exact ⟨HBW.out.trans (HBN.out.mono HBW.out.size), by rw [HSTOP.out]; rfl⟩
            · rw [hy1] at CD
              have HSTOP := Lib.hid (HST2.out (.inl hy1))
              clear hy1 HNX HST2
              go_wp2_with fail
              refine wp_region_wd (base := wr.heap.size) wr (qB _ _) (by kernel_rfl) (by kernel_rfl) ?_
              repeat (first
                | go_big_quiet_skip
                | (go_big_quiet_want
                   first
                     | (go_big_quiet_op
                        go_big_quiet_on)))
              refine wpQuiet_nil ?_
              rintro w' ⟨kk, rfl⟩
              have hk9 := kk.2
              generalize kk.val = w9 at *
              clear kk
              have HBN := Lib.hid (HBR.out.trans (hk9.mono HBR.out.size))
              clear hk9
              go_wp2_with fail
              go_ret
              exact ⟨HBW.out.trans (HBN.out.mono HBW.out.size), by rw [HSTOP.out]; rfl⟩
      · have i1 : ¬ (i : Int) < (m : Int) := by omega
        have HALL := Lib.hid (refEls_all (deps := deps) (m := m) HZQ.out hm1 (by have h := HU.out; rwa [show i = m by omega] at h))
        go_wp2_with fail
        go_ret
        exact ⟨HBW.out.trans (HBR.out.mono HBW.out.size), by rw [HALL.out]; rfl⟩
  · have EQ : Hid (∀ u : World, (Op.equalIn 10000 41 (.agg (idV rc).toArray) (.agg (idV zero32).toArray)).run Tryz.prog u = .ok false u) := Lib.hid (fun u => (run_eqId H0R.out.1 zero32_ok u).trans (by rw [dF hz0]))
    have HF := Lib.hid (show elemsB deps mk (rc, ri) d (m : Int) = foreignB deps (rc, ri) by unfold elemsB; rw [if_pos (by simp [hz0])])
    clear hz0
    go_enter Tryz.func263, Tryz.ntmps263
    go_upto_region 1 with (first
      | (with_reducible refine at_box ?_
         refine wp_boxM (by rfl) 110 _ rfl (refV (rc, ri)) _ rfl rfl (by rw [refV_length H0R.out]; exact sizeRef8) ?_
         intro W0 hb0 hz0 hs0
         have HB0 := Lib.hid hb0; have HZ0 := Lib.hid hz0
         clear hb0 hz0 hs0)
      | (with_reducible refine at_box ?_
         refine wp_boxM (by rfl) 110 _ rfl (refV d) _ rfl rfl (by rw [refV_length H1R.out]; exact sizeRef8) ?_
         intro W1 hb1 hz1 hs1
         have HB1 := Lib.hid hb1; have HZ1 := Lib.hid hz1
         clear hb1 hz1 hs1))
    obtain ⟨z, hz⟩ : ∃ z, w.heap.size = z := ⟨_, rfl⟩
    obtain ⟨z1, hz1⟩ : ∃ z, W0.heap.size = z := ⟨_, rfl⟩
    have HZL := Lib.hid (show z < W1.heap.size by rw [← hz]; exact qL (qX HZ0.out) HB1.out.size)
    have HZL1 := Lib.hid (show z1 < W1.heap.size by rw [← hz1]; exact (qX HZ1.out))
    have HZA := Lib.hid ((HB1.out.block _ (qX HZ0.out)).trans HZ0.out)
    have HBW := Lib.hid (HB0.out.trans (HB1.out.mono HB0.out.size))
    rw [hz] at HZA ⊢
    rw [hz1] at HZ1 ⊢
    try simp only [Act.put, List.setIfInBounds_toArray, List.set_cons_zero, List.set_cons_succ]
    clear hz hz1 HZ0 HB0 HB1
    have HXI := Lib.hid (show W1.rangeAt z 0 (idV rc) from fun j u hj => by rw [qZ]; exact (cells_at0 HZA.out j).trans ((ref_cells H0R.out).1 j u hj))
    have HXR := Lib.hid (show W1.rangeAt z 0 (refV (rc, ri)) from fun j u hj => by rw [qZ]; exact (cells_at0 HZA.out j).trans hj)
    have c32 : W1.cell? ⟨z, 32, none⟩ = some (.int .i64 ri) := (cells_at0 HZA.out 32).trans (ref_cells H0R.out).2
    go_wp2_with (first
      | (refine wp_val (by rfl) (ex_load 41 _ rfl (p := ⟨z, 0, none⟩) rfl (qV _ _ _ _ (idV rc) _ HXI.out Tryz.underlying41 rfl (by rw [idV_length, show rc.length = 32 from H0R.out.1]; exact sizeId2))) ?_)
      | (refine wp_val (by rfl) (ex_build 41 #[] rfl (zeroId_built _)) ?_)
      | (refine wp_val (by rfl) (ex_neq 41 _ _ _ rfl (xs := (idV rc).toArray) (ys := (idV zero32).toArray) rfl rfl (r := false) eqId.noGuard (EQ.out _)) ?_; go_frame; try simp only [nTF])
      | (refine wp_val (by rfl) (ldR H0R.out HXR.out) ?_)
      | (go_at_call 276; refine (refForeign_any deps (rc, ri) A c W1 hn HO.out H0R.out hset ((HS.out.keep HBW.out).more HBW.out.size)).mono ?_; rintro e w2 ⟨hb2, rfl⟩
         have HB2 := Lib.hid (HBW.out.trans (hb2.mono HBW.out.size))
         clear hb2))
    go_ret
    exact ⟨HB2.out, by rw [HF.out]; rfl⟩
end Go.Proofs.YtdgbjhfkmembdaaGreatDoor
