/-
  What the checker's small functions give: foreign, doc, elements. Conditions: ids of 32 bytes; lists of at most 2^40.
-/
import Derived.Test.YtdgbjhfkmembdaaGreatDoorShort0
import Derived.Test.YtdgbjhfkmembdaaGreatDoorShort9
import Derived.Test.YtdgbjhfkmembdaaGreatDoorObjIds
import Derived.Test.YtdgbjhfkmembdaaGreatDoorHandN
import Derived.Test.YtdgbjhfkmembdaaGreatDoorQuietTail
import Derived.Test.YtdgbjhfkmembdaaGreatDoorSliceOp
import Derived.Test.YtdgbjhfkmembdaaGreatDoorQuietR
import Derived.Test.YtdgbjhfkmembdaaGreatDoorWriterMem
namespace Go.Proofs.YtdgbjhfkmembdaaGreatDoor
open Go.RowKit Go.Maps
set_option linter.unusedVariables false
set_option linter.unusedSimpArgs false

def madeV (m : MadeD) : List Value := .bool m.1 :: refV m.2
def MadeOk (m : MadeD) : Prop := RefOk m.2
theorem madeV_length {m : MadeD} (h : MadeOk m) : (madeV m).length = 34 := by
  have := refV_length h
  simp [madeV, this]
theorem madeV_one (m : MadeD) : ∀ u ∈ madeV m, u.oneCell' = true := by
  intro u hu
  rcases List.mem_cons.1 hu with rfl | hu
  · rfl
  · exact refV_one _ u hu
/-- The checker: the changes hung on, what was made. -/
def CkAt (w : World) (g : Nat) (deps : List (List UInt8)) (mk : List MadeD) : Prop := ∃ Ad cd vm, w.heap[g]? = some (.cells #[.slice Ad deps.length cd, vm] 349 (0, 0)) ∧ Sl w g Ad deps.length 32 (idsV deps) ∧ w.ownsRow (g + 1) 373 34 vm mk.length (rowsV madeV mk)
theorem CkAt.lt {w : World} {g : Nat} {deps : List (List UInt8)} {mk : List MadeD} (h : CkAt w g deps mk) : g < w.heap.size := by
  obtain ⟨_, _, _, h1, _⟩ := h
  exact (qX h1)
theorem CkAt.keep {w w' : World} {g : Nat} {deps : List (List UInt8)} {mk : List MadeD} (h : CkAt w g deps mk) (hb : Below w.heap.size w w') : CkAt w' g deps mk := by
  have hlt := h.lt
  obtain ⟨Ad, cd, vm, h1, h2, h3⟩ := h
  exact ⟨Ad, cd, vm, (hb.block g hlt).trans h1, h2.keep (hb.mono (Nat.le_of_lt hlt)), (But.of_below (X := NoB) hb).own h3 fun _ _ q => q⟩
/-- A block of cells just laid. -/
theorem laid_cells (w : World) (cs : List Value) (T : TypeId) : ∀ j u, cs[j]? = some u → (w.alloc (.cells cs.toArray T)).cell? ⟨w.heap.size, j, none⟩ = some u := by
  intro j u hj
  rw [cells_at0 (heap_alloc_new w _) j]
  exact hj
set_option maxHeartbeats 4000000 in
set_option maxRecDepth 100000 in
theorem foreign_any (g : Nat) (deps : List (List UInt8)) (mk : List MadeD) (r : RefD) (w : World) (hk : CkAt w g deps mk) (ho : IdsOk deps) (hn : deps.length ≤ 1099511627776) (hr : RefOk r) :
    Calls Tryz.prog 275 #[.pointer (some ⟨g, 0, none⟩), .agg (refV r).toArray] w fun e w' => Below w.heap.size w w' ∧ e = .returned (.bool (foreignB deps r)) := by
  have HLT := Lib.hid hk.lt
  obtain ⟨Ad, cd, vm, h1, h2, h3⟩ := hk
  have HSL := Lib.hid h2; have HO := Lib.hid ho; have HR := Lib.hid hr
  have HCK := Lib.hid (show w.cell? ⟨g, 0, none⟩ = some (.slice Ad deps.length cd) from cells_at0 h1 0)
  have hsz : (Tryz.prog.info? 41).map (·.size) = some (idV r.1).length := by rw [idV_length, show r.1.length = 32 from hr.1]; exact sizeId2
  have HSZ := Lib.hid hsz
  have HW := Lib.hid (wf_bound hr.2)
  have HF : Hid (foreignB deps r = ((isSetB deps && decide (r.1 ∈ deps)) && decide (0 ≤ r.2) && decide (r.2 ≤ 2147483647))) := Lib.hid rfl
  clear h1 h2 h3 ho hr hsz
  rcases Bool.eq_false_or_eq_true (isSetB deps && decide (r.1 ∈ deps)) with ht | ht
  · have HT := Lib.hid ht
    rw [ht] at HF
    clear ht
    rcases (by omega : r.2 < 0 ∨ (0 ≤ r.2 ∧ 2147483647 < r.2) ∨ (0 ≤ r.2 ∧ r.2 ≤ 2147483647)) with q | ⟨q, q2⟩ | ⟨q, q2⟩
    · have d1 : decide (0 ≤ r.2) = false := by simp; omega
      have HE : Hid (foreignB deps r = false) := Lib.hid (by rw [HF.out, d1]; rfl)
      clear q
      go_enter Tryz.func275, Tryz.ntmps275
      go_upto_region 1 with fail
      obtain ⟨W0, hW0⟩ : ∃ W0, (w.alloc (.cells (refV r).toArray 110)) = W0 := ⟨_, rfl⟩
      have HB0 := Lib.hid (show Below w.heap.size w W0 by rw [← hW0]; exact (qB _ _).alloc (qR _) _)
      have HZ := Lib.hid (show w.heap.size < W0.heap.size by rw [← hW0]; simp)
      have HX32 := Lib.hid (show W0.cell? ⟨w.heap.size, 32, none⟩ = some (.int .i64 r.2) by rw [← hW0]; exact laid_cells w _ _ _ _ (ref_cells HR.out).2)
      have HXI := Lib.hid (show W0.rangeAt w.heap.size 0 (idV r.1) by rw [← hW0]; exact fun j u hj => by rw [qZ]; exact laid_cells w _ _ _ _ ((ref_cells HR.out).1 j u hj))
      have HC0 := Lib.hid ((HB0.out.cell (p := ⟨g, 0, none⟩) HLT.out).trans HCK.out)
      have HSLD := Lib.hid (((HSL.out.more (Nat.le_of_lt HLT.out)).keep HB0.out).more HB0.out.size)
      rw [hW0]
      clear hW0
      have hE1 := enE Tryz.func231 rfl
      refine rN 6 (fun u => u.cell? ⟨g, 0, none⟩ = some (.slice Ad deps.length cd) ∧ u.rangeAt w.heap.size 0 (idV r.1)) (⟨HC0.out, HXI.out⟩) fun hF0 => ?_
      refine tw 0 (.pointer (some ⟨g, 0, none⟩)) ?_
      go_frame
      refine tw 1 (.pointer (some ⟨g, 0, none⟩)) ?_
      go_frame
      refine tw 2 (.pointer (some ⟨g, 0, none⟩)) ?_
      go_frame
      refine tl 3 (.slice Ad deps.length cd) rfl hF0 (fun w' hw' => l1 Tryz.underlying34 hw'.1) ?_
      go_frame
      refine tw 4 (.pointer (some ⟨w.heap.size, 0, none⟩)) ?_
      go_frame
      refine tl 5 (.agg (idV r.1).toArray) rfl hF0 (fun w' hw' => ex_load 41 _ rfl (p := ⟨w.heap.size, 0, none⟩) rfl (qV w' _ _ _ (idV r.1) _ hw'.2 Tryz.underlying41 rfl HSZ.out)) ?_
      go_frame
      refine ta 6 ?_
      refine tc #[.slice Ad deps.length cd, .agg (idV r.1).toArray] hE1 rfl ?_
      refine (find_any deps r.1 Ad cd W0.drew hn HO.out HR.out.1 (HSLD.out.keep (qD _ _))).mono ?_
      rintro e w2 ⟨hb2, n, rfl, -, -⟩
      have HB2 := Lib.hid (HB0.out.drew.trans (hb2.mono HB0.out.size))
      have HX2 : Hid (w2.cell? ⟨w.heap.size, 32, none⟩ = some (.int .i64 r.2)) := Lib.hid ((hb2.cell (p := ⟨w.heap.size, 32, none⟩) HZ.out).trans HX32.out)
      rw [HT.out]
      clear hb2
      refine ⟨_, rfl, fun h => absurd h (by decide), ?_⟩
      go_frame
      refine tw 7 (.tuple #[.int .i64 n, .bool true]) ?_
      go_frame
      refine tw 8 (.int .i64 n) ?_
      go_frame
      refine tw 9 (.bool true) ?_
      go_frame
      refine tw 10 (.int .i64 n) ?_
      go_frame
      refine tw 11 (.bool true) ?_
      go_frame
      refine wpAnyN_done (by kernel_rfl) ?_ _
      have c32 := HX2.out
      go_wp2_with fail
      go_ret
      exact ⟨HB2.out, by rw [HE.out]; rfl⟩
    · have d1 : decide (0 ≤ r.2) = true := by simp; omega
      have d2 : decide (r.2 ≤ 2147483647) = false := by simp; omega
      have HE : Hid (foreignB deps r = false) := Lib.hid (by rw [HF.out, d1, d2]; rfl)
      clear q q2
      go_enter Tryz.func275, Tryz.ntmps275
      go_upto_region 1 with fail
      obtain ⟨W0, hW0⟩ : ∃ W0, (w.alloc (.cells (refV r).toArray 110)) = W0 := ⟨_, rfl⟩
      have HB0 := Lib.hid (show Below w.heap.size w W0 by rw [← hW0]; exact (qB _ _).alloc (qR _) _)
      have HZ := Lib.hid (show w.heap.size < W0.heap.size by rw [← hW0]; simp)
      have HX32 := Lib.hid (show W0.cell? ⟨w.heap.size, 32, none⟩ = some (.int .i64 r.2) by rw [← hW0]; exact laid_cells w _ _ _ _ (ref_cells HR.out).2)
      have HXI := Lib.hid (show W0.rangeAt w.heap.size 0 (idV r.1) by rw [← hW0]; exact fun j u hj => by rw [qZ]; exact laid_cells w _ _ _ _ ((ref_cells HR.out).1 j u hj))
      have HC0 := Lib.hid ((HB0.out.cell (p := ⟨g, 0, none⟩) HLT.out).trans HCK.out)
      have HSLD := Lib.hid (((HSL.out.more (Nat.le_of_lt HLT.out)).keep HB0.out).more HB0.out.size)
      rw [hW0]
      clear hW0
      have hE1 := enE Tryz.func231 rfl
      refine rN 6 (fun u => u.cell? ⟨g, 0, none⟩ = some (.slice Ad deps.length cd) ∧ u.rangeAt w.heap.size 0 (idV r.1)) (⟨HC0.out, HXI.out⟩) fun hF0 => ?_
      refine tw 0 (.pointer (some ⟨g, 0, none⟩)) ?_
      go_frame
      refine tw 1 (.pointer (some ⟨g, 0, none⟩)) ?_
      go_frame
      refine tw 2 (.pointer (some ⟨g, 0, none⟩)) ?_
      go_frame
      refine tl 3 (.slice Ad deps.length cd) rfl hF0 (fun w' hw' => l1 Tryz.underlying34 hw'.1) ?_
      go_frame
      refine tw 4 (.pointer (some ⟨w.heap.size, 0, none⟩)) ?_
      go_frame
      refine tl 5 (.agg (idV r.1).toArray) rfl hF0 (fun w' hw' => ex_load 41 _ rfl (p := ⟨w.heap.size, 0, none⟩) rfl (qV w' _ _ _ (idV r.1) _ hw'.2 Tryz.underlying41 rfl HSZ.out)) ?_
      go_frame
      refine ta 6 ?_
      refine tc #[.slice Ad deps.length cd, .agg (idV r.1).toArray] hE1 rfl ?_
      refine (find_any deps r.1 Ad cd W0.drew hn HO.out HR.out.1 (HSLD.out.keep (qD _ _))).mono ?_
      rintro e w2 ⟨hb2, n, rfl, -, -⟩
      have HB2 := Lib.hid (HB0.out.drew.trans (hb2.mono HB0.out.size))
      have HX2 : Hid (w2.cell? ⟨w.heap.size, 32, none⟩ = some (.int .i64 r.2)) := Lib.hid ((hb2.cell (p := ⟨w.heap.size, 32, none⟩) HZ.out).trans HX32.out)
      rw [HT.out]
      clear hb2
      refine ⟨_, rfl, fun h => absurd h (by decide), ?_⟩
      go_frame
      refine tw 7 (.tuple #[.int .i64 n, .bool true]) ?_
      go_frame
      refine tw 8 (.int .i64 n) ?_
      go_frame
      refine tw 9 (.bool true) ?_
      go_frame
      refine tw 10 (.int .i64 n) ?_
      go_frame
      refine tw 11 (.bool true) ?_
      go_frame
      refine wpAnyN_done (by kernel_rfl) ?_ _
      have c32 := HX2.out
      go_wp2_with fail
      go_ret
      exact ⟨HB2.out, by rw [HE.out]; rfl⟩
    · have d1 : decide (0 ≤ r.2) = true := by simp; omega
      have d2 : decide (r.2 ≤ 2147483647) = true := by simp; omega
      have HE : Hid (foreignB deps r = true) := Lib.hid (by rw [HF.out, d1, d2]; rfl)
      clear q q2
      go_enter Tryz.func275, Tryz.ntmps275
      go_upto_region 1 with fail
      obtain ⟨W0, hW0⟩ : ∃ W0, (w.alloc (.cells (refV r).toArray 110)) = W0 := ⟨_, rfl⟩
      have HB0 := Lib.hid (show Below w.heap.size w W0 by rw [← hW0]; exact (qB _ _).alloc (qR _) _)
      have HZ := Lib.hid (show w.heap.size < W0.heap.size by rw [← hW0]; simp)
      have HX32 := Lib.hid (show W0.cell? ⟨w.heap.size, 32, none⟩ = some (.int .i64 r.2) by rw [← hW0]; exact laid_cells w _ _ _ _ (ref_cells HR.out).2)
      have HXI := Lib.hid (show W0.rangeAt w.heap.size 0 (idV r.1) by rw [← hW0]; exact fun j u hj => by rw [qZ]; exact laid_cells w _ _ _ _ ((ref_cells HR.out).1 j u hj))
      have HC0 := Lib.hid ((HB0.out.cell (p := ⟨g, 0, none⟩) HLT.out).trans HCK.out)
      have HSLD := Lib.hid (((HSL.out.more (Nat.le_of_lt HLT.out)).keep HB0.out).more HB0.out.size)
      rw [hW0]
      clear hW0
      have hE1 := enE Tryz.func231 rfl
      refine rN 6 (fun u => u.cell? ⟨g, 0, none⟩ = some (.slice Ad deps.length cd) ∧ u.rangeAt w.heap.size 0 (idV r.1)) (⟨HC0.out, HXI.out⟩) fun hF0 => ?_
      refine tw 0 (.pointer (some ⟨g, 0, none⟩)) ?_
      go_frame
      refine tw 1 (.pointer (some ⟨g, 0, none⟩)) ?_
      go_frame
      refine tw 2 (.pointer (some ⟨g, 0, none⟩)) ?_
      go_frame
      refine tl 3 (.slice Ad deps.length cd) rfl hF0 (fun w' hw' => l1 Tryz.underlying34 hw'.1) ?_
      go_frame
      refine tw 4 (.pointer (some ⟨w.heap.size, 0, none⟩)) ?_
      go_frame
      refine tl 5 (.agg (idV r.1).toArray) rfl hF0 (fun w' hw' => ex_load 41 _ rfl (p := ⟨w.heap.size, 0, none⟩) rfl (qV w' _ _ _ (idV r.1) _ hw'.2 Tryz.underlying41 rfl HSZ.out)) ?_
      go_frame
      refine ta 6 ?_
      refine tc #[.slice Ad deps.length cd, .agg (idV r.1).toArray] hE1 rfl ?_
      refine (find_any deps r.1 Ad cd W0.drew hn HO.out HR.out.1 (HSLD.out.keep (qD _ _))).mono ?_
      rintro e w2 ⟨hb2, n, rfl, -, -⟩
      have HB2 := Lib.hid (HB0.out.drew.trans (hb2.mono HB0.out.size))
      have HX2 : Hid (w2.cell? ⟨w.heap.size, 32, none⟩ = some (.int .i64 r.2)) := Lib.hid ((hb2.cell (p := ⟨w.heap.size, 32, none⟩) HZ.out).trans HX32.out)
      rw [HT.out]
      clear hb2
      refine ⟨_, rfl, fun h => absurd h (by decide), ?_⟩
      go_frame
      refine tw 7 (.tuple #[.int .i64 n, .bool true]) ?_
      go_frame
      refine tw 8 (.int .i64 n) ?_
      go_frame
      refine tw 9 (.bool true) ?_
      go_frame
      refine tw 10 (.int .i64 n) ?_
      go_frame
      refine tw 11 (.bool true) ?_
      go_frame
      refine wpAnyN_done (by kernel_rfl) ?_ _
      have c32 := HX2.out
      go_wp2_with fail
      go_ret
      exact ⟨HB2.out, by rw [HE.out]; rfl⟩
  · have HT := Lib.hid ht
    have HE : Hid (foreignB deps r = false) := Lib.hid (by rw [HF.out, ht]; rfl)
    clear ht
    go_enter Tryz.func275, Tryz.ntmps275
    go_upto_region 1 with fail
    obtain ⟨W0, hW0⟩ : ∃ W0, (w.alloc (.cells (refV r).toArray 110)) = W0 := ⟨_, rfl⟩
    have HB0 := Lib.hid (show Below w.heap.size w W0 by rw [← hW0]; exact (qB _ _).alloc (qR _) _)
    have HZ := Lib.hid (show w.heap.size < W0.heap.size by rw [← hW0]; simp)
    have HX32 := Lib.hid (show W0.cell? ⟨w.heap.size, 32, none⟩ = some (.int .i64 r.2) by rw [← hW0]; exact laid_cells w _ _ _ _ (ref_cells HR.out).2)
    have HXI := Lib.hid (show W0.rangeAt w.heap.size 0 (idV r.1) by rw [← hW0]; exact fun j u hj => by rw [qZ]; exact laid_cells w _ _ _ _ ((ref_cells HR.out).1 j u hj))
    have HC0 := Lib.hid ((HB0.out.cell (p := ⟨g, 0, none⟩) HLT.out).trans HCK.out)
    have HSLD := Lib.hid (((HSL.out.more (Nat.le_of_lt HLT.out)).keep HB0.out).more HB0.out.size)
    rw [hW0]
    clear hW0
    have hE1 := enE Tryz.func231 rfl
    refine rN 6 (fun u => u.cell? ⟨g, 0, none⟩ = some (.slice Ad deps.length cd) ∧ u.rangeAt w.heap.size 0 (idV r.1)) (⟨HC0.out, HXI.out⟩) fun hF0 => ?_
    refine tw 0 (.pointer (some ⟨g, 0, none⟩)) ?_
    go_frame
    refine tw 1 (.pointer (some ⟨g, 0, none⟩)) ?_
    go_frame
    refine tw 2 (.pointer (some ⟨g, 0, none⟩)) ?_
    go_frame
    refine tl 3 (.slice Ad deps.length cd) rfl hF0 (fun w' hw' => l1 Tryz.underlying34 hw'.1) ?_
    go_frame
    refine tw 4 (.pointer (some ⟨w.heap.size, 0, none⟩)) ?_
    go_frame
    refine tl 5 (.agg (idV r.1).toArray) rfl hF0 (fun w' hw' => ex_load 41 _ rfl (p := ⟨w.heap.size, 0, none⟩) rfl (qV w' _ _ _ (idV r.1) _ hw'.2 Tryz.underlying41 rfl HSZ.out)) ?_
    go_frame
    refine ta 6 ?_
    refine tc #[.slice Ad deps.length cd, .agg (idV r.1).toArray] hE1 rfl ?_
    refine (find_any deps r.1 Ad cd W0.drew hn HO.out HR.out.1 (HSLD.out.keep (qD _ _))).mono ?_
    rintro e w2 ⟨hb2, n, rfl, -, -⟩
    have HB2 := Lib.hid (HB0.out.drew.trans (hb2.mono HB0.out.size))
    have HX2 : Hid (w2.cell? ⟨w.heap.size, 32, none⟩ = some (.int .i64 r.2)) := Lib.hid ((hb2.cell (p := ⟨w.heap.size, 32, none⟩) HZ.out).trans HX32.out)
    rw [HT.out]
    clear hb2
    refine ⟨_, rfl, fun h => absurd h (by decide), ?_⟩
    go_frame
    refine tw 7 (.tuple #[.int .i64 n, .bool false]) ?_
    go_frame
    refine tw 8 (.int .i64 n) ?_
    go_frame
    refine tw 9 (.bool false) ?_
    go_frame
    refine tw 10 (.int .i64 n) ?_
    go_frame
    refine tw 11 (.bool false) ?_
    go_frame
    refine wpAnyN_done (by kernel_rfl) ?_ _
    go_wp2_with fail
    go_ret
    exact ⟨HB2.out, by rw [HE.out]; rfl⟩
end Go.Proofs.YtdgbjhfkmembdaaGreatDoor
