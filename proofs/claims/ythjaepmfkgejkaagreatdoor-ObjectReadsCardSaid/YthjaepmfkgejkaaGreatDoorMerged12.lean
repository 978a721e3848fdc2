/-
  What the checker's small functions give: foreign, doc, elements. Conditions: ids of 32 bytes; lists of at most 2^40.
  What the writer's ref writes. Conditions: ids of 32 bytes; few; the ref is of a change hung on.
  vH a walk stands: at an operation of a kind. Each law gives back its goal; taken 'with_reducible' it serves as a test ahead of a law that is dear where it does not fit. Over any program.
-/
import Derived.Test.YthjaepmfkgejkaaGreatDoorMerged11
import Derived.Test.YthjaepmfkgejkaaGreatDoorMerged9
import Derived.Test.YthjaepmfkgejkaaGreatDoorMerged10
import Derived.Test.YthjaepmfkgejkaaGreatDoorMerged2
set_option linter.unusedVariables false
set_option linter.unusedSimpArgs false
set_option maxHeartbeats 4000000
set_option maxRecDepth 100000
namespace Go.Proofs.YthjaepmfkgejkaaGreatDoor
open Lib (hid)
open Go.RowKit Go.Maps
def kK (m : jK) : List Value := .bool m.1 :: kf m.2
def JT (m : jK) : Prop := zb m.2
theorem kX {m : jK} (h : JT m) : (kK m).length = 34 := by
  have := k8 h
  simp [kK, this]
theorem KK (m : jK) : ∀ u ∈ kK m, u.oneCell' = true := by
  intro u hu
  rcases List.mem_cons.1 hu with rfl | hu
  · rfl
  · exact jO _ u hu
def CkAt (w : World) (g : Nat) (deps : List (List UInt8)) (mk : List jK) : Prop := ∃ Ad cd vm, w.heap[g]? = some (.cells #[.slice Ad deps.length cd, vm] 129 (0, 0)) ∧ Sl w g Ad deps.length 32 (jf deps) ∧ w.ownsRow (g + 1) 159 34 vm mk.length (jk kK mk)
theorem CkAt.lt {w : World} {g : Nat} {deps : List (List UInt8)} {mk : List jK} (h : CkAt w g deps mk) : g < w.heap.size := by
  obtain ⟨_, _, _, h1, _⟩ := h
  exact (Array.getElem?_eq_some_iff.1 h1).1
theorem CkAt.keep {w w' : World} {g : Nat} {deps : List (List UInt8)} {mk : List jK} (h : CkAt w g deps mk) (hb : Below w.heap.size w w') : CkAt w' g deps mk := by
  have hlt := h.lt
  obtain ⟨Ad, cd, vm, h1, h2, h3⟩ := h
  exact ⟨Ad, cd, vm, (hb.block g hlt).trans h1, h2.keep (hb.mono (Nat.le_of_lt hlt)), (But.of_below (X := NoB) hb).own h3 fun _ _ q => q⟩
theorem jp (w : World) (cs : List Value) (T : TypeId) : ∀ j u, cs[j]? = some u → (w.alloc (.cells cs.toArray T)).cell? ⟨w.heap.size, j, none⟩ = some u := by
  intro j u hj
  rw [k6 (heap_alloc_new w _) j]
  exact hj
theorem uu (g : Nat) (deps : List (List UInt8)) (mk : List jK) (r : za) (w : World) (hk : CkAt w g deps mk) (ho : IdsOk deps) (hn : deps.length ≤ 1099511627776) (hr : zb r) :
    Calls Tryz.prog 123 #[.pointer (some ⟨g, 0, none⟩), .agg (kf r).toArray] w fun e w' => Below w.heap.size w w' ∧ e = .returned (.bool (zl deps r)) := by
  have HLT := hid hk.lt
  obtain ⟨Ad, cd, vm, h1, h2, h3⟩ := hk
  have HSL := hid h2; have HO := hid ho; have HR := hid hr
  have HCK := hid (show w.cell? ⟨g, 0, none⟩ = some (.slice Ad deps.length cd) from k6 h1 0)
  have hsz : (Tryz.prog.info? 47).map (·.size) = some (idV r.1).length := by rw [km, show r.1.length = 32 from hr.1]; exact kR
  have HSZ := hid hsz
  have HW := hid (jM hr.2)
  have HF : Hid (zl deps r = ((kY deps && decide (r.1 ∈ deps)) && decide (0 ≤ r.2) && decide (r.2 ≤ 2147483647))) := hid rfl
  clear h1 h2 h3 ho hr hsz
  rcases Bool.eq_false_or_eq_true (kY deps && decide (r.1 ∈ deps)) with ht | ht
  ·
   have HT := hid ht
   rw [ht] at HF
   clear ht
   rcases (by omega : r.2 < 0 ∨ (0 ≤ r.2 ∧ 2147483647 < r.2) ∨ (0 ≤ r.2 ∧ r.2 ≤ 2147483647)) with q | ⟨q, q2⟩ | ⟨q, q2⟩
   focus
     have d1 : decide (0 ≤ r.2) = false := by simp; omega
     have HE : Hid (zl deps r = false) := hid (by rw [HF.out, d1]; rfl)
     clear q
   rotate_left
   focus
     have d1 : decide (0 ≤ r.2) = true := by simp; omega
     have d2 : decide (r.2 ≤ 2147483647) = false := by simp; omega
     have HE : Hid (zl deps r = false) := hid (by rw [HF.out, d1, d2]; rfl)
     clear q q2
   rotate_left
   focus
     have d1 : decide (0 ≤ r.2) = true := by simp; omega
     have d2 : decide (r.2 ≤ 2147483647) = true := by simp; omega
     have HE : Hid (zl deps r = true) := hid (by rw [HF.out, d1, d2]; rfl)
     clear q q2
   all_goals
     go_enter Tryz.func123, Tryz.ntmps123
     go_upto_region 1 with fail
     obtain ⟨W0, hW0⟩ : ∃ W0, (w.alloc (.cells (kf r).toArray 68)) = W0 := ⟨_, rfl⟩
     have HB0 := hid (show Below w.heap.size w W0 by rw [← hW0]; exact (Below.refl _ _).alloc (Nat.le_refl _) _)
     have HZ := hid (show w.heap.size < W0.heap.size by rw [← hW0]; simp)
     have HX32 := hid (show W0.cell? ⟨w.heap.size, 32, none⟩ = some (.int .i64 r.2) by rw [← hW0]; exact jp w _ _ _ _ (kI HR.out).2)
     have HXI := hid (show W0.rangeAt w.heap.size 0 (idV r.1) by rw [← hW0]; exact fun j u hj => by rw [Nat.zero_add]; exact jp w _ _ _ _ ((kI HR.out).1 j u hj))
     have HC0 := hid ((HB0.out.cell (p := ⟨g, 0, none⟩) HLT.out).trans HCK.out)
     have HSLD := hid (((HSL.out.more (Nat.le_of_lt HLT.out)).keep HB0.out).more HB0.out.size)
     rw [hW0]
     clear hW0
     have hE1 : ∀ (u : World) (args : Array Value), (callFunc 94 args).run Tryz.prog u = .ok (.enter 94 args) u := fun u args => enters_of Tryz.func94 (by kernel_rfl) rfl args u
     refine kr 6 (fun u => u.cell? ⟨g, 0, none⟩ = some (.slice Ad deps.length cd) ∧ u.rangeAt w.heap.size 0 (idV r.1)) (by kernel_rfl) ?_
     have hF0 : (fun u => u.cell? ⟨g, 0, none⟩ = some (.slice Ad deps.length cd) ∧ u.rangeAt w.heap.size 0 (idV r.1)) W0.drew := ⟨HC0.out, HXI.out⟩
     refine tw 0 (.pointer (some ⟨g, 0, none⟩)) ?_
     go_frame
     refine tw 1 (.pointer (some ⟨g, 0, none⟩)) ?_
     go_frame
     refine tw 2 (.pointer (some ⟨g, 0, none⟩)) ?_
     go_frame
     refine tkF 3 (.slice Ad deps.length cd) (by kernel_rfl) rfl (fun _ _ _ h => h) (by rfl) hF0 (fun w' hw' => ki 23 _ rfl (p := ⟨g, 0, none⟩) rfl Tryz.underlying23 rfl hw'.1) ?_
     go_frame
     refine tw 4 (.pointer (some ⟨w.heap.size, 0, none⟩)) ?_
     go_frame
     refine tkF 5 (.agg (idV r.1).toArray) (by kernel_rfl) rfl (fun _ _ _ h => h) (by rfl) hF0 (fun w' hw' => kd 47 _ rfl (p := ⟨w.heap.size, 0, none⟩) rfl (run_loadVar_mid w' _ _ _ (idV r.1) _ hw'.2 Tryz.underlying47 rfl HSZ.out)) ?_
     go_frame
     refine ta 6 ?_
     refine kC _ rfl (by kernel_rfl) (kv (f := 94) (args := #[.slice Ad deps.length cd, .agg (idV r.1).toArray]) rfl rfl (fun args w => hE1 w args) (by simp only [List.map_toArray, List.map_cons, List.map_nil]; rfl)) ?_
     refine (Ub deps r.1 Ad cd W0.drew hn HO.out HR.out.1 (HSLD.out.keep (Below.refl _ _).drew)).mono ?_
     rintro e w2 ⟨hb2, n, rfl, -, -⟩
     have HB2 := hid (HB0.out.drew.trans (hb2.mono HB0.out.size))
     have HX2 : Hid (w2.cell? ⟨w.heap.size, 32, none⟩ = some (.int .i64 r.2)) := hid ((hb2.cell (p := ⟨w.heap.size, 32, none⟩) HZ.out).trans HX32.out)
     rw [HT.out]
     clear hb2
     refine ⟨_, rfl, fun h => absurd h (by decide), ?_⟩
     go_frame
     refine tw 7 (.tuple #[.int .i64 n, .bool true]) ?_
     go_frame
     refine tw 8 (.int .i64 n) ?_
     go_frame
     refine tw 9 (.bool true) ?_
     go_frame
     refine tw 10 (.int .i64 n) ?_
     go_frame
     refine tw 11 (.bool true) ?_
     go_frame
     refine kx (by kernel_rfl) ?_ _
     have c32 := HX2.out
     go_wp2_with fail
     go_ret
     exact ⟨HB2.out, by rw [HE.out]; rfl⟩
  ·
   have HT := hid ht
   have HE : Hid (zl deps r = false) := hid (by rw [HF.out, ht]; rfl)
   clear ht
   go_enter Tryz.func123, Tryz.ntmps123
   go_upto_region 1 with fail
   obtain ⟨W0, hW0⟩ : ∃ W0, (w.alloc (.cells (kf r).toArray 68)) = W0 := ⟨_, rfl⟩
   have HB0 := hid (show Below w.heap.size w W0 by rw [← hW0]; exact (Below.refl _ _).alloc (Nat.le_refl _) _)
   have HZ := hid (show w.heap.size < W0.heap.size by rw [← hW0]; simp)
   have HX32 := hid (show W0.cell? ⟨w.heap.size, 32, none⟩ = some (.int .i64 r.2) by rw [← hW0]; exact jp w _ _ _ _ (kI HR.out).2)
   have HXI := hid (show W0.rangeAt w.heap.size 0 (idV r.1) by rw [← hW0]; exact fun j u hj => by rw [Nat.zero_add]; exact jp w _ _ _ _ ((kI HR.out).1 j u hj))
   have HC0 := hid ((HB0.out.cell (p := ⟨g, 0, none⟩) HLT.out).trans HCK.out)
   have HSLD := hid (((HSL.out.more (Nat.le_of_lt HLT.out)).keep HB0.out).more HB0.out.size)
   rw [hW0]
   clear hW0
   have hE1 : ∀ (u : World) (args : Array Value), (callFunc 94 args).run Tryz.prog u = .ok (.enter 94 args) u := fun u args => enters_of Tryz.func94 (by kernel_rfl) rfl args u
   refine kr 6 (fun u => u.cell? ⟨g, 0, none⟩ = some (.slice Ad deps.length cd) ∧ u.rangeAt w.heap.size 0 (idV r.1)) (by kernel_rfl) ?_
   have hF0 : (fun u => u.cell? ⟨g, 0, none⟩ = some (.slice Ad deps.length cd) ∧ u.rangeAt w.heap.size 0 (idV r.1)) W0.drew := ⟨HC0.out, HXI.out⟩
   refine tw 0 (.pointer (some ⟨g, 0, none⟩)) ?_
   go_frame
   refine tw 1 (.pointer (some ⟨g, 0, none⟩)) ?_
   go_frame
   refine tw 2 (.pointer (some ⟨g, 0, none⟩)) ?_
   go_frame
   refine tkF 3 (.slice Ad deps.length cd) (by kernel_rfl) rfl (fun _ _ _ h => h) (by rfl) hF0 (fun w' hw' => ki 23 _ rfl (p := ⟨g, 0, none⟩) rfl Tryz.underlying23 rfl hw'.1) ?_
   go_frame
   refine tw 4 (.pointer (some ⟨w.heap.size, 0, none⟩)) ?_
   go_frame
   refine tkF 5 (.agg (idV r.1).toArray) (by kernel_rfl) rfl (fun _ _ _ h => h) (by rfl) hF0 (fun w' hw' => kd 47 _ rfl (p := ⟨w.heap.size, 0, none⟩) rfl (run_loadVar_mid w' _ _ _ (idV r.1) _ hw'.2 Tryz.underlying47 rfl HSZ.out)) ?_
   go_frame
   refine ta 6 ?_
   refine kC _ rfl (by kernel_rfl) (kv (f := 94) (args := #[.slice Ad deps.length cd, .agg (idV r.1).toArray]) rfl rfl (fun args w => hE1 w args) (by simp only [List.map_toArray, List.map_cons, List.map_nil]; rfl)) ?_
   refine (Ub deps r.1 Ad cd W0.drew hn HO.out HR.out.1 (HSLD.out.keep (Below.refl _ _).drew)).mono ?_
   rintro e w2 ⟨hb2, n, rfl, -, -⟩
   have HB2 := hid (HB0.out.drew.trans (hb2.mono HB0.out.size))
   have HX2 : Hid (w2.cell? ⟨w.heap.size, 32, none⟩ = some (.int .i64 r.2)) := hid ((hb2.cell (p := ⟨w.heap.size, 32, none⟩) HZ.out).trans HX32.out)
   rw [HT.out]
   clear hb2
   refine ⟨_, rfl, fun h => absurd h (by decide), ?_⟩
   go_frame
   refine tw 7 (.tuple #[.int .i64 n, .bool false]) ?_
   go_frame
   refine tw 8 (.int .i64 n) ?_
   go_frame
   refine tw 9 (.bool false) ?_
   go_frame
   refine tw 10 (.int .i64 n) ?_
   go_frame
   refine tw 11 (.bool false) ?_
   go_frame
   refine kx (by kernel_rfl) ?_ _
   go_wp2_with fail
   go_ret
   exact ⟨HB2.out, by rw [HE.out]; rfl⟩
end Go.Proofs.YthjaepmfkgejkaaGreatDoor
namespace Go.Proofs.YthjaepmfkgejkaaGreatDoor
open Lib (hid)
open Go.RowKit Go.Maps
theorem wref_any (g : Nat) (deps : List (List UInt8)) (id : List UInt8) (i : Nat) (xs : List UInt8) (Ad : Option Addr) (cd : Nat) (w : World) (hw : WrAt w g xs) (ho : IdsOk deps) (hs : kY deps = true) (hn : deps.length ≤ 1099511627776) (hr : zb (id, ((i : Nat) : Int))) (hin : id = zero32 ∨ id ∈ deps) (hi : i < 9223372036854775808) (hx : xs.length + 20 ≤ 1099511627776) (hsl : Sl w g Ad deps.length 32 (jf deps)) :
    Calls Tryz.prog 70 #[.pointer (some ⟨g, 0, none⟩), .slice Ad deps.length cd, .agg (kf (id, ((i : Nat) : Int))).toArray] w fun e w' => e = .returned (.tuple #[]) ∧ WrAt w' g (xs ++ jH deps (id, ((i : Nat) : Int))) ∧ WrGo g w w' := by
  have HWA := hid hw; have HO := hid ho; have HSL := hid hsl; have HR := hid hr
  have HI := hid (show Kw id from hr.1)
  have hsz : (Tryz.prog.info? 47).map (·.size) = some (idV id).length := by rw [km, show id.length = 32 from hr.1]; exact kR
  have HSZ := hid hsz
  have EQ0 := hid (fun (u : World) => zV (show Kw id from hr.1) zM u)
  have ZB := hid jX
  by_cases hz : id = zero32
  ·
   have dz : decide (id = zero32) = true := by simp [hz]
   have EQ := hid (fun (u : World) => (EQ0.out u).trans (by rw [dz]))
   have HE : Hid (jH deps (id, ((i : Nat) : Int)) = kZ 0 ++ kZ i) := hid (by unfold jH; simp only; rw [if_neg (by simp [hz]), jw]; exact congrArg (· ++ kZ i) (jw 0))
   have hl := je (n := 0) (by omega)
   clear dz EQ0 hw ho hsl hr hsz hz hin hs
   go_enter Tryz.func70, Tryz.ntmps70
   go_upto_region 1 with fail
   obtain ⟨W0, hW0⟩ : ∃ W0, (w.alloc (.cells (kf (id, ((i : Nat) : Int))).toArray 68)) = W0 := ⟨_, rfl⟩
   have HB0 := hid (show Below w.heap.size w W0 by rw [← hW0]; exact (Below.refl _ _).alloc (Nat.le_refl _) _)
   have HZ := hid (show w.heap.size < W0.heap.size by rw [← hW0]; simp)
   have HX32 := hid (show W0.cell? ⟨w.heap.size, 32, none⟩ = some (.int .i64 ((i : Nat) : Int)) by rw [← hW0]; exact jp w _ _ _ _ (kI HR.out).2)
   have HXI := hid (show W0.rangeAt w.heap.size 0 (idV id) by rw [← hW0]; exact fun j u hj => by rw [Nat.zero_add]; exact jp w _ _ _ _ ((kI HR.out).1 j u hj))
   rw [hW0]
   clear hW0
   have HWA0 := hid (HWA.out.keep HB0.out)
   have HNX := hid (HWA.out.newNot HB0.out (Nat.le_refl _))
   have HG0 := hid (WrGo.below HWA.out.lt HB0.out)
   go_upto_region 5 with (first
     | (refine k9 (by rfl) (kd 47 _ rfl (p := ⟨w.heap.size, 0, none⟩) rfl (run_loadVar_mid _ _ _ _ _ _ HXI.out Tryz.underlying47 rfl HSZ.out)) ?_)
     | (refine k9 (by rfl) (kF 47 #[] rfl (ZB.out _)) ?_)
     | (refine k9 (by rfl) (jc 47 _ _ _ rfl (xs := (idV id).toArray) (ys := (idV zero32).toArray) rfl rfl (r := true) eqId.noGuard (EQ.out _)) ?_; simp only [Act.put, List.setIfInBounds_toArray, List.set_cons_zero, List.set_cons_succ, Bool.not_true, Bool.not_false]))
   go_upto_region 6 with (first
     | (go_at_call 66; refine (KU g 0 xs W0 HWA0.out (by omega) (by omega)).mono ?_; rintro e w2 ⟨rfl, hat2, hgo2⟩
        have c32 := (hgo2.cell (j := 32) HZ.out HNX.out).trans HX32.out
        have HAT2 := hid hat2; have HGO2 := hid hgo2
        clear hat2 hgo2))
   go_wp2_with (first
     | (go_at_call 66; refine (KU g i (xs ++ kZ 0) w2 HAT2.out (by omega) (by rw [List.length_append]; omega)).mono ?_; rintro e w3 ⟨rfl, hat3, hgo3⟩))
   go_end0
   exact ⟨rfl, by rw [HE.out, ← List.append_assoc]; exact hat3, HG0.out.trans (HGO2.out.trans hgo3)⟩
  ·
   have dz : decide (id = zero32) = false := by simp [hz]
   have EQ := hid (fun (u : World) => (EQ0.out u).trans (by rw [dz]))
   have hm : id ∈ deps := hin.resolve_left hz
   have hlt := List.idxOf_lt_length_iff.2 hm
   have HTH : Hid ((kY deps && decide (id ∈ deps)) = true) := hid (by rw [hs]; simpa using hm)
   have HFI := hid (fun (n : Nat) (h : (kY deps && decide (id ∈ deps)) = true → deps[n]? = some id) => (show n = deps.idxOf id by
     have h1 := h HTH.out
     obtain ⟨h2, h3⟩ := List.getElem?_eq_some_iff.1 h1
     rw [← uU hs n h2, h3]))
   have HE : Hid (jH deps (id, ((i : Nat) : Int)) = kZ (deps.idxOf id + 1) ++ kZ i) := hid (by unfold jH; simp only; rw [if_pos hz, jw]; exact congrArg (· ++ kZ i) (jw (deps.idxOf id + 1)))
   have hl := je (n := deps.idxOf id + 1) (by omega)
   have hi63 : deps.idxOf id < 1099511627776 := by omega
   clear dz EQ0 hw ho hsl hr hsz hz hin hs hm hlt
   generalize deps.idxOf id = q at *
   go_enter Tryz.func70, Tryz.ntmps70
   go_upto_region 1 with fail
   obtain ⟨W0, hW0⟩ : ∃ W0, (w.alloc (.cells (kf (id, ((i : Nat) : Int))).toArray 68)) = W0 := ⟨_, rfl⟩
   have HB0 := hid (show Below w.heap.size w W0 by rw [← hW0]; exact (Below.refl _ _).alloc (Nat.le_refl _) _)
   have HZ := hid (show w.heap.size < W0.heap.size by rw [← hW0]; simp)
   have HX32 := hid (show W0.cell? ⟨w.heap.size, 32, none⟩ = some (.int .i64 ((i : Nat) : Int)) by rw [← hW0]; exact jp w _ _ _ _ (kI HR.out).2)
   have HXI := hid (show W0.rangeAt w.heap.size 0 (idV id) by rw [← hW0]; exact fun j u hj => by rw [Nat.zero_add]; exact jp w _ _ _ _ ((kI HR.out).1 j u hj))
   rw [hW0]
   clear hW0
   have HWA0 := hid (HWA.out.keep HB0.out)
   have HNX := hid (HWA.out.newNot HB0.out (Nat.le_refl _))
   have HG0 := hid (WrGo.below HWA.out.lt HB0.out)
   have HSLD := hid (((HSL.out.more (Nat.le_of_lt HWA.out.lt)).keep HB0.out).more HB0.out.size)
   go_upto_region 5 with (first
     | (refine k9 (by rfl) (kd 47 _ rfl (p := ⟨w.heap.size, 0, none⟩) rfl (run_loadVar_mid _ _ _ _ _ _ HXI.out Tryz.underlying47 rfl HSZ.out)) ?_)
     | (refine k9 (by rfl) (kF 47 #[] rfl (ZB.out _)) ?_)
     | (refine k9 (by rfl) (jc 47 _ _ _ rfl (xs := (idV id).toArray) (ys := (idV zero32).toArray) rfl rfl (r := false) eqId.noGuard (EQ.out _)) ?_; simp only [Act.put, List.setIfInBounds_toArray, List.set_cons_zero, List.set_cons_succ, Bool.not_true, Bool.not_false])
     | (go_at_call 94; refine (Ub deps id Ad cd W0 hn HO.out HI.out HSLD.out).mono ?_; rintro e w1 ⟨hb1, n, rfl, hn1, hn2⟩
        obtain rfl : q = n := (HFI.out n hn2).symm
        rw [HTH.out]
        have HWA1 := hid (HWA0.out.keep hb1)
        have HNX1 := hid (HWA0.out.keepNot hb1 HNX.out)
        have HG1 := hid (HG0.out.trans (WrGo.below HWA0.out.lt hb1))
        have HX32' := hid ((hb1.cell (p := ⟨w.heap.size, 32, none⟩) HZ.out).trans HX32.out)
        have HZ1 := hid (Nat.lt_of_lt_of_le HZ.out hb1.size)
        clear hb1 hn2))
   go_upto_region 6 with (first
     | (go_at_call 66; refine (KU g (q + 1) xs w1 HWA1.out (by omega) (by omega)).mono ?_; rintro e w2 ⟨rfl, hat2, hgo2⟩
        have c32 := (hgo2.cell (j := 32) HZ1.out HNX1.out).trans HX32'.out
        have HAT2 := hid hat2; have HGO2 := hid hgo2
        clear hat2 hgo2))
   go_wp2_with (first
     | (go_at_call 66; refine (KU g i (xs ++ kZ (q + 1)) w2 HAT2.out (by omega) (by rw [List.length_append]; omega)).mono ?_; rintro e w3 ⟨rfl, hat3, hgo3⟩))
   go_end0
   exact ⟨rfl, by rw [HE.out, ← List.append_assoc]; exact hat3, HG1.out.trans (HGO2.out.trans hgo3)⟩
end Go.Proofs.YthjaepmfkgejkaaGreatDoor
namespace Go.Proofs.YthjaepmfkgejkaaGreatDoor
section
variable {P : Program} {ops : Array Oper} {Q : Exit → Act → World → Prop} {rest : List Oper} {a : Act} {w : World} {d : Option Tmp} {t : TypeId} {p : String} {af : Array Edge} {g : Option (Nat × Bool)}
theorem ke {ty : TypeId} {x : Operand} (h : wpList P ops Q ({ dst := d, op := .load ty x, type := t, pos := p, after := af, guard := g } :: rest) a w) : wpList P ops Q ({ dst := d, op := .load ty x, type := t, pos := p, after := af, guard := g } :: rest) a w := h
theorem ko {ty : TypeId} {x y : Operand} (h : wpList P ops Q ({ dst := d, op := .store ty x y, type := t, pos := p, after := af, guard := g } :: rest) a w) : wpList P ops Q ({ dst := d, op := .store ty x y, type := t, pos := p, after := af, guard := g } :: rest) a w := h
theorem kG {ty : TypeId} (h : wpList P ops Q ({ dst := d, op := .alloc ty, type := t, pos := p, after := af, guard := g } :: rest) a w) : wpList P ops Q ({ dst := d, op := .alloc ty, type := t, pos := p, after := af, guard := g } :: rest) a w := h
theorem kH {ty : TypeId} {x : Operand} (h : wpList P ops Q ({ dst := d, op := .box ty x, type := t, pos := p, after := af, guard := g } :: rest) a w) : wpList P ops Q ({ dst := d, op := .box ty x, type := t, pos := p, after := af, guard := g } :: rest) a w := h
theorem kQ {ty : TypeId} {xs : Array (Nat × Operand)} (h : wpList P ops Q ({ dst := d, op := .build ty xs, type := t, pos := p, after := af, guard := g } :: rest) a w) : wpList P ops Q ({ dst := d, op := .build ty xs, type := t, pos := p, after := af, guard := g } :: rest) a w := h
theorem kP {b : BinOp} {ty tz : TypeId} {x y : Operand} (h : wpList P ops Q ({ dst := d, op := .binOp b ty x y tz, type := t, pos := p, after := af, guard := g } :: rest) a w) : wpList P ops Q ({ dst := d, op := .binOp b ty x y tz, type := t, pos := p, after := af, guard := g } :: rest) a w := h
end
end Go.Proofs.YthjaepmfkgejkaaGreatDoor
