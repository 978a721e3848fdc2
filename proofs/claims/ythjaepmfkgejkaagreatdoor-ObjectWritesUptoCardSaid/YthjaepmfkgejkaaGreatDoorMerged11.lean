/-
  A slice of a slice as one step of a walk, its value named. Over any program; conditions as each says.
  A region that draws its order, in the worlds that only drew and grew. Conditions: as the law says.
  What the checker's small functions give: foreign, doc, elements. Conditions: ids of 32 bytes; lists of at most 2^40.
  What the writer's ref writes. Conditions: ids of 32 bytes; few; the ref is of a change hung on.
  ur a walk stands: at an operation of a kind. Each law gives back its goal; taken 'with_reducible' it serves as a test ahead of a law that is dear where it does not fit. Over any program.
-/
import Derived.Test.YthjaepmfkgejkaaGreatDoorMerged2
import Derived.Laws.Slices
import Derived.Test.YthjaepmfkgejkaaGreatDoorMerged10
import Derived.Test.YthjaepmfkgejkaaGreatDoorMerged1
import Derived.Test.YthjaepmfkgejkaaGreatDoorMerged4
import Derived.Test.YthjaepmfkgejkaaGreatDoorMerged3
import Derived.Test.YthjaepmfkgejkaaGreatDoorMerged8
set_option linter.unusedVariables false
set_option linter.unusedSimpArgs false
set_option maxHeartbeats 4000000
set_option maxRecDepth 100000
namespace Go.Proofs.YthjaepmfkgejkaaGreatDoor
open Go.RowKit
section
variable {P : Program} {ρ : Operand → Value} {o : Oper} {w : World}
theorem JS {e : TypeId} {size : Nat} (hs : (P.info? e).map (·.size) = some size) (w : World) : (sizeOf e).run P w = .ok size w := by
  cases hq : P.info? e with
  | none => simp [hq] at hs
  | some i =>
    have : i.size = size := by simpa [hq] using hs
    simp [sizeOf, typeInfo, hq, this]
theorem ex_slice_lh (t : TypeId) (x lo hi : Operand) (ho : o.op = .slice t x (some lo) (some hi) none) {A : Option Addr} {n c l h : Nat} {kl kh : IntKind} (hx : ρ x = .slice A n c) (hl : ρ lo = .int kl (l : Int)) (hh : ρ hi = .int kh (h : Int))
    (ht : P.underlying t = some (.slice (P.elem t))) {size : Nat} (hs : (P.info? (P.elem t)).map (·.size) = some size) (h1 : l ≤ h) (h2 : h ≤ c) {V : Value} (hV : sliced A l h c size = V) :
    (execOp ρ o).run P w = .ok (.value V) w := by
  subst hV
  have hr := run_slice_lh w t A n c ht kl kh (l : Int) (h : Int) (by omega) (by omega) (by omega)
  rw [JS hs] at hr
  simp only [Result.andThen, Int.toNat_natCast] at hr
  have ha := run_sliceAt_slice w t (.slice A n c) (some (.int kl (l : Int))) (some (.int kh (h : Int))) none ht
  rw [hr] at ha
  unfold execOp
  simp only [ho, hx, hl, hh, Option.map_some, Option.map_none, Sem.run_bind, ha, Result.andThen_ok, Sem.run_pure]
theorem ZD (t : TypeId) (x lo : Operand) (ho : o.op = .slice t x (some lo) none none) {A : Option Addr} {n c l : Nat} {kl : IntKind} (hx : ρ x = .slice A n c) (hl : ρ lo = .int kl (l : Int))
    (ht : P.underlying t = some (.slice (P.elem t))) {size : Nat} (hs : (P.info? (P.elem t)).map (·.size) = some size) (h1 : l ≤ n) {V : Value} (hV : sliced A l n c size = V) :
    (execOp ρ o).run P w = .ok (.value V) w := by
  subst hV
  have hr := run_slice_l w t A n c ht kl (l : Int) (by omega) (by omega)
  rw [JS hs] at hr
  simp only [Result.andThen, Int.toNat_natCast] at hr
  have ha := run_sliceAt_slice w t (.slice A n c) (some (.int kl (l : Int))) none none ht
  rw [hr] at ha
  unfold execOp
  simp only [ho, hx, hl, Option.map_some, Option.map_none, Sem.run_bind, ha, Result.andThen_ok, Sem.run_pure]
end
end Go.Proofs.YthjaepmfkgejkaaGreatDoor
namespace Go.Proofs.YthjaepmfkgejkaaGreatDoor
open Go.RowKit
theorem kL {P : Program} {id : Nat} {Q : Exit → Act → World → Prop} {a : Act} {w : World} {l : List Oper} (hm : P.follows .mixedOrders = true) (hB : Region.lexB .any l.toArray = true)
    (h : wpQuiet P l.toArray (fun w' => ∃ n : Wg w, w' = n.val) (fun a' => ∀ w', (∃ n : Wg w, w' = n.val) → Q .normal a' w') l a) : (Code.region id l.toArray true).wp P Q a w :=
  wp_region_quiet (C := fun w' => ∃ n : Wg w, w' = n.val) hm hB ⟨⟨_, (Gr.refl w).drew⟩, rfl⟩ (by simpa using h)
end Go.Proofs.YthjaepmfkgejkaaGreatDoor
namespace Go.Proofs.YthjaepmfkgejkaaGreatDoor
open Lib (hid)
open Go.RowKit Go.Maps
def kE (m : jw) : List Value := .bool m.1 :: ke m.2
def Z9 (m : jw) : Prop := jN m.2
theorem kV {m : jw} (h : Z9 m) : (kE m).length = 34 := by
  have := kf h
  simp [kE, this]
theorem Jf (m : jw) : ∀ u ∈ kE m, u.oneCell' = true := by
  intro u hu
  rcases List.mem_cons.1 hu with rfl | hu
  · rfl
  · exact Kz _ u hu
def CkAt (w : World) (g : Nat) (deps : List (List UInt8)) (mk : List jw) : Prop := ∃ Ad cd vm, w.heap[g]? = some (.cells #[.slice Ad deps.length cd, vm] 129 (0, 0)) ∧ Sl w g Ad deps.length 32 (kr deps) ∧ w.ownsRow (g + 1) 159 34 vm mk.length (jb kE mk)
theorem CkAt.lt {w : World} {g : Nat} {deps : List (List UInt8)} {mk : List jw} (h : CkAt w g deps mk) : g < w.heap.size := by
  obtain ⟨_, _, _, h1, _⟩ := h
  exact (qX h1)
theorem CkAt.keep {w w' : World} {g : Nat} {deps : List (List UInt8)} {mk : List jw} (h : CkAt w g deps mk) (hb : Below w.heap.size w w') : CkAt w' g deps mk := by
  have hlt := h.lt
  obtain ⟨Ad, cd, vm, h1, h2, h3⟩ := h
  exact ⟨Ad, cd, vm, (hb.block g hlt).trans h1, h2.keep (hb.mono (Nat.le_of_lt hlt)), (But.of_below (X := NoB) hb).own h3 fun _ _ q => q⟩
theorem jc (w : World) (cs : List Value) (T : TypeId) : ∀ j u, cs[j]? = some u → (w.alloc (.cells cs.toArray T)).cell? ⟨w.heap.size, j, none⟩ = some u := by
  intro j u hj
  rw [k5 (heap_alloc_new w _) j]
  exact hj
theorem Ub (g : Nat) (deps : List (List UInt8)) (mk : List jw) (r : jQ) (w : World) (hk : CkAt w g deps mk) (ho : IdsOk deps) (hn : deps.length ≤ 1099511627776) (hr : jN r) :
    Calls Tryz.prog 123 #[.pointer (some ⟨g, 0, none⟩), .agg (ke r).toArray] w fun e w' => Below w.heap.size w w' ∧ e = .returned (.bool (jY deps r)) := by
  have HLT := hid hk.lt
  obtain ⟨Ad, cd, vm, h1, h2, h3⟩ := hk
  have HSL := hid h2; have HO := hid ho; have HR := hid hr
  have HCK := hid (show w.cell? ⟨g, 0, none⟩ = some (.slice Ad deps.length cd) from k5 h1 0)
  have hsz : (Tryz.prog.info? 47).map (·.size) = some (idV r.1).length := by rw [k8, show r.1.length = 32 from hr.1]; exact kt
  have HSZ := hid hsz
  have HW := hid (jO hr.2)
  have HF : Hid (jY deps r = ((kI deps && decide (r.1 ∈ deps)) && decide (0 ≤ r.2) && decide (r.2 ≤ 2147483647))) := hid rfl
  clear h1 h2 h3 ho hr hsz
  rcases Bool.eq_false_or_eq_true (kI deps && decide (r.1 ∈ deps)) with ht | ht
  ·
   have HT := hid ht
   rw [ht] at HF
   clear ht
   rcases (by omega : r.2 < 0 ∨ (0 ≤ r.2 ∧ 2147483647 < r.2) ∨ (0 ≤ r.2 ∧ r.2 ≤ 2147483647)) with q | ⟨q, q2⟩ | ⟨q, q2⟩
   focus
     have d1 : decide (0 ≤ r.2) = false := by simp; omega
     have HE : Hid (jY deps r = false) := hid (by rw [HF.out, d1]; rfl)
     clear q
   rotate_left
   focus
     have d1 : decide (0 ≤ r.2) = true := by simp; omega
     have d2 : decide (r.2 ≤ 2147483647) = false := by simp; omega
     have HE : Hid (jY deps r = false) := hid (by rw [HF.out, d1, d2]; rfl)
     clear q q2
   rotate_left
   focus
     have d1 : decide (0 ≤ r.2) = true := by simp; omega
     have d2 : decide (r.2 ≤ 2147483647) = true := by simp; omega
     have HE : Hid (jY deps r = true) := hid (by rw [HF.out, d1, d2]; rfl)
     clear q q2
   all_goals
     go_enter Tryz.func123, Tryz.ntmps123
     go_upto_region 1 with fail
     obtain ⟨W0, hW0⟩ : ∃ W0, (w.alloc (.cells (ke r).toArray 68)) = W0 := ⟨_, rfl⟩
     have HB0 := hid (show Below w.heap.size w W0 by rw [← hW0]; exact (qB _ _).alloc (qR _) _)
     have HZ := hid (show w.heap.size < W0.heap.size by rw [← hW0]; simp)
     have HX32 := hid (show W0.cell? ⟨w.heap.size, 32, none⟩ = some (.int .i64 r.2) by rw [← hW0]; exact jc w _ _ _ _ (kA HR.out).2)
     have HXI := hid (show W0.rangeAt w.heap.size 0 (idV r.1) by rw [← hW0]; exact fun j u hj => by rw [qZ]; exact jc w _ _ _ _ ((kA HR.out).1 j u hj))
     have HC0 := hid ((HB0.out.cell (p := ⟨g, 0, none⟩) HLT.out).trans HCK.out)
     have HSLD := hid (((HSL.out.more (Nat.le_of_lt HLT.out)).keep HB0.out).more HB0.out.size)
     rw [hW0]
     clear hW0
     have hE1 := enE Tryz.func94 rfl
     refine rN 6 (fun u => u.cell? ⟨g, 0, none⟩ = some (.slice Ad deps.length cd) ∧ u.rangeAt w.heap.size 0 (idV r.1)) (⟨HC0.out, HXI.out⟩) fun hF0 => ?_
     refine tw 0 (.pointer (some ⟨g, 0, none⟩)) ?_
     go_frame
     refine tw 1 (.pointer (some ⟨g, 0, none⟩)) ?_
     go_frame
     refine tw 2 (.pointer (some ⟨g, 0, none⟩)) ?_
     go_frame
     refine tl 3 (.slice Ad deps.length cd) rfl hF0 (fun w' hw' => l1 Tryz.underlying23 hw'.1) ?_
     go_frame
     refine tw 4 (.pointer (some ⟨w.heap.size, 0, none⟩)) ?_
     go_frame
     refine tl 5 (.agg (idV r.1).toArray) rfl hF0 (fun w' hw' => k9 47 _ rfl (p := ⟨w.heap.size, 0, none⟩) rfl (qV w' _ _ _ (idV r.1) _ hw'.2 Tryz.underlying47 rfl HSZ.out)) ?_
     go_frame
     refine ta 6 ?_
     refine tc #[.slice Ad deps.length cd, .agg (idV r.1).toArray] hE1 rfl ?_
     refine (UQ deps r.1 Ad cd W0.drew hn HO.out HR.out.1 (HSLD.out.keep (qD _ _))).mono ?_
     rintro e w2 ⟨hb2, n, rfl, -, -⟩
     have HB2 := hid (HB0.out.drew.trans (hb2.mono HB0.out.size))
     have HX2 : Hid (w2.cell? ⟨w.heap.size, 32, none⟩ = some (.int .i64 r.2)) := hid ((hb2.cell (p := ⟨w.heap.size, 32, none⟩) HZ.out).trans HX32.out)
     rw [HT.out]
     clear hb2
     refine ⟨_, rfl, fun h => absurd h (by decide), ?_⟩
     go_frame
     refine tw 7 (.tuple #[.int .i64 n, .bool true]) ?_
     go_frame
     refine tw 8 (.int .i64 n) ?_
     go_frame
     refine tw 9 (.bool true) ?_
     go_frame
     refine tw 10 (.int .i64 n) ?_
     go_frame
     refine tw 11 (.bool true) ?_
     go_frame
     refine kv (by kernel_rfl) ?_ _
     have c32 := HX2.out
     go_wp2_with fail
     go_ret
     exact ⟨HB2.out, by rw [HE.out]; rfl⟩
  ·
   have HT := hid ht
   have HE : Hid (jY deps r = false) := hid (by rw [HF.out, ht]; rfl)
   clear ht
   go_enter Tryz.func123, Tryz.ntmps123
   go_upto_region 1 with fail
   obtain ⟨W0, hW0⟩ : ∃ W0, (w.alloc (.cells (ke r).toArray 68)) = W0 := ⟨_, rfl⟩
   have HB0 := hid (show Below w.heap.size w W0 by rw [← hW0]; exact (qB _ _).alloc (qR _) _)
   have HZ := hid (show w.heap.size < W0.heap.size by rw [← hW0]; simp)
   have HX32 := hid (show W0.cell? ⟨w.heap.size, 32, none⟩ = some (.int .i64 r.2) by rw [← hW0]; exact jc w _ _ _ _ (kA HR.out).2)
   have HXI := hid (show W0.rangeAt w.heap.size 0 (idV r.1) by rw [← hW0]; exact fun j u hj => by rw [qZ]; exact jc w _ _ _ _ ((kA HR.out).1 j u hj))
   have HC0 := hid ((HB0.out.cell (p := ⟨g, 0, none⟩) HLT.out).trans HCK.out)
   have HSLD := hid (((HSL.out.more (Nat.le_of_lt HLT.out)).keep HB0.out).more HB0.out.size)
   rw [hW0]
   clear hW0
   have hE1 := enE Tryz.func94 rfl
   refine rN 6 (fun u => u.cell? ⟨g, 0, none⟩ = some (.slice Ad deps.length cd) ∧ u.rangeAt w.heap.size 0 (idV r.1)) (⟨HC0.out, HXI.out⟩) fun hF0 => ?_
   refine tw 0 (.pointer (some ⟨g, 0, none⟩)) ?_
   go_frame
   refine tw 1 (.pointer (some ⟨g, 0, none⟩)) ?_
   go_frame
   refine tw 2 (.pointer (some ⟨g, 0, none⟩)) ?_
   go_frame
   refine tl 3 (.slice Ad deps.length cd) rfl hF0 (fun w' hw' => l1 Tryz.underlying23 hw'.1) ?_
   go_frame
   refine tw 4 (.pointer (some ⟨w.heap.size, 0, none⟩)) ?_
   go_frame
   refine tl 5 (.agg (idV r.1).toArray) rfl hF0 (fun w' hw' => k9 47 _ rfl (p := ⟨w.heap.size, 0, none⟩) rfl (qV w' _ _ _ (idV r.1) _ hw'.2 Tryz.underlying47 rfl HSZ.out)) ?_
   go_frame
   refine ta 6 ?_
   refine tc #[.slice Ad deps.length cd, .agg (idV r.1).toArray] hE1 rfl ?_
   refine (UQ deps r.1 Ad cd W0.drew hn HO.out HR.out.1 (HSLD.out.keep (qD _ _))).mono ?_
   rintro e w2 ⟨hb2, n, rfl, -, -⟩
   have HB2 := hid (HB0.out.drew.trans (hb2.mono HB0.out.size))
   have HX2 : Hid (w2.cell? ⟨w.heap.size, 32, none⟩ = some (.int .i64 r.2)) := hid ((hb2.cell (p := ⟨w.heap.size, 32, none⟩) HZ.out).trans HX32.out)
   rw [HT.out]
   clear hb2
   refine ⟨_, rfl, fun h => absurd h (by decide), ?_⟩
   go_frame
   refine tw 7 (.tuple #[.int .i64 n, .bool false]) ?_
   go_frame
   refine tw 8 (.int .i64 n) ?_
   go_frame
   refine tw 9 (.bool false) ?_
   go_frame
   refine tw 10 (.int .i64 n) ?_
   go_frame
   refine tw 11 (.bool false) ?_
   go_frame
   refine kv (by kernel_rfl) ?_ _
   go_wp2_with fail
   go_ret
   exact ⟨HB2.out, by rw [HE.out]; rfl⟩
end Go.Proofs.YthjaepmfkgejkaaGreatDoor
namespace Go.Proofs.YthjaepmfkgejkaaGreatDoor
open Lib (hid)
open Go.RowKit Go.Maps
theorem wref_any (g : Nat) (deps : List (List UInt8)) (id : List UInt8) (i : Nat) (xs : List UInt8) (Ad : Option Addr) (cd : Nat) (w : World) (hw : WrAt w g xs) (ho : IdsOk deps) (hs : kI deps = true) (hn : deps.length ≤ 1099511627776) (hr : jN (id, ((i : Nat) : Int))) (hin : id = zero32 ∨ id ∈ deps) (hi : i < 9223372036854775808) (hx : xs.length + 20 ≤ 1099511627776) (hsl : Sl w g Ad deps.length 32 (kr deps)) :
    Calls Tryz.prog 70 #[.pointer (some ⟨g, 0, none⟩), .slice Ad deps.length cd, .agg (ke (id, ((i : Nat) : Int))).toArray] w fun e w' => e = .returned (.tuple #[]) ∧ WrAt w' g (xs ++ jz deps (id, ((i : Nat) : Int))) ∧ WrGo g w w' := by
  have HWA := hid hw; have HO := hid ho; have HSL := hid hsl; have HR := hid hr
  have HI := hid (show Ke id from hr.1)
  have hsz : (Tryz.prog.info? 47).map (·.size) = some (idV id).length := by rw [k8, show id.length = 32 from hr.1]; exact kt
  have HSZ := hid hsz
  have EQ0 := hid (fun (u : World) => jX (show Ke id from hr.1) zP u)
  have ZB := hid jI
  by_cases hz : id = zero32
  ·
   have dz : decide (id = zero32) = true := by simp [hz]
   have EQ := hid (fun (u : World) => (EQ0.out u).trans (by rw [dz]))
   have HE : Hid (jz deps (id, ((i : Nat) : Int)) = kS 0 ++ kS i) := hid (by unfold jz; simp only; rw [if_neg (by simp [hz]), jx]; exact congrArg (· ++ kS i) (jx 0))
   have hl := kU (n := 0) (by omega)
   clear dz EQ0 hw ho hsl hr hsz hz hin hs
   go_enter Tryz.func70, Tryz.ntmps70
   go_upto_region 1 with fail
   obtain ⟨W0, hW0⟩ : ∃ W0, (w.alloc (.cells (ke (id, ((i : Nat) : Int))).toArray 68)) = W0 := ⟨_, rfl⟩
   have HB0 := hid (show Below w.heap.size w W0 by rw [← hW0]; exact (qB _ _).alloc (qR _) _)
   have HZ := hid (show w.heap.size < W0.heap.size by rw [← hW0]; simp)
   have HX32 := hid (show W0.cell? ⟨w.heap.size, 32, none⟩ = some (.int .i64 ((i : Nat) : Int)) by rw [← hW0]; exact jc w _ _ _ _ (kA HR.out).2)
   have HXI := hid (show W0.rangeAt w.heap.size 0 (idV id) by rw [← hW0]; exact fun j u hj => by rw [qZ]; exact jc w _ _ _ _ ((kA HR.out).1 j u hj))
   rw [hW0]
   clear hW0
   have HWA0 := hid (HWA.out.keep HB0.out)
   have HNX := hid (HWA.out.newNot HB0.out (qR _))
   have HG0 := hid (WrGo.below HWA.out.lt HB0.out)
   go_upto_region 5 with (first
     | (refine k6 (by rfl) (k9 47 _ rfl (p := ⟨w.heap.size, 0, none⟩) rfl (qV _ _ _ _ _ _ HXI.out Tryz.underlying47 rfl HSZ.out)) ?_)
     | (refine k6 (by rfl) (kB 47 #[] rfl (ZB.out _)) ?_)
     | (refine k6 (by rfl) (kN 47 _ _ _ rfl (xs := (idV id).toArray) (ys := (idV zero32).toArray) rfl rfl (r := true) eqId.noGuard (EQ.out _)) ?_; go_frame; try simp only [nTF]))
   go_upto_region 6 with (first
     | (go_at_call 66; refine (KX g 0 xs W0 HWA0.out (by omega) (by omega)).mono ?_; rintro e w2 ⟨rfl, hat2, hgo2⟩
        have c32 := (hgo2.cell (j := 32) HZ.out HNX.out).trans HX32.out
        have HAT2 := hid hat2; have HGO2 := hid hgo2
        clear hat2 hgo2))
   go_wp2_with (first
     | (go_at_call 66; refine (KX g i (xs ++ kS 0) w2 HAT2.out (by omega) (by rw [List.length_append]; omega)).mono ?_; rintro e w3 ⟨rfl, hat3, hgo3⟩))
   go_end0
   exact ⟨rfl, by rw [HE.out, ← List.append_assoc]; exact hat3, HG0.out.trans (HGO2.out.trans hgo3)⟩
  ·
   have dz : decide (id = zero32) = false := by simp [hz]
   have EQ := hid (fun (u : World) => (EQ0.out u).trans (by rw [dz]))
   have hm : id ∈ deps := hin.resolve_left hz
   have hlt := List.idxOf_lt_length_iff.2 hm
   have HTH : Hid ((kI deps && decide (id ∈ deps)) = true) := hid (by rw [hs]; simpa using hm)
   have HFI := hid (fun (n : Nat) (h : (kI deps && decide (id ∈ deps)) = true → deps[n]? = some id) => (show n = deps.idxOf id by
     have h1 := h HTH.out
     obtain ⟨h2, h3⟩ := List.getElem?_eq_some_iff.1 h1
     rw [← idxOf_at hs n h2, h3]))
   have HE : Hid (jz deps (id, ((i : Nat) : Int)) = kS (deps.idxOf id + 1) ++ kS i) := hid (by unfold jz; simp only; rw [if_pos hz, jx]; exact congrArg (· ++ kS i) (jx (deps.idxOf id + 1)))
   have hl := kU (n := deps.idxOf id + 1) (by omega)
   have hi63 : deps.idxOf id < 1099511627776 := by omega
   clear dz EQ0 hw ho hsl hr hsz hz hin hs hm hlt
   generalize deps.idxOf id = q at *
   go_enter Tryz.func70, Tryz.ntmps70
   go_upto_region 1 with fail
   obtain ⟨W0, hW0⟩ : ∃ W0, (w.alloc (.cells (ke (id, ((i : Nat) : Int))).toArray 68)) = W0 := ⟨_, rfl⟩
   have HB0 := hid (show Below w.heap.size w W0 by rw [← hW0]; exact (qB _ _).alloc (qR _) _)
   have HZ := hid (show w.heap.size < W0.heap.size by rw [← hW0]; simp)
   have HX32 := hid (show W0.cell? ⟨w.heap.size, 32, none⟩ = some (.int .i64 ((i : Nat) : Int)) by rw [← hW0]; exact jc w _ _ _ _ (kA HR.out).2)
   have HXI := hid (show W0.rangeAt w.heap.size 0 (idV id) by rw [← hW0]; exact fun j u hj => by rw [qZ]; exact jc w _ _ _ _ ((kA HR.out).1 j u hj))
   rw [hW0]
   clear hW0
   have HWA0 := hid (HWA.out.keep HB0.out)
   have HNX := hid (HWA.out.newNot HB0.out (qR _))
   have HG0 := hid (WrGo.below HWA.out.lt HB0.out)
   have HSLD := hid (((HSL.out.more (Nat.le_of_lt HWA.out.lt)).keep HB0.out).more HB0.out.size)
   go_upto_region 5 with (first
     | (refine k6 (by rfl) (k9 47 _ rfl (p := ⟨w.heap.size, 0, none⟩) rfl (qV _ _ _ _ _ _ HXI.out Tryz.underlying47 rfl HSZ.out)) ?_)
     | (refine k6 (by rfl) (kB 47 #[] rfl (ZB.out _)) ?_)
     | (refine k6 (by rfl) (kN 47 _ _ _ rfl (xs := (idV id).toArray) (ys := (idV zero32).toArray) rfl rfl (r := false) eqId.noGuard (EQ.out _)) ?_; go_frame; try simp only [nTF])
     | (go_at_call 94; refine (UQ deps id Ad cd W0 hn HO.out HI.out HSLD.out).mono ?_; rintro e w1 ⟨hb1, n, rfl, hn1, hn2⟩
        obtain rfl : q = n := (HFI.out n hn2).symm
        rw [HTH.out]
        have HWA1 := hid (HWA0.out.keep hb1)
        have HNX1 := hid (HWA0.out.keepNot hb1 HNX.out)
        have HG1 := hid (HG0.out.trans (WrGo.below HWA0.out.lt hb1))
        have HX32' := hid ((hb1.cell (p := ⟨w.heap.size, 32, none⟩) HZ.out).trans HX32.out)
        have HZ1 := hid (qL HZ.out hb1.size)
        clear hb1 hn2))
   go_upto_region 6 with (first
     | (go_at_call 66; refine (KX g (q + 1) xs w1 HWA1.out (by omega) (by omega)).mono ?_; rintro e w2 ⟨rfl, hat2, hgo2⟩
        have c32 := (hgo2.cell (j := 32) HZ1.out HNX1.out).trans HX32'.out
        have HAT2 := hid hat2; have HGO2 := hid hgo2
        clear hat2 hgo2))
   go_wp2_with (first
     | (go_at_call 66; refine (KX g i (xs ++ kS (q + 1)) w2 HAT2.out (by omega) (by rw [List.length_append]; omega)).mono ?_; rintro e w3 ⟨rfl, hat3, hgo3⟩))
   go_end0
   exact ⟨rfl, by rw [HE.out, ← List.append_assoc]; exact hat3, HG1.out.trans (HGO2.out.trans hgo3)⟩
end Go.Proofs.YthjaepmfkgejkaaGreatDoor
namespace Go.Proofs.YthjaepmfkgejkaaGreatDoor
section
variable {P : Program} {ops : Array Oper} {Q : Exit → Act → World → Prop} {rest : List Oper} {a : Act} {w : World} {d : Option Tmp} {t : TypeId} {p : String} {af : Array Edge} {g : Option (Nat × Bool)}
theorem k7 {ty : TypeId} {x : Operand} (h : wpList P ops Q ({ dst := d, op := .load ty x, type := t, pos := p, after := af, guard := g } :: rest) a w) : wpList P ops Q ({ dst := d, op := .load ty x, type := t, pos := p, after := af, guard := g } :: rest) a w := h
theorem ks {ty : TypeId} {x y : Operand} (h : wpList P ops Q ({ dst := d, op := .store ty x y, type := t, pos := p, after := af, guard := g } :: rest) a w) : wpList P ops Q ({ dst := d, op := .store ty x y, type := t, pos := p, after := af, guard := g } :: rest) a w := h
theorem kw {ty : TypeId} (h : wpList P ops Q ({ dst := d, op := .alloc ty, type := t, pos := p, after := af, guard := g } :: rest) a w) : wpList P ops Q ({ dst := d, op := .alloc ty, type := t, pos := p, after := af, guard := g } :: rest) a w := h
theorem kz {ty : TypeId} {x : Operand} (h : wpList P ops Q ({ dst := d, op := .box ty x, type := t, pos := p, after := af, guard := g } :: rest) a w) : wpList P ops Q ({ dst := d, op := .box ty x, type := t, pos := p, after := af, guard := g } :: rest) a w := h
theorem kQ {ty : TypeId} {xs : Array (Nat × Operand)} (h : wpList P ops Q ({ dst := d, op := .build ty xs, type := t, pos := p, after := af, guard := g } :: rest) a w) : wpList P ops Q ({ dst := d, op := .build ty xs, type := t, pos := p, after := af, guard := g } :: rest) a w := h
theorem kC {b : BinOp} {ty tz : TypeId} {x y : Operand} (h : wpList P ops Q ({ dst := d, op := .binOp b ty x y tz, type := t, pos := p, after := af, guard := g } :: rest) a w) : wpList P ops Q ({ dst := d, op := .binOp b ty x y tz, type := t, pos := p, after := af, guard := g } :: rest) a w := h
end
end Go.Proofs.YthjaepmfkgejkaaGreatDoor
