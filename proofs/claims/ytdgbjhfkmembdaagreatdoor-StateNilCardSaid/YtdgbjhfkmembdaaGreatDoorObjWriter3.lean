/-
  What the writer's ref writes. Conditions: ids of 32 bytes; few; the ref is of a change hung on.
-/
import Derived.Test.YtdgbjhfkmembdaaGreatDoorShort0
import Derived.Test.YtdgbjhfkmembdaaGreatDoorShort9
import Derived.Test.YtdgbjhfkmembdaaGreatDoorObjWriter2
import Derived.Test.YtdgbjhfkmembdaaGreatDoorObjIds
import Derived.Test.YtdgbjhfkmembdaaGreatDoorObjCheck
namespace Go.Proofs.YtdgbjhfkmembdaaGreatDoor
open Go.RowKit Go.Maps
set_option linter.unusedVariables false
set_option linter.unusedSimpArgs false

set_option maxHeartbeats 4000000 in
set_option maxRecDepth 100000 in
theorem wref_any (g : Nat) (deps : List (List UInt8)) (id : List UInt8) (i : Nat) (xs : List UInt8) (Ad : Option Addr) (cd : Nat) (w : World) (hw : WrAt w g xs) (ho : IdsOk deps) (hs : isSetB deps = true) (hn : deps.length ≤ 1099511627776) (hr : RefOk (id, ((i : Nat) : Int))) (hin : id = zero32 ∨ id ∈ deps) (hi : i < 9223372036854775808) (hx : xs.length + 20 ≤ 1099511627776) (hsl : Sl w g Ad deps.length 32 (idsV deps)) :
    Calls Tryz.prog 196 #[.pointer (some ⟨g, 0, none⟩), .slice Ad deps.length cd, .agg (refV (id, ((i : Nat) : Int))).toArray] w fun e w' => e = .returned (.tuple #[]) ∧ WrAt w' g (xs ++ refE deps (id, ((i : Nat) : Int))) ∧ WrGo g w w' := by
  have HWA := Lib.hid hw; have HO := Lib.hid ho; have HSL := Lib.hid hsl; have HR := Lib.hid hr
  have HI := Lib.hid (show IdOk id from hr.1)
  have hsz : (Tryz.prog.info? 41).map (·.size) = some (idV id).length := by rw [idV_length, show id.length = 32 from hr.1]; exact sizeId2
  have HSZ := Lib.hid hsz
  have EQ0 := Lib.hid (fun (u : World) => run_eqId (show IdOk id from hr.1) zero32_ok u)
  have ZB := Lib.hid zeroId_built
  by_cases hz : id = zero32
  · have dz : decide (id = zero32) = true := by simp [hz]
    have EQ := Lib.hid (fun (u : World) => (EQ0.out u).trans (by rw [dz]))
    have HE : Hid (refE deps (id, ((i : Nat) : Int)) = numB 0 ++ numB i) := Lib.hid (by unfold refE; simp only; rw [if_neg (by simp [hz]), numE_nat]; exact congrArg (· ++ numB i) (numE_nat 0))
    have hl := numB_len10 (n := 0) (by omega)
    clear dz EQ0 hw ho hsl hr hsz hz hin hs
    go_enter Tryz.func196, Tryz.ntmps196
    go_upto_region 1 with fail
    obtain ⟨W0, hW0⟩ : ∃ W0, (w.alloc (.cells (refV (id, ((i : Nat) : Int))).toArray 110)) = W0 := ⟨_, rfl⟩
    have HB0 := Lib.hid (show Below w.heap.size w W0 by rw [← hW0]; exact (qB _ _).alloc (qR _) _)
    have HZ := Lib.hid (show w.heap.size < W0.heap.size by rw [← hW0]; simp)
    have HX32 := Lib.hid (show W0.cell? ⟨w.heap.size, 32, none⟩ = some (.int .i64 ((i : Nat) : Int)) by rw [← hW0]; exact laid_cells w _ _ _ _ (ref_cells HR.out).2)
    have HXI := Lib.hid (show W0.rangeAt w.heap.size 0 (idV id) by rw [← hW0]; exact fun j u hj => by rw [qZ]; exact laid_cells w _ _ _ _ ((ref_cells HR.out).1 j u hj))
    rw [hW0]
    clear hW0
    have HWA0 := Lib.hid (HWA.out.keep HB0.out)
    have HNX := Lib.hid (HWA.out.newNot HB0.out (qR _))
    have HG0 := Lib.hid (WrGo.below HWA.out.lt HB0.out)

    go_upto_region 5 with (first
      | (refine wp_val (by rfl) (ex_load 41 _ rfl (p := ⟨w.heap.size, 0, none⟩) rfl (qV _ _ _ _ _ _ HXI.out Tryz.underlying41 rfl HSZ.out)) ?_)
      | (refine wp_val (by rfl) (ex_build 41 #[] rfl (ZB.out _)) ?_)
      | (refine wp_val (by rfl) (ex_neq 41 _ _ _ rfl (xs := (idV id).toArray) (ys := (idV zero32).toArray) rfl rfl (r := true) eqId.noGuard (EQ.out _)) ?_; go_frame; try simp only [nTF]))
    go_upto_region 6 with (first
      | (go_at_call 192; refine (wnum_any g 0 xs W0 HWA0.out (by omega) (by omega)).mono ?_; rintro e w2 ⟨rfl, hat2, hgo2⟩
         have c32 := (hgo2.cell (j := 32) HZ.out HNX.out).trans HX32.out
         have HAT2 := Lib.hid hat2; have HGO2 := Lib.hid hgo2
         clear hat2 hgo2))
    go_wp2_with (first
      | (go_at_call 192; refine (wnum_any g i (xs ++ numB 0) w2 HAT2.out (by omega) (by rw [List.length_append]; omega)).mono ?_; rintro e w3 ⟨rfl, hat3, hgo3⟩))
    go_end0
    exact ⟨rfl, by rw [HE.out, ← List.append_assoc]; exact hat3, HG0.out.trans (HGO2.out.trans hgo3)⟩
  · have dz : decide (id = zero32) = false := by simp [hz]
    have EQ := Lib.hid (fun (u : World) => (EQ0.out u).trans (by rw [dz]))
    have hm : id ∈ deps := hin.resolve_left hz
    have hlt := List.idxOf_lt_length_iff.2 hm
    have HTH : Hid ((isSetB deps && decide (id ∈ deps)) = true) := Lib.hid (by rw [hs]; simpa using hm)
    have HFI := Lib.hid (fun (n : Nat) (h : (isSetB deps && decide (id ∈ deps)) = true → deps[n]? = some id) => (show n = deps.idxOf id by
      have h1 := h HTH.out
      obtain ⟨h2, h3⟩ := List.getElem?_eq_some_iff.1 h1
      rw [← idxOf_at hs n h2, h3]))
    have HE : Hid (refE deps (id, ((i : Nat) : Int)) = numB (deps.idxOf id + 1) ++ numB i) := Lib.hid (by unfold refE; simp only; rw [if_pos hz, numE_nat]; exact congrArg (· ++ numB i) (numE_nat (deps.idxOf id + 1)))
    have hl := numB_len10 (n := deps.idxOf id + 1) (by omega)
    have hi63 : deps.idxOf id < 1099511627776 := by omega
    clear dz EQ0 hw ho hsl hr hsz hz hin hs hm hlt
    generalize deps.idxOf id = q at *
    go_enter Tryz.func196, Tryz.ntmps196
    go_upto_region 1 with fail
    obtain ⟨W0, hW0⟩ : ∃ W0, (w.alloc (.cells (refV (id, ((i : Nat) : Int))).toArray 110)) = W0 := ⟨_, rfl⟩
    have HB0 := Lib.hid (show Below w.heap.size w W0 by rw [← hW0]; exact (qB _ _).alloc (qR _) _)
    have HZ := Lib.hid (show w.heap.size < W0.heap.size by rw [← hW0]; simp)
    have HX32 := Lib.hid (show W0.cell? ⟨w.heap.size, 32, none⟩ = some (.int .i64 ((i : Nat) : Int)) by rw [← hW0]; exact laid_cells w _ _ _ _ (ref_cells HR.out).2)
    have HXI := Lib.hid (show W0.rangeAt w.heap.size 0 (idV id) by rw [← hW0]; exact fun j u hj => by rw [qZ]; exact laid_cells w _ _ _ _ ((ref_cells HR.out).1 j u hj))
    rw [hW0]
    clear hW0
    have HWA0 := Lib.hid (HWA.out.keep HB0.out)
    have HNX := Lib.hid (HWA.out.newNot HB0.out (qR _))
    have HG0 := Lib.hid (WrGo.below HWA.out.lt HB0.out)
    have HSLD := Lib.hid (((HSL.out.more (Nat.le_of_lt HWA.out.lt)).keep HB0.out).more HB0.out.size)
    go_upto_region 5 with (first
      | (refine wp_val (by rfl) (ex_load 41 _ rfl (p := ⟨w.heap.size, 0, none⟩) rfl (qV _ _ _ _ _ _ HXI.out Tryz.underlying41 rfl HSZ.out)) ?_)
      | (refine wp_val (by rfl) (ex_build 41 #[] rfl (ZB.out _)) ?_)
      | (refine wp_val (by rfl) (ex_neq 41 _ _ _ rfl (xs := (idV id).toArray) (ys := (idV zero32).toArray) rfl rfl (r := false) eqId.noGuard (EQ.out _)) ?_; go_frame; try simp only [nTF])
      | (go_at_call 231; refine (find_any deps id Ad cd W0 hn HO.out HI.out HSLD.out).mono ?_; rintro e w1 ⟨hb1, n, rfl, hn1, hn2⟩
         obtain rfl : q = n := (HFI.out n hn2).symm
         rw [HTH.out]
         have HWA1 := Lib.hid (HWA0.out.keep hb1)
         have HNX1 := Lib.hid (HWA0.out.keepNot hb1 HNX.out)
         have HG1 := Lib.hid (HG0.out.trans (WrGo.below HWA0.out.lt hb1))
         have HX32' := Lib.hid ((hb1.cell (p := ⟨w.heap.size, 32, none⟩) HZ.out).trans HX32.out)
         have HZ1 := Lib.hid (qL HZ.out hb1.size)
         clear hb1 hn2))
    go_upto_region 6 with (first
      | (go_at_call 192; refine (wnum_any g (q + 1) xs w1 HWA1.out (by omega) (by omega)).mono ?_; rintro e w2 ⟨rfl, hat2, hgo2⟩
         have c32 := (hgo2.cell (j := 32) HZ1.out HNX1.out).trans HX32'.out
         have HAT2 := Lib.hid hat2; have HGO2 := Lib.hid hgo2
         clear hat2 hgo2))
    go_wp2_with (first
      | (go_at_call 192; refine (wnum_any g i (xs ++ numB (q + 1)) w2 HAT2.out (by omega) (by rw [List.length_append]; omega)).mono ?_; rintro e w3 ⟨rfl, hat3, hgo3⟩))
    go_end0
    exact ⟨rfl, by rw [HE.out, ← List.append_assoc]; exact hat3, HG1.out.trans (HGO2.out.trans hgo3)⟩
end Go.Proofs.YtdgbjhfkmembdaaGreatDoor
