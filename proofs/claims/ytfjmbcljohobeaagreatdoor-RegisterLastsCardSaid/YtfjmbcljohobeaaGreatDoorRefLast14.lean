/-
  What the reference's Last of layer 14 gives. Conditions: claims well formed; at most 2^40 of them; the document's key well formed.
-/
import Derived.Test.YtfjmbcljohobeaaGreatDoorRefKeys
import Derived.Test.YtfjmbcljohobeaaGreatDoorRegLast
import Derived.Test.YtfjmbcljohobeaaGreatDoorRefRight14
namespace Go.Proofs.YtfjmbcljohobeaaGreatDoor
open Go.RowKit Go.Maps Go.Shelf
set_option linter.unusedVariables false
set_option linter.unusedSimpArgs false

theorem claim_builtR0 : Tryz.prog.built 37 [] = some (claimV zeroC).toArray := by kernel_rfl
def AtOk (l : List ClaimD) (d : KeyD) (i : Nat) (v : Value) : Prop := (v = .int .i64 (-1) ∧ lastOf (l.take i) d = none) ∨ ∃ (j : Nat) (hj : j < l.length), v = .int .i64 (j : Int) ∧ lastOf (l.take i) d = some l[j]
set_option maxHeartbeats 4000000 in
set_option maxRecDepth 100000 in
theorem refLast14_any (l : List ClaimD) (d : KeyD) (A : Option Addr) (c : Nat) (w : World) (hl : l.length ≤ 1099511627776) (hok : ∀ x ∈ l, ClaimOk x) (hkd : KeyOk d) (hsl : Sl w w.heap.size A l.length 70 (rowsV claimV l)) :
    Calls Tryz.prog 10 #[.slice A l.length c, .agg (keyV d).toArray] w fun e w' => Below w.heap.size w w' ∧ e = .returned (.tuple #[claimA ((lastOf l d).getD zeroC), .bool (lastOf l d).isSome]) := by
  have hb0 : Below w.heap.size w ((w.alloc (.cells (keyV d).toArray 26)).alloc (.cells (claimV zeroC).toArray 37)) := ((Below.refl _ _).alloc (Nat.le_refl _) _).alloc (by simp) _
  have hk0 : ((w.alloc (.cells (keyV d).toArray 26)).alloc (.cells (claimV zeroC).toArray 37)).heap[w.heap.size]? = some (.cells (keyV d).toArray 26 (0, 0)) := heap_alloc2_old _ _ _
  have hc0 : ((w.alloc (.cells (keyV d).toArray 26)).alloc (.cells (claimV zeroC).toArray 37)).heap[w.heap.size + 1]? = some (.cells (claimV zeroC).toArray 37 (0, 0)) := heap_alloc2_new _ _ _
  have HSL := Lib.hid hsl; have HOK := Lib.hid hok
  clear hsl hok
  go_enter Tryz.func10, Tryz.ntmps10
  go_upto_region 1 with fail
  refine @id (Code.wp _ _ _ _ ((w.alloc (.cells (keyV d).toArray 26)).alloc (.cells (claimV zeroC).toArray 37))) ?_
  obtain ⟨W, hW⟩ : ∃ W, (w.alloc (.cells (keyV d).toArray 26)).alloc (.cells (claimV zeroC).toArray 37) = W := ⟨_, rfl⟩
  rw [hW] at hb0 hk0 hc0 ⊢
  have hz1 : w.heap.size + 1 < W.heap.size := (Array.getElem?_eq_some_iff.1 hc0).1
  have HB0 := Lib.hid hb0; have HK0 := Lib.hid hk0; have HC0 := Lib.hid hc0; have HZ1 := Lib.hid hz1
  have HSW := Lib.hid ((HSL.out.keep hb0).more hb0.size)
  have HSP : Hid ((Tryz.prog.info? 26).map (·.size) = some (keyV d).length) := by rw [keyV_length hkd]; exact sizeKey
  clear hb0 hk0 hc0 hW hz1
  go_wp2_with fail
  go_loopw [6, 7] (fun at' t wr => ∃ i : Nat, i ≤ l.length ∧ t = .int .i64 i ∧ Below W.heap.size W wr ∧ Hid (AtOk l d i at')) (fun _ t _ => l.length - (intOf t).toNat)
  case atStart => exact ⟨0, by omega, rfl, Below.refl _ _, Lib.hid (.inl ⟨rfl, rfl⟩)⟩
  case round =>
    obtain ⟨i, hi, rfl, hbr, hat⟩ := hrel
    by_cases hlt : i < l.length
    · obtain ⟨b, off, rfl, hbl, hcl⟩ := (HSW.out.keep hbr).2 (by omega)
      have i0 : (0 : Int) ≤ (i : Int) := by omega
      have i1 : (i : Int) < (l.length : Int) := by omega
      have hbz : b < wr.heap.size := Nat.lt_of_lt_of_le hbl hbr.size
      have hrowj : ∀ j (hj : j < l.length), wr.rangeAt b (off + j * 70) (claimV l[j]) := fun j hj => Sl.row (fun x hx => claimV_length (HOK.out x hx)) hcl hj
      have hrow := hrowj i hlt
      have hx := HOK.out _ (List.getElem_mem hlt)
      have hst := lastOf_snoc (l.take i) l[i] d
      rw [← List.take_succ_eq_append_getElem hlt] at hst
      have HST := Lib.hid hst
      have HROWJ := Lib.hid hrowj; have HROW := Lib.hid hrow; have HBR := Lib.hid hbr
      clear hcl hrowj hrow hbl hst
      obtain ⟨x, hxi⟩ : ∃ x, l[i] = x := ⟨_, rfl⟩
      rw [hxi] at hx HST HROW
      have HXI := Lib.hid hxi
      clear hxi
      have rD := Lib.hid (Wg.row (w := wr) (b := b) (o := off + i * 70 + 34) (cs := keyV x.2.1) (fun j u hj => by have := HROW.out (34 + j) u (claim_doc hx j u hj); rwa [← Nat.add_assoc] at this) hbz)
      have rI := Lib.hid (Wg.row (w := wr) (b := b) (o := off + i * 70) (cs := keyV x.1) (fun j u hj => by have := HROW.out (0 + j) u (claim_key hx j u hj); rwa [Nat.zero_add] at this) hbz)
      have rP := Lib.hid (Wg.row (w := wr) (b := w.heap.size) (o := 0) (cs := keyV d) (fun j u hj => (hbr.cell (p := ⟨w.heap.size, 0 + j, none⟩) (by have := HZ1.out; show w.heap.size < W.heap.size; omega)).trans ((cells_box HK0.out (0 + j)).trans (by simpa using hj))) (by have := HZ1.out; have := hbr.size; omega))
      have HSD : Hid ((Tryz.prog.info? 26).map (·.size) = some (keyV x.2.1).length) := by rw [keyV_length hx.2.1]; exact sizeKey
      have HSI : Hid ((Tryz.prog.info? 26).map (·.size) = some (keyV x.1).length) := by rw [keyV_length hx.1]; exact sizeKey
      have heq : ∀ w' : World, (Op.equalIn 10000 26 (.agg (keyV x.2.1).toArray) (.agg (keyV d).toArray)).run Tryz.prog w' = .ok (decide (x.2.1 = d)) w' := fun w' => run_eqKey hx.2.1 hkd w'
      clear hbr
      by_cases hcm : x.2.1 = d
      · rcases hat.out with ⟨rfl, hln⟩ | ⟨j, hj, rfl, hln⟩
        · rw [decide_eq_true hcm] at heq
          have HEQ := Lib.hid heq
          have hst := HST.out
          unfold later at hst
          rw [if_pos hcm, hln] at hst
          have HST2 := Lib.hid hst
          clear heq hst hcm HST hln hat
          go_wp2_with fail
          refine wp_region_wg (by kernel_rfl) (by kernel_rfl) ?_
          repeat (first
            | go_big_quiet_skip
            | (go_big_quiet_want
               first
                 | (refine quiet_val (fun w' hw' => ex_load 26 _ rfl (p := ⟨b, off + i * 70 + 34, none⟩) rfl (run_loadVar_mid w' _ _ _ (keyV x.2.1) _ (rD.out w' hw') Tryz.underlying26 rfl HSD.out)) ?_
                    go_big_quiet_on
                    simp only [Act.put, List.setIfInBounds_toArray, List.set_cons_zero, List.set_cons_succ])
                 | (refine quiet_val (fun w' hw' => ex_load 26 _ rfl (p := ⟨w.heap.size, 0, none⟩) rfl (run_loadVar_mid w' _ _ _ (keyV d) _ (rP.out w' hw') Tryz.underlying26 rfl HSP.out)) ?_
                    go_big_quiet_on
                    simp only [Act.put, List.setIfInBounds_toArray, List.set_cons_zero, List.set_cons_succ])
                 | (refine quiet_val (fun w' hw' => ex_eql 26 _ _ _ rfl (xs := (keyV x.2.1).toArray) (ys := (keyV d).toArray) rfl rfl (r := true) eqKey.noGuard (HEQ.out w')) ?_
                    go_big_quiet_on
                    simp only [Act.put, List.setIfInBounds_toArray, List.set_cons_zero, List.set_cons_succ])
                 | (go_big_quiet_op
                    first
                      | go_big_quiet_on
                      | go_big_quiet_call (first | (fail)))))
          refine wpQuiet_nil ?_
          rintro w' ⟨kk, rfl⟩
          have hkk := kk.2
          generalize kk.val = w11 at *
          have HB11 := Lib.hid (HBR.out.trans (hkk.below.mono HBR.out.size))
          clear hkk kk rD rP rI
          go_wp2_with fail
          go_roundw
          case rel => exact ⟨i + 1, by omega, by go_num, HB11.out, Lib.hid (.inr ⟨i, hlt, rfl, by rw [HST2.out, HXI.out]⟩)⟩
          case measure => simp [intOf]; omega
        · rw [decide_eq_true hcm] at heq
          have HEQ := Lib.hid heq
          have hst := HST.out
          unfold later at hst
          rw [if_pos hcm, hln] at hst
          simp only at hst
          have j0 : (0 : Int) ≤ (j : Int) := by omega
          have j1 : (j : Int) < (l.length : Int) := by omega
          have j2 : ¬ (j : Int) < 0 := by omega
          have j3 : decide ((j : Int) < 0) = false := by rw [decide_eq_false_iff_not]; omega
          have hyo := (HOK.out _ (List.getElem_mem hj)).1
          have hkyr : wr.rangeAt b (off + j * 70) (keyV l[j].1) := fun q u hq => by have := HROWJ.out j hj (0 + q) u (claim_key (HOK.out _ (List.getElem_mem hj)) q u hq); rwa [Nat.zero_add] at this
          have hlj : lastOf (l.take i) d = some l[j] := hln
          have HLJ := Lib.hid hlj
          clear hlj hln
          obtain ⟨ky, hky⟩ : ∃ ky, l[j].1 = ky := ⟨_, rfl⟩
          rw [hky] at hyo hkyr hst
          have rJ := Lib.hid (Wg.row (w := wr) (b := b) (o := off + j * 70) (cs := keyV ky) (fun q u hq => hkyr q u hq) hbz)
          have HSJ : Hid ((Tryz.prog.info? 26).map (·.size) = some (keyV ky).length) := by rw [keyV_length hyo]; exact sizeKey
          have CC := Lib.hid (fun u : World => refKeys_gr x.1 ky u hx.1 hyo)
          clear hyo hkyr heq hcm HST hky
          by_cases hc0 : 0 < cmpK x.1 ky
          · rw [if_pos hc0] at hst
            have d4 : decide ((0 : Int) < cmpK x.1 ky) = true := by rw [decide_eq_true_iff]; omega
            have HST2 := Lib.hid hst
            clear hst hat
            go_wp2_with fail
            refine wp_region_wg (by kernel_rfl) (by kernel_rfl) ?_
            repeat (first
              | go_big_quiet_skip
              | (go_big_quiet_want
                 first
                   | (refine quiet_val (fun w' hw' => ex_load 26 _ rfl (p := ⟨b, off + i * 70 + 34, none⟩) rfl (run_loadVar_mid w' _ _ _ (keyV x.2.1) _ (rD.out w' hw') Tryz.underlying26 rfl HSD.out)) ?_
                      go_big_quiet_on
                      simp only [Act.put, List.setIfInBounds_toArray, List.set_cons_zero, List.set_cons_succ])
                   | (refine quiet_val (fun w' hw' => ex_load 26 _ rfl (p := ⟨w.heap.size, 0, none⟩) rfl (run_loadVar_mid w' _ _ _ (keyV d) _ (rP.out w' hw') Tryz.underlying26 rfl HSP.out)) ?_
                      go_big_quiet_on
                      simp only [Act.put, List.setIfInBounds_toArray, List.set_cons_zero, List.set_cons_succ])
                   | (refine quiet_val (fun w' hw' => ex_load 26 _ rfl (p := ⟨b, off + i * 70, none⟩) rfl (run_loadVar_mid w' _ _ _ (keyV x.1) _ (rI.out w' hw') Tryz.underlying26 rfl HSI.out)) ?_
                      go_big_quiet_on
                      simp only [Act.put, List.setIfInBounds_toArray, List.set_cons_zero, List.set_cons_succ])
                   | (refine quiet_val (fun w' hw' => ex_load 26 _ rfl (p := ⟨b, off + j * 70, none⟩) rfl (run_loadVar_mid w' _ _ _ (keyV ky) _ (rJ.out w' hw') Tryz.underlying26 rfl HSJ.out)) ?_
                      go_big_quiet_on
                      simp only [Act.put, List.setIfInBounds_toArray, List.set_cons_zero, List.set_cons_succ])
                   | (refine quiet_val (fun w' hw' => ex_eql 26 _ _ _ rfl (xs := (keyV x.2.1).toArray) (ys := (keyV d).toArray) rfl rfl (r := true) eqKey.noGuard (HEQ.out w')) ?_
                      go_big_quiet_on
                      simp only [Act.put, List.setIfInBounds_toArray, List.set_cons_zero, List.set_cons_succ])
                   | (go_big_quiet_op
                      first
                        | go_big_quiet_on
                        | go_big_quiet_call (first | (go_at_call 16; exact Wg.call (fun w' => CC.out w') _)))))
            refine wpQuiet_nil ?_
            rintro w' ⟨kk, rfl⟩
            have hkk := kk.2
            generalize kk.val = w11 at *
            have HB11 := Lib.hid (HBR.out.trans (hkk.below.mono HBR.out.size))
            clear hkk kk rD rP rI
            go_wp2_with fail
            go_roundw
            case rel => exact ⟨i + 1, by omega, by go_num, HB11.out, Lib.hid (.inr ⟨i, hlt, rfl, by rw [HST2.out, HXI.out]⟩)⟩
            case measure => simp [intOf]; omega

          · rw [if_neg hc0] at hst
            have d4 : decide ((0 : Int) < cmpK x.1 ky) = false := by rw [decide_eq_false_iff_not]; omega
            have d5 : ¬ (0 : Int) < cmpK x.1 ky := by omega
            have HST2 := Lib.hid hst
            clear hst hc0
            go_wp2_with fail
            refine wp_region_wg (by kernel_rfl) (by kernel_rfl) ?_
            repeat (first
              | go_big_quiet_skip
              | (go_big_quiet_want
                 first
                   | (refine quiet_val (fun w' hw' => ex_load 26 _ rfl (p := ⟨b, off + i * 70 + 34, none⟩) rfl (run_loadVar_mid w' _ _ _ (keyV x.2.1) _ (rD.out w' hw') Tryz.underlying26 rfl HSD.out)) ?_
                      go_big_quiet_on
                      simp only [Act.put, List.setIfInBounds_toArray, List.set_cons_zero, List.set_cons_succ])
                   | (refine quiet_val (fun w' hw' => ex_load 26 _ rfl (p := ⟨w.heap.size, 0, none⟩) rfl (run_loadVar_mid w' _ _ _ (keyV d) _ (rP.out w' hw') Tryz.underlying26 rfl HSP.out)) ?_
                      go_big_quiet_on
                      simp only [Act.put, List.setIfInBounds_toArray, List.set_cons_zero, List.set_cons_succ])
                   | (refine quiet_val (fun w' hw' => ex_load 26 _ rfl (p := ⟨b, off + i * 70, none⟩) rfl (run_loadVar_mid w' _ _ _ (keyV x.1) _ (rI.out w' hw') Tryz.underlying26 rfl HSI.out)) ?_
                      go_big_quiet_on
                      simp only [Act.put, List.setIfInBounds_toArray, List.set_cons_zero, List.set_cons_succ])
                   | (refine quiet_val (fun w' hw' => ex_load 26 _ rfl (p := ⟨b, off + j * 70, none⟩) rfl (run_loadVar_mid w' _ _ _ (keyV ky) _ (rJ.out w' hw') Tryz.underlying26 rfl HSJ.out)) ?_
                      go_big_quiet_on
                      simp only [Act.put, List.setIfInBounds_toArray, List.set_cons_zero, List.set_cons_succ])
                   | (refine quiet_val (fun w' hw' => ex_eql 26 _ _ _ rfl (xs := (keyV x.2.1).toArray) (ys := (keyV d).toArray) rfl rfl (r := true) eqKey.noGuard (HEQ.out w')) ?_
                      go_big_quiet_on
                      simp only [Act.put, List.setIfInBounds_toArray, List.set_cons_zero, List.set_cons_succ])
                   | (go_big_quiet_op
                      first
                        | go_big_quiet_on
                        | go_big_quiet_call (first | (go_at_call 16; exact Wg.call (fun w' => CC.out w') _)))))
            refine wpQuiet_nil ?_
            rintro w' ⟨kk, rfl⟩
            have hkk := kk.2
            generalize kk.val = w11 at *
            have HB11 := Lib.hid (HBR.out.trans (hkk.below.mono HBR.out.size))
            clear hkk kk rD rP rI
            go_wp2_with fail
            go_roundw
            case rel => exact ⟨i + 1, by omega, by go_num, HB11.out, Lib.hid (.inr ⟨j, hj, rfl, HST2.out⟩)⟩
            case measure => simp [intOf]; omega
      · rw [decide_eq_false hcm] at heq
        have HEQ := Lib.hid heq
        have hst := HST.out
        unfold later at hst
        rw [if_neg hcm] at hst
        have HST2 := Lib.hid hst
        clear heq hst hcm HST
        go_wp2_with fail
        refine wp_region_wg (by kernel_rfl) (by kernel_rfl) ?_
        repeat (first
          | go_big_quiet_skip
          | (go_big_quiet_want
             first
               | (refine quiet_val (fun w' hw' => ex_load 26 _ rfl (p := ⟨b, off + i * 70 + 34, none⟩) rfl (run_loadVar_mid w' _ _ _ (keyV x.2.1) _ (rD.out w' hw') Tryz.underlying26 rfl HSD.out)) ?_
                  go_big_quiet_on
                  simp only [Act.put, List.setIfInBounds_toArray, List.set_cons_zero, List.set_cons_succ])
               | (refine quiet_val (fun w' hw' => ex_load 26 _ rfl (p := ⟨w.heap.size, 0, none⟩) rfl (run_loadVar_mid w' _ _ _ (keyV d) _ (rP.out w' hw') Tryz.underlying26 rfl HSP.out)) ?_
                  go_big_quiet_on
                  simp only [Act.put, List.setIfInBounds_toArray, List.set_cons_zero, List.set_cons_succ])
               | (refine quiet_val (fun w' hw' => ex_eql 26 _ _ _ rfl (xs := (keyV x.2.1).toArray) (ys := (keyV d).toArray) rfl rfl (r := false) eqKey.noGuard (HEQ.out w')) ?_
                  go_big_quiet_on
                  simp only [Act.put, List.setIfInBounds_toArray, List.set_cons_zero, List.set_cons_succ])
               | (go_big_quiet_op
                  first
                    | go_big_quiet_on
                    | go_big_quiet_call (first | (fail)))))
        refine wpQuiet_nil ?_
        rintro w' ⟨kk, rfl⟩
        have hkk := kk.2
        generalize kk.val = w11 at *
        have HB11 := Lib.hid (HBR.out.trans (hkk.below.mono HBR.out.size))
        clear hkk kk rD rP rI
        go_wp2_with fail
        go_roundw
        case rel => exact ⟨i + 1, by omega, by go_num, HB11.out, Lib.hid (by have h := hat.out; unfold AtOk at h ⊢; rw [HST2.out]; exact h)⟩
        case measure => simp [intOf]; omega
    · have hie : i = l.length := by omega
      have hat' := hat.out
      unfold AtOk at hat'
      rw [hie, List.take_length] at hat'
      have hB1 : Below w.heap.size w wr := HB0.out.trans (hbr.mono HB0.out.size)
      have hC1 : wr.heap[w.heap.size + 1]? = some (.cells (claimV zeroC).toArray 37 (0, 0)) := (hbr.block _ HZ1.out).trans HC0.out
      have HB1 := Lib.hid hB1; have HC1 := Lib.hid hC1
      have szz : (Tryz.prog.info? 37).map (·.size) = some (claimV zeroC).toArray.size := by rw [List.size_toArray, claimV_length zeroC_ok]; exact sizeClaimR
      rcases hat' with ⟨rfl, hln⟩ | ⟨j, hj, rfl, hln⟩
      · have HLN := Lib.hid hln
        clear hln hB1 hC1 hie hat hbr
        go_wp2_with (first
          | ((with_reducible refine wpList_buildTo rfl 37 _ rfl _ rfl (claimV zeroC).toArray ?_ ?_)
             · simp only [List.map_toArray, List.map_nil]; exact claim_builtR0)
          | (refine wp_storeN (B := w.heap.size) (w0 := w) rfl 37 _ _ rfl (w.heap.size + 1) _ rfl rfl 37 _ HC1.out szz rfl (by simpa using claimV_one zeroC) HB1.out (by omega) ?_; intro W4 hbW4 hW4 _))
        exact bodyPost_ret (results_row_tmp Tryz.results10 _ _ rfl rfl (run_loadVar_row (P := Tryz.prog) _ (w.heap.size + 1) 37 37 _ (0, 0) _ hW4 Tryz.underlying37 rfl szz)) rfl ⟨hbW4, by rw [HLN.out]; rfl⟩
      · obtain ⟨b, off, rfl, hbl, hcl⟩ := (HSW.out.keep hbr).2 (by omega)
        have hrow : wr.rangeAt b (off + j * 70) (claimV l[j]) := Sl.row (fun x hx => claimV_length (HOK.out x hx)) hcl hj
        have hx := HOK.out _ (List.getElem_mem hj)
        have HROW := Lib.hid hrow
        have HLN := Lib.hid hln
        have j0 : (0 : Int) ≤ (j : Int) := by omega
        have j1 : (j : Int) < (l.length : Int) := by omega
        have j2 : ¬ (j : Int) < 0 := by omega
        have j3 : decide ((j : Int) < 0) = false := by rw [decide_eq_false_iff_not]; omega
        clear hln hB1 hC1 hie hat hbr hcl hrow
        generalize l[j] = x at *
        have hxl := claimV_length hx
        have szx : (Tryz.prog.info? 37).map (·.size) = some (claimV x).toArray.size := by rw [List.size_toArray, hxl]; exact sizeClaimR
        go_wp2_with (first
          | (refine wp_loadN rfl 37 _ rfl b _ rfl (claimV x) _ HROW.out Tryz.underlying37 rfl szx ?_)
          | (refine wp_storeN (B := w.heap.size) (w0 := w) rfl 37 _ _ rfl (w.heap.size + 1) (claimV x).toArray rfl rfl 37 _ HC1.out szx (by rw [List.size_toArray, List.size_toArray, hxl]; rfl) (by simpa using claimV_one x) HB1.out (by omega) ?_; intro W4 hbW4 hW4 _))
        exact bodyPost_ret (results_row_tmp Tryz.results10 _ _ rfl rfl (run_loadVar_row (P := Tryz.prog) _ (w.heap.size + 1) 37 37 _ (0, 0) _ hW4 Tryz.underlying37 rfl szx)) rfl ⟨hbW4, by rw [HLN.out]; rfl⟩
end Go.Proofs.YtfjmbcljohobeaaGreatDoor
