/-
  What the reference's Right of layer 14 gives. Conditions: claims well formed; at most 2^40 of them.
-/
import Derived.Test.YtfjmbcljohobeaaGreatDoorAppSl
import Derived.Test.YtfjmbcljohobeaaGreatDoorApart14Walk
import Derived.Test.YtfjmbcljohobeaaGreatDoorParts
namespace Go.Proofs.YtfjmbcljohobeaaGreatDoor
open Go.RowKit Go.Maps Go.Shelf
set_option linter.unusedVariables false
set_option linter.unusedSimpArgs false

theorem sizeClaimR : (Tryz.prog.info? 37).map (·.size) = some 70 := by kernel_rfl
set_option maxHeartbeats 4000000 in
set_option maxRecDepth 100000 in
theorem refRight14_any (l : List ClaimD) (A : Option Addr) (c : Nat) (w : World) (hl : l.length ≤ 1099511627776) (hok : ∀ x ∈ l, ClaimOk x) (hsl : Sl w w.heap.size A l.length 70 (rowsV claimV l)) :
    Calls Tryz.prog 8 #[.slice A l.length c] w fun e w' => Below w.heap.size w w' ∧ e = .returned (.bool (rightB l)) := by
  have HSL := Lib.hid hsl; have HOK := Lib.hid hok
  clear hsl hok
  go_enter Tryz.func8, Tryz.ntmps8
  go_wp2_with fail
  go_loopw [3] (fun t wr => ∃ i : Nat, i ≤ l.length ∧ t = .int .i64 i ∧ Below w.heap.size w wr ∧ Hid (RightP (l.take i))) (fun t _ => l.length - (intOf t).toNat)
  case atStart => exact ⟨0, by omega, rfl, Below.refl _ _, Lib.hid ⟨fun c hc => absurd hc (by simp), by simp⟩⟩
  case round =>
    obtain ⟨i, hi, rfl, hbr, hR⟩ := hrel
    by_cases hlt : i < l.length
    · obtain ⟨b, off, rfl, hbl, hcl⟩ := (HSL.out.keep hbr).2 (by omega)
      have i0 : (0 : Int) ≤ (i : Int) := by omega
      have i1 : (i : Int) < (l.length : Int) := by omega
      have hbz : b < wr.heap.size := Nat.lt_of_lt_of_le hbl hbr.size
      have hrowj : ∀ j (hj : j < l.length), wr.rangeAt b (off + j * 70) (claimV l[j]) := fun j hj => Sl.row (fun x hx => claimV_length (HOK.out x hx)) hcl hj
      have hrow := hrowj i hlt
      have hx := HOK.out _ (List.getElem_mem hlt)
      have htk : l.take (i + 1) = l.take i ++ [l[i]] := List.take_succ_eq_append_getElem hlt
      have HDUP := Lib.hid fun h => right_dup hlt h
      have HBAD := Lib.hid fun h => right_bad hlt h
      have HROWJ := Lib.hid hrowj; have HROW := Lib.hid hrow; have HTK := Lib.hid htk; have HBR := Lib.hid hbr
      clear hcl hrowj hrow htk hbl hbr
      generalize l[i] = x at *
      have hxl := claimV_length hx
      have szx : (Tryz.prog.info? 37).map (·.size) = some (claimV x).toArray.size := by rw [List.size_toArray, hxl]; exact sizeClaimR
      have HSX : Hid ((Tryz.prog.info? 26).map (·.size) = some (keyV x.1).length) := by rw [keyV_length hx.1]; exact sizeKey
      go_upto_region 5 with (first
        | (refine wp_loadN rfl 37 _ rfl b _ rfl (claimV x) _ HROW.out Tryz.underlying37 rfl szx ?_)
        | (refine wp_storeN (B := wr.heap.size) (w0 := wr) rfl 37 _ _ rfl wr.heap.size (claimV x).toArray rfl rfl 37 _ (heap_alloc_new _ _) szx (by rw [List.size_toArray, List.size_toArray, hxl]; rfl) (by simpa using claimV_one x) ((Below.refl _ _).alloc (Nat.le_refl _) _) (Nat.le_refl _) ?_; intro W2 hbW2 hW2 _))
      have c68 := (cells_box hW2 68).trans (claim_cell hx).1
      have c69 := (cells_box hW2 69).trans (claim_cell hx).2
      have HB2 := Lib.hid (HBR.out.trans (hbW2.mono HBR.out.size))
      have HZ2 : Hid (wr.heap.size < W2.heap.size) := (Array.getElem?_eq_some_iff.1 hW2).1
      have GK2 : Hid (∀ j u, (keyV x.1)[j]? = some u → W2.cell? ⟨wr.heap.size, 0 + j, none⟩ = some u) := fun j u hj => (cells_box hW2 (0 + j)).trans (by simpa using claim_key hx j u hj)
      have hxk := hx.2.2.1
      clear hW2 szx
      rcases (by omega : x.2.2.1 < 3 ∨ 5 < x.2.2.1 ∨ x.2.2.1 = 3 ∨ x.2.2.1 = 4 ∨ x.2.2.1 = 5) with h | h | h | h | h
      · have hgb : goodB x.2.2.1 x.2.2.2 = false := by
          unfold goodB
          rw [if_neg (by omega), if_neg (by omega)]
        have HGB := Lib.hid hgb
        clear hgb
        have g3 : (x.2.2.1 : Int) < 3 := by omega
        clear h
        go_wp2_with fail
        go_ret
        exact ⟨HB2.out, ret_bool (HBAD.out HGB.out).symm⟩
      · have hgb : goodB x.2.2.1 x.2.2.2 = false := by
          unfold goodB
          rw [if_neg (by omega), if_neg (by omega)]
        have HGB := Lib.hid hgb
        clear hgb
        have g3 : ¬ (x.2.2.1 : Int) < 3 := by omega
        have g5 : (5 : Int) < (x.2.2.1 : Int) := by omega
        clear h
        go_wp2_with fail
        go_ret
        exact ⟨HB2.out, ret_bool (HBAD.out HGB.out).symm⟩
      · have HK := Lib.hid h
        rw [h] at c68
        clear h
        have hge : goodB 3 x.2.2.2 = pathB x.2.2.2 := by simp [goodB]
        cases hpb : pathB x.2.2.2 with
        | false =>
          have HPB := Lib.hid hpb
          have HGB : Hid (goodB 3 x.2.2.2 = false) := hge.trans hpb
          clear hpb hge
          go_wp2_with (go_at_call 15; refine (refPath_any x.2.2.2 _ hx.2.2.2).mono ?_; rw [HPB.out]; rintro e w3 ⟨hb3, rfl⟩)
          go_ret
          exact ⟨HB2.out.trans (hb3.mono HB2.out.size), ret_bool (HBAD.out (by rw [HK.out]; exact HGB.out)).symm⟩
        | true =>
          have HPB := Lib.hid hpb
          have HGOOD : Hid (goodB x.2.2.1 x.2.2.2 = true) := by rw [HK.out]; exact hge.trans hpb
          clear hpb hge
          go_upto_region 7 with (go_at_call 15; refine (refPath_any x.2.2.2 _ hx.2.2.2).mono ?_; rw [HPB.out]; rintro e w3 ⟨hb3, rfl⟩)
          have HBW : Hid (Below wr.heap.size wr w3) := hbW2.trans (hb3.mono hbW2.size)
          have HZW : Hid (wr.heap.size < w3.heap.size) := Nat.lt_of_lt_of_le HZ2.out hb3.size
          have GK : Hid (∀ j u, (keyV x.1)[j]? = some u → w3.cell? ⟨wr.heap.size, 0 + j, none⟩ = some u) := fun j u hj => (hb3.cell (p := ⟨wr.heap.size, 0 + j, none⟩) HZ2.out).trans (GK2.out j u hj)
          clear hb3
          have BRW : Hid (Below wr.heap.size wr w3) := HBW.out
          have ZW : Hid (wr.heap.size < w3.heap.size) := HZW.out
          obtain ⟨wo, hwo⟩ : ∃ wo : World, wo = wr := ⟨_, rfl⟩
          subst hwo
          clear c68 c69
          go_wp2_with fail
          go_loopw [5] (fun t wr => ∃ k : Nat, k ≤ i ∧ t = .int .i64 k ∧ Below w3.heap.size w3 wr ∧ Hid (∀ j (hj : j < l.length), j < k → l[j].1 ≠ x.1)) (fun t _ => i - (intOf t).toNat)
          case atStart => exact ⟨0, by omega, rfl, Below.refl _ _, Lib.hid fun j hj h => absurd h (by omega)⟩
          case round =>
            obtain ⟨k, hk, rfl, hbk, hK⟩ := hrel
            have hbk0 : Below wo.heap.size wo wr := BRW.out.trans (hbk.mono BRW.out.size)
            have HBQ := Lib.hid (HBR.out.trans (hbk0.mono HBR.out.size))
            by_cases hklt : k < i
            · have hkr : k < l.length := by omega
              have j0 : (0 : Int) ≤ (k : Int) := by omega
              have j1 : (k : Int) < (l.length : Int) := by omega
              have j2 : (k : Int) < (i : Int) := by omega
              have hz := HOK.out _ (List.getElem_mem hkr)
              have hkj : ∀ j u, (keyV l[k].1)[j]? = some u → wr.cell? ⟨b, off + k * 70 + j, none⟩ = some u := fun j u hj => (hbk0.cell (p := ⟨b, off + k * 70 + j, none⟩) hbz).trans (by have := HROWJ.out k hkr (0 + j) u (claim_key hz j u hj); rwa [Nat.zero_add] at this)
              have hnx : l[k].1 ≠ x.1 → ∀ j (hj : j < l.length), j < k + 1 → l[j].1 ≠ x.1 := by
                intro h j hj hjk
                rcases (by omega : j < k ∨ j = k) with e | rfl
                · exact hK.out j hj e
                · exact h
              have hdp : l[k].1 = x.1 → rightB l = false := fun e => HDUP.out (e ▸ List.mem_map.2 ⟨l[k], by rw [List.mem_take_iff_getElem]; exact ⟨k, by omega, rfl⟩, rfl⟩)
              have HKJ := Lib.hid hkj; have HNX := Lib.hid hnx; have HDP := Lib.hid hdp
              have hzk := hz.1
              have BK := Lib.hid hbk
              clear hkj hnx hdp hz
              generalize l[k].1 = z at *
              have rZ := Lib.hid (Wg.row (w := wr) (b := b) (o := off + k * 70) (cs := keyV z) (fun j u hj => HKJ.out j u hj) (Nat.lt_of_lt_of_le hbz hbk0.size))
              have rX := Lib.hid (Wg.row (w := wr) (b := wo.heap.size) (o := 0) (cs := keyV x.1) (fun j u hj => (hbk.cell (p := ⟨wo.heap.size, 0 + j, none⟩) ZW.out).trans (GK.out j u hj)) (Nat.lt_of_lt_of_le ZW.out hbk.size))
              have heq : ∀ w' : World, (Op.equalIn 10000 26 (.agg (keyV z).toArray) (.agg (keyV x.1).toArray)).run Tryz.prog w' = .ok (decide (z = x.1)) w' := fun w' => run_eqKey hzk hx.1 w'
              have HSZ : Hid ((Tryz.prog.info? 26).map (·.size) = some (keyV z).length) := by rw [keyV_length hzk]; exact sizeKey
              clear hbk hbk0 hzk
              by_cases hcm : z = x.1
              · rw [decide_eq_true hcm] at heq
                have HEQ := Lib.hid heq
                have HRF := Lib.hid (HDP.out hcm)
                clear heq hcm HNX HDP
                go_wp2_with fail
                refine wp_region_wg (by kernel_rfl) (by kernel_rfl) ?_
                repeat (first
                  | go_big_quiet_skip
                  | (go_big_quiet_want
                     first
                       | (refine quiet_val (fun w' hw' => ex_load 26 _ rfl (p := ⟨b, off + k * 70, none⟩) rfl (run_loadVar_mid w' _ _ _ (keyV z) _ (rZ.out w' hw') Tryz.underlying26 rfl HSZ.out)) ?_
                          go_big_quiet_on
                          simp only [Act.put, List.setIfInBounds_toArray, List.set_cons_zero, List.set_cons_succ])
                       | (refine quiet_val (fun w' hw' => ex_load 26 _ rfl (p := ⟨wo.heap.size, 0, none⟩) rfl (run_loadVar_mid w' _ _ _ (keyV x.1) _ (rX.out w' hw') Tryz.underlying26 rfl HSX.out)) ?_
                          go_big_quiet_on
                          simp only [Act.put, List.setIfInBounds_toArray, List.set_cons_zero, List.set_cons_succ])
                       | (refine quiet_val (fun w' hw' => ex_eql 26 _ _ _ rfl (xs := (keyV z).toArray) (ys := (keyV x.1).toArray) rfl rfl (r := true) eqKey.noGuard (HEQ.out w')) ?_
                          go_big_quiet_on
                          simp only [Act.put, List.setIfInBounds_toArray, List.set_cons_zero, List.set_cons_succ])
                       | (go_big_quiet_op
                          first
                            | go_big_quiet_on
                            | go_big_quiet_call (first | (fail)))))
                refine wpQuiet_nil ?_
                rintro w' ⟨kk, rfl⟩
                have hkk := kk.2
                generalize kk.val = w11 at *

                have HB11 := Lib.hid (HBQ.out.trans (hkk.below.mono HBQ.out.size))
                clear hkk kk rZ rX
                go_wp2_with fail
                go_ret
                exact ⟨HB11.out, ret_bool HRF.out.symm⟩
              · rw [decide_eq_false hcm] at heq
                have HEQ := Lib.hid heq
                have HN := Lib.hid (HNX.out hcm)
                clear heq hcm HNX HDP
                go_wp2_with fail
                refine wp_region_wg (by kernel_rfl) (by kernel_rfl) ?_
                repeat (first
                  | go_big_quiet_skip
                  | (go_big_quiet_want
                     first
                       | (refine quiet_val (fun w' hw' => ex_load 26 _ rfl (p := ⟨b, off + k * 70, none⟩) rfl (run_loadVar_mid w' _ _ _ (keyV z) _ (rZ.out w' hw') Tryz.underlying26 rfl HSZ.out)) ?_
                          go_big_quiet_on
                          simp only [Act.put, List.setIfInBounds_toArray, List.set_cons_zero, List.set_cons_succ])
                       | (refine quiet_val (fun w' hw' => ex_load 26 _ rfl (p := ⟨wo.heap.size, 0, none⟩) rfl (run_loadVar_mid w' _ _ _ (keyV x.1) _ (rX.out w' hw') Tryz.underlying26 rfl HSX.out)) ?_
                          go_big_quiet_on
                          simp only [Act.put, List.setIfInBounds_toArray, List.set_cons_zero, List.set_cons_succ])
                       | (refine quiet_val (fun w' hw' => ex_eql 26 _ _ _ rfl (xs := (keyV z).toArray) (ys := (keyV x.1).toArray) rfl rfl (r := false) eqKey.noGuard (HEQ.out w')) ?_
                          go_big_quiet_on
                          simp only [Act.put, List.setIfInBounds_toArray, List.set_cons_zero, List.set_cons_succ])
                       | (go_big_quiet_op
                          first
                            | go_big_quiet_on
                            | go_big_quiet_call (first | (fail)))))
                refine wpQuiet_nil ?_
                rintro w' ⟨kk, rfl⟩
                have hkk := kk.2
                generalize kk.val = w11 at *

                have HB11 := Lib.hid (BK.out.trans (hkk.below.mono BK.out.size))
                clear hkk kk rZ rX
                go_wp2_with fail
                go_roundw
                case rel => exact ⟨k + 1, by omega, by go_num, HB11.out, HN⟩
                case measure => simp [intOf]; omega
            · have j2 : ¬ (k : Int) < (i : Int) := by omega
              have hne : x.1 ∉ (l.take i).map (·.1) := by
                intro h
                obtain ⟨y, hy, e⟩ := List.mem_map.1 h
                obtain ⟨j, hj, rfl⟩ := List.getElem_of_mem hy
                rw [List.length_take] at hj
                rw [List.getElem_take] at e
                exact hK.out j (by omega) (by omega) e
              have hR2 := right_snoc hR.out hne HGOOD.out
              rw [← HTK.out] at hR2
              have HR2 := Lib.hid hR2
              clear hne hR2 hbk hbk0
              go_wp2_with fail
              go_roundw
              case rel => exact ⟨i + 1, by omega, by go_num, HBQ.out, HR2⟩
              case measure => simp [intOf]; omega
      · have HK := Lib.hid h
        rw [h] at c68
        clear h
        have hge : goodB 4 x.2.2.2 = pathB x.2.2.2 := by simp [goodB]
        cases hpb : pathB x.2.2.2 with
        | false =>
          have HPB := Lib.hid hpb
          have HGB : Hid (goodB 4 x.2.2.2 = false) := hge.trans hpb
          clear hpb hge
          go_wp2_with (go_at_call 15; refine (refPath_any x.2.2.2 _ hx.2.2.2).mono ?_; rw [HPB.out]; rintro e w3 ⟨hb3, rfl⟩)
          go_ret
          exact ⟨HB2.out.trans (hb3.mono HB2.out.size), ret_bool (HBAD.out (by rw [HK.out]; exact HGB.out)).symm⟩
        | true =>
          have HPB := Lib.hid hpb
          have HGOOD : Hid (goodB x.2.2.1 x.2.2.2 = true) := by rw [HK.out]; exact hge.trans hpb
          clear hpb hge
          go_upto_region 7 with (go_at_call 15; refine (refPath_any x.2.2.2 _ hx.2.2.2).mono ?_; rw [HPB.out]; rintro e w3 ⟨hb3, rfl⟩)
          have HBW : Hid (Below wr.heap.size wr w3) := hbW2.trans (hb3.mono hbW2.size)
          have HZW : Hid (wr.heap.size < w3.heap.size) := Nat.lt_of_lt_of_le HZ2.out hb3.size
          have GK : Hid (∀ j u, (keyV x.1)[j]? = some u → w3.cell? ⟨wr.heap.size, 0 + j, none⟩ = some u) := fun j u hj => (hb3.cell (p := ⟨wr.heap.size, 0 + j, none⟩) HZ2.out).trans (GK2.out j u hj)
          clear hb3
          have BRW : Hid (Below wr.heap.size wr w3) := HBW.out
          have ZW : Hid (wr.heap.size < w3.heap.size) := HZW.out
          obtain ⟨wo, hwo⟩ : ∃ wo : World, wo = wr := ⟨_, rfl⟩
          subst hwo
          clear c68 c69
          go_wp2_with fail
          go_loopw [5] (fun t wr => ∃ k : Nat, k ≤ i ∧ t = .int .i64 k ∧ Below w3.heap.size w3 wr ∧ Hid (∀ j (hj : j < l.length), j < k → l[j].1 ≠ x.1)) (fun t _ => i - (intOf t).toNat)
          case atStart => exact ⟨0, by omega, rfl, Below.refl _ _, Lib.hid fun j hj h => absurd h (by omega)⟩
          case round =>
            obtain ⟨k, hk, rfl, hbk, hK⟩ := hrel
            have hbk0 : Below wo.heap.size wo wr := BRW.out.trans (hbk.mono BRW.out.size)
            have HBQ := Lib.hid (HBR.out.trans (hbk0.mono HBR.out.size))
            by_cases hklt : k < i
            · have hkr : k < l.length := by omega
              have j0 : (0 : Int) ≤ (k : Int) := by omega
              have j1 : (k : Int) < (l.length : Int) := by omega
              have j2 : (k : Int) < (i : Int) := by omega
              have hz := HOK.out _ (List.getElem_mem hkr)
              have hkj : ∀ j u, (keyV l[k].1)[j]? = some u → wr.cell? ⟨b, off + k * 70 + j, none⟩ = some u := fun j u hj => (hbk0.cell (p := ⟨b, off + k * 70 + j, none⟩) hbz).trans (by have := HROWJ.out k hkr (0 + j) u (claim_key hz j u hj); rwa [Nat.zero_add] at this)
              have hnx : l[k].1 ≠ x.1 → ∀ j (hj : j < l.length), j < k + 1 → l[j].1 ≠ x.1 := by
                intro h j hj hjk
                rcases (by omega : j < k ∨ j = k) with e | rfl
                · exact hK.out j hj e
                · exact h
              have hdp : l[k].1 = x.1 → rightB l = false := fun e => HDUP.out (e ▸ List.mem_map.2 ⟨l[k], by rw [List.mem_take_iff_getElem]; exact ⟨k, by omega, rfl⟩, rfl⟩)
              have HKJ := Lib.hid hkj; have HNX := Lib.hid hnx; have HDP := Lib.hid hdp
              have hzk := hz.1
              have BK := Lib.hid hbk
              clear hkj hnx hdp hz
              generalize l[k].1 = z at *
              have rZ := Lib.hid (Wg.row (w := wr) (b := b) (o := off + k * 70) (cs := keyV z) (fun j u hj => HKJ.out j u hj) (Nat.lt_of_lt_of_le hbz hbk0.size))
              have rX := Lib.hid (Wg.row (w := wr) (b := wo.heap.size) (o := 0) (cs := keyV x.1) (fun j u hj => (hbk.cell (p := ⟨wo.heap.size, 0 + j, none⟩) ZW.out).trans (GK.out j u hj)) (Nat.lt_of_lt_of_le ZW.out hbk.size))
              have heq : ∀ w' : World, (Op.equalIn 10000 26 (.agg (keyV z).toArray) (.agg (keyV x.1).toArray)).run Tryz.prog w' = .ok (decide (z = x.1)) w' := fun w' => run_eqKey hzk hx.1 w'
              have HSZ : Hid ((Tryz.prog.info? 26).map (·.size) = some (keyV z).length) := by rw [keyV_length hzk]; exact sizeKey
              clear hbk hbk0 hzk
              by_cases hcm : z = x.1
              · rw [decide_eq_true hcm] at heq
                have HEQ := Lib.hid heq
                have HRF := Lib.hid (HDP.out hcm)
                clear heq hcm HNX HDP
                go_wp2_with fail
                refine wp_region_wg (by kernel_rfl) (by kernel_rfl) ?_
                repeat (first
                  | go_big_quiet_skip
                  | (go_big_quiet_want
                     first
                       | (refine quiet_val (fun w' hw' => ex_load 26 _ rfl (p := ⟨b, off + k * 70, none⟩) rfl (run_loadVar_mid w' _ _ _ (keyV z) _ (rZ.out w' hw') Tryz.underlying26 rfl HSZ.out)) ?_
                          go_big_quiet_on
                          simp only [Act.put, List.setIfInBounds_toArray, List.set_cons_zero, List.set_cons_succ])
                       | (refine quiet_val (fun w' hw' => ex_load 26 _ rfl (p := ⟨wo.heap.size, 0, none⟩) rfl (run_loadVar_mid w' _ _ _ (keyV x.1) _ (rX.out w' hw') Tryz.underlying26 rfl HSX.out)) ?_
                          go_big_quiet_on
                          simp only [Act.put, List.setIfInBounds_toArray, List.set_cons_zero, List.set_cons_succ])
                       | (refine quiet_val (fun w' hw' => ex_eql 26 _ _ _ rfl (xs := (keyV z).toArray) (ys := (keyV x.1).toArray) rfl rfl (r := true) eqKey.noGuard (HEQ.out w')) ?_
                          go_big_quiet_on
                          simp only [Act.put, List.setIfInBounds_toArray, List.set_cons_zero, List.set_cons_succ])
                       | (go_big_quiet_op
                          first
                            | go_big_quiet_on
                            | go_big_quiet_call (first | (fail)))))
                refine wpQuiet_nil ?_
                rintro w' ⟨kk, rfl⟩
                have hkk := kk.2
                generalize kk.val = w11 at *

                have HB11 := Lib.hid (HBQ.out.trans (hkk.below.mono HBQ.out.size))
                clear hkk kk rZ rX
                go_wp2_with fail
                go_ret
                exact ⟨HB11.out, ret_bool HRF.out.symm⟩
              · rw [decide_eq_false hcm] at heq
                have HEQ := Lib.hid heq
                have HN := Lib.hid (HNX.out hcm)
                clear heq hcm HNX HDP
                go_wp2_with fail
                refine wp_region_wg (by kernel_rfl) (by kernel_rfl) ?_
                repeat (first
                  | go_big_quiet_skip
                  | (go_big_quiet_want
                     first
                       | (refine quiet_val (fun w' hw' => ex_load 26 _ rfl (p := ⟨b, off + k * 70, none⟩) rfl (run_loadVar_mid w' _ _ _ (keyV z) _ (rZ.out w' hw') Tryz.underlying26 rfl HSZ.out)) ?_
                          go_big_quiet_on
                          simp only [Act.put, List.setIfInBounds_toArray, List.set_cons_zero, List.set_cons_succ])
                       | (refine quiet_val (fun w' hw' => ex_load 26 _ rfl (p := ⟨wo.heap.size, 0, none⟩) rfl (run_loadVar_mid w' _ _ _ (keyV x.1) _ (rX.out w' hw') Tryz.underlying26 rfl HSX.out)) ?_
                          go_big_quiet_on
                          simp only [Act.put, List.setIfInBounds_toArray, List.set_cons_zero, List.set_cons_succ])
                       | (refine quiet_val (fun w' hw' => ex_eql 26 _ _ _ rfl (xs := (keyV z).toArray) (ys := (keyV x.1).toArray) rfl rfl (r := false) eqKey.noGuard (HEQ.out w')) ?_
                          go_big_quiet_on
                          simp only [Act.put, List.setIfInBounds_toArray, List.set_cons_zero, List.set_cons_succ])
                       | (go_big_quiet_op
                          first
                            | go_big_quiet_on
                            | go_big_quiet_call (first | (fail)))))
                refine wpQuiet_nil ?_
                rintro w' ⟨kk, rfl⟩
                have hkk := kk.2
                generalize kk.val = w11 at *

                have HB11 := Lib.hid (BK.out.trans (hkk.below.mono BK.out.size))
                clear hkk kk rZ rX
                go_wp2_with fail
                go_roundw
                case rel => exact ⟨k + 1, by omega, by go_num, HB11.out, HN⟩
                case measure => simp [intOf]; omega
            · have j2 : ¬ (k : Int) < (i : Int) := by omega
              have hne : x.1 ∉ (l.take i).map (·.1) := by
                intro h
                obtain ⟨y, hy, e⟩ := List.mem_map.1 h
                obtain ⟨j, hj, rfl⟩ := List.getElem_of_mem hy
                rw [List.length_take] at hj
                rw [List.getElem_take] at e
                exact hK.out j (by omega) (by omega) e
              have hR2 := right_snoc hR.out hne HGOOD.out
              rw [← HTK.out] at hR2
              have HR2 := Lib.hid hR2
              clear hne hR2 hbk hbk0
              go_wp2_with fail
              go_roundw
              case rel => exact ⟨i + 1, by omega, by go_num, HBQ.out, HR2⟩
              case measure => simp [intOf]; omega
      · have HK := Lib.hid h
        rw [h] at c68
        clear h
        have hge : goodB 5 x.2.2.2 = x.2.2.2.toList.isEmpty := by simp [goodB, isEmpty_size]
        cases hpe : x.2.2.2.toList.isEmpty with
        | false =>
          have HGB : Hid (goodB x.2.2.1 x.2.2.2 = false) := by rw [HK.out]; exact hge.trans hpe
          clear hge
          go_wp2_with fail
          go_ret
          exact ⟨HB2.out, ret_bool (HBAD.out HGB.out).symm⟩

        | true =>
          have HGOOD : Hid (goodB x.2.2.1 x.2.2.2 = true) := by rw [HK.out]; exact hge.trans hpe
          clear hge
          go_upto_region 7 with fail
          clear hpe
          have HBW := Lib.hid hbW2
          have HZW : Hid (wr.heap.size < W2.heap.size) := HZ2.out
          have GK := GK2
          have BRW : Hid (Below wr.heap.size wr W2) := HBW.out
          have ZW : Hid (wr.heap.size < W2.heap.size) := HZW.out
          obtain ⟨wo, hwo⟩ : ∃ wo : World, wo = wr := ⟨_, rfl⟩
          subst hwo
          clear c68 c69
          go_wp2_with fail
          go_loopw [5] (fun t wr => ∃ k : Nat, k ≤ i ∧ t = .int .i64 k ∧ Below W2.heap.size W2 wr ∧ Hid (∀ j (hj : j < l.length), j < k → l[j].1 ≠ x.1)) (fun t _ => i - (intOf t).toNat)
          case atStart => exact ⟨0, by omega, rfl, Below.refl _ _, Lib.hid fun j hj h => absurd h (by omega)⟩
          case round =>
            obtain ⟨k, hk, rfl, hbk, hK⟩ := hrel
            have hbk0 : Below wo.heap.size wo wr := BRW.out.trans (hbk.mono BRW.out.size)
            have HBQ := Lib.hid (HBR.out.trans (hbk0.mono HBR.out.size))
            by_cases hklt : k < i
            · have hkr : k < l.length := by omega
              have j0 : (0 : Int) ≤ (k : Int) := by omega
              have j1 : (k : Int) < (l.length : Int) := by omega
              have j2 : (k : Int) < (i : Int) := by omega
              have hz := HOK.out _ (List.getElem_mem hkr)
              have hkj : ∀ j u, (keyV l[k].1)[j]? = some u → wr.cell? ⟨b, off + k * 70 + j, none⟩ = some u := fun j u hj => (hbk0.cell (p := ⟨b, off + k * 70 + j, none⟩) hbz).trans (by have := HROWJ.out k hkr (0 + j) u (claim_key hz j u hj); rwa [Nat.zero_add] at this)
              have hnx : l[k].1 ≠ x.1 → ∀ j (hj : j < l.length), j < k + 1 → l[j].1 ≠ x.1 := by
                intro h j hj hjk
                rcases (by omega : j < k ∨ j = k) with e | rfl
                · exact hK.out j hj e
                · exact h
              have hdp : l[k].1 = x.1 → rightB l = false := fun e => HDUP.out (e ▸ List.mem_map.2 ⟨l[k], by rw [List.mem_take_iff_getElem]; exact ⟨k, by omega, rfl⟩, rfl⟩)
              have HKJ := Lib.hid hkj; have HNX := Lib.hid hnx; have HDP := Lib.hid hdp
              have hzk := hz.1
              have BK := Lib.hid hbk
              clear hkj hnx hdp hz
              generalize l[k].1 = z at *
              have rZ := Lib.hid (Wg.row (w := wr) (b := b) (o := off + k * 70) (cs := keyV z) (fun j u hj => HKJ.out j u hj) (Nat.lt_of_lt_of_le hbz hbk0.size))
              have rX := Lib.hid (Wg.row (w := wr) (b := wo.heap.size) (o := 0) (cs := keyV x.1) (fun j u hj => (hbk.cell (p := ⟨wo.heap.size, 0 + j, none⟩) ZW.out).trans (GK.out j u hj)) (Nat.lt_of_lt_of_le ZW.out hbk.size))
              have heq : ∀ w' : World, (Op.equalIn 10000 26 (.agg (keyV z).toArray) (.agg (keyV x.1).toArray)).run Tryz.prog w' = .ok (decide (z = x.1)) w' := fun w' => run_eqKey hzk hx.1 w'
              have HSZ : Hid ((Tryz.prog.info? 26).map (·.size) = some (keyV z).length) := by rw [keyV_length hzk]; exact sizeKey
              clear hbk hbk0 hzk
              by_cases hcm : z = x.1
              · rw [decide_eq_true hcm] at heq
                have HEQ := Lib.hid heq
                have HRF := Lib.hid (HDP.out hcm)
                clear heq hcm HNX HDP
                go_wp2_with fail
                refine wp_region_wg (by kernel_rfl) (by kernel_rfl) ?_
                repeat (first
                  | go_big_quiet_skip
                  | (go_big_quiet_want
                     first
                       | (refine quiet_val (fun w' hw' => ex_load 26 _ rfl (p := ⟨b, off + k * 70, none⟩) rfl (run_loadVar_mid w' _ _ _ (keyV z) _ (rZ.out w' hw') Tryz.underlying26 rfl HSZ.out)) ?_
                          go_big_quiet_on
                          simp only [Act.put, List.setIfInBounds_toArray, List.set_cons_zero, List.set_cons_succ])
                       | (refine quiet_val (fun w' hw' => ex_load 26 _ rfl (p := ⟨wo.heap.size, 0, none⟩) rfl (run_loadVar_mid w' _ _ _ (keyV x.1) _ (rX.out w' hw') Tryz.underlying26 rfl HSX.out)) ?_
                          go_big_quiet_on
                          simp only [Act.put, List.setIfInBounds_toArray, List.set_cons_zero, List.set_cons_succ])
                       | (refine quiet_val (fun w' hw' => ex_eql 26 _ _ _ rfl (xs := (keyV z).toArray) (ys := (keyV x.1).toArray) rfl rfl (r := true) eqKey.noGuard (HEQ.out w')) ?_
                          go_big_quiet_on
                          simp only [Act.put, List.setIfInBounds_toArray, List.set_cons_zero, List.set_cons_succ])
                       | (go_big_quiet_op
                          first
                            | go_big_quiet_on
                            | go_big_quiet_call (first | (fail)))))
                refine wpQuiet_nil ?_
                rintro w' ⟨kk, rfl⟩
                have hkk := kk.2
                generalize kk.val = w11 at *

                have HB11 := Lib.hid (HBQ.out.trans (hkk.below.mono HBQ.out.size))
                clear hkk kk rZ rX
                go_wp2_with fail
                go_ret
                exact ⟨HB11.out, ret_bool HRF.out.symm⟩
              · rw [decide_eq_false hcm] at heq
                have HEQ := Lib.hid heq
                have HN := Lib.hid (HNX.out hcm)
                clear heq hcm HNX HDP
                go_wp2_with fail
                refine wp_region_wg (by kernel_rfl) (by kernel_rfl) ?_
                repeat (first
                  | go_big_quiet_skip
                  | (go_big_quiet_want
                     first
                       | (refine quiet_val (fun w' hw' => ex_load 26 _ rfl (p := ⟨b, off + k * 70, none⟩) rfl (run_loadVar_mid w' _ _ _ (keyV z) _ (rZ.out w' hw') Tryz.underlying26 rfl HSZ.out)) ?_
                          go_big_quiet_on
                          simp only [Act.put, List.setIfInBounds_toArray, List.set_cons_zero, List.set_cons_succ])
                       | (refine quiet_val (fun w' hw' => ex_load 26 _ rfl (p := ⟨wo.heap.size, 0, none⟩) rfl (run_loadVar_mid w' _ _ _ (keyV x.1) _ (rX.out w' hw') Tryz.underlying26 rfl HSX.out)) ?_
                          go_big_quiet_on
                          simp only [Act.put, List.setIfInBounds_toArray, List.set_cons_zero, List.set_cons_succ])
                       | (refine quiet_val (fun w' hw' => ex_eql 26 _ _ _ rfl (xs := (keyV z).toArray) (ys := (keyV x.1).toArray) rfl rfl (r := false) eqKey.noGuard (HEQ.out w')) ?_
                          go_big_quiet_on
                          simp only [Act.put, List.setIfInBounds_toArray, List.set_cons_zero, List.set_cons_succ])
                       | (go_big_quiet_op
                          first
                            | go_big_quiet_on
                            | go_big_quiet_call (first | (fail)))))
                refine wpQuiet_nil ?_
                rintro w' ⟨kk, rfl⟩
                have hkk := kk.2
                generalize kk.val = w11 at *

                have HB11 := Lib.hid (BK.out.trans (hkk.below.mono BK.out.size))
                clear hkk kk rZ rX
                go_wp2_with fail
                go_roundw
                case rel => exact ⟨k + 1, by omega, by go_num, HB11.out, HN⟩
                case measure => simp [intOf]; omega
            · have j2 : ¬ (k : Int) < (i : Int) := by omega
              have hne : x.1 ∉ (l.take i).map (·.1) := by
                intro h
                obtain ⟨y, hy, e⟩ := List.mem_map.1 h
                obtain ⟨j, hj, rfl⟩ := List.getElem_of_mem hy
                rw [List.length_take] at hj
                rw [List.getElem_take] at e
                exact hK.out j (by omega) (by omega) e
              have hR2 := right_snoc hR.out hne HGOOD.out
              rw [← HTK.out] at hR2
              have HR2 := Lib.hid hR2
              clear hne hR2 hbk hbk0
              go_wp2_with fail
              go_roundw
              case rel => exact ⟨i + 1, by omega, by go_num, HBQ.out, HR2⟩
              case measure => simp [intOf]; omega
    · have hall : rightB l = true := by rw [rightB_iff]; have := hR.out; rwa [show i = l.length by omega, List.take_length] at this
      have HALL := Lib.hid hall
      clear hall
      go_wp2_with fail
      go_ret
      exact ⟨hbr, ret_bool HALL.out.symm⟩
end Go.Proofs.YtfjmbcljohobeaaGreatDoor
