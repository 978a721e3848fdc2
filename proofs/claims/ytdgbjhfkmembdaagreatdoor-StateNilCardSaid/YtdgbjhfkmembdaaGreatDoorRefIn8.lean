/-
  The document's In, IsSet, ids. Conditions: ids of 32 bytes; at most 2^40 of them.
-/
import Derived.Test.YtdgbjhfkmembdaaGreatDoorShort0
import Derived.Test.YtdgbjhfkmembdaaGreatDoorShort9
import Derived.Test.YtdgbjhfkmembdaaGreatDoorOrdSet
import Derived.Test.YtdgbjhfkmembdaaGreatDoorObjBackS
import Derived.Test.YtdgbjhfkmembdaaGreatDoorRefKeys
import Derived.Test.YtdgbjhfkmembdaaGreatDoorStoreM
import Derived.Test.YtdgbjhfkmembdaaGreatDoorAtOp
import Derived.Test.YtdgbjhfkmembdaaGreatDoorQStep
import Derived.Test.YtdgbjhfkmembdaaGreatDoorBut
import Derived.Test.YtdgbjhfkmembdaaGreatDoorObjIds
namespace Go.Proofs.YtdgbjhfkmembdaaGreatDoor
open Go.RowKit Go.Maps
set_option linter.unusedVariables false
set_option linter.unusedSimpArgs false

set_option maxHeartbeats 4000000 in
set_option maxRecDepth 100000 in
theorem refIn_any (l : List (List UInt8)) (x : List UInt8) (A : Option Addr) (c : Nat) (w : World) (hn : l.length ≤ 1099511627776) (ho : IdsOk l) (hx : IdOk x) (hs : Sl w w.heap.size A l.length 32 (idsV l)) :
    Calls Tryz.prog 30 #[.slice A l.length c, .agg (idV x).toArray] w fun e w' => Below w.heap.size w w' ∧ e = .returned (.bool (decide (x ∈ l))) := by
  have HO := Lib.hid ho; have HS := Lib.hid hs
  clear ho hs
  go_enter Tryz.func30, Tryz.ntmps30
  go_upto_region 1 with (first
    | (with_reducible refine at_box ?_
       refine wp_boxM (by rfl) 41 _ rfl (idV x) _ rfl rfl (by rw [idV_length, show x.length = 32 from hx]; exact sizeId2) ?_
       intro W0 hb0 hz0 hs0
       have HB0 := Lib.hid hb0; have HZ0 := Lib.hid hz0
       clear hb0 hz0 hs0))
  have hz := (qX HZ0.out)
  try simp only [Act.put, List.setIfInBounds_toArray, List.set_cons_zero, List.set_cons_succ]
  go_wp2_with fail
  go_loopw [5] (fun t wr => ∃ i : Nat, i ≤ l.length ∧ t = .int .i64 (i : Int) ∧ Hid (Below W0.heap.size W0 wr) ∧ Hid (x ∉ l.take i)) (fun t _ => l.length - (intOf t).toNat)
  case atStart => exact ⟨0, Nat.zero_le _, rfl, Lib.hid (qB _ _), Lib.hid (by simp)⟩
  case round =>
    obtain ⟨i, hi, rfl, HBR, HN⟩ := hrel
    by_cases hlt : i < l.length
    · have i0 : (0 : Int) ≤ (i : Int) := by omega
      have i1 : (i : Int) < (l.length : Int) := by omega
      have hbw := HB0.out.trans (HBR.out.mono HB0.out.size)
      obtain ⟨b, off, rfl, hbl, hcl⟩ := (HS.out.keep hbw).2 (by omega)
      have R1 := Lib.hid (Wd.row (base := wr.heap.size) (Sl.id (B := 0) HO.out hcl (i := i) hlt) (qL hbl hbw.size))
      have R2 := Lib.hid (Wd.row (base := wr.heap.size) (o := 0) (cs := idV x) (b := w.heap.size) (fun j u hj => by rw [qZ]; exact ((HBR.out.cell (p := ⟨w.heap.size, j, none⟩) hz).trans (cells_at0 HZ0.out j)).trans hj) (qL hz HBR.out.size))
      have HY := Lib.hid (show IdOk l[i] from HO.out _ (List.getElem_mem hlt))
      obtain ⟨y, hy⟩ : ∃ y, l[i] = y := ⟨_, rfl⟩
      rw [hy] at R1 HY
      have HTK := Lib.hid (show l.take (i + 1) = l.take i ++ [y] by rw [List.take_succ_eq_append_getElem hlt, hy])
      have HMEM := Lib.hid (show y ∈ l by rw [← hy]; exact List.getElem_mem hlt)
      clear hcl hbl hbw hy
      by_cases he : y = x
      · have HM := Lib.hid (show x ∈ l by rw [← he]; exact HMEM.out)
        have HEQ : Hid (∀ u : World, (Op.equalIn 10000 41 (.agg (idV y).toArray) (.agg (idV x).toArray)).run Tryz.prog u = .ok true u) := Lib.hid (fun u => (run_eqId HY.out hx u).trans (by rw [dT he]))
        clear he
        go_wp2_with fail
        refine wp_region_wd (base := wr.heap.size) wr (qB _ _) (by kernel_rfl) (by kernel_rfl) ?_
        repeat (first
          | go_big_quiet_skip
          | (go_big_quiet_want
             first
               | (refine quiet_val (fun w' hw' => ex_load 41 _ rfl (p := ⟨b, off + i * 32, none⟩) rfl (qV w' _ _ _ (idV y) _ (R1.out w' hw') Tryz.underlying41 rfl (by rw [idV_length, show y.length = 32 from HY.out]; exact sizeId2))) ?_
                  go_big_quiet_on
                  go_frame; try simp only [nTF])
               | (refine quiet_val (fun w' hw' => ex_load 41 _ rfl (p := ⟨w.heap.size, 0, none⟩) rfl (qV w' _ _ _ (idV x) _ (R2.out w' hw') Tryz.underlying41 rfl (by rw [idV_length, show x.length = 32 from hx]; exact sizeId2))) ?_
                  go_big_quiet_on
                  go_frame; try simp only [nTF])
               | (refine quiet_val (fun w' hw' => ex_eql 41 _ _ _ rfl (xs := (idV y).toArray) (ys := (idV x).toArray) rfl rfl (r := true) eqId.noGuard (HEQ.out w')) ?_
                  go_big_quiet_on
                  go_frame; try simp only [nTF])
               | (go_big_quiet_op
                  go_big_quiet_on)))
        refine wpQuiet_nil ?_
        rintro w' ⟨kk, rfl⟩
        have hk9 := kk.2
        generalize kk.val = w9 at *
        clear kk
        have HBN := Lib.hid (HBR.out.trans (hk9.mono HBR.out.size))
        clear hk9
        go_wp2_with fail
        go_ret
        exact ⟨HB0.out.trans (HBN.out.mono HB0.out.size), by rw [dT HM.out]; rfl⟩
      · have HN2 := Lib.hid (show x ∉ l.take (i + 1) by rw [HTK.out]; simp only [List.mem_append, List.mem_singleton, not_or]; exact ⟨HN.out, fun h => he h.symm⟩)
        have HEQ : Hid (∀ u : World, (Op.equalIn 10000 41 (.agg (idV y).toArray) (.agg (idV x).toArray)).run Tryz.prog u = .ok false u) := Lib.hid (fun u => (run_eqId HY.out hx u).trans (by rw [dF he]))
        clear he
        go_wp2_with fail
        refine wp_region_wd (base := wr.heap.size) wr (qB _ _) (by kernel_rfl) (by kernel_rfl) ?_
        repeat (first
          | go_big_quiet_skip
          | (go_big_quiet_want
             first
               | (refine quiet_val (fun w' hw' => ex_load 41 _ rfl (p := ⟨b, off + i * 32, none⟩) rfl (qV w' _ _ _ (idV y) _ (R1.out w' hw') Tryz.underlying41 rfl (by rw [idV_length, show y.length = 32 from HY.out]; exact sizeId2))) ?_
                  go_big_quiet_on
                  go_frame; try simp only [nTF])
               | (refine quiet_val (fun w' hw' => ex_load 41 _ rfl (p := ⟨w.heap.size, 0, none⟩) rfl (qV w' _ _ _ (idV x) _ (R2.out w' hw') Tryz.underlying41 rfl (by rw [idV_length, show x.length = 32 from hx]; exact sizeId2))) ?_
                  go_big_quiet_on
                  go_frame; try simp only [nTF])
               | (refine quiet_val (fun w' hw' => ex_eql 41 _ _ _ rfl (xs := (idV y).toArray) (ys := (idV x).toArray) rfl rfl (r := false) eqId.noGuard (HEQ.out w')) ?_
                  go_big_quiet_on
                  go_frame; try simp only [nTF])
               | (go_big_quiet_op
                  go_big_quiet_on)))
        refine wpQuiet_nil ?_
        rintro w' ⟨kk, rfl⟩
        have hk9 := kk.2
        generalize kk.val = w9 at *
        clear kk
        have HBN := Lib.hid (HBR.out.trans (hk9.mono HBR.out.size))
        clear hk9
        go_wp2_with fail
        go_roundw
        case rel => exact ⟨i + 1, by omega, by go_num, HBN, HN2⟩
        case measure => (simp [intOf]) <;> omega
    · have i1 : ¬ (i : Int) < (l.length : Int) := by omega
      have HM := Lib.hid (show x ∉ l by have h := HN.out; rwa [List.take_of_length_le (by omega)] at h)
      go_wp2_with fail
      go_ret
      exact ⟨HB0.out.trans (HBR.out.mono HB0.out.size), by rw [dF HM.out]; rfl⟩
set_option maxHeartbeats 4000000 in
set_option maxRecDepth 100000 in
theorem refIsSet_any (l : List (List UInt8)) (A : Option Addr) (c : Nat) (w : World) (hn : l.length ≤ 1099511627776) (ho : IdsOk l) (hsl : Sl w w.heap.size A l.length 32 (idsV l)) :
    Calls Tryz.prog 259 #[.slice A l.length c] w fun e w' => Below w.heap.size w w' ∧ e = .returned (.bool (isSetB l)) := by
  have HSL := Lib.hid hsl; clear hsl
  have HO := Lib.hid ho; clear ho
  go_enter Tryz.func259, Tryz.ntmps259
  go_wp2_with fail
  go_loopw [3] (fun t wr => ∃ i : Nat, i ≤ l.length ∧ t = .int .i64 ((i : Int) + 1) ∧ Hid (Below w.heap.size w wr) ∧ Hid (∀ j (h : j + 1 < l.length), j < i → cmpB (l[j]'(by omega)) l[j + 1] < 0)) (fun t _ => l.length + 1 - (intOf t).toNat)
  case atStart => exact ⟨0, by omega, rfl, Lib.hid (qB _ _), Lib.hid fun j _ hj => absurd hj (by omega)⟩
  case round =>
    obtain ⟨i, hi, rfl, HBR, hI⟩ := hrel
    by_cases hlt : i + 1 < l.length
    · have i1 : (0 : Int) ≤ (i : Int) := by omega
      have i3 : ((i : Int) + 1) < (l.length : Int) := by omega
      have i4 : (i : Int) < (l.length : Int) := by omega
      have i5 : (0 : Int) ≤ (i : Int) + 1 := by omega
      have ei : ((i : Int) + 1) - 1 = (i : Int) := by omega
      have ei2 : ((i : Int) + 1) = ((i + 1 : Nat) : Int) := by omega
      have ei3 : ((i : Int) + 1).toNat = i + 1 := by omega
      have ew : IntKind.i64.wrap (i : Int) = (i : Int) := IntWalk.i64_in _ ⟨by omega, by omega⟩
      obtain ⟨b, off, rfl, hbl, hcl⟩ := (HSL.out.keep HBR.out).2 (by omega)
      have C1 := Lib.hid (Sl.id (B := 0) HO.out hcl (i := i) (by omega))
      have C2 := Lib.hid (Sl.id (B := 0) HO.out hcl (i := i + 1) hlt)
      have HX := Lib.hid (show IdOk (l[i]'(by omega)) from HO.out _ (List.getElem_mem _))
      have HY := Lib.hid (show IdOk l[i + 1] from HO.out _ (List.getElem_mem _))
      clear hcl ei2
      go_wp2_with fail
      refine wp_region_still_tail 9 (by kernel_rfl) (by kernel_rfl) ?_
      simp only [List.take_succ_cons, List.take_zero, List.drop_succ_cons, List.drop_zero]
      repeat still_step
      refine wpStill_loadN (by rfl) 41 _ rfl b _ rfl (idV (l[i]'(by omega))) _ C1.out Tryz.underlying41 rfl (by rw [idV_length, HX.out]; exact sizeId2) ?_
      repeat still_step
      refine wpStill_loadN (by rfl) 41 _ rfl b _ rfl (idV l[i + 1]) _ C2.out Tryz.underlying41 rfl (by rw [idV_length, HY.out]; exact sizeId2) ?_
      refine wpStill_nil ?_
      change wpList _ _ _ _ _ wr.drew
      generalize hwd : wr.drew = w2
      have hbr2 : Below w.heap.size w w2 := by rw [← hwd]; exact HBR.out.drew
      clear hwd
      have hstop : 0 ≤ cmpB (l[i]'(by omega)) l[i + 1] → isSetB l = false := by
        intro h
        rw [Bool.eq_false_iff]
        intro h2
        have := isSetB_iff.1 h2 i hlt
        omega
      have hgo : cmpB (l[i]'(by omega)) l[i + 1] < 0 → ∀ j (h : j + 1 < l.length), j < i + 1 → cmpB (l[j]'(by omega)) l[j + 1] < 0 := by
        intro h j hj hji
        rcases (by omega : j < i ∨ j = i) with q | q
        · exact hI.out j hj q
        · subst q; exact h
      have HST := Lib.hid hstop; clear hstop
      have HGO := Lib.hid hgo; clear hgo
      go_wp2_with fail
      refine (refCompare_gr (l[i]'(by omega)) l[i + 1] _ HX.out HY.out).mono ?_
      generalize cmpB (l[i]'(by omega)) l[i + 1] = q at *
      rintro e w3 ⟨hg3, rfl⟩
      have hb3 := hg3.below
      have HBN := Lib.hid (hbr2.trans (hb3.mono hbr2.size))
      clear hb3 hbr2
      by_cases hq : 0 ≤ q
      · have HNO := Lib.hid (HST.out hq)
        have dq : decide (0 ≤ q) = true := dT hq
        go_wp2_with fail
        go_ret
        exact ⟨HBN.out, by rw [HNO.out]; rfl⟩
      · have hq2 : q < 0 := by omega
        have dq : decide (0 ≤ q) = false := dF hq
        go_wp2_with fail
        go_roundw
        case rel => exact ⟨i + 1, by omega, by go_num, HBN, Lib.hid (HGO.out hq2)⟩
        case measure => (simp [intOf]) <;> omega
    · have i3 : ¬ ((i : Int) + 1) < (l.length : Int) := by omega
      have HYES := Lib.hid (show isSetB l = true from isSetB_iff.2 fun j hj => hI.out j hj (by omega))
      go_wp2_with fail
      go_ret
      exact ⟨HBR.out, by rw [HYES.out]; rfl⟩
theorem ids_same {l : List (List UInt8)} {most : Nat} (ho : IdsOk l) : idsB l most = (decide (l.length ≤ most) && isSetB l && !decide (zero32 ∈ l)) := by
  rcases hb : idsB l most with _ | _
  · rcases h1 : (decide (l.length ≤ most) && isSetB l && !decide (zero32 ∈ l)) with _ | _
    · rfl
    · exfalso
      simp only [Bool.and_eq_true, Bool.not_eq_true', decide_eq_true_eq, decide_eq_false_iff_not] at h1
      unfold idsB at hb
      simp only [h1.1.1, h1.1.2, decide_true, Bool.true_and, Bool.or_eq_false_iff, decide_eq_false_iff_not, Bool.not_eq_false', decide_eq_true_eq] at hb
      rcases l with _ | ⟨a, t⟩
      · exact hb.1 rfl
      · exact h1.2 (by have h := hb.2; simp only [List.headD_cons] at h; rw [← h]; exact List.mem_cons_self)
  · obtain ⟨h1, h2, h3⟩ := idsB_zero hb ho
    simp [h1, h2, h3]
set_option maxHeartbeats 4000000 in
set_option maxRecDepth 100000 in
theorem refIds_any (l : List (List UInt8)) (A : Option Addr) (c : Nat) (most : Nat) (w : World) (hmost : most ≤ 1099511627776) (hn : l.length ≤ 1099511627776) (ho : IdsOk l) (hs : Sl w w.heap.size A l.length 32 (idsV l)) :
    Calls Tryz.prog 235 #[.slice A l.length c, .int .i64 (most : Int)] w fun e w' => Below w.heap.size w w' ∧ e = .returned (.bool (idsB l most)) := by
  have HE := Lib.hid (ids_same (most := most) ho)
  have HO := Lib.hid ho; have HS := Lib.hid hs
  clear ho hs
  by_cases h1 : l.length ≤ most
  · have d1 : decide ((l.length : Int) ≤ (most : Int)) = true := dT (by omega)
    have i1 : (l.length : Int) ≤ (most : Int) := by omega
    have HE1 : Hid (idsB l most = (isSetB l && !decide (zero32 ∈ l))) := Lib.hid (by rw [HE.out, dT h1, Bool.true_and])
    clear HE h1
    obtain ⟨sb, hsb⟩ : ∃ b, isSetB l = b := ⟨_, rfl⟩
    have HSB := Lib.hid hsb
    clear hsb
    cases sb
    · go_enter Tryz.func235, Tryz.ntmps235
      go_wp2_with (first
        | (go_at_call 259; refine (refIsSet_any l A c w hn HO.out HS.out).mono ?_; rintro e w1 ⟨hb1, rfl⟩
           rw [HSB.out]
           have HB1 := Lib.hid hb1
           clear hb1))
      go_ret
      exact ⟨HB1.out, by rw [HE1.out, HSB.out]; rfl⟩
    · go_enter Tryz.func235, Tryz.ntmps235
      go_wp2_with (first
        | (refine wp_val (by rfl) (ex_build 41 #[] rfl (zeroId_built _)) ?_)
        | (go_at_call 259; refine (refIsSet_any l A c w hn HO.out HS.out).mono ?_; rintro e w1 ⟨hb1, rfl⟩
           rw [HSB.out]
           have HB1 := Lib.hid hb1
           clear hb1)
        | (go_at_call 30; refine (refIn_any l zero32 A c w1 hn HO.out zero32_ok ((HS.out.keep HB1.out).more HB1.out.size)).mono ?_; rintro e w2 ⟨hb2, rfl⟩
           have HB2 := Lib.hid (HB1.out.trans (hb2.mono HB1.out.size))
           clear hb2))
      go_ret
      exact ⟨HB2.out, by rw [HE1.out, HSB.out]; rfl⟩
  · have d1 : decide ((l.length : Int) ≤ (most : Int)) = false := dF (by omega)
    have i1 : ¬ (l.length : Int) ≤ (most : Int) := by omega
    have HE1 : Hid (idsB l most = false) := Lib.hid (by rw [HE.out, dF h1]; rfl)
    clear HE h1
    go_enter Tryz.func235, Tryz.ntmps235
    go_wp2_with fail
    go_ret
    exact ⟨qB _ _, by rw [HE1.out]; rfl⟩
end Go.Proofs.YtdgbjhfkmembdaaGreatDoor
