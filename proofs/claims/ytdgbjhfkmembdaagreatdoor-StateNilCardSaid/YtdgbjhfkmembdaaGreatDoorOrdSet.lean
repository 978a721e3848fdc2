/-
  What IsSet, place and Find give. Conditions: ids of 32 bytes; lists of at most 2^40 ids.
-/
import Derived.Test.YtdgbjhfkmembdaaGreatDoorOrdWalks
import Derived.Test.YtdgbjhfkmembdaaGreatDoorIdsSpec
namespace Go.Proofs.YtdgbjhfkmembdaaGreatDoor
open Go.RowKit
set_option linter.unusedVariables false

theorem sizeId2 : (Tryz.prog.info? 41).map (·.size) = some 32 := by kernel_rfl

set_option maxHeartbeats 1000000 in
set_option maxRecDepth 100000 in
theorem isSet_any (l : List (List UInt8)) (A : Option Addr) (c : Nat) (w : World) (hn : l.length ≤ 1099511627776) (ho : IdsOk l) (hsl : Sl w w.heap.size A l.length 32 (idsV l)) :
    Calls Tryz.prog 248 #[.slice A l.length c] w fun e w' => Below w.heap.size w w' ∧ e = .returned (.bool (isSetB l)) := by
  have HSL := Lib.hid hsl; clear hsl
  have HO := Lib.hid ho; clear ho
  go_enter Tryz.func248, Tryz.ntmps248
  go_wp2_with fail
  go_loopw [6] (fun t wr => ∃ i : Nat, i ≤ l.length ∧ t = .int .i64 i ∧ Below w.heap.size w wr ∧ Hid (∀ j (h : j + 1 < l.length), j + 1 < i → cmpB (l[j]'(by omega)) l[j + 1] < 0)) (fun t _ => l.length - (intOf t).toNat)
  case atStart => exact ⟨0, by omega, rfl, Below.refl _ _, Lib.hid fun j _ hj => absurd hj (by omega)⟩
  case round =>
    obtain ⟨i, hi, rfl, hbr, hI⟩ := hrel
    by_cases hlt : i < l.length
    · by_cases h0 : i = 0
      · have hg : decide ((0 : Int) < (i : Int)) = false := by simp; omega
        have hg2 : decide (0 < i) = false := by simp; omega
        have hg3 : (i : Int) ≤ 0 := by omega
        have H0 := Lib.hid h0; clear h0
        go_wp2_with fail
        go_quiet (fail)
        go_wp2_with fail
        go_roundw
        case rel => exact ⟨i + 1, by omega, by go_num, below_drewN hbr _, Lib.hid fun j _ hj => absurd hj (by have := H0.out; omega)⟩
        case measure => simp [intOf]; omega
      · have hg : decide ((0 : Int) < (i : Int)) = true := by simp; omega
        have hg2 : decide (0 < i) = true := by simp; omega
        have i1 : (0 : Int) ≤ (i : Int) - 1 := by omega
        have i2 : (1 : Int) ≤ (i : Int) := by omega
        have i3 : (i : Int) < (l.length : Int) := by omega
        have i4 : ((i : Int) - 1) < (l.length : Int) := by omega
        obtain ⟨b, off, rfl, hbl, hcl⟩ := (HSL.out.keep hbr).2 (by omega)
        have c1 := Sl.id (B := 0) HO.out hcl (i := i - 1) (by omega)
        have c2 := Sl.id (B := 0) HO.out hcl (i := i) hlt
        have e1 : IntKind.i64.wrap ((i : Int) - 1) = ((i - 1 : Nat) : Int) := by rw [IntWalk.i64_in _ ⟨by omega, by omega⟩]; omega
        have e2 : ((i - 1 : Nat) : Int) < (l.length : Int) := by omega
        have C1 := Lib.hid c1; clear c1
        have C2 := Lib.hid c2; clear c2
        clear hcl
        go_wp2_with fail
        refine wp_region_still_tail 12 (by kernel_rfl) (by kernel_rfl) ?_
        simp only [List.take_succ_cons, List.take_zero, List.drop_succ_cons, List.drop_zero]
        repeat still_step
        refine wpStill_loadN (by rfl) 41 _ rfl b _ rfl (idV (l[i - 1]'(by omega))) _ C1.out Tryz.underlying41 rfl (by rw [idV_length, HO.out _ (List.getElem_mem _)]; exact sizeId2) ?_
        repeat still_step
        refine wpStill_loadN (by rfl) 41 _ rfl b _ rfl (idV l[i]) _ C2.out Tryz.underlying41 rfl (by rw [idV_length, HO.out _ (List.getElem_mem _)]; exact sizeId2) ?_
        refine wpStill_nil ?_
        change wpList _ _ _ _ _ wr.drew
        generalize hwd : wr.drew = w2
        have hbr2 : Below w.heap.size w w2 := by rw [← hwd]; exact hbr.drew
        clear hwd
        clear e1
        go_wp2_with fail
        refine (compare_any (l[i - 1]'(by omega)) l[i] _ (HO.out _ (List.getElem_mem _)) (HO.out _ (List.getElem_mem _))).mono ?_
        have hstop : 0 ≤ cmpB (l[i - 1]'(by omega)) l[i] → isSetB l = false := by
          intro h
          rw [Bool.eq_false_iff]
          intro h2
          have := isSetB_iff.1 h2 (i - 1) (by omega)
          simp only [show i - 1 + 1 = i by omega] at this
          omega
        have hgo : cmpB (l[i - 1]'(by omega)) l[i] < 0 → ∀ j (h : j + 1 < l.length), j + 1 < i + 1 → cmpB (l[j]'(by omega)) l[j + 1] < 0 := by
          intro h j hj hji
          rcases (by omega : j + 1 < i ∨ j + 1 = i) with q | q
          · exact hI.out j hj q
          · have e1 : j = i - 1 := by omega
            subst e1
            simp only [show i - 1 + 1 = i by omega]
            exact h
        have HST := Lib.hid hstop; clear hstop
        have HGO := Lib.hid hgo; clear hgo
        generalize cmpB (l[i - 1]'(by omega)) l[i] = q at *
        rintro e w3 ⟨hb3, rfl⟩
        have hbr3 := hbr2.trans (hb3.mono hbr2.size)
        by_cases hq : 0 ≤ q
        · have hno := HST.out hq
          have HNO := Lib.hid hno; clear hno
          go_wp2_with fail
          go_ret
          exact ⟨hbr3, by rw [HNO.out]; rfl⟩
        · have hq2 : q < 0 := by omega
          go_wp2_with fail
          go_roundw
          case rel => exact ⟨i + 1, by omega, by go_num, hbr3, Lib.hid (HGO.out hq2)⟩
          case measure => simp [intOf]; omega
    · go_wp2_with fail
      go_ret
      refine ⟨hbr, ?_⟩
      have : isSetB l = true := isSetB_iff.2 fun j hj => hI.out j hj (by omega)
      rw [this]; rfl
end Go.Proofs.YtdgbjhfkmembdaaGreatDoor
