/-
  What object.ids gives. Conditions: ids of 32 bytes; at most 2^40 ids.
-/
import Derived.Test.YtdgbjhfkmembdaaGreatDoorOrdFind
import Derived.Test.YtdgbjhfkmembdaaGreatDoorObjMem
import Derived.Deep.MidRow
namespace Go.Proofs.YtdgbjhfkmembdaaGreatDoor
open Go.RowKit
set_option linter.unusedVariables false
set_option linter.unusedSimpArgs false

set_option maxRecDepth 100000 in
theorem zeroId_built (w : World) : (Instr.build 41 #[]).run Tryz.prog w = .ok (.agg (idV zero32).toArray) w := by kernel_rfl
set_option maxRecDepth 100000 in
theorem zeroRef_built (w : World) : (Instr.build 110 #[]).run Tryz.prog w = .ok (.agg (refV zeroRef).toArray) w := by kernel_rfl
theorem sizeRef33 : (Tryz.prog.info? 110).map (·.size) = some 33 := by kernel_rfl
set_option maxHeartbeats 2000000 in
set_option maxRecDepth 100000 in
theorem ids_any (l : List (List UInt8)) (A : Option Addr) (c most : Nat) (w : World) (hn : l.length ≤ 1099511627776) (hm : most ≤ 1099511627776) (ho : IdsOk l) (hsl : Sl w w.heap.size A l.length 32 (idsV l)) :
    Calls Tryz.prog 225 #[.slice A l.length c, .int .i64 most] w fun e w' => Below w.heap.size w w' ∧ e = .returned (.bool (idsB l most)) := by
  have HSL := Lib.hid hsl; clear hsl
  have HO := Lib.hid ho; clear ho
  by_cases h1 : l.length ≤ most
  · have hd1 : decide (((l.length : Nat) : Int) ≤ (most : Int)) = true := by simpa using h1
    cases hs : isSetB l
    · have HE : Hid (idsB l most = false) := Lib.hid (by unfold idsB; rw [hs]; simp)
      have HS := Lib.hid hs; clear hs
      go_enter Tryz.func225, Tryz.ntmps225
      go_wp2_with (go_at_call 248; refine (isSet_any l A c _ hn HO.out HSL.out).mono ?_; rw [HS.out]; rintro e w1 ⟨hb1, rfl⟩)
      go_ret
      exact ⟨hb1, by rw [HE.out]; rfl⟩
    · rcases Nat.eq_zero_or_pos l.length with h0 | hpos
      · obtain rfl := List.eq_nil_of_length_eq_zero h0
        have HE : Hid (idsB [] most = true) := Lib.hid (by unfold idsB; rw [hs]; simp)
        have HS := Lib.hid hs; clear hs
        go_enter Tryz.func225, Tryz.ntmps225
        go_wp2_with (go_at_call 248; refine (isSet_any [] A c _ hn HO.out HSL.out).mono ?_; rw [HS.out]; rintro e w1 ⟨hb1, rfl⟩)
        go_ret
        exact ⟨hb1, by rw [HE.out]; rfl⟩
      · have hne : l ≠ [] := List.ne_nil_of_length_pos hpos
        have hhd : l.headD [] = l[0] := by cases l with
          | nil => cases hpos
          | cons a t => rfl
        have HE : Hid (idsB l most = !decide (l[0] = zero32)) := Lib.hid (by unfold idsB; rw [hs, hhd]; simp [h1, hne])
        have hx := HO.out _ (List.getElem_mem hpos)
        have HS := Lib.hid hs; clear hs
        have hd2 : (((l.length : Nat) : Int) == 0) = false := by simp; omega
        have i0 : (0 : Int) < (l.length : Int) := by omega
        have EQ := Lib.hid (fun (u : World) => run_eqId hx zero32_ok u)
        have ZB := Lib.hid zeroId_built
        have hxl : (Tryz.prog.info? 41).map (·.size) = some (idV l[0]).length := by rw [idV_length, show l[0].length = 32 from hx]; exact sizeId2
        have HXL := Lib.hid hxl
        have HRD : Hid (∀ u : World, Below w.heap.size w u → ∃ b off, A = some ⟨b, off, none⟩ ∧ u.rangeAt b off (idV l[0])) := Lib.hid (fun u hu => by
          obtain ⟨b, off, hA, hbl, hcl⟩ := (HSL.out.keep hu).2 hpos
          refine ⟨b, off, hA, ?_⟩
          have h2 := Sl.id (B := 0) HO.out hcl (i := 0) hpos
          exact fun j v hj => by simpa using h2 j v hj)
        clear hhd hx hxl hne
        go_enter Tryz.func225, Tryz.ntmps225
        generalize l[0] = x at *
        go_wp2_with (first
          | (go_at_call 248; refine (isSet_any l A c _ hn HO.out HSL.out).mono ?_; rw [HS.out]; rintro e w1 ⟨hb1, rfl⟩
             obtain ⟨b, off, rfl, hcl⟩ := HRD.out w1 hb1
             have C1 := Lib.hid hcl
             clear hcl)
          | (refine wp_val (by rfl) (ex_load 41 _ rfl (p := ⟨b, off, none⟩) rfl (run_loadVar_mid _ _ _ _ _ _ C1.out Tryz.underlying41 rfl HXL.out)) ?_)
          | (refine wp_val (by rfl) (ex_build 41 #[] rfl (ZB.out _)) ?_)
          | (refine wp_val (by rfl) (ex_neq 41 _ _ _ rfl (xs := (idV x).toArray) (ys := (idV zero32).toArray) rfl rfl (r := decide (x = zero32)) eqId.noGuard (EQ.out _)) ?_))
        go_ret
        exact ⟨hb1, by rw [HE.out]; rfl⟩
  · have hd1 : decide (((l.length : Nat) : Int) ≤ (most : Int)) = false := by simp; omega
    have HE : Hid (idsB l most = false) := Lib.hid (by unfold idsB; simp [h1])
    go_enter Tryz.func225, Tryz.ntmps225
    go_wp2_with fail
    go_ret
    exact ⟨Below.refl _ _, by rw [HE.out]; rfl⟩
end Go.Proofs.YtdgbjhfkmembdaaGreatDoor
