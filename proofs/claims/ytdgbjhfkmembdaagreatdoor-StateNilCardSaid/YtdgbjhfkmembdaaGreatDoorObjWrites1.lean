/-
  The document's copy of ids, its Encode. Conditions: lists of at most 2^40.
-/
import Derived.Test.YtdgbjhfkmembdaaGreatDoorObjEncode
import Derived.Test.YtdgbjhfkmembdaaGreatDoorObjLight
import Derived.Test.YtdgbjhfkmembdaaGreatDoorObjSame
import Derived.Test.YtdgbjhfkmembdaaGreatDoorObjDecode2
import Derived.Test.YtdgbjhfkmembdaaGreatDoorOrdMerge
import Derived.Test.YtdgbjhfkmembdaaGreatDoorRefBytes8c
import Derived.Test.YtdgbjhfkmembdaaGreatDoorAppS
import Derived.Test.YtdgbjhfkmembdaaGreatDoorShaSum
import Derived.Test.YtdgbjhfkmembdaaGreatDoorObjCap
namespace Go.Proofs.YtdgbjhfkmembdaaGreatDoor
open Go.RowKit Go.Maps
set_option linter.unusedVariables false
set_option linter.unusedSimpArgs false

def CopyIds (l : List (List UInt8)) (w : World) (e : Ending) (w' : World) : Prop := ∃ A c, e = .returned (.slice A l.length c) ∧ Sl w' w'.heap.size A l.length 32 (idsV l) ∧ l.length ≤ c ∧ Below w.heap.size w w'
set_option maxHeartbeats 4000000 in
set_option maxRecDepth 100000 in
theorem copy04_any (l : List (List UInt8)) (A : Option Addr) (c : Nat) (w : World) (hs : Sl w w.heap.size A l.length 32 (idsV l)) (hl : l.length ≤ 1099511627776) :
    Calls Tryz.prog 58 #[.slice A l.length c] w (CopyIds l w) := by
  have HS := Lib.hid hs
  clear hs
  go_enter Tryz.func58, Tryz.ntmps58
  go_wp2_with (at_builtin; refine wp_appSc (by rfl) _ _ 34 rfl 41 (.agg (idV zero32).toArray) 32 32 Tryz.underlying34 infoId rfl (by decide) rfl A l.length c (idsV l) rfl HS.out (idsV_one _) (by unfold maxLen; omega) (by omega) ?_; intro A' c' w' h1 h2 h3; have H1 := Lib.hid h1; have H2 := Lib.hid h2; have H3 := Lib.hid h3; clear h1 h2 h3)
  go_ret
  exact ⟨_, _, rfl, H1.out, H2.out, H3.out⟩
def encR (o : ObjD) : Int := if rightB o = true then (if 262144 < (objE o).length then 2 else 0) else 1
def idD (o : ObjD) : List UInt8 := if encR o = 0 then shaS (objE o) else List.replicate 32 0
set_option maxHeartbeats 4000000 in
set_option maxRecDepth 100000 in
theorem refEncode_any (o : ObjD) (v : Value) (w : World) (h : ObjIn w w.heap.size v o) (hl1 : o.2.1.2.1.length ≤ 1099511627776) (hl2 : o.2.1.2.2.2.length ≤ 1099511627776) (hl3 : o.2.2.1.length ≤ 1099511627776) (hl4 : o.2.2.2.1.length ≤ 1099511627776) :
    Calls Tryz.prog 103 #[v] w fun e w' => Below w.heap.size w w' ∧ EncRes o e w' := by
  obtain ⟨c0, rfl, hl0, h10⟩ := h.ten
  have HIN := Lib.hid h; have HL0 := Lib.hid hl0; have H10 := Lib.hid h10
  clear h hl0 h10
  go_enter Tryz.func103, Tryz.ntmps103
  go_upto_region 1 with (first
    | (with_reducible refine at_box ?_
       refine wp_boxM (by rfl) 70 _ rfl c0 (.agg (c0).toArray) rfl rfl (by rw [HL0.out]; kernel_rfl) ?_
       intro W0 hb0 hz0 hs0
       have HB0 := Lib.hid hb0; have HZ0 := Lib.hid hz0; have HS0 := Lib.hid hs0
       clear hb0 hz0 hs0))
  have HI0 := Lib.hid ((HIN.out.keep HB0.out).more HB0.out.size)
  obtain ⟨z, hz⟩ : ∃ z, w.heap.size = z := ⟨_, rfl⟩
  have HZL := Lib.hid (show z < W0.heap.size by have := HS0.out; omega)
  rw [hz] at HZ0 ⊢
  try simp only [Act.put, List.setIfInBounds_toArray, List.set_cons_zero, List.set_cons_succ]
  clear hz HS0
  rcases Bool.eq_false_or_eq_true (rightB o) with hr | hr
  rotate_left
  · have HR := Lib.hid hr
    clear hr
    go_wp2_with (first
      | (with_reducible refine at_load ?_
         refine wp_val (by rfl) (ex_load 70 _ rfl (p := ⟨z, 0, none⟩) rfl (load_obj HZ0.out HL0.out)) ?_)
      | (go_at_call 161; refine (refRight_any o _ W0 HI0.out hl1 hl2 hl3 hl4).mono ?_; rintro e W1 ⟨hb1, rfl⟩
         rw [HR.out]
         have HB1 := Lib.hid (HB0.out.trans (hb1.mono HB0.out.size))
         clear hb1))
    go_ret2
    exact ⟨HB1.out, by unfold EncRes; rw [HR.out]; rfl⟩
  · have HR := Lib.hid hr
    clear hr
    go_upto_region 3 with (first
      | (with_reducible refine at_load ?_
         refine wp_val (by rfl) (ex_load 70 _ rfl (p := ⟨z, 0, none⟩) rfl (load_obj HZ0.out HL0.out)) ?_)
      | (go_at_call 161; refine (refRight_any o _ W0 HI0.out hl1 hl2 hl3 hl4).mono ?_; rintro e W1 ⟨hb1, rfl⟩
         rw [HR.out]
         have HB1 := Lib.hid (HB0.out.trans (hb1.mono HB0.out.size))
         have HZ1 := Lib.hid ((hb1.block z HZL.out).trans HZ0.out)
         have HI1 := Lib.hid ((HI0.out.keep hb1).more hb1.size)
         clear hb1))
    go_upto_region 4 with (first
      | (with_reducible refine at_load ?_
         refine wp_val (by rfl) (ex_load 70 _ rfl (p := ⟨z, 0, none⟩) rfl (load_obj HZ1.out HL0.out)) ?_)
      | (go_at_call 162; refine (refBytesO_any o _ W1 HI1.out HR.out).mono ?_
         rintro e W2 ⟨hb2, Ay, cy, rfl, hoy⟩
         have HB2 := Lib.hid (HB1.out.trans (hb2.mono HB1.out.size)); have HOY := Lib.hid hoy
         clear hb2 hoy))
    by_cases hlong : 262144 < (objE o).length
    · have i2 : (262144 : Int) < ((objE o).length : Int) := by omega
      go_wp2_with fail
      go_ret2
      exact ⟨HB2.out, by unfold EncRes; rw [if_pos HR.out, if_pos hlong]; rfl⟩
    · have i2 : ¬ (262144 : Int) < ((objE o).length : Int) := by omega
      go_wp2_with fail
      go_ret2
      exact ⟨HB2.out, by unfold EncRes; rw [if_pos HR.out, if_neg hlong]; exact ⟨Ay, cy, rfl, Sl.of_own HOY.out, own_cap8 HOY.out⟩⟩
end Go.Proofs.YtdgbjhfkmembdaaGreatDoor
