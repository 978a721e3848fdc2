/-
  The law StateNil, walked. Conditions: the change lies in memory as it came; the tables hold what the program's text lays.
-/
import Derived.Test.YtdgbjhfkmembdaaGreatDoorAwake15
import Derived.Test.YtdgbjhfkmembdaaGreatDoorFew15
import Derived.Test.YtdgbjhfkmembdaaGreatDoorTold15
import Derived.Test.YtdgbjhfkmembdaaGreatDoorStateNils
import Derived.Test.YtdgbjhfkmembdaaGreatDoorStateAddNil
import Derived.Test.YtdgbjhfkmembdaaGreatDoorStateHas
import Derived.Test.YtdgbjhfkmembdaaGreatDoorStateText
namespace Go.Proofs.YtdgbjhfkmembdaaGreatDoor
open Go.RowKit Go.Maps
set_option linter.unusedVariables false
set_option linter.unusedSimpArgs false

theorem ChMIn.more {w : World} {B B' : Nat} {x : ChM} (h : ChMIn w B x) (hb : B ≤ B') : ChMIn w B' x := ⟨h.ok, h.ops, h.author, h.sd.more hb, h.so.more hb, h.ld, h.lo⟩
theorem infoCh15 : (Tryz.prog.info? 37).map (fun i => (i.zero, i.size, i.bytes)) = some (some (.agg changeZ.toArray), 4, 72) := by kernel_rfl
theorem idZ_built15 (w : World) : (Instr.build 41 #[]).run Tryz.prog w = .ok (.agg (idV zero32).toArray) w := by kernel_rfl
theorem chM_told {w : World} {x : ChM} (h : ChMIn w w.heap.size x) (hl : lightC x = true) :
    Calls Tryz.prog 18 #[.agg (chV x).toArray] w fun e w' => Below w.heap.size w w' ∧ e = .returned (.agg (idV (idC x.1)).toArray) := by
  obtain ⟨k1, k2, _, _⟩ := lightB_lens hl
  exact told15_any x.1 x.2.1 x.2.2.1 x.2.2.2.1 x.2.2.2.2 w h.ok h.ops h.author h.sd h.so (Nat.le_trans k2 (by decide)) (Nat.le_trans k1 (by decide))
end Go.Proofs.YtdgbjhfkmembdaaGreatDoor
namespace Go.Proofs.YtdgbjhfkmembdaaGreatDoor.stateNil
open Go.RowKit Go.Maps
set_option maxHeartbeats 4000000 in
set_option maxRecDepth 100000 in
theorem walk (x : ChM) (p : ByteArray) (w : World) (h : ChMIn w w.heap.size x) (hp : p.size ≤ maxLen) (hg : Glob w) (hsg : ShaG w) :
    Calls Tryz.prog 7 #[.agg (chV x).toArray, .string p] w fun e w' => e = .returned (.bool true) ∧ Below w.heap.size w w' := by
  have H := Lib.hid h; have HG := Lib.hid hg; have HSG := Lib.hid hsg
  clear h hg hsg
  have hidl : (idV (idC x.1)).length = 32 := by rw [idV_length]; exact idD_len32 _
  have HIDL := Lib.hid hidl
  clear hidl
  go_enter Tryz.func7, Tryz.ntmps7
  go_upto_region 1 with (first
    | (with_reducible refine at_box ?_
       refine wp_boxM (by rfl) 37 _ rfl (chV x) _ rfl rfl (by kernel_rfl) ?_
       intro W0 hb0 hy0 hs0
       have HB0 := Lib.hid hb0; have HY0 := Lib.hid hy0; have HS0 := Lib.hid hs0
       clear hb0 hy0 hs0))
  obtain ⟨b1, hb1⟩ : ∃ z, w.heap.size = z := ⟨_, rfl⟩
  have HL0 := Lib.hid (show b1 < W0.heap.size from by have := HS0.out; omega)
  rw [hb1] at HY0 ⊢
  clear HS0 hb1
  have HR0 := Lib.hid (show W0.rangeAt b1 0 (chV x) from fun j u hj => by rw [qZ]; exact (cells_at0 HY0.out j).trans hj)
  go_wp2_with (first
    | (with_reducible refine at_load ?_
       refine wp_val (by rfl) (ex_load 37 _ rfl (p := ⟨b1, 0, none⟩) rfl (qV _ b1 0 _ _ _ HR0.out Tryz.underlying37 rfl (by kernel_rfl))) ?_)
    | (refine wp_buildSlice1 (by rfl) 22 _ rfl 37 Tryz.underlying22 (.agg changeZ.toArray) 4 72 infoCh15 rfl (by decide) (by decide) (chV x) rfl rfl ?_
       obtain ⟨W1, hW1⟩ : ∃ z, W0.alloc (.cells (chV x).toArray 37) = z := ⟨_, rfl⟩
       rw [hW1]
       have HB1 : Hid (Below W0.heap.size W0 W1) := Lib.hid (by rw [← hW1]; exact (qB _ _).alloc (qR _) _)
       have HY1 : Hid (W1.heap[W0.heap.size]? = some (.cells (chV x).toArray 37 (0, 0))) := Lib.hid (by rw [← hW1]; exact heap_alloc_new _ _)
       clear hW1))
  have HBW1 : Hid (Below w.heap.size w W1) := Lib.hid (HB0.out.trans (HB1.out.mono HB0.out.size))
  have HCI : Hid (ChsIn W1 W1.heap.size (some ⟨W0.heap.size, 0, none⟩) [x]) := Lib.hid ⟨⟨by simp [rowsV, chV_length], fun _ => ⟨W0.heap.size, 0, rfl, qX HY1.out, fun j u hj => by
    rw [qZ]
    exact (cells_at0 HY1.out j).trans (by simpa [rowsV] using hj)⟩⟩, fun y hy => by rw [List.mem_singleton.1 hy]; exact (H.out.keep HBW1.out).more HBW1.out.size, (by show 1 ≤ maxLen; decide)⟩
  go_at_call 9
  refine (few15_some [x] _ _ 1 W1 HCI.out (by decide)).mono ?_
  rintro e W2 ⟨hb2, b, rfl, hf⟩
  have HB2 := Lib.hid hb2; have HF := Lib.hid hf
  clear hb2 hf HCI
  have HBW2 : Hid (Below w.heap.size w W2) := Lib.hid (HBW1.out.trans (HB2.out.mono HBW1.out.size))
  cases b
  · go_wp2_with fail
    go_ret
    exact ⟨rfl, HBW2.out⟩
  have HLX : Hid (lightC x = true) := Lib.hid (by
    have := (HF.out rfl).2
    simpa using this)
  by_cases hlt : 100 < p.size
  · have d1 : decide ((100 : Int) < (p.size : Int)) = true := dT (by omega)
    have d1' : decide (100 < p.size) = true := dT hlt
    go_wp2_with fail
    go_ret
    exact ⟨rfl, HBW2.out⟩
  have d1 : decide ((100 : Int) < (p.size : Int)) = false := dF (by omega)
  have d1' : decide (100 < p.size) = false := dF hlt
  go_upto_region 7 with (first
    | (go_at_call 12; refine (blame_nil p W2).mono ?_
       rintro e W3 ⟨hb3, rfl⟩
       have HB3 := Lib.hid hb3
       clear hb3)
    | (go_at_call 25; refine (stext_nil p W3).mono ?_
       rintro e W4 ⟨hb4, rfl⟩
       have HB4 := Lib.hid hb4
       clear hb4)
    | (with_reducible refine at_build ?_
       refine wp_val (by rfl) (ex_build 41 _ rfl (by simp only [List.map_toArray, List.map_nil]; exact idZ_built15 _)) ?_)
    | (go_at_call 13; refine (change_nil zero32 W4 rfl).mono ?_
       rintro e W5 ⟨hb5, rfl⟩
       have HB5 := Lib.hid hb5
       clear hb5)
    | (with_reducible refine at_alloc ?_
       refine wp_allocM (by rfl) 37 rfl changeZ (changeZ_run _) ?_
       intro W6 hb6 hy6 hs6
       have HB6 := Lib.hid hb6; have HY6 := Lib.hid hy6; have HS6 := Lib.hid hs6
       clear hb6 hy6 hs6)
    | (with_reducible refine at_store ?_
       refine wp_storeM (by rfl) 37 _ _ rfl W5.heap.size 0 [] changeZ [] changeZ 37 (.agg changeZ.toArray) rfl rfl rfl rfl (by simpa using HY6.out) rfl (by kernel_rfl) (chC_one _ _ _ _ _ _ _ _) ?_
       intro W7 hb7 hy7 hs7
       have HB7 := Lib.hid hb7
       clear hb7 hy7 hs7))
  have hb57 : Below W5.heap.size W5 W7 := HB6.out.trans (HB7.out.below (B := W5.heap.size) (by have := HS6.out; omega) fun k hk e => by have e2 : k = W5.heap.size := e; omega)
  have hb27 : Below W2.heap.size W2 W7 := HB3.out.trans ((HB4.out.trans ((HB5.out.trans (hb57.mono HB5.out.size)).mono HB4.out.size)).mono HB3.out.size)
  have HBW7 : Hid (Below w.heap.size w W7) := Lib.hid (HBW2.out.trans (hb27.mono HBW2.out.size))
  have HB07 : Hid (Below W0.heap.size W0 W7) := Lib.hid ((HB1.out.trans (HB2.out.mono HB1.out.size)).trans (hb27.mono (HB1.out.trans (HB2.out.mono HB1.out.size)).size))
  clear hb57 hb27 HB3 HB4 HB5 HB6 HB7 HY6 HS6
  have HX7 := Lib.hid (show ∀ u, Below W7.heap.size W7 u → ChMIn u u.heap.size x from fun u hu => by
    have h2 := HBW7.out.trans (hu.mono HBW7.out.size)
    exact (H.out.keep h2).more h2.size)
  have HRC := Lib.hid (show ∀ u, (∃ n : Wd W7.heap.size W7, u = n.val) → u.rangeAt b1 0 (chV x) from fun u ⟨n, hn⟩ j y hj => by
    rw [qZ, hn]
    exact (cells_at0 (((HB07.out.trans (n.2.mono HB07.out.size)).block b1 HL0.out).trans HY0.out) j).trans hj)
  have HT := Lib.hid (show ∀ u, Below W7.heap.size W7 u → Calls Tryz.prog 18 #[.agg (chV x).toArray] u fun e w' => Below u.heap.size u w' ∧ e = .returned (.agg (idV (idC x.1)).toArray) from fun u hu => chM_told (HX7.out u hu) HLX.out)
  have HA := Lib.hid (show ∀ u, Below W7.heap.size W7 u → Calls Tryz.prog 17 #[.pointer none, .agg (idV (idC x.1)).toArray, .agg (chV x).toArray] u fun e w' => Below u.heap.size u w' ∧ e = .returned (.int .i64 1) from fun u hu => add_nil (idC x.1) _ _ _ _ u (idD_len32 _))
  have HH := Lib.hid (show ∀ u, Below W7.heap.size W7 u → Calls Tryz.prog 26 #[.pointer none, .agg (idV (idC x.1)).toArray] u fun e w' => Below u.heap.size u w' ∧ e = .returned (.bool false) from fun u hu => has_nil (idC x.1) u (idD_len32 _))
  have HI := Lib.hid (show ∀ u, Below W7.heap.size W7 u → Calls Tryz.prog 16 #[.pointer none] u fun e w' => Below u.heap.size u w' ∧ e = .returned (.slice none 0 0) from fun u hu => (ids_nil u).mono fun e w' ⟨h1, h2⟩ => ⟨h1 ▸ qB _ _, h2⟩)
  have HTI := Lib.hid (show ∀ u, Below W7.heap.size W7 u → Calls Tryz.prog 21 #[.pointer none] u fun e w' => Below u.heap.size u w' ∧ e = .returned (.int .i64 0) from fun u hu => (time_nil u).mono fun e w' ⟨h1, h2⟩ => ⟨h1 ▸ qB _ _, h2⟩)
  have HFI := Lib.hid (show ∀ u, Below W7.heap.size W7 u → Calls Tryz.prog 11 #[.pointer none] u fun e w' => Below u.heap.size u w' ∧ e = .returned (.slice none 0 0) from fun u hu => (files_nil u).mono fun e w' ⟨h1, h2⟩ => ⟨h1 ▸ qB _ _, h2⟩)
  have HCO := Lib.hid (show ∀ u, Below W7.heap.size W7 u → Calls Tryz.prog 24 #[.pointer none] u fun e w' => Below u.heap.size u w' ∧ e = .returned (.pointer none) from fun u hu => (copy_nil15 u).mono fun e w' ⟨h1, h2⟩ => ⟨h1 ▸ qB _ _, h2⟩)
  have HAW := Lib.hid (show ∀ u, Below W7.heap.size W7 u → Calls Tryz.prog 15 #[] u fun e w' => Below u.heap.size u w' ∧ e = .returned (.bool true) from fun u hu => by
    have h2 := HBW7.out.trans (hu.mono HBW7.out.size)
    exact (awake15_any u (HG.out.next h2) (HSG.out.next h2)).mono fun e w' ⟨h1, h3⟩ => ⟨h3, h1⟩)
  clear HX7 HG HSG H
  refine wp_region_wd (base := W7.heap.size) W7 (qB _ _) (by kernel_rfl) (by kernel_rfl) ?_
  repeat (first
    | go_big_quiet_skip
    | (go_big_quiet_want
       first
         | (refine quiet_val (fun w' hw' => ex_load 37 _ rfl (p := ⟨b1, 0, none⟩) rfl (qV w' b1 0 _ _ _ (HRC.out w' hw') Tryz.underlying37 rfl (by kernel_rfl))) ?_
            go_big_quiet_on
            go_frame)
         | (go_big_quiet_op
            first
              | go_big_quiet_on
              | go_big_quiet_call (first
                  | (go_at_call 18; with_reducible exact Wd.call HT.out (qR _) _)
                  | (go_at_call 17; with_reducible exact Wd.call HA.out (qR _) _)
                  | (go_at_call 26; with_reducible exact Wd.call HH.out (qR _) _)
                  | (go_at_call 16; with_reducible exact Wd.call HI.out (qR _) _)
                  | (go_at_call 21; with_reducible exact Wd.call HTI.out (qR _) _)
                  | (go_at_call 11; with_reducible exact Wd.call HFI.out (qR _) _)
                  | (go_at_call 24; with_reducible exact Wd.call HCO.out (qR _) _)
                  | (go_at_call 15; with_reducible exact Wd.call HAW.out (qR _) _)))))
  refine wpQuiet_nil ?_
  rintro w' ⟨kk, rfl⟩
  have hk9 := kk.2
  generalize kk.val = w9 at *
  clear kk
  go_wp2_with fail
  go_ret
  exact ⟨rfl, HBW7.out.trans (hk9.mono HBW7.out.size)⟩
end Go.Proofs.YtdgbjhfkmembdaaGreatDoor.stateNil
