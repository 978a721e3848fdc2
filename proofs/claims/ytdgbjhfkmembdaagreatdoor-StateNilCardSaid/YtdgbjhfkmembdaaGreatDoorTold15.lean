/-
  A change's id, as the law of chapter 15 has it of the document. Conditions: the change may lie in memory; lists of at most 2^30.
-/
import Derived.Test.YtdgbjhfkmembdaaGreatDoorRefId15
import Derived.Test.YtdgbjhfkmembdaaGreatDoorStateAdd
namespace Go.Proofs.YtdgbjhfkmembdaaGreatDoor
open Go.RowKit Go.Maps
set_option linter.unusedVariables false
set_option linter.unusedSimpArgs false

set_option maxHeartbeats 4000000 in
set_option maxRecDepth 100000 in
theorem told15_any (c : ChangeD) (Ad : Option Addr) (cd : Nat) (Ao : Option Addr) (co : Nat) (w : World) (hok : ChangeOk c) (hops : ∀ x ∈ c.2.2.2, OpIn x) (hau : c.2.2.1.size ≤ maxLen) (h1 : Sl w w.heap.size Ad c.2.1.length 32 (idsV c.2.1)) (h2 : Sl w w.heap.size Ao c.2.2.2.length 70 (rowsV opV c.2.2.2)) (hl1 : c.2.1.length ≤ 1073741824) (hl2 : c.2.2.2.length ≤ 1073741824) :
    Calls Tryz.prog 18 #[.agg (chC c.1 Ad c.2.1.length cd c.2.2.1 Ao c.2.2.2.length co).toArray] w fun e w' => Below w.heap.size w w' ∧ e = .returned (.agg (idV (idC c)).toArray) := by
  have H1 := Lib.hid h1; have H2 := Lib.hid h2; have HOK := Lib.hid hok; have HOP := Lib.hid hops; have HAU := Lib.hid hau
  clear h1 h2 hok hops hau
  have hidl : (idV (idC c)).length = 32 := by rw [idV_length]; exact idD_len32 _
  have HIDL := Lib.hid hidl
  clear hidl
  go_enter Tryz.func18, Tryz.ntmps18
  go_upto_region 1 with (first
    | (with_reducible refine at_box ?_
       refine wp_boxM (by rfl) 37 _ rfl (chC c.1 Ad c.2.1.length cd c.2.2.1 Ao c.2.2.2.length co) _ rfl rfl (by kernel_rfl) ?_
       intro W0 hb0 hy0 hs0
       have HB0 := Lib.hid hb0; have HY0 := Lib.hid hy0; have HS0 := Lib.hid hs0
       clear hb0 hy0 hs0)
    | (with_reducible refine at_alloc ?_
       refine wp_allocM (by rfl) 41 rfl (idV zero32) (by kernel_rfl) ?_
       intro W1 hb1 hy1 hs1
       have HB1 := Lib.hid hb1; have HY1 := Lib.hid hy1; have HS1 := Lib.hid hs1
       clear hb1 hy1 hs1))
  obtain ⟨b1, hb1⟩ : ∃ z, w.heap.size = z := ⟨_, rfl⟩
  obtain ⟨b2, hb2⟩ : ∃ z, W0.heap.size = z := ⟨_, rfl⟩
  have HBW : Hid (Below w.heap.size w W1) := Lib.hid (HB0.out.trans (HB1.out.mono HB0.out.size))
  have HY01 := Lib.hid ((HB1.out.block w.heap.size (qX HY0.out)).trans HY0.out)
  rw [hb1] at HY01 ⊢
  rw [hb2] at HY1 ⊢
  have HL := Lib.hid (show w.heap.size ≤ b1 ∧ b1 < b2 ∧ b2 < W1.heap.size from by have := HS0.out; have := HS1.out; omega)
  clear HB0 HB1 HS0 HS1 HY0 hb1 hb2
  have HR1 := Lib.hid (show W1.rangeAt b1 0 (chC c.1 Ad c.2.1.length cd c.2.2.1 Ao c.2.2.2.length co) from fun j u hj => by rw [qZ]; exact (cells_at0 HY01.out j).trans hj)
  have HOI := Lib.hid (refId_any (1, c, noCommitD) _ W1 (change_obj (cd := cd) (co := co) HOK.out HOP.out HAU.out ((H1.out.keep HBW.out).more HBW.out.size) ((H2.out.keep HBW.out).more HBW.out.size)) (by show c.2.1.length ≤ _; omega) (by show c.2.2.2.length ≤ _; omega) (by show (0 : Nat) ≤ _; omega) (by show (0 : Nat) ≤ _; omega))
  go_wp2_with (first
    | (with_reducible refine at_load ?_
       first
       | refine wp_val (by rfl) (ex_load 37 _ rfl (p := ⟨b1, 0, none⟩) rfl (qV _ b1 0 _ _ _ HR1.out Tryz.underlying37 rfl (by kernel_rfl))) ?_
       | refine wp_val (by rfl) (ldD (idD_len32 _) HR5.out) ?_)
    | (with_reducible refine at_build ?_
       refine wp_val (by rfl) (ex_build 70 _ rfl (by simp only [List.map_toArray, List.map_cons, List.map_nil]; exact obj_built15 _ _ _ _ _ _ _ _ _)) ?_)
    | (go_at_call 54; refine HOI.out.mono ?_
       rintro e W3 ⟨rfl, hb3⟩
       have HB3 := Lib.hid hb3
       have HE3 := Lib.hid ((hb3.block b2 (qX HY1.out)).trans HY1.out)
       clear hb3)
    | (with_reducible refine at_alloc ?_
       refine wp_allocM (by rfl) 41 rfl (idV zero32) (by kernel_rfl) ?_
       intro W4 hb4 hy4 hs4
       have HB4 := Lib.hid hb4; have HZ4 := Lib.hid hy4
       have HE4 := Lib.hid ((hb4.block b2 (qX HE3.out)).trans HE3.out)
       clear hb4 hy4 hs4)
    | (with_reducible refine at_store ?_
       first
       | (refine wp_storeM (by rfl) 41 _ _ rfl W3.heap.size 0 [] (idV zero32) [] (idV (idC c)) 41 (.agg (idV (idC c)).toArray) rfl rfl rfl rfl (by simpa using HZ4.out) (by rw [HIDL.out]; rfl) (by rw [HIDL.out]; kernel_rfl) (idV_one _) ?_
          intro W5 hb5 hy5 hs5
          have HB5 := Lib.hid hb5
          have HZ5 : Hid (W5.heap[W3.heap.size]? = some (.cells (idV (idC c)).toArray 41 (0, 0))) := Lib.hid (by simpa using hy5)
          have HR5 := Lib.hid (show W5.rangeAt W3.heap.size 0 (idV (idC c)) from fun j u hj => by rw [qZ]; exact (cells_at0 HZ5.out j).trans hj)
          have HE5 := Lib.hid ((hb5.block b2 (qX HE4.out) (by have := qX HE3.out; omega)).trans HE4.out)
          clear hb5 hy5 hs5)
       | (refine wp_storeM (by rfl) 41 _ _ rfl b2 0 [] (idV zero32) [] (idV (idC c)) 41 (.agg (idV (idC c)).toArray) rfl rfl rfl rfl (by simpa using HE5.out) (by rw [HIDL.out]; rfl) (by rw [HIDL.out]; kernel_rfl) (idV_one _) ?_
          intro W6 hb6 hy6 hs6
          have HB6 := Lib.hid hb6
          have HR6 : Hid (W6.rangeAt b2 0 (idV (idC c))) := Lib.hid fun j u hj => by rw [qZ]; exact (cells_at0 hy6 j).trans (by simpa using hj)
          clear hb6 hy6 hs6)))
  refine bodyPost_ret (results_one Tryz.results18 _ _ rfl (qV _ b2 0 41 (idV (idC c)) _ HR6.out Tryz.underlying41 rfl (by rw [HIDL.out]; kernel_rfl))) rfl ?_
  have h5 : But (fun k => k = b2) W1 W6 := ((But.of_below (HB3.out.trans (HB4.out.mono HB3.out.size))).trans HB5.out fun k hk e => by have e2 : k = W3.heap.size := e; have := HB3.out.size; omega).trans HB6.out fun k _ e => e
  exact ⟨HBW.out.trans (h5.below HBW.out.size fun k hk e => by have := HL.out; omega) |> fun h => h, rfl⟩
end Go.Proofs.YtdgbjhfkmembdaaGreatDoor
