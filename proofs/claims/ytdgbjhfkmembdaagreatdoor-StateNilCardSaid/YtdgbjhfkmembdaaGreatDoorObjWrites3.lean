/-
  The program's Id of an object. Conditions: lists of at most 2^40; the tables hold what the program's text lays.
-/
import Derived.Test.YtdgbjhfkmembdaaGreatDoorShort0
import Derived.Test.YtdgbjhfkmembdaaGreatDoorObjWrites2
import Derived.Test.YtdgbjhfkmembdaaGreatDoorShaRefSum
namespace Go.Proofs.YtdgbjhfkmembdaaGreatDoor
open Go.RowKit Go.Maps
set_option linter.unusedVariables false
set_option linter.unusedSimpArgs false

theorem id0_built (w : World) : (Instr.build 41 #[]).run Tryz.prog w = .ok (.agg (idV (List.replicate 32 0)).toArray) w := by kernel_rfl
theorem idV_len (l : List UInt8) : (idV l).length = l.length := by simp [idV]
set_option maxHeartbeats 4000000 in
set_option maxRecDepth 100000 in
theorem objId_any (o : ObjD) (v : Value) (w : World) (h : ObjIn w w.heap.size v o) (hl1 : o.2.1.2.1.length ≤ 1099511627776) (hl2 : o.2.1.2.2.2.length ≤ 1099511627776) (hl3 : o.2.2.1.length ≤ 1099511627776) (hl4 : o.2.2.2.1.length ≤ 1099511627776) (hg : Glob w) (hsg : ShaG w) :
    Calls Tryz.prog 46 #[v] w fun e w' => e = .returned (.tuple #[.agg (idV (idD o)).toArray, .int .i64 (encR o)]) ∧ Below w.heap.size w w' := by
  obtain ⟨c0, rfl, hl0, h10⟩ := h.ten
  have HIN := Lib.hid h; have HL0 := Lib.hid hl0; have H10 := Lib.hid h10; have HG := Lib.hid hg; have HSG := Lib.hid hsg
  clear h hl0 h10 hg hsg
  go_enter Tryz.func46, Tryz.ntmps46
  go_upto_region 1 with (first
    | (with_reducible refine at_box ?_
       refine wp_boxM (by rfl) 70 _ rfl c0 (.agg (c0).toArray) rfl rfl (by rw [HL0.out]; kernel_rfl) ?_
       intro W0 hb0 hz0 hs0
       have HB0 := Lib.hid hb0; have HZ0 := Lib.hid hz0; have HS0 := Lib.hid hs0
       clear hb0 hz0 hs0)
    | (with_reducible refine at_alloc ?_
       refine wp_allocM (by rfl) 41 rfl (List.replicate 32 (.int .u8 0)) (by kernel_rfl) ?_
       intro W1 hb1 hz1 hs1
       have HB1 := Lib.hid hb1; have HZ1 := Lib.hid hz1; have HS1 := Lib.hid hs1
       clear hb1 hz1 hs1))
  obtain ⟨zb, hzb⟩ : ∃ x, w.heap.size = x := ⟨_, rfl⟩
  obtain ⟨zr, hzr⟩ : ∃ x, W0.heap.size = x := ⟨_, rfl⟩
  have HBW := Lib.hid (HB0.out.trans (HB1.out.mono HB0.out.size))
  have HZR := Lib.hid (show w.heap.size < zr ∧ zr < W1.heap.size by have := HS0.out; have := HS1.out; omega)
  have HZB : Hid (W1.heap[zb]? = some (.cells c0.toArray 70 (0, 0))) := Lib.hid (by rw [← hzb]; exact (HB1.out.block _ (by have := HS0.out; omega)).trans HZ0.out)
  have HRR : Hid (W1.heap[zr]? = some (.cells (List.replicate 32 (.int .u8 0)).toArray 41 (0, 0))) := Lib.hid (by rw [← hzr]; exact HZ1.out)
  rw [hzb, hzr]
  try simp only [Act.put, List.setIfInBounds_toArray, List.set_cons_zero, List.set_cons_succ]
  clear hzb hzr HZ0 HZ1 HB0 HB1 HS0 HS1
  by_cases hok : rightB o = true ∧ ¬ 262144 < (objE o).length
  · have HR := Lib.hid hok.1; have HLE := Lib.hid hok.2
    have HER := Lib.hid (show encR o = 0 by unfold encR; rw [if_pos hok.1, if_neg hok.2])
    have hlen : (objE o).length ≤ 1099511627776 := by have := hok.2; omega
    clear hok
    go_upto_region 4 with (first
      | (with_reducible refine at_load ?_
         refine wp_val (by rfl) (ex_load 70 _ rfl (p := ⟨zb, 0, none⟩) rfl (load_obj HZB.out HL0.out)) ?_)
      | (go_at_call 91; refine (objEncode_any o _ W1 ((HIN.out.keep HBW.out).more HBW.out.size) hl1 hl2 hl3 hl4 (HG.out.next HBW.out)).mono ?_; rintro e W2 ⟨hb2, hr⟩
         unfold EncRes at hr
         rw [if_pos HR.out, if_neg HLE.out] at hr
         obtain ⟨A2, c2, rfl, hsl, hcc⟩ := hr
         have HSL := Lib.hid hsl; have HCC := Lib.hid hcc
         clear hsl hcc
         have HB2 := Lib.hid (HBW.out.trans (hb2.mono HBW.out.size))
         have HR2 := Lib.hid ((hb2.block zr HZR.out.2).trans HRR.out)
         clear hb2))
    have HBA := Lib.hid (show Below W2.heap.size W2 (W2.alloc (.cells #[.slice A2 (objE o).length c2] 169)) from (qB _ _).alloc (qR _) _)
    go_wp2_with (first
      | (go_at_call 92; refine (shaSum_any (objE o) A2 c2 W2.heap.size 0 1 (W2.alloc (.cells #[.slice A2 (objE o).length c2] 169)) HCC.out hlen (by simp) (cells_at0 (heap_alloc_new W2 _) 0) ((HSL.out.keep HBA.out).more HBA.out.size) ((HSG.out.next HB2.out).next HBA.out)).mono ?_
         rintro e W5 ⟨rfl, hb5⟩
         have HR5 := Lib.hid ((hb5.block zr (qL (qX HR2.out) HBA.out.size)).trans ((HBA.out.block zr (qX HR2.out)).trans HR2.out))
         have HB5 := Lib.hid (HB2.out.trans ((HBA.out.trans (hb5.mono HBA.out.size)).mono HB2.out.size))
         clear hb5)
      | (with_reducible refine at_store ?_
         refine wp_storeM (by rfl) 41 _ _ rfl zr 0 [] (List.replicate 32 (.int .u8 0)) [] (idV (shaS (objE o))) 41 (.agg (idV (shaS (objE o))).toArray) rfl rfl rfl rfl (by simpa using HR5.out) (by rw [idV_len, shaS_length]; rfl) (by rw [idV_len, shaS_length]; kernel_rfl) (idV_one _) ?_
         intro V6 hb6 hy6 hs6
         have HB6 := Lib.hid hb6
         have HY6 : Hid (V6.heap[zr]? = some (.cells (idV (shaS (objE o))).toArray 41 (0, 0))) := Lib.hid (by simpa using hy6)
         clear hb6 hy6 hs6))
    have HIL := Lib.hid (show (idV (shaS (objE o))).length = 32 by rw [idV_len, shaS_length])
    refine bodyPost_ret (results_row_tmp Tryz.results46 _ _ rfl rfl (qV _ zr 0 41 (idV (shaS (objE o))) _ (fun j u hj => by rw [qZ]; exact (cells_at0 HY6.out j).trans hj) Tryz.underlying41 rfl (by first | kernel_rfl | (rw [HIL.out]; kernel_rfl)))) rfl ?_
    exact ⟨by unfold idD; rw [if_pos HER.out, HER.out]; rfl, HB5.out.trans (HB6.out.below HB5.out.size fun kk hk e => by have := HZR.out; omega)⟩
  · obtain ⟨er, her⟩ : ∃ er : Int, encR o = er := ⟨_, rfl⟩
    have hno : er ≠ 0 := by
      rw [← her]
      unfold encR
      split
      · split
        · decide
        · exact absurd ⟨‹_›, ‹_›⟩ hok
      · decide
    have HER := Lib.hid her
    have e1 : (er != 0) = true := by rw [bne_iff_ne]; exact hno
    have HNO : Hid (∀ (e : Ending) (w' : World), EncRes o e w' → e = .returned (.tuple #[.slice none 0 0, .int .i64 er])) := Lib.hid (fun e w' h => by
      unfold EncRes at h
      rw [← her]
      unfold encR
      split at h
      · rename_i hr
        rw [if_pos hr]
        split at h
        · rename_i h2; rw [if_pos h2]; exact h
        · rename_i h2; exact absurd ⟨hr, h2⟩ hok
      · rename_i hr
        rw [if_neg hr]; exact h)
    have HNE := Lib.hid hno
    clear hok her hno
    go_wp2_with (first
      | (with_reducible refine at_load ?_
         refine wp_val (by rfl) (ex_load 70 _ rfl (p := ⟨zb, 0, none⟩) rfl (load_obj HZB.out HL0.out)) ?_)
      | (go_at_call 91; refine (objEncode_any o _ W1 ((HIN.out.keep HBW.out).more HBW.out.size) hl1 hl2 hl3 hl4 (HG.out.next HBW.out)).mono ?_; rintro e W2 ⟨hb2, hr⟩
         obtain rfl := HNO.out _ _ hr
         clear hr
         have HB2 := Lib.hid (HBW.out.trans (hb2.mono HBW.out.size))
         have HR2 := Lib.hid ((hb2.block zr HZR.out.2).trans HRR.out)
         clear hb2)
      | (with_reducible refine at_build ?_
         refine wp_val (by rfl) (ex_build 41 #[] rfl (id0_built _)) ?_)
      | (with_reducible refine at_store ?_
         refine wp_storeM (by rfl) 41 _ _ rfl zr 0 [] (List.replicate 32 (.int .u8 0)) [] (idV (List.replicate 32 0)) 41 (.agg (idV (List.replicate 32 0)).toArray) rfl rfl rfl rfl (by simpa using HR2.out) (by rw [idV_len, List.length_replicate]; rfl) (by rw [idV_len, List.length_replicate]; kernel_rfl) (idV_one _) ?_
         intro V6 hb6 hy6 hs6
         have HB6 := Lib.hid hb6
         have HY6 : Hid (V6.heap[zr]? = some (.cells (idV (List.replicate 32 0)).toArray 41 (0, 0))) := Lib.hid (by simpa using hy6)
         clear hb6 hy6 hs6))
    refine bodyPost_ret (results_row_tmp Tryz.results46 _ _ rfl rfl (qV _ zr 0 41 (idV (List.replicate 32 0)) _ (fun j u hj => by rw [qZ]; exact (cells_at0 HY6.out j).trans hj) Tryz.underlying41 rfl (by first | kernel_rfl | (rw [HIL.out]; kernel_rfl)))) rfl ?_
    exact ⟨by unfold idD; rw [HER.out, if_neg HNE.out]; rfl, HB2.out.trans (HB6.out.below HB2.out.size fun kk hk e => by have := HZR.out; omega)⟩
end Go.Proofs.YtdgbjhfkmembdaaGreatDoor
