/-
  What the writer's change writes. Conditions: the change may be.
-/
import Derived.Test.YtdgbjhfkmembdaaGreatDoorShort0
import Derived.Test.YtdgbjhfkmembdaaGreatDoorShort9
import Derived.Test.YtdgbjhfkmembdaaGreatDoorObjWCommit
import Derived.Test.YtdgbjhfkmembdaaGreatDoorParts08
import Derived.Test.YtdgbjhfkmembdaaGreatDoorObjReadOp
import Derived.Test.YtdgbjhfkmembdaaGreatDoorRight08S
namespace Go.Proofs.YtdgbjhfkmembdaaGreatDoor
open Go.RowKit Go.Maps
set_option linter.unusedVariables false
set_option linter.unusedSimpArgs false

theorem opsE_next {deps : List (List UInt8)} {os : List OpD} {i : Nat} (h : i < os.length) : opsE deps (os.take (i + 1)) = opsE deps (os.take i) ++ opE deps os[i] := by
  unfold opsE
  rw [List.take_succ_eq_append_getElem h, List.map_append, List.flatten_append]
  simp
set_option maxHeartbeats 4000000 in
set_option maxRecDepth 100000 in
theorem wchange_any (g : Nat) (c : ChangeD) (cv : Value) (w : World) (hw : WrAt w g []) (hc : ChIn w g cv c) (h : changeB c = true) :
    Calls Tryz.prog 149 #[.pointer (some ⟨g, 0, none⟩), cv] w fun e w' => e = .returned (.tuple #[]) ∧ WrAt w' g (changeE c) ∧ WrGo g w w' := by
  have HWA := Lib.hid hw
  obtain ⟨ok, hop, ha, Ad, cd, Ao, co, rfl, sd, so⟩ := hc
  obtain ⟨n, ds, au, os⟩ := c
  simp only at *
  unfold changeB at h
  simp only [Bool.and_eq_true, decide_eq_true_eq] at h
  obtain ⟨⟨⟨⟨⟨⟨hn1, hn2⟩, hids⟩, hau⟩, ho1⟩, ho2⟩, hops⟩ := h
  have hau2 := authorB_size hau
  obtain ⟨hd4, hset, hzd⟩ := idsB_zero hids ok.2.1
  have HSD0 := Lib.hid sd; have HSO := Lib.hid so; have HSS := Lib.hid hset
  have HI1 := Lib.hid (show IdsOk ds from ok.2.1)
  have HOP := Lib.hid hop
  have HOE := Lib.hid (fun x hx => ops_each hops x hx)
  obtain ⟨n, rfl⟩ : ∃ m : Nat, n = (m : Int) := ⟨n.toNat, by omega⟩
  clear sd so ok hw hop hops hids hau hset hzd
  go_enter Tryz.func149, Tryz.ntmps149
  go_upto_region 1 with (first
    | (with_reducible refine at_box ?_
       refine wp_boxM (by rfl) 37 _ rfl [.int .i64 ((n : Nat) : Int), .slice Ad ds.length cd, .string au, .slice Ao os.length co] _ rfl rfl (by kernel_rfl) ?_
       intro W1 hb1 hz1 hs1
       have HB1 := Lib.hid hb1; have HZ1 := Lib.hid hz1
       clear hb1 hz1 hs1))
  have HAT1 := Lib.hid (HWA.out.keep HB1.out)
  have HNC := Lib.hid (HWA.out.newNot HB1.out (qR _))
  have HGO1 := Lib.hid (WrGo.below HWA.out.lt HB1.out)
  obtain ⟨v0, hhg, how⟩ := HAT1.out
  have HHG := Lib.hid hhg; have HOW := Lib.hid how
  have hcv : W1.cell? ⟨g, 0, none⟩ = some v0 := cells_at0 hhg 0
  have hal : Below W1.heap.size W1 (W1.alloc (.cells #[.int .u8 67] 5)) := (qB _ _).alloc (qR _) _
  have HAL := Lib.hid hal
  have HOWA := Lib.hid ((But.of_below (X := NoB) hal).own how fun _ _ q => q)
  have HNW := Lib.hid (show ∀ j u, (idV [67])[j]? = some u → (W1.alloc (.cells #[.int .u8 67] 5)).cell? ((⟨W1.heap.size, 0, none⟩ : Addr).add j) = some u from fun j u hj => by
    have e1 : (⟨W1.heap.size, 0, none⟩ : Addr).add j = ⟨W1.heap.size, j, none⟩ := by unfold Addr.add; split <;> simp_all
    rw [e1]
    exact (cells_at0 (cs := [.int .u8 67]) (heap_alloc_new W1 (.cells #[.int .u8 67] 5)) j).trans (by simpa [idV] using hj))
  have HLA := Lib.hid (show g + 1 ≤ (W1.alloc (.cells #[.int .u8 67] 5)).heap.size from qT HAT1.out.lt hal.size)
  clear hhg how hal
  go_upto_region 2 with (first
    | (at_builtin; go_loud (refine wp_appS_w (by rfl) _ _ 169 rfl (g + 1) 5 (.int .u8 0) 1 1 Tryz.underlying169 info_u8 rfl (by decide) v0 0 (idV []) rfl HOWA.out ⟨W1.heap.size, 0, none⟩ 1 1 (idV [67]) rfl rfl HNW.out (idV_one _) (by unfold maxLen; omega) (by omega) HLA.out ?_)
       intro v9 w9 ho9 hg9 hw9
       obtain ⟨A9, c9, rfl⟩ := own_form' ho9
       obtain ⟨cg, cf, hat, hgo⟩ := WrAt.put (xs := []) (ys := [67]) HHG.out HOW.out HAL.out ho9 hg9 hw9
       have HAT2 := Lib.hid hat; have HGO2 := Lib.hid hgo
       clear ho9 hg9 hw9 hat hgo))
  obtain ⟨w2, hw2⟩ : ∃ u : World, w9.setCell ⟨g, 0, none⟩ (.slice A9 (0 + 1) c9) = u := ⟨_, rfl⟩
  rw [hw2] at HAT2 HGO2 ⊢
  clear hw2 cg cf
  obtain ⟨x2, HX2⟩ : ∃ x2 : List UInt8, Hid ([] ++ [67] = x2) := ⟨_, Lib.hid rfl⟩
  have hxl2 : x2.length ≤ 1 := by rw [← HX2.out]; decide
  rw [HX2.out] at HAT2
  obtain ⟨zc, hzc⟩ : ∃ zc, w.heap.size = zc := ⟨_, rfl⟩
  have HZL := Lib.hid (show zc < W1.heap.size from by rw [← hzc]; exact (qX HZ1.out))
  rw [hzc] at HZ1 HNC ⊢
  clear hzc HOWA HNW HLA HHG HOW HAL hcv
  have ce2 : w2.cell? ⟨zc, 0, none⟩ = some (.int .i64 ((n : Nat) : Int)) := (HGO2.out.cell HZL.out HNC.out).trans (cells_at0 HZ1.out 0)
  go_upto_region 3 with (first
    | (go_at_call 192; refine (wnum_any g n x2 w2 HAT2.out (by omega) (by omega)).mono ?_; rintro e w3 ⟨rfl, hat, hgo⟩
       have HAT3 := Lib.hid hat; have HGO3 := Lib.hid (HGO2.out.trans hgo)
       clear hat hgo))
  obtain ⟨x3, HX3⟩ : ∃ x3, Hid (x2 ++ numB n = x3) := ⟨_, Lib.hid rfl⟩
  have hxl3 : x3.length ≤ x2.length + (10) := by rw [← HX3.out, List.length_append]; have := numB_l10 (n := n) (by omega); omega
  rw [HX3.out] at HAT3
  have ce3 : w3.cell? ⟨zc, 1, none⟩ = some (.slice Ad ds.length cd) := (HGO3.out.cell HZL.out HNC.out).trans (cells_at0 HZ1.out 1)
  go_upto_region 4 with (first
    | (go_at_call 193; refine (wids_any g ds x3 Ad cd w3 HAT3.out HI1.out (by omega) (HSD0.out.keep (HB1.out.mono (Nat.le_of_lt HWA.out.lt) |>.trans (HGO3.out.belowG HAT1.out)))).mono ?_; rintro e w4 ⟨rfl, hat, hgo⟩
       have HAT4 := Lib.hid hat; have HGO4 := Lib.hid (HGO3.out.trans hgo)
       clear hat hgo))
  obtain ⟨x4, HX4⟩ : ∃ x4, Hid (x3 ++ idsE ds = x4) := ⟨_, Lib.hid rfl⟩
  have hxl4 : x4.length ≤ x3.length + (10 + 32 * ds.length) := by rw [← HX4.out, List.length_append]; have := idsE_len HI1.out (by omega); omega
  rw [HX4.out] at HAT4
  have ce4 : w4.cell? ⟨zc, 2, none⟩ = some (.string au) := (HGO4.out.cell HZL.out HNC.out).trans (cells_at0 HZ1.out 2)
  go_upto_region 5 with (first
    | (go_at_call 194; refine (wtext_any g au x4 w4 HAT4.out (by omega) (by omega)).mono ?_; rintro e w5 ⟨rfl, hat, hgo⟩
       have HAT5 := Lib.hid hat; have HGO5 := Lib.hid (HGO4.out.trans hgo)
       clear hat hgo))
  obtain ⟨x5, HX5⟩ : ∃ x5, Hid (x4 ++ textB (L au) = x5) := ⟨_, Lib.hid rfl⟩
  have hxl5 : x5.length ≤ x4.length + (10 + au.size) := by rw [← HX5.out, List.length_append]; have := textB_len (s := au) (by omega); omega
  rw [HX5.out] at HAT5
  have ce5 : w5.cell? ⟨zc, 3, none⟩ = some (.slice Ao os.length co) := (HGO5.out.cell HZL.out HNC.out).trans (cells_at0 HZ1.out 3)
  go_upto_region 6 with (first
    | (go_at_call 192; refine (wnum_any g os.length x5 w5 HAT5.out (by omega) (by omega)).mono ?_; rintro e w6 ⟨rfl, hat, hgo⟩
       have HAT6 := Lib.hid hat; have HGO6 := Lib.hid (HGO5.out.trans hgo)
       clear hat hgo))
  obtain ⟨x6, HX6⟩ : ∃ x6, Hid (x5 ++ numB os.length = x6) := ⟨_, Lib.hid rfl⟩
  have hxl6 : x6.length ≤ x5.length + (10) := by rw [← HX6.out, List.length_append]; have := numB_l10 (n := os.length) (by omega); omega
  rw [HX6.out] at HAT6
  go_upto_region 7 with (first
    | (go_at_call 195; refine (parts_any w6).mono ?_
       rintro e w7 ⟨hb7, v, rfl, ⟨mg, mn, rfl, hmv⟩, mg', hv', hge⟩
       obtain rfl : mg = mg' := by injection hv' with hv'; injection hv'
       have HAT7 := Lib.hid (HAT6.out.keep hb7); have HM7 := Lib.hid hmv
       have HNM := Lib.hid (HAT6.out.newNot hb7 hge)
       have HGO7 := Lib.hid (HGO6.out.trans (WrGo.below HAT6.out.lt hb7))
       have HMG := Lib.hid (show mg < w7.heap.size from by obtain ⟨D, hD, _⟩ := hmv; exact hD.lt)
       clear hb7 hmv hv' hge))
  have HCD := HGO7.out.apart HZL.out HNC.out
  have HZB7 := Lib.hid (HCD.1.trans HZ1.out); have HNC7 := Lib.hid HCD.2
  have HZC7 := Lib.hid (qL HZL.out HGO7.out.1.size)
  have ce7 : w7.cell? ⟨zc, 3, none⟩ = some (.slice Ao os.length co) := cells_at0 HZB7.out 3
  obtain ⟨xh, hxh⟩ : ∃ xh, x6 = xh := ⟨_, rfl⟩
  rw [hxh] at HAT7
  have hxb : xh.length ≤ 8388608 := by rw [← hxh]; omega
  have HXH : Hid (changeE ((n : Int), ds, au, os) = xh ++ opsE ds os) := Lib.hid (by
    rw [← hxh, ← HX6.out, ← HX5.out, ← HX4.out, ← HX3.out, ← HX2.out]
    simp only [changeE, numE_nat, List.nil_append, List.append_assoc, List.cons_append])
  clear hxh HCD HX6 HX5 HX4 HX3 HX2 hxl2 hxl3 hxl4 hxl5 hxl6 HAT2 HAT3 HAT4 HAT5 HAT6 ce2 ce3 ce4 ce5
  go_wp2_with fail
  go_loopw [38] (fun t wr => ∃ i ys, i ≤ os.length ∧ t = .int .i64 ((i : Nat) : Int) ∧ Hid (ys = xh ++ opsE ds (os.take i)) ∧ Hid (WrAt wr g ys) ∧ Hid (WrGo g w7 wr) ∧ ys.length ≤ 8388608 + 30000 * i) (fun t _ => os.length - (intOf t).toNat)
  case atStart => exact ⟨0, xh, Nat.zero_le _, rfl, Lib.hid (by simp [opsE]), HAT7, Lib.hid (WrGo.refl _ _), by omega⟩
  case round =>
    obtain ⟨i, ys, hi, rfl, HY, HAT, HGO, hyb⟩ := hrel
    by_cases hlt : i < os.length
    · have i0 : (0 : Int) ≤ (i : Int) := by omega
      have i1 : (i : Int) < (os.length : Int) := by omega
      obtain ⟨b, off, rfl, hbl, hcl⟩ := ((HSO.out.keep (HB1.out.mono (Nat.le_of_lt HWA.out.lt))).keep ((HGO7.out.trans HGO.out).belowG HAT1.out)).2 (by omega)
      have HROW := Lib.hid (Sl.row (fun x hx => opV_length (HOP.out x hx)) hcl hlt)
      have HX := Lib.hid (HOP.out _ (List.getElem_mem hlt))
      have HOB := Lib.hid (HOE.out _ (List.getElem_mem hlt))
      have HTK := Lib.hid (opsE_next (deps := ds) hlt)
      clear hcl
      generalize os[i] = x at *
      have HOC := Lib.hid (op_cells HX.out)
      obtain ⟨mk, hob⟩ := HOB.out
      obtain ⟨p, hpk⟩ : ∃ p, partsOf x.1 = some p := by
        rcases hq : partsOf x.1 with _ | p
        · unfold opB at hob; rw [hq] at hob; cases hob
        · exact ⟨p, rfl⟩
      obtain ⟨n1, n2, n3, n4, n5, n6, n7, n8, n9, n10⟩ := op_names hpk hob
      have HN1 := Lib.hid n1; have HN2 := Lib.hid n3; have HN4 := Lib.hid n7
      have HN3 : Hid (x.2.2.2.1.size ≤ 4096) := Lib.hid (by rcases Bool.eq_false_or_eq_true p.2.2.1 with q | q; exact n5 q; rw [n6 q]; decide)
      have HN5 : Hid (x.2.2.2.2.2.size ≤ 4096) := Lib.hid (by rcases Bool.eq_false_or_eq_true p.2.2.2.2 with q | q; exact n9 q; rw [n10 q]; decide)
      have HPK := Lib.hid hpk
      have HPV : Hid ((partsM x.1).getD (partV noPart) = partV p) := Lib.hid (by unfold partsM; rw [hpk]; rfl)
      clear n1 n2 n3 n4 n5 n6 n7 n8 n9 n10 hpk hob HOB
      go_upto_region 10 with (first
        | (with_reducible refine at_load ?_
           refine wp_loadN rfl 112 _ rfl b _ rfl (opV x) _ HROW.out Tryz.underlying112 rfl (by rw [opV_length HX.out]; exact sizeOp70) ?_)
        | (with_reducible refine at_alloc ?_
           refine wp_allocM (by rfl) 112 rfl (opV zeroOp) (zeroOp_run _) ?_
           intro Wa hba hya hsa
           have HBa := Lib.hid hba; have HYa := Lib.hid hya; have HSa := Lib.hid hsa
           clear hba hya hsa)
        | (with_reducible refine at_store ?_
           refine wp_storeM (by rfl) 112 _ _ rfl wr.heap.size 0 [] (opV zeroOp) [] (opV x) 112 _ rfl rfl rfl rfl (by simpa using HYa.out) (by rw [opV_length HX.out]; exact opV_length (zeroOp_in 0)) (by rw [opV_length HX.out]; exact sizeOp70) (opV_one _) ?_
           intro Wb hbb hyb hsb
           have HBb := Lib.hid (HBa.out.trans (hbb.below (by have := HSa.out; omega) (fun k hk e => by omega)))
           have HYb : Hid (Wb.heap[wr.heap.size]? = some (.cells (opV x).toArray 112 (0, 0))) := Lib.hid (by simpa using hyb)
           have HSb := Lib.hid (show wr.heap.size < Wb.heap.size by have := HSa.out; omega)
           clear hbb hyb hsb))
      have HMb := Lib.hid ((HGO.out.1.map HM7.out HNM.out).below HBb.out)
      have ckb : Wb.cell? ⟨wr.heap.size, 0, none⟩ = some (.int .u8 (x.1.toNat : Int)) := (cells_at0 HYb.out 0).trans rfl
      go_upto_region 11 with (first
        | (refine wp_mapGet1 rfl _ _ 317 rfl 320 u8Enc Tryz.underlying317 (partV noPart) (partZero _) rfl HMb.out x.1 trivial rfl ?_
           rw [HPV.out])
        | (with_reducible refine at_alloc ?_
           refine wp_allocM (by rfl) 320 rfl (partC noPart) (partZ_run _) ?_
           intro Wc hbc hyc hsc
           have HBc := Lib.hid hbc; have HYc := Lib.hid hyc; have HSc := Lib.hid hsc
           clear hbc hyc hsc)
        | (with_reducible refine at_store ?_
           refine wp_storeM (by rfl) 320 _ _ rfl Wb.heap.size 0 [] (partC noPart) [] (partC p) 320 (partV p) rfl rfl rfl rfl (by simpa using HYc.out) rfl (by kernel_rfl) (by intro u hu; simp only [partC, List.mem_cons, List.not_mem_nil, or_false] at hu; rcases hu with rfl | rfl | rfl | rfl | rfl <;> rfl) ?_
           intro Wd hbd hyd hsd
           have HBd := Lib.hid (HBc.out.trans (hbd.below (by have := HSc.out; omega) (fun k hk e => by omega)))
           have HYd : Hid (Wd.heap[Wb.heap.size]? = some (.cells (partC p).toArray 320 (0, 0))) := Lib.hid (by simpa using hyd)
           have HSd := Lib.hid (show Wb.heap.size < Wd.heap.size by have := HSc.out; omega)
           clear hbd hyd hsd))
      clear ckb HMb HPV
      obtain ⟨zx, hzx⟩ : ∃ zx, wr.heap.size = zx := ⟨_, rfl⟩
      obtain ⟨zp, hzp⟩ : ∃ zp, Wb.heap.size = zp := ⟨_, rfl⟩
      rw [hzx] at HYb HSb ⊢
      rw [hzp] at HYd HSd ⊢
      have hsz1 := HBb.out.size; have hsz2 := HBd.out.size
      have HBR := Lib.hid (HBb.out.trans (HBd.out.mono hsz1))
      have HATb := Lib.hid (HAT.out.keep HBb.out)
      have HATd := Lib.hid (HATb.out.keep HBd.out)
      have HGOd := Lib.hid ((HGO.out.trans (WrGo.below HAT.out.lt HBb.out)).trans (WrGo.below HATb.out.lt HBd.out))
      have HNXb := Lib.hid (HAT.out.newNot HBb.out (k := zx) (by omega))
      have HNX := Lib.hid (HATb.out.keepNot HBd.out HNXb.out)
      have HNP := Lib.hid (HATb.out.newNot HBd.out (k := zp) (by omega))
      have HCD := HGOd.out.apart HZC7.out HNC7.out
      have HZC := Lib.hid (HCD.1.trans HZB7.out); have HNC' := Lib.hid HCD.2
      have HLC := Lib.hid (qL HZC7.out HGOd.out.1.size)
      have HYX := Lib.hid ((HBd.out.block zx HSb.out).trans HYb.out)
      have HLX := Lib.hid (qL HSb.out hsz2)
      have HKC := Lib.hid (show Wd.drew.cell? ⟨zx, 0, none⟩ = some (.int .u8 (x.1.toNat : Int)) from (cells_at0 HYX.out 0).trans rfl)
      clear hsz1 hsz2 hzx hzp HBb HBd HATb HNXb HCD HYb HBa HYa HSa HBc HYc HSc HAT
      obtain ⟨v0, hhg, how⟩ := id HATd.out
      have HHG := Lib.hid hhg; have HOW := Lib.hid how
      have HCV := Lib.hid (show Wd.drew.cell? ⟨g, 0, none⟩ = some v0 from cells_at0 hhg 0)
      have hal : Below Wd.heap.size Wd (Wd.drew.alloc (.cells #[.int .u8 (x.1.toNat : Int)] 5)) := ((qD _ _)).alloc (qR _) _
      have HAL := Lib.hid hal
      have HOWA := Lib.hid ((But.of_below (X := NoB) hal).own how fun _ _ q => q)
      have HNW := Lib.hid (show ∀ j u, (idV [x.1])[j]? = some u → (Wd.drew.alloc (.cells #[.int .u8 (x.1.toNat : Int)] 5)).cell? ((⟨Wd.heap.size, 0, none⟩ : Addr).add j) = some u from fun j u hj => by
        have e1 : (⟨Wd.heap.size, 0, none⟩ : Addr).add j = ⟨Wd.heap.size, j, none⟩ := by unfold Addr.add; split <;> simp_all
        rw [e1]
        exact (cells_at0 (cs := [(.int .u8 (x.1.toNat : Int))]) (heap_alloc_new Wd.drew (.cells #[(.int .u8 (x.1.toNat : Int))] 5)) j).trans (by simpa [idV] using hj))
      have HLA := Lib.hid (show g + 1 ≤ (Wd.drew.alloc (.cells #[.int .u8 (x.1.toNat : Int)] 5)).heap.size from qT HATd.out.lt hal.size)
      have HCA := Lib.hid (show (Wd.drew.alloc (.cells #[.int .u8 (x.1.toNat : Int)] 5)).cell? ⟨g, 0, none⟩ = some v0 from (hal.cell (p := ⟨g, 0, none⟩) HATd.out.lt).trans (cells_at0 hhg 0))
      clear hhg how hal
      refine rN 9 (fun u => u.cell? ⟨g, 0, none⟩ = some v0) (HCV.out) fun hF0 => ?_
      refine tw 0 (.pointer (some ⟨g, 0, none⟩)) ?_
      go_frame
      refine tw 1 (.pointer (some ⟨g, 0, none⟩)) ?_
      go_frame
      refine tw 2 (.pointer (some ⟨g, 0, none⟩)) ?_
      go_frame
      refine tw 3 (.pointer (some ⟨g, 0, none⟩)) ?_
      go_frame
      refine tl 4 (v0) rfl hF0 (fun w' hw' => l1 Tryz.underlying169 hw') ?_
      go_frame
      refine tw 5 (.pointer (some ⟨zx, 0, none⟩)) ?_
      go_frame
      refine ta 6 ?_
      refine wpOp_val _ rfl (by kernel_rfl) (ex_load1 5 _ rfl (p := ⟨zx, 0, none⟩) rfl Tryz.underlying5 rfl (v := (.int .u8 (x.1.toNat : Int))) (show Wd.drew.cell? ⟨zx, 0, none⟩ = some (.int .u8 (x.1.toNat : Int)) from HKC.out)) ?_
      refine ⟨fun _ h => h, ?_⟩
      go_frame
      refine ta 7 ?_
      refine wpOp_val _ rfl (by kernel_rfl) (ex_build1c 169 _ rfl 5 Tryz.underlying169 (.int .u8 0) 1 info_u8 rfl (.int .u8 (x.1.toNat : Int)) rfl rfl) ?_
      refine ⟨fun _ _ => HCA.out, ?_⟩
      go_frame
      refine ta 8 ?_
      refine wpOp_wp _ rfl (by kernel_rfl) ?_
      refine op_appW _ _ 169 rfl (g + 1) 5 (.int .u8 0) 1 1 Tryz.underlying169 info_u8 rfl (by decide) v0 ys.length (idV ys) rfl HOWA.out ⟨Wd.heap.size, 0, none⟩ 1 1 (idV [x.1]) rfl rfl HNW.out (idV_one _) (by unfold maxLen; omega) (by omega) HLA.out ?_
      intro v9 w9 ho9 hg9 hw9
      obtain ⟨A9, c9, rfl⟩ := own_form' ho9
      obtain ⟨cg, cf, hat, hgo⟩ := WrAt.put (xs := ys) (ys := [x.1]) HHG.out HOW.out HAL.out ho9 hg9 hw9
      have HATk := Lib.hid hat; have HGOk := Lib.hid hgo
      clear ho9 hg9 hw9 hat hgo
      refine ⟨fun _ _ => cg, ?_⟩
      go_frame
      refine tw 9 (.pointer (some ⟨g, 0, none⟩)) ?_
      go_frame
      refine tw 10 (.pointer (some ⟨g, 0, none⟩)) ?_
      go_frame
      refine ta 11 ?_
      refine wpOp_skip _ rfl (by kernel_rfl) (ex_store1 169 _ _ rfl g 0 (.slice A9 (ys.length + 1) c9) rfl rfl rfl rfl (by kernel_rfl) cg cf) ?_
      refine ⟨fun h => absurd h (by decide), ?_⟩
      go_frame
      refine wpAnyN_done (by kernel_rfl) ?_ _
      obtain ⟨wp0, hwp0⟩ : ∃ u : World, w9.setCell ⟨g, 0, none⟩ (.slice A9 (ys.length + 1) c9) = u := ⟨_, rfl⟩
      rw [hwp0] at HATk HGOk ⊢
      obtain ⟨y0, HY0⟩ : ∃ y0 : List UInt8, Hid (ys ++ [x.1] = y0) := ⟨_, Lib.hid rfl⟩
      have hyl0 : y0.length ≤ ys.length + 1 := by rw [← HY0.out]; simp
      rw [HY0.out] at HATk
      have HPT0 := HATk; have HGW0 := HGOk
      clear hwp0 cg cf HATk HGOk HOWA HNW HLA HCA HHG HOW HAL HCV HKC
      have cp : wp0.cell? ⟨zp, 0, none⟩ = some (.bool p.1) := (HGW0.out.cell HSd.out HNP.out).trans (cells_at0 HYd.out 0)
      go_upto_if 58 with fail
      go_cut [58] from 59 to 64 (fun _ wx => Hid (WrAt wx g (y0 ++ ifE p.1 (refE ds x.2.1))) ∧ Hid (WrGo g Wd wx))
      case first =>
        cases hpb : p.1
        · go_wp2_with fail
          go_meet
          case rel => exact ⟨Lib.hid (by unfold ifE; rw [if_neg (by rw [hpb]; decide), List.append_nil]; exact HPT0.out), HGW0⟩
        · have hnm := HN1.out hpb
          obtain ⟨rn, hrn⟩ : ∃ rn : Nat, x.2.1.2 = (rn : Int) := ⟨x.2.1.2.toNat, by omega⟩
          have hr63 := (wf_bound HX.out.1.1.2).2
          have HRF : Hid (x.2.1 = (x.2.1.1, (rn : Int))) := Lib.hid (Prod.ext rfl hrn)
          have HRO : Hid (RefOk (x.2.1.1, (rn : Int))) := Lib.hid (by rw [← HRF.out]; exact HX.out.1.1)
          have HIN := Lib.hid hnm.1
          have hrb : rn < 9223372036854775808 := by omega
          have ccd : wp0.cell? ⟨zc, 1, none⟩ = some (.slice Ad ds.length cd) := (HGW0.out.cell HLC.out HNC'.out).trans (cells_at0 HZC.out 1)
          have HRA := Lib.hid (show wp0.rangeAt zx 1 (refV (x.2.1.1, (rn : Int))) by rw [← HRF.out]; exact fun j u hj => (HGW0.out.cell HLX.out HNX.out).trans ((cells_at0 HYX.out (1 + j)).trans (HOC.out.2.1 j u hj)))
          have HSD := Lib.hid ((HSD0.out.keep (HB1.out.mono (Nat.le_of_lt HWA.out.lt))).keep ((HGO7.out.trans (HGOd.out.trans HGW0.out)).belowG HAT1.out))
          clear hnm hrn hr63
          go_wp2_with (first
            | (with_reducible refine at_load ?_
               refine wp_val (by rfl) (ex_load 110 _ rfl (p := ⟨zx, 1, none⟩) rfl (qV _ _ _ _ _ _ HRA.out Tryz.underlying110 rfl (by rw [refV_length HRO.out]; exact sizeRef33))) ?_)
            | (go_at_call 196; refine (wref_any g ds x.2.1.1 rn y0 Ad cd wp0 HPT0.out HI1.out HSS.out (by omega) HRO.out HIN.out hrb (by omega) HSD.out).mono ?_; rintro e w9 ⟨rfl, hat, hgo⟩
               have HAT9 := Lib.hid hat; have HGO9 := Lib.hid hgo
               clear hat hgo))
          go_meet
          case rel => exact ⟨Lib.hid (by unfold ifE; rw [if_pos hpb]; rw [HRF.out]; exact HAT9.out), Lib.hid (HGW0.out.trans HGO9.out)⟩
      case rest =>
        obtain ⟨HPT1, HGW1⟩ := hcut
        obtain ⟨wp1, hwq⟩ : ∃ u : World, u = wc := ⟨_, rfl⟩
        subst hwq
        obtain ⟨y1, HY1⟩ : ∃ y1, Hid (y0 ++ ifE p.1 (refE ds x.2.1) = y1) := ⟨_, Lib.hid rfl⟩
        have hyl1 : y1.length ≤ y0.length + 4200 := by
          rw [← HY1.out, List.length_append]
          unfold ifE
          split
          · have h1 := refE_len (deps := ds) (r := x.2.1) (by omega) HX.out.1.1
            skip
            omega
          · simp
        rw [HY1.out] at HPT1
        clear HPT0 HGW0 cp
        have cp : wp1.cell? ⟨zp, 1, none⟩ = some (.bool p.2.1) := (HGW1.out.cell HSd.out HNP.out).trans (cells_at0 HYd.out 1)
        go_upto_if 66 with fail
        go_cut [66] from 67 to 72 (fun _ wx => Hid (WrAt wx g (y1 ++ ifE p.2.1 (refE ds x.2.2.1))) ∧ Hid (WrGo g Wd wx))
        case first =>
          cases hpb : p.2.1
          · go_wp2_with fail
            go_meet
            case rel => exact ⟨Lib.hid (by unfold ifE; rw [if_neg (by rw [hpb]; decide), List.append_nil]; exact HPT1.out), HGW1⟩
          · have hnm := HN2.out hpb
            obtain ⟨rn, hrn⟩ : ∃ rn : Nat, x.2.2.1.2 = (rn : Int) := ⟨x.2.2.1.2.toNat, by omega⟩
            have hr63 := (wf_bound HX.out.1.2.1.2).2
            have HRF : Hid (x.2.2.1 = (x.2.2.1.1, (rn : Int))) := Lib.hid (Prod.ext rfl hrn)
            have HRO : Hid (RefOk (x.2.2.1.1, (rn : Int))) := Lib.hid (by rw [← HRF.out]; exact HX.out.1.2.1)
            have HIN := Lib.hid hnm.1
            have hrb : rn < 9223372036854775808 := by omega
            have ccd : wp1.cell? ⟨zc, 1, none⟩ = some (.slice Ad ds.length cd) := (HGW1.out.cell HLC.out HNC'.out).trans (cells_at0 HZC.out 1)
            have HRA := Lib.hid (show wp1.rangeAt zx 34 (refV (x.2.2.1.1, (rn : Int))) by rw [← HRF.out]; exact fun j u hj => (HGW1.out.cell HLX.out HNX.out).trans ((cells_at0 HYX.out (34 + j)).trans (HOC.out.2.2.1 j u hj)))
            have HSD := Lib.hid ((HSD0.out.keep (HB1.out.mono (Nat.le_of_lt HWA.out.lt))).keep ((HGO7.out.trans (HGOd.out.trans HGW1.out)).belowG HAT1.out))
            clear hnm hrn hr63
            go_wp2_with (first
              | (with_reducible refine at_load ?_
                 refine wp_val (by rfl) (ex_load 110 _ rfl (p := ⟨zx, 34, none⟩) rfl (qV _ _ _ _ _ _ HRA.out Tryz.underlying110 rfl (by rw [refV_length HRO.out]; exact sizeRef33))) ?_)
              | (go_at_call 196; refine (wref_any g ds x.2.2.1.1 rn y1 Ad cd wp1 HPT1.out HI1.out HSS.out (by omega) HRO.out HIN.out hrb (by omega) HSD.out).mono ?_; rintro e w9 ⟨rfl, hat, hgo⟩
                 have HAT9 := Lib.hid hat; have HGO9 := Lib.hid hgo
                 clear hat hgo))
            go_meet
            case rel => exact ⟨Lib.hid (by unfold ifE; rw [if_pos hpb]; rw [HRF.out]; exact HAT9.out), Lib.hid (HGW1.out.trans HGO9.out)⟩
        case rest =>
          obtain ⟨HPT2, HGW2⟩ := hcut
          obtain ⟨wp2, hwq⟩ : ∃ u : World, u = wc := ⟨_, rfl⟩
          subst hwq
          obtain ⟨y2, HY2⟩ : ∃ y2, Hid (y1 ++ ifE p.2.1 (refE ds x.2.2.1) = y2) := ⟨_, Lib.hid rfl⟩
          have hyl2 : y2.length ≤ y1.length + 4200 := by
            rw [← HY2.out, List.length_append]
            unfold ifE
            split
            · have h1 := refE_len (deps := ds) (r := x.2.2.1) (by omega) HX.out.1.2.1
              skip
              omega
            · simp
          rw [HY2.out] at HPT2
          clear HPT1 HGW1 cp
          have cp : wp2.cell? ⟨zp, 2, none⟩ = some (.bool p.2.2.1) := (HGW2.out.cell HSd.out HNP.out).trans (cells_at0 HYd.out 2)
          go_upto_if 74 with fail
          go_cut [74] from 75 to 78 (fun _ wx => Hid (WrAt wx g (y2 ++ ifE p.2.2.1 (textB (L x.2.2.2.1)))) ∧ Hid (WrGo g Wd wx))
          case first =>
            cases hpb : p.2.2.1
            · go_wp2_with fail
              go_meet
              case rel => exact ⟨Lib.hid (by unfold ifE; rw [if_neg (by rw [hpb]; decide), List.append_nil]; exact HPT2.out), HGW2⟩
            · have htx : x.2.2.2.1.size ≤ 4096 := HN3.out
              have ccd : wp2.cell? ⟨zx, 67, none⟩ = some (.string x.2.2.2.1) := (HGW2.out.cell HLX.out HNX.out).trans ((cells_at0 HYX.out 67).trans HOC.out.2.2.2.1)
              go_wp2_with (first
                | (go_at_call 194; refine (wtext_any g x.2.2.2.1 y2 wp2 HPT2.out (by omega) (by omega)).mono ?_; rintro e w9 ⟨rfl, hat, hgo⟩
                   have HAT9 := Lib.hid hat; have HGO9 := Lib.hid hgo
                   clear hat hgo))
              go_meet
              case rel => exact ⟨Lib.hid (by unfold ifE; rw [if_pos hpb]; exact HAT9.out), Lib.hid (HGW2.out.trans HGO9.out)⟩
          case rest =>
            obtain ⟨HPT3, HGW3⟩ := hcut
            obtain ⟨wp3, hwq⟩ : ∃ u : World, u = wc := ⟨_, rfl⟩
            subst hwq
            obtain ⟨y3, HY3⟩ : ∃ y3, Hid (y2 ++ ifE p.2.2.1 (textB (L x.2.2.2.1)) = y3) := ⟨_, Lib.hid rfl⟩
            have hyl3 : y3.length ≤ y2.length + 4200 := by
              rw [← HY3.out, List.length_append]
              unfold ifE
              split
              · have h1 := textB_len (s := x.2.2.2.1) (qT HN3.out (by decide))
                have h2 := HN3.out
                omega
              · simp
            rw [HY3.out] at HPT3
            clear HPT2 HGW2 cp
            have cp : wp3.cell? ⟨zp, 3, none⟩ = some (.bool p.2.2.2.1) := (HGW3.out.cell HSd.out HNP.out).trans (cells_at0 HYd.out 3)
            go_upto_if 80 with fail
            go_cut [80] from 81 to 84 (fun _ wx => Hid (WrAt wx g (y3 ++ ifE p.2.2.2.1 (numE x.2.2.2.2.1))) ∧ Hid (WrGo g Wd wx))
            case first =>
              cases hpb : p.2.2.2.1
              · go_wp2_with fail
                go_meet
                case rel => exact ⟨Lib.hid (by unfold ifE; rw [if_neg (by rw [hpb]; decide), List.append_nil]; exact HPT3.out), HGW3⟩
              · have hnm := HN4.out hpb
                obtain ⟨rn, hrn⟩ : ∃ rn : Nat, x.2.2.2.2.1 = (rn : Int) := ⟨x.2.2.2.2.1.toNat, by omega⟩
                have hr63 := (wf_bound HX.out.1.2.2).2
                have hrb : rn < 9223372036854775808 := by omega
                have HRF := Lib.hid hrn
                have ccd : wp3.cell? ⟨zx, 68, none⟩ = some (.int .i64 (rn : Int)) := by rw [← hrn]; exact (HGW3.out.cell HLX.out HNX.out).trans ((cells_at0 HYX.out 68).trans HOC.out.2.2.2.2.1)
                clear hnm hrn hr63
                go_wp2_with (first
                  | (go_at_call 192; refine (wnum_any g rn y3 wp3 HPT3.out hrb (by omega)).mono ?_; rintro e w9 ⟨rfl, hat, hgo⟩
                     have HAT9 := Lib.hid hat; have HGO9 := Lib.hid hgo
                     clear hat hgo))
                go_meet
                case rel => exact ⟨Lib.hid (by unfold ifE; rw [if_pos hpb]; rw [HRF.out, numE_nat]; exact HAT9.out), Lib.hid (HGW3.out.trans HGO9.out)⟩
            case rest =>
              obtain ⟨HPT4, HGW4⟩ := hcut
              obtain ⟨wp4, hwq⟩ : ∃ u : World, u = wc := ⟨_, rfl⟩
              subst hwq
              obtain ⟨y4, HY4⟩ : ∃ y4, Hid (y3 ++ ifE p.2.2.2.1 (numE x.2.2.2.2.1) = y4) := ⟨_, Lib.hid rfl⟩
              have hyl4 : y4.length ≤ y3.length + 4200 := by
                rw [← HY4.out, List.length_append]
                unfold ifE
                split
                · have h1 := numE_len (wf_bound HX.out.1.2.2).2
                  skip
                  omega
                · simp
              rw [HY4.out] at HPT4
              clear HPT3 HGW3 cp
              have cp : wp4.cell? ⟨zp, 4, none⟩ = some (.bool p.2.2.2.2) := (HGW4.out.cell HSd.out HNP.out).trans (cells_at0 HYd.out 4)
              go_upto_if 86 with fail
              obtain ⟨y5, HY5⟩ : ∃ y5, Hid (y4 ++ ifE p.2.2.2.2 (textB (L x.2.2.2.2.2)) = y5) := ⟨_, Lib.hid rfl⟩
              have hyl5 : y5.length ≤ y4.length + 4200 := by
                rw [← HY5.out, List.length_append]
                unfold ifE
                split
                · have h1 := textB_len (s := x.2.2.2.2.2) (qT HN5.out (by decide))
                  have h2 := HN5.out
                  omega
                · simp
              cases hpb : p.2.2.2.2
              · have HPT5 : Hid (WrAt wp4 g y5) := Lib.hid (by rw [← HY5.out]; unfold ifE; rw [if_neg (by rw [hpb]; decide), List.append_nil]; exact HPT4.out)
                have HGW5 := HGW4
                go_wp2_with fail
                have HEN : Hid (y5 = xh ++ opsE ds (os.take (i + 1))) := Lib.hid (by
                  rw [HTK.out, ← List.append_assoc, ← HY.out, ← HY5.out, ← HY4.out, ← HY3.out, ← HY2.out, ← HY1.out, ← HY0.out]
                  unfold opE
                  rw [HPK.out]
                  simp only [Option.getD_some, List.append_assoc, List.cons_append, List.nil_append])
                go_roundw
                case rel => exact ⟨i + 1, y5, by omega, by go_num, HEN, HPT5, Lib.hid (HGOd.out.trans HGW5.out), by omega⟩
                case measure => (simp [intOf]) <;> omega

              · have htx : x.2.2.2.2.2.size ≤ 4096 := HN5.out
                have ccd : wp4.cell? ⟨zx, 69, none⟩ = some (.string x.2.2.2.2.2) := (HGW4.out.cell HLX.out HNX.out).trans ((cells_at0 HYX.out 69).trans HOC.out.2.2.2.2.2)
                go_wp2_with (first
                  | (go_at_call 194; refine (wtext_any g x.2.2.2.2.2 y4 wp4 HPT4.out (by omega) (by omega)).mono ?_; rintro e w9 ⟨rfl, hat, hgo⟩
                     have HAT9 := Lib.hid hat; have HGO9 := Lib.hid hgo
                     clear hat hgo))
                have HPT5 : Hid (WrAt w9 g y5) := Lib.hid (by rw [← HY5.out]; unfold ifE; rw [if_pos hpb]; exact HAT9.out)
                have HGW5 := Lib.hid (HGW4.out.trans HGO9.out)
                have HEN : Hid (y5 = xh ++ opsE ds (os.take (i + 1))) := Lib.hid (by
                  rw [HTK.out, ← List.append_assoc, ← HY.out, ← HY5.out, ← HY4.out, ← HY3.out, ← HY2.out, ← HY1.out, ← HY0.out]
                  unfold opE
                  rw [HPK.out]
                  simp only [Option.getD_some, List.append_assoc, List.cons_append, List.nil_append])
                go_roundw
                case rel => exact ⟨i + 1, y5, by omega, by go_num, HEN, HPT5, Lib.hid (HGOd.out.trans HGW5.out), by omega⟩
                case measure => (simp [intOf]) <;> omega
    · have i1 : ¬ (i : Int) < (os.length : Int) := by omega
      have hie : i = os.length := by omega
      have HF : Hid (ys = changeE ((n : Int), ds, au, os)) := Lib.hid (by rw [HY.out, hie, List.take_length, HXH.out])
      clear hie
      go_wp2_with fail
      go_end0
      exact ⟨rfl, by rw [← HF.out]; exact HAT.out, HGO1.out.trans (HGO7.out.trans HGO.out)⟩
end Go.Proofs.YtdgbjhfkmembdaaGreatDoor
