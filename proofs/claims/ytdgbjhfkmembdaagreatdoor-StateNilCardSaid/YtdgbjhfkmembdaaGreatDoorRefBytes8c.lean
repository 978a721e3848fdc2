/-
  The document's Bytes of a change, of an object. Conditions: the object may be.
-/
import Derived.Test.YtdgbjhfkmembdaaGreatDoorShort0
import Derived.Test.YtdgbjhfkmembdaaGreatDoorShort8
import Derived.Test.YtdgbjhfkmembdaaGreatDoorRefBytes8b
import Derived.Test.YtdgbjhfkmembdaaGreatDoorRefRight8b
import Derived.Test.YtdgbjhfkmembdaaGreatDoorObjWChange
import Derived.Test.YtdgbjhfkmembdaaGreatDoorObjReadOp
namespace Go.Proofs.YtdgbjhfkmembdaaGreatDoor
open Go.RowKit Go.Maps
set_option linter.unusedVariables false
set_option linter.unusedSimpArgs false

theorem BySt.drop {w wx : World} {t : Nat × List Value × TypeId} {L : List (Nat × List Value × TypeId)} {ys : List UInt8} {A : Option Addr} {n c : Nat} (h : BySt w (t :: L) ys A n c wx) : BySt w L ys A n c wx :=
  ⟨h.bel, h.own, h.len, fun t ht => h.boxes t (List.mem_cons_of_mem _ ht)⟩
set_option maxHeartbeats 4000000 in
set_option maxRecDepth 100000 in
theorem refBytesCh_any (k : UInt8) (n0 : Int) (ds : List (List UInt8)) (au : ByteArray) (os : List OpD) (ps cs : List (List UInt8)) (a2 ms : ByteArray) (st : Int) (v : Value) (w : World) (h : ObjIn w w.heap.size v (k, (n0, ds, au, os), (ps, cs, a2, ms, st))) (hk : k = 1) (hr : changeB (n0, ds, au, os) = true) :
    Calls Tryz.prog 162 #[v] w (NumGives (changeE (n0, ds, au, os)) w) := by
  obtain ⟨ok, hop, ha, hh2, hm, Ad, cd, Ao, co, Ap, cp, Ac, cc, rfl, sd, so, sp, sc⟩ := h
  dsimp only at *
  unfold changeB at hr
  simp only [Bool.and_eq_true, decide_eq_true_eq] at hr
  obtain ⟨⟨⟨⟨⟨⟨hn1, hn2⟩, hids⟩, hau⟩, ho1⟩, ho2⟩, hops⟩ := hr
  have hau2 := authorB_size hau
  obtain ⟨hd4, hset, hzd⟩ := idsB_zero hids ok.1.2.1
  have HSD := Lib.hid sd; have HSO := Lib.hid so; have HSS := Lib.hid hset; have HZD := Lib.hid hzd
  have HID := Lib.hid (show IdsOk ds from ok.1.2.1)
  have HOP := Lib.hid hop
  have HOE := Lib.hid (fun x hx => ops_each hops x hx)
  obtain ⟨n, rfl⟩ : ∃ m : Nat, n0 = (m : Int) := ⟨n0.toNat, by omega⟩
  have hnb : n < 9223372036854775808 := by omega
  have hld : ds.length ≤ 1099511627776 := by omega
  have ha3 : au.size ≤ 1099511627776 := by omega
  have b1 := numB_len10 (n := n) (by omega)
  have b2 := idsE_len8 HID.out hld
  have b3 := textB_len8 ha3
  have b4 := numB_len10 (n := os.length) (by omega)
  have ek : ((k.toNat : Int) == 2) = false := by rw [hk]; rfl
  clear ok hop ha hh2 hm sd so sp sc hids hau hset hzd hops hk
  go_enter Tryz.func162, Tryz.ntmps162
  go_upto_region 1 with (first
    | (with_reducible refine at_box ?_
       refine wp_boxM (by rfl) 70 _ rfl [.int .u8 (k.toNat : Int), .int .i64 (n : Int), .slice Ad ds.length cd, .string au, .slice Ao os.length co, .slice Ap ps.length cp, .slice Ac cs.length cc, .string a2, .string ms, .int .i64 st] _ rfl rfl (by kernel_rfl) ?_
       intro W0 hb0 hz0 hs0
       have HB0 := Lib.hid hb0; have HZ0 := Lib.hid hz0
       clear hb0 hz0 hs0))
  obtain ⟨z, hz⟩ : ∃ z, w.heap.size = z := ⟨_, rfl⟩
  rw [hz] at HZ0 ⊢
  have c0 : W0.cell? ⟨z, 0, none⟩ = some (.int .u8 (k.toNat : Int)) := cells_at0 HZ0.out 0
  try simp only [Act.put, List.setIfInBounds_toArray, List.set_cons_zero, List.set_cons_succ]
  go_upto_region 8 with fail
  go_upto_region 9 with (first
    | (with_reducible refine at_load ?_
       refine wp_val (by rfl) (ex_load 37 _ rfl (p := ⟨z, 1, none⟩) rfl (qV _ _ _ _ [.int .i64 (n : Int), .slice Ad ds.length cd, .string au, .slice Ao os.length co] _ (fun j u hj => (cells_at0 HZ0.out (1 + j)).trans (mid1 hj)) Tryz.underlying37 rfl (by kernel_rfl))) ?_)
    | (with_reducible refine at_alloc ?_
       refine wp_allocM (by rfl) 37 rfl [.int .i64 0, .slice none 0 0, .string noneS, .slice none 0 0] (zeroCh_run8 _) ?_
       intro Wa hba hya hsa
       have HBa := Lib.hid hba; have HYa := Lib.hid hya
       clear hba hya hsa)
    | (with_reducible refine at_store ?_
       refine wp_storeM (by rfl) 37 _ _ rfl W0.heap.size 0 [] [.int .i64 0, .slice none 0 0, .string noneS, .slice none 0 0] [] [.int .i64 (n : Int), .slice Ad ds.length cd, .string au, .slice Ao os.length co] 37 _ rfl rfl rfl rfl (by simpa using HYa.out) rfl (by kernel_rfl) (by intro u hu; simp only [List.mem_cons, List.not_mem_nil, or_false] at hu; rcases hu with rfl | rfl | rfl | rfl <;> rfl) ?_
       intro W2 hbb hyb hsb
       have HB1 := Lib.hid (HBa.out.trans (hbb.below HBa.out.size (fun k hk e => by have e' : k = W0.heap.size := e; omega)))
       have HZ2 : Hid (W2.heap[W0.heap.size]? = some (.cells ([.int .i64 (n : Int), .slice Ad ds.length cd, .string au, .slice Ao os.length co] : List Value).toArray 37 (0, 0))) := Lib.hid (by simpa using hyb)
       clear hbb hyb hsb))
  have HB2 := Lib.hid (HB0.out.trans (HB1.out.mono HB0.out.size))
  obtain ⟨z2, hz2⟩ : ∃ z, W0.heap.size = z := ⟨_, rfl⟩
  rw [hz2] at HZ2 ⊢
  try simp only [Act.put, List.setIfInBounds_toArray, List.set_cons_zero, List.set_cons_succ]
  clear hz2 HBa HYa HB1
  go_upto_region 10 with (first
    | (with_reducible refine at_load ?_
       obtain ⟨wb, hwb⟩ : ∃ u, (World.alloc W2 (.cells #[.int .u8 67] 5)) = u := ⟨_, rfl⟩
       have HS : Hid (BySt w [(z2, [.int .i64 (n : Int), .slice Ad ds.length cd, .string au, .slice Ao os.length co], 37)] [67] (some ⟨W2.heap.size, 0, none⟩) 1 1 wb) := Lib.hid (by
         have hba : Below W2.heap.size W2 wb := by rw [← hwb]; exact (qB _ _).alloc (qR _) _
         exact ⟨HB2.out.trans (hba.mono HB2.out.size), by rw [← hwb]; exact own_lit8 w W2 _ HB2.out.size, rfl, fun t ht => by
           obtain rfl := List.mem_singleton.1 ht
           exact ⟨(hba.block z2 (qX HZ2.out)).trans HZ2.out, (show (37 : TypeId) ≠ 5 by decide)⟩⟩)
       rw [hwb]
       clear hwb
       refine wp_val (by rfl) (ex_load1 3 _ rfl (p := ⟨z2, 0, none⟩) rfl Tryz.underlying3 rfl (HS.out.cellAt (z := z2) (cs := [.int .i64 (n : Int), .slice Ad ds.length cd, .string au, .slice Ao os.length co]) (T := 37) (by simp) 0)) ?_)
    | (go_at_call 204; refine (refNumber_any n hnb _).mono ?_; rintro e u1 ⟨hb1, Ax1, cx1, rfl, ho1⟩
       have HS := Lib.hid (HS.out.call hb1)
       have HBU := Lib.hid (hb1)
       have HX1 := Lib.hid (Sl.of_own ho1)
       clear hb1 ho1)
    | (at_builtin; refine wp_appL8 (by rfl) _ _ 169 rfl w.heap.size 5 (.int .u8 0) 1 1 Tryz.underlying169 info_u8 rfl (by decide) (.slice (some ⟨W2.heap.size, 0, none⟩) (1) 1) (1) (idV ([67])) rfl HS.out.own Ax1 (numB n).length cx1 u1.heap.size (idV (numB n)) rfl HX1.out (idV_one _) (by have hl1 := b1; have hl2 := b2; have hl3 := b3; have hl4 := b4; unfold maxLen; omega) (by have hl1 := b1; have hl2 := b2; have hl3 := b3; have hl4 := b4; omega) HS.out.bel.size ?_
       intro v1 w1x ho9 hg9
       obtain ⟨A1, c1, rfl⟩ := own_form' ho9
       have HS := Lib.hid (HS.out.app ho9 rfl hg9)
       clear ho9 hg9))
  go_upto_region 11 with (first
    | (with_reducible refine at_load ?_
       refine wp_val (by rfl) (ex_load1 34 _ rfl (p := ⟨z2, 1, none⟩) rfl Tryz.underlying34 rfl (HS.out.cellAt (z := z2) (cs := [.int .i64 (n : Int), .slice Ad ds.length cd, .string au, .slice Ao os.length co]) (T := 37) (by simp) 1)) ?_)
    | (go_at_call 202; refine (refList_any ds Ad cd _ hld HID.out ((HSD.out.keep HS.out.bel).more HS.out.bel.size)).mono ?_; rintro e u2 ⟨hb2, Ax2, cx2, rfl, ho2⟩
       have HS := Lib.hid (HS.out.call hb2)
       have HBU := Lib.hid (hb2)
       have HX2 := Lib.hid (Sl.of_own ho2)
       clear hb2 ho2)
    | (at_builtin; refine wp_appL8 (by rfl) _ _ 169 rfl w.heap.size 5 (.int .u8 0) 1 1 Tryz.underlying169 info_u8 rfl (by decide) (.slice A1 (1 + (numB n).length) c1) (1 + (numB n).length) (idV ([67] ++ numB n)) rfl HS.out.own Ax2 (idsE ds).length cx2 u2.heap.size (idV (idsE ds)) rfl HX2.out (idV_one _) (by have hl1 := b1; have hl2 := b2; have hl3 := b3; have hl4 := b4; unfold maxLen; omega) (by have hl1 := b1; have hl2 := b2; have hl3 := b3; have hl4 := b4; omega) HS.out.bel.size ?_
       intro v2 w2x ho9 hg9
       obtain ⟨A2, c2, rfl⟩ := own_form' ho9
       have HS := Lib.hid (HS.out.app ho9 rfl hg9)
       clear ho9 hg9))
  go_upto_region 12 with (first
    | (with_reducible refine at_load ?_
       refine wp_val (by rfl) (ex_load1 9 _ rfl (p := ⟨z2, 2, none⟩) rfl Tryz.underlying9 rfl (HS.out.cellAt (z := z2) (cs := [.int .i64 (n : Int), .slice Ad ds.length cd, .string au, .slice Ao os.length co]) (T := 37) (by simp) 2)) ?_)
    | (go_at_call 203; refine (refText_any au ha3 _).mono ?_; rintro e u3 ⟨hb3, Ax3, cx3, rfl, ho3⟩
       have HS := Lib.hid (HS.out.call hb3)
       have HBU := Lib.hid (hb3)
       have HX3 := Lib.hid (Sl.of_own ho3)
       clear hb3 ho3)
    | (at_builtin; refine wp_appL8 (by rfl) _ _ 169 rfl w.heap.size 5 (.int .u8 0) 1 1 Tryz.underlying169 info_u8 rfl (by decide) (.slice A2 (1 + (numB n).length + (idsE ds).length) c2) (1 + (numB n).length + (idsE ds).length) (idV ([67] ++ numB n ++ idsE ds)) rfl HS.out.own Ax3 (textB (L au)).length cx3 u3.heap.size (idV (textB (L au))) rfl HX3.out (idV_one _) (by have hl1 := b1; have hl2 := b2; have hl3 := b3; have hl4 := b4; unfold maxLen; omega) (by have hl1 := b1; have hl2 := b2; have hl3 := b3; have hl4 := b4; omega) HS.out.bel.size ?_
       intro v3 w3x ho9 hg9
       obtain ⟨A3, c3, rfl⟩ := own_form' ho9
       have HS := Lib.hid (HS.out.app ho9 rfl hg9)
       clear ho9 hg9))
  go_upto_region 13 with (first
    | (with_reducible refine at_load ?_
       refine wp_val (by rfl) (ex_load1 35 _ rfl (p := ⟨z2, 3, none⟩) rfl Tryz.underlying35 rfl (HS.out.cellAt (z := z2) (cs := [.int .i64 (n : Int), .slice Ad ds.length cd, .string au, .slice Ao os.length co]) (T := 37) (by simp) 3)) ?_)
    | (go_at_call 204; refine (refNumber_any os.length (by omega) _).mono ?_; rintro e u4 ⟨hb4, Ax4, cx4, rfl, ho4⟩
       have HS := Lib.hid (HS.out.call hb4)
       have HBU := Lib.hid (hb4)
       have HX4 := Lib.hid (Sl.of_own ho4)
       clear hb4 ho4)
    | (at_builtin; refine wp_appL8 (by rfl) _ _ 169 rfl w.heap.size 5 (.int .u8 0) 1 1 Tryz.underlying169 info_u8 rfl (by decide) (.slice A3 (1 + (numB n).length + (idsE ds).length + (textB (L au)).length) c3) (1 + (numB n).length + (idsE ds).length + (textB (L au)).length) (idV ([67] ++ numB n ++ idsE ds ++ textB (L au))) rfl HS.out.own Ax4 (numB os.length).length cx4 u4.heap.size (idV (numB os.length)) rfl HX4.out (idV_one _) (by have hl1 := b1; have hl2 := b2; have hl3 := b3; have hl4 := b4; unfold maxLen; omega) (by have hl1 := b1; have hl2 := b2; have hl3 := b3; have hl4 := b4; omega) HS.out.bel.size ?_
       intro v4 w4x ho9 hg9
       obtain ⟨A4, c4, rfl⟩ := own_form' ho9
       have HS := Lib.hid (HS.out.app ho9 rfl hg9)
       clear ho9 hg9))
  have hxb : ([67] ++ numB n ++ idsE ds ++ textB (L au) ++ numB os.length).length ≤ 200000 := by rw [HS.out.len]; omega
  have hmb : 1 + (numB n).length + (idsE ds).length + (textB (L au)).length + (numB os.length).length ≤ 200000 := by omega
  obtain ⟨xh, hxh⟩ : ∃ xh, [67] ++ numB n ++ idsE ds ++ textB (L au) ++ numB os.length = xh := ⟨_, rfl⟩
  have HXH : Hid (changeE ((n : Int), ds, au, os) = xh ++ opsE ds os) := Lib.hid (by
    rw [← hxh]
    simp only [changeE, numE_nat, List.append_assoc, List.cons_append, List.nil_append])
  rw [hxh] at HS hxb
  obtain ⟨LL, hLL⟩ : ∃ LL : List (Nat × List Value × TypeId), [(z2, [.int .i64 (n : Int), .slice Ad ds.length cd, .string au, .slice Ao os.length co], 37)] = LL := ⟨_, rfl⟩
  have HLL := Lib.hid hLL
  rw [hLL] at HS
  have HC1 : Hid (∀ {u : World} {A' : Option Addr} {m' c' : Nat} {y' : List UInt8}, BySt w LL y' A' m' c' u → u.cell? ⟨z2, 1, none⟩ = some (.slice Ad ds.length cd)) := Lib.hid (fun h => h.cellAt (z := z2) (cs := [.int .i64 (n : Int), .slice Ad ds.length cd, .string au, .slice Ao os.length co]) (T := 37) (by rw [← hLL]; simp) 1)
  have HC3 : Hid (∀ {u : World} {A' : Option Addr} {m' c' : Nat} {y' : List UInt8}, BySt w LL y' A' m' c' u → u.cell? ⟨z2, 3, none⟩ = some (.slice Ao os.length co)) := Lib.hid (fun h => h.cellAt (z := z2) (cs := [.int .i64 (n : Int), .slice Ad ds.length cd, .string au, .slice Ao os.length co]) (T := 37) (by rw [← hLL]; simp) 3)
  clear hxh hLL HLL
  go_wp2_with fail
  go_loopw [6, 7] (fun t6 t7 wr => ∃ (i : Nat) (ys : List UInt8) (A : Option Addr) (m c : Nat), i ≤ os.length ∧ t7 = .int .i64 ((i : Nat) : Int) ∧ t6 = .slice A m c ∧ Hid (ys = xh ++ opsE ds (os.take i)) ∧ Hid (BySt w LL ys A m c wr) ∧ m ≤ 200000 + 5000 * i) (fun _ t7 _ => os.length - (intOf t7).toNat)
  case atStart => exact ⟨0, xh, _, _, _, Nat.zero_le _, rfl, rfl, Lib.hid (by simp [opsE]), HS, by omega⟩
  case round =>
    obtain ⟨i, ys, A, m, c, hi, rfl, rfl, HY, HB, hmi⟩ := hrel
    have ce3 : wr.cell? ⟨z2, 3, none⟩ = some (.slice Ao os.length co) := HC3.out HB.out
    by_cases hlt : i < os.length
    · have i0 : (0 : Int) ≤ (i : Int) := by omega
      have i1 : (i : Int) < (os.length : Int) := by omega
      obtain ⟨b, off, rfl, hbl, hcl⟩ := (HSO.out.keep HB.out.bel).2 (by omega)
      have HROW := Lib.hid (Sl.row (fun x hx => opV_length (HOP.out x hx)) hcl hlt)
      have HX := Lib.hid (HOP.out _ (List.getElem_mem hlt))
      have HOB := Lib.hid (HOE.out _ (List.getElem_mem hlt))
      have HTK := Lib.hid (opsE_next (deps := ds) hlt)
      clear hcl
      generalize os[i] = x at *
      have HOC := Lib.hid (op_cells HX.out)
      have HOL := Lib.hid (opV_length HX.out)
      have HO1 := Lib.hid (opV_one x)
      obtain ⟨oc, hoc⟩ : ∃ oc, opV x = oc := ⟨_, rfl⟩
      rw [hoc] at HROW HOC HOL HO1
      clear hoc
      obtain ⟨mk, hob⟩ := HOB.out
      obtain ⟨p, hpk⟩ : ∃ p, partsOf x.1 = some p := by
        rcases hq : partsOf x.1 with _ | p
        · unfold opB at hob; rw [hq] at hob; cases hob
        · exact ⟨p, rfl⟩
      obtain ⟨n1, n2, n3, n4, n5, n6, n7, n8, n9, n10⟩ := op_names hpk hob
      obtain ⟨xk, ⟨dc, di⟩, ⟨ac, ai⟩, xt, xn, xq⟩ := x
      dsimp only at *
      clear n2 n4 n6 n8 n10 hob HOB
      go_upto_region 17 with (first
        | (with_reducible refine at_load ?_
           refine wp_loadN rfl 112 _ rfl b _ rfl oc _ HROW.out Tryz.underlying112 rfl (by rw [HOL.out]; exact sizeOp70) ?_)
        | (with_reducible refine at_alloc ?_
           refine wp_allocM (by rfl) 112 rfl (opV zeroOp) (zeroOp_run _) ?_
           intro Wa hba hya hsa
           have HBa := Lib.hid hba; have HYa := Lib.hid hya; have HSa := Lib.hid hsa
           clear hba hya hsa)
        | (with_reducible refine at_store ?_
           refine wp_storeM (by rfl) 112 _ _ rfl wr.heap.size 0 [] (opV zeroOp) [] oc 112 _ rfl rfl rfl rfl (by simpa using HYa.out) (by rw [HOL.out]; exact opV_length (zeroOp_in 0)) (by rw [HOL.out]; exact sizeOp70) HO1.out ?_
           intro Wb hbb hyb hsb
           have HBb := Lib.hid (HBa.out.trans (hbb.below (by have := HSa.out; omega) (fun k hk e => by omega)))
           have HYb : Hid (Wb.heap[wr.heap.size]? = some (.cells oc.toArray 112 (0, 0))) := Lib.hid (by simpa using hyb)
           clear hbb hyb hsb))
      have HS := Lib.hid ((HB.out.call HBb.out).add HYb.out (show (112 : TypeId) ≠ 5 by decide))
      obtain ⟨zx, hzx⟩ : ∃ zx, wr.heap.size = zx := ⟨_, rfl⟩
      rw [hzx] at HS ⊢
      try simp only [Act.put, List.setIfInBounds_toArray, List.set_cons_zero, List.set_cons_succ]
      have ckb : Wb.cell? ⟨zx, 0, none⟩ = some (.int .u8 (xk.toNat : Int)) := (HS.out.cellAt (z := zx) (cs := oc) (T := 112) (by simp) 0).trans HOC.out.1
      clear hzx HBa HYa HSa HBb HYb
      go_upto_region 18 with (first
        | (at_builtin
           obtain ⟨wb, hwb⟩ : ∃ u, (World.alloc Wb (.cells #[.int .u8 (xk.toNat : Int)] 5)) = u := ⟨_, rfl⟩
           have HSk : Hid (BySt w ((zx, oc, 112) :: LL) ys A m c wb ∧ Sl wb wb.heap.size (some ⟨Wb.heap.size, 0, none⟩) 1 1 (idV [xk])) := Lib.hid (by
             have hba : Below Wb.heap.size Wb wb := by rw [← hwb]; exact (qB _ _).alloc (qR _) _
             exact ⟨HS.out.call hba, by rw [← hwb]; exact Sl.of_own (own_lit8 w Wb _ HS.out.bel.size)⟩)
           rw [hwb]
           refine wp_appL8 (by rfl) _ _ 169 rfl w.heap.size 5 (.int .u8 0) 1 1 Tryz.underlying169 info_u8 rfl (by decide) (.slice A m c) m (idV ys) rfl HSk.out.1.own (some ⟨Wb.heap.size, 0, none⟩) 1 1 wb.heap.size (idV [xk]) rfl HSk.out.2 (idV_one _) (by unfold maxLen; omega) (by omega) HSk.out.1.bel.size ?_
           intro v0 w0x ho9 hg9
           obtain ⟨A0, c0_, rfl⟩ := own_form' ho9
           have HS := Lib.hid (HSk.out.1.app ho9 rfl hg9)
           clear ho9 hg9 hwb HSk))
      clear ckb
      rcases partsOf_cases hpk with ⟨rfl, rfl⟩ | ⟨rfl, rfl⟩ | ⟨rfl, rfl⟩ | ⟨rfl, rfl⟩ | ⟨rfl, rfl⟩
      · -- kind 1
        obtain ⟨dn, rfl⟩ : ∃ dn : Nat, di = (dn : Int) := ⟨di.toNat, by have := (n1 rfl).2; omega⟩
        have HRD := Lib.hid (show RefOk (dc, (dn : Int)) from HX.out.1.1)
        have HIND := Lib.hid (n1 rfl).1
        have hdn : dn < 9223372036854775808 := by have hb := (wf_bound HX.out.1.1.2).2; dsimp only at hb; omega
        have hrl1 := refE_len8 (deps := ds) (rc := dc) (ri := dn) (by omega) hdn
        obtain ⟨an, rfl⟩ : ∃ an : Nat, ai = (an : Int) := ⟨ai.toNat, by have := (n3 rfl).2; omega⟩
        have HRA := Lib.hid (show RefOk (ac, (an : Int)) from HX.out.1.2.1)
        have HINA := Lib.hid (n3 rfl).1
        have han : an < 9223372036854775808 := by have hb := (wf_bound HX.out.1.2.1.2).2; dsimp only at hb; omega
        have hrl2 := refE_len8 (deps := ds) (rc := ac) (ri := an) (by omega) han
        have hxt : xt.size ≤ 4096 := n5 rfl
        have htl1 := textB_len8 (s := xt) (by omega)
        clear n1 n3 n5 n7 n9
        have HEN : Hid (ys ++ [1] ++ refE ds (dc, (dn : Int)) ++ refE ds (ac, (an : Int)) ++ textB (L xt) = xh ++ opsE ds (os.take (i + 1))) := Lib.hid (by
          rw [HTK.out, ← List.append_assoc, ← HY.out]
          have e1 : opE ds (1, (dc, (dn : Int)), (ac, (an : Int)), xt, xn, xq) = [1] ++ refE ds (dc, (dn : Int)) ++ refE ds (ac, (an : Int)) ++ textB (L xt) := by
            simp [opE, ifE, partsOf]
          rw [e1]
          simp only [List.append_assoc])
        have ckk : w0x.cell? ⟨zx, 0, none⟩ = some (.int .u8 1) := (HS.out.cellAt (z := zx) (cs := oc) (T := 112) (by simp) 0).trans HOC.out.1
        go_upto_region 19 with fail
        go_upto_region 20 with (first
          | (with_reducible refine at_load ?_
             refine wp_val (by rfl) (ex_load1 34 _ rfl (p := ⟨z2, 1, none⟩) rfl Tryz.underlying34 rfl (HC1.out HS.out.drop)) ?_)
          | (with_reducible refine at_load ?_
             refine wp_val (by rfl) (ldR (b := zx) (f := 1) (r := (dc, (dn : Int))) HRD.out (fun j u hj => (HS.out.cellAt (z := zx) (cs := oc) (T := 112) (by simp) (1 + j)).trans (HOC.out.2.1 j u hj))) ?_)
          | (go_at_call 205; refine (refRef_any ds dc dn Ad cd _ hld HID.out HSS.out HZD.out HRD.out HIND.out hdn ((HSD.out.keep HS.out.bel).more HS.out.bel.size)).mono ?_; rintro e u1 ⟨hb1, Ax1, cx1, rfl, ho1⟩
             have HS := Lib.hid (HS.out.call hb1)
             have HBU := Lib.hid (hb1)
             have HX1 := Lib.hid (Sl.of_own ho1)
             clear hb1 ho1)
          | (at_builtin; refine wp_appL8 (by rfl) _ _ 169 rfl w.heap.size 5 (.int .u8 0) 1 1 Tryz.underlying169 info_u8 rfl (by decide) (.slice A0 (m + 1) c0_) (m + 1) (idV (ys ++ [1])) rfl HS.out.own Ax1 (refE ds (dc, (dn : Int))).length cx1 u1.heap.size (idV (refE ds (dc, (dn : Int)))) rfl HX1.out (idV_one _) (by have hx := hrl1; unfold maxLen; omega) (by have hx := hrl1; omega) HS.out.bel.size ?_
             intro v1 w1x ho9 hg9
             obtain ⟨A1, c1, rfl⟩ := own_form' ho9
             have HS := Lib.hid (HS.out.app ho9 rfl hg9)
             clear ho9 hg9))
        have ckk2 : w1x.cell? ⟨zx, 0, none⟩ = some (.int .u8 1) := (HS.out.cellAt (z := zx) (cs := oc) (T := 112) (by simp) 0).trans HOC.out.1
        go_upto_region 22 with fail
        go_upto_region 23 with (first
          | (with_reducible refine at_load ?_
             refine wp_val (by rfl) (ex_load1 34 _ rfl (p := ⟨z2, 1, none⟩) rfl Tryz.underlying34 rfl (HC1.out HS.out.drop)) ?_)
          | (with_reducible refine at_load ?_
             refine wp_val (by rfl) (ldR (b := zx) (f := 34) (r := (ac, (an : Int))) HRA.out (fun j u hj => (HS.out.cellAt (z := zx) (cs := oc) (T := 112) (by simp) (34 + j)).trans (HOC.out.2.2.1 j u hj))) ?_)
          | (go_at_call 205; refine (refRef_any ds ac an Ad cd _ hld HID.out HSS.out HZD.out HRA.out HINA.out han ((HSD.out.keep HS.out.bel).more HS.out.bel.size)).mono ?_; rintro e u2 ⟨hb2, Ax2, cx2, rfl, ho2⟩
             have HS := Lib.hid (HS.out.call hb2)
             have HBU := Lib.hid (hb2)
             have HX2 := Lib.hid (Sl.of_own ho2)
             clear hb2 ho2)
          | (at_builtin; refine wp_appL8 (by rfl) _ _ 169 rfl w.heap.size 5 (.int .u8 0) 1 1 Tryz.underlying169 info_u8 rfl (by decide) (.slice A1 (m + 1 + (refE ds (dc, (dn : Int))).length) c1) (m + 1 + (refE ds (dc, (dn : Int))).length) (idV (ys ++ [1] ++ refE ds (dc, (dn : Int)))) rfl HS.out.own Ax2 (refE ds (ac, (an : Int))).length cx2 u2.heap.size (idV (refE ds (ac, (an : Int)))) rfl HX2.out (idV_one _) (by have hx := hrl2; have hy0 := hrl1; unfold maxLen; omega) (by have hx := hrl2; have hy0 := hrl1; omega) HS.out.bel.size ?_
             intro v2 w2x ho9 hg9
             obtain ⟨A2, c2, rfl⟩ := own_form' ho9
             have HS := Lib.hid (HS.out.app ho9 rfl hg9)
             clear ho9 hg9))
        go_upto_region 23 with fail
        go_upto_region 15 with (first
          | (with_reducible refine at_load ?_
             refine wp_val (by rfl) (ex_load1 9 _ rfl (p := ⟨zx, 67, none⟩) rfl Tryz.underlying9 rfl ((HS.out.cellAt (z := zx) (cs := oc) (T := 112) (by simp) 67).trans HOC.out.2.2.2.1)) ?_)
          | (go_at_call 203; refine (refText_any xt (by omega) _).mono ?_; rintro e u3 ⟨hb3, Ax3, cx3, rfl, ho3⟩
             have HS := Lib.hid (HS.out.call hb3)
             have HBU := Lib.hid (hb3)
             have HX3 := Lib.hid (Sl.of_own ho3)
             clear hb3 ho3)
          | (at_builtin; refine wp_appL8 (by rfl) _ _ 169 rfl w.heap.size 5 (.int .u8 0) 1 1 Tryz.underlying169 info_u8 rfl (by decide) (.slice A2 (m + 1 + (refE ds (dc, (dn : Int))).length + (refE ds (ac, (an : Int))).length) c2) (m + 1 + (refE ds (dc, (dn : Int))).length + (refE ds (ac, (an : Int))).length) (idV (ys ++ [1] ++ refE ds (dc, (dn : Int)) ++ refE ds (ac, (an : Int)))) rfl HS.out.own Ax3 (textB (L xt)).length cx3 u3.heap.size (idV (textB (L xt))) rfl HX3.out (idV_one _) (by have hx := htl1; have hy0 := hrl1; have hy1 := hrl2; unfold maxLen; omega) (by have hx := htl1; have hy0 := hrl1; have hy1 := hrl2; omega) HS.out.bel.size ?_
             intro v3 w3x ho9 hg9
             obtain ⟨A3, c3, rfl⟩ := own_form' ho9
             have HS := Lib.hid (HS.out.app ho9 rfl hg9)
             clear ho9 hg9))
        go_wp2_with fail
        go_roundw
        case rel => exact ⟨i + 1, _, A3, _, c3, by omega, by go_num, rfl, HEN, Lib.hid HS.out.drop, by omega⟩
        case measure => (simp [intOf]) <;> omega
      · -- kind 2
        obtain ⟨dn, rfl⟩ : ∃ dn : Nat, di = (dn : Int) := ⟨di.toNat, by have := (n1 rfl).2; omega⟩
        have HRD := Lib.hid (show RefOk (dc, (dn : Int)) from HX.out.1.1)
        have HIND := Lib.hid (n1 rfl).1
        have hdn : dn < 9223372036854775808 := by have hb := (wf_bound HX.out.1.1.2).2; dsimp only at hb; omega
        have hrl1 := refE_len8 (deps := ds) (rc := dc) (ri := dn) (by omega) hdn
        obtain ⟨an, rfl⟩ : ∃ an : Nat, ai = (an : Int) := ⟨ai.toNat, by have := (n3 rfl).2; omega⟩
        have HRA := Lib.hid (show RefOk (ac, (an : Int)) from HX.out.1.2.1)
        have HINA := Lib.hid (n3 rfl).1
        have han : an < 9223372036854775808 := by have hb := (wf_bound HX.out.1.2.1.2).2; dsimp only at hb; omega
        have hrl2 := refE_len8 (deps := ds) (rc := ac) (ri := an) (by omega) han
        obtain ⟨xm, rfl⟩ : ∃ xm : Nat, xn = (xm : Int) := ⟨xn.toNat, by have := n7 rfl; omega⟩
        have hxm : xm < 9223372036854775808 := by have hb := (wf_bound HX.out.1.2.2).2; dsimp only at hb; omega
        have hnl1 := numB_len10 (n := xm) (by omega)
        clear n1 n3 n5 n7 n9
        have HEN : Hid (ys ++ [2] ++ refE ds (dc, (dn : Int)) ++ refE ds (ac, (an : Int)) ++ numB xm = xh ++ opsE ds (os.take (i + 1))) := Lib.hid (by
          rw [HTK.out, ← List.append_assoc, ← HY.out]
          have e1 : opE ds (2, (dc, (dn : Int)), (ac, (an : Int)), xt, (xm : Int), xq) = [2] ++ refE ds (dc, (dn : Int)) ++ refE ds (ac, (an : Int)) ++ numB xm := by
            simp [opE, ifE, partsOf, numE_nat]
          rw [e1]
          simp only [List.append_assoc])
        have ckk : w0x.cell? ⟨zx, 0, none⟩ = some (.int .u8 2) := (HS.out.cellAt (z := zx) (cs := oc) (T := 112) (by simp) 0).trans HOC.out.1
        go_upto_region 19 with fail
        go_upto_region 20 with (first
          | (with_reducible refine at_load ?_
             refine wp_val (by rfl) (ex_load1 34 _ rfl (p := ⟨z2, 1, none⟩) rfl Tryz.underlying34 rfl (HC1.out HS.out.drop)) ?_)
          | (with_reducible refine at_load ?_
             refine wp_val (by rfl) (ldR (b := zx) (f := 1) (r := (dc, (dn : Int))) HRD.out (fun j u hj => (HS.out.cellAt (z := zx) (cs := oc) (T := 112) (by simp) (1 + j)).trans (HOC.out.2.1 j u hj))) ?_)
          | (go_at_call 205; refine (refRef_any ds dc dn Ad cd _ hld HID.out HSS.out HZD.out HRD.out HIND.out hdn ((HSD.out.keep HS.out.bel).more HS.out.bel.size)).mono ?_; rintro e u1 ⟨hb1, Ax1, cx1, rfl, ho1⟩
             have HS := Lib.hid (HS.out.call hb1)
             have HBU := Lib.hid (hb1)
             have HX1 := Lib.hid (Sl.of_own ho1)
             clear hb1 ho1)
          | (at_builtin; refine wp_appL8 (by rfl) _ _ 169 rfl w.heap.size 5 (.int .u8 0) 1 1 Tryz.underlying169 info_u8 rfl (by decide) (.slice A0 (m + 1) c0_) (m + 1) (idV (ys ++ [2])) rfl HS.out.own Ax1 (refE ds (dc, (dn : Int))).length cx1 u1.heap.size (idV (refE ds (dc, (dn : Int)))) rfl HX1.out (idV_one _) (by have hx := hrl1; unfold maxLen; omega) (by have hx := hrl1; omega) HS.out.bel.size ?_
             intro v1 w1x ho9 hg9
             obtain ⟨A1, c1, rfl⟩ := own_form' ho9
             have HS := Lib.hid (HS.out.app ho9 rfl hg9)
             clear ho9 hg9))
        have ckk2 : w1x.cell? ⟨zx, 0, none⟩ = some (.int .u8 2) := (HS.out.cellAt (z := zx) (cs := oc) (T := 112) (by simp) 0).trans HOC.out.1
        go_upto_region 25 with fail
        go_upto_region 26 with (first
          | (with_reducible refine at_load ?_
             refine wp_val (by rfl) (ex_load1 34 _ rfl (p := ⟨z2, 1, none⟩) rfl Tryz.underlying34 rfl (HC1.out HS.out.drop)) ?_)
          | (with_reducible refine at_load ?_
             refine wp_val (by rfl) (ldR (b := zx) (f := 34) (r := (ac, (an : Int))) HRA.out (fun j u hj => (HS.out.cellAt (z := zx) (cs := oc) (T := 112) (by simp) (34 + j)).trans (HOC.out.2.2.1 j u hj))) ?_)
          | (go_at_call 205; refine (refRef_any ds ac an Ad cd _ hld HID.out HSS.out HZD.out HRA.out HINA.out han ((HSD.out.keep HS.out.bel).more HS.out.bel.size)).mono ?_; rintro e u2 ⟨hb2, Ax2, cx2, rfl, ho2⟩
             have HS := Lib.hid (HS.out.call hb2)
             have HBU := Lib.hid (hb2)
             have HX2 := Lib.hid (Sl.of_own ho2)
             clear hb2 ho2)
          | (at_builtin; refine wp_appL8 (by rfl) _ _ 169 rfl w.heap.size 5 (.int .u8 0) 1 1 Tryz.underlying169 info_u8 rfl (by decide) (.slice A1 (m + 1 + (refE ds (dc, (dn : Int))).length) c1) (m + 1 + (refE ds (dc, (dn : Int))).length) (idV (ys ++ [2] ++ refE ds (dc, (dn : Int)))) rfl HS.out.own Ax2 (refE ds (ac, (an : Int))).length cx2 u2.heap.size (idV (refE ds (ac, (an : Int)))) rfl HX2.out (idV_one _) (by have hx := hrl2; have hy0 := hrl1; unfold maxLen; omega) (by have hx := hrl2; have hy0 := hrl1; omega) HS.out.bel.size ?_
             intro v2 w2x ho9 hg9
             obtain ⟨A2, c2, rfl⟩ := own_form' ho9
             have HS := Lib.hid (HS.out.app ho9 rfl hg9)
             clear ho9 hg9))
        go_upto_region 26 with fail
        go_upto_region 15 with (first
          | (with_reducible refine at_load ?_
             refine wp_val (by rfl) (ex_load1 3 _ rfl (p := ⟨zx, 68, none⟩) rfl Tryz.underlying3 rfl ((HS.out.cellAt (z := zx) (cs := oc) (T := 112) (by simp) 68).trans HOC.out.2.2.2.2.1)) ?_)
          | (go_at_call 204; refine (refNumber_any xm hxm _).mono ?_; rintro e u3 ⟨hb3, Ax3, cx3, rfl, ho3⟩
             have HS := Lib.hid (HS.out.call hb3)
             have HBU := Lib.hid (hb3)
             have HX3 := Lib.hid (Sl.of_own ho3)
             clear hb3 ho3)
          | (at_builtin; refine wp_appL8 (by rfl) _ _ 169 rfl w.heap.size 5 (.int .u8 0) 1 1 Tryz.underlying169 info_u8 rfl (by decide) (.slice A2 (m + 1 + (refE ds (dc, (dn : Int))).length + (refE ds (ac, (an : Int))).length) c2) (m + 1 + (refE ds (dc, (dn : Int))).length + (refE ds (ac, (an : Int))).length) (idV (ys ++ [2] ++ refE ds (dc, (dn : Int)) ++ refE ds (ac, (an : Int)))) rfl HS.out.own Ax3 (numB xm).length cx3 u3.heap.size (idV (numB xm)) rfl HX3.out (idV_one _) (by have hx := hnl1; have hy0 := hrl1; have hy1 := hrl2; unfold maxLen; omega) (by have hx := hnl1; have hy0 := hrl1; have hy1 := hrl2; omega) HS.out.bel.size ?_
             intro v3 w3x ho9 hg9
             obtain ⟨A3, c3, rfl⟩ := own_form' ho9
             have HS := Lib.hid (HS.out.app ho9 rfl hg9)
             clear ho9 hg9))
        go_wp2_with fail
        go_roundw
        case rel => exact ⟨i + 1, _, A3, _, c3, by omega, by go_num, rfl, HEN, Lib.hid HS.out.drop, by omega⟩
        case measure => (simp [intOf]) <;> omega
      · -- kind 3
        have hxq : xq.size ≤ 4096 := n9 rfl
        have htl2 := textB_len8 (s := xq) (by omega)
        clear n1 n3 n5 n7 n9
        have HEN : Hid (ys ++ [3] ++ textB (L xq) = xh ++ opsE ds (os.take (i + 1))) := Lib.hid (by
          rw [HTK.out, ← List.append_assoc, ← HY.out]
          have e1 : opE ds (3, (dc, di), (ac, ai), xt, xn, xq) = [3] ++ textB (L xq) := by
            simp [opE, ifE, partsOf]
          rw [e1]
          simp only [List.append_assoc])
        have ckk : w0x.cell? ⟨zx, 0, none⟩ = some (.int .u8 3) := (HS.out.cellAt (z := zx) (cs := oc) (T := 112) (by simp) 0).trans HOC.out.1
        go_upto_region 29 with fail
        go_upto_region 15 with (first
          | (with_reducible refine at_load ?_
             refine wp_val (by rfl) (ex_load1 9 _ rfl (p := ⟨zx, 69, none⟩) rfl Tryz.underlying9 rfl ((HS.out.cellAt (z := zx) (cs := oc) (T := 112) (by simp) 69).trans HOC.out.2.2.2.2.2)) ?_)
          | (go_at_call 203; refine (refText_any xq (by omega) _).mono ?_; rintro e u1 ⟨hb1, Ax1, cx1, rfl, ho1⟩
             have HS := Lib.hid (HS.out.call hb1)
             have HBU := Lib.hid (hb1)
             have HX1 := Lib.hid (Sl.of_own ho1)
             clear hb1 ho1)
          | (at_builtin; refine wp_appL8 (by rfl) _ _ 169 rfl w.heap.size 5 (.int .u8 0) 1 1 Tryz.underlying169 info_u8 rfl (by decide) (.slice A0 (m + 1) c0_) (m + 1) (idV (ys ++ [3])) rfl HS.out.own Ax1 (textB (L xq)).length cx1 u1.heap.size (idV (textB (L xq))) rfl HX1.out (idV_one _) (by have hx := htl2; unfold maxLen; omega) (by have hx := htl2; omega) HS.out.bel.size ?_
             intro v1 w1x ho9 hg9
             obtain ⟨A1, c1, rfl⟩ := own_form' ho9
             have HS := Lib.hid (HS.out.app ho9 rfl hg9)
             clear ho9 hg9))
        go_wp2_with fail
        go_roundw
        case rel => exact ⟨i + 1, _, A1, _, c1, by omega, by go_num, rfl, HEN, Lib.hid HS.out.drop, by omega⟩
        case measure => (simp [intOf]) <;> omega
      · -- kind 4
        obtain ⟨dn, rfl⟩ : ∃ dn : Nat, di = (dn : Int) := ⟨di.toNat, by have := (n1 rfl).2; omega⟩
        have HRD := Lib.hid (show RefOk (dc, (dn : Int)) from HX.out.1.1)
        have HIND := Lib.hid (n1 rfl).1
        have hdn : dn < 9223372036854775808 := by have hb := (wf_bound HX.out.1.1.2).2; dsimp only at hb; omega
        have hrl1 := refE_len8 (deps := ds) (rc := dc) (ri := dn) (by omega) hdn
        have hxq : xq.size ≤ 4096 := n9 rfl
        have htl2 := textB_len8 (s := xq) (by omega)
        clear n1 n3 n5 n7 n9
        have HEN : Hid (ys ++ [4] ++ refE ds (dc, (dn : Int)) ++ textB (L xq) = xh ++ opsE ds (os.take (i + 1))) := Lib.hid (by
          rw [HTK.out, ← List.append_assoc, ← HY.out]
          have e1 : opE ds (4, (dc, (dn : Int)), (ac, ai), xt, xn, xq) = [4] ++ refE ds (dc, (dn : Int)) ++ textB (L xq) := by
            simp [opE, ifE, partsOf]
          rw [e1]
          simp only [List.append_assoc])
        have ckk : w0x.cell? ⟨zx, 0, none⟩ = some (.int .u8 4) := (HS.out.cellAt (z := zx) (cs := oc) (T := 112) (by simp) 0).trans HOC.out.1
        go_upto_region 19 with fail
        go_upto_region 20 with (first
          | (with_reducible refine at_load ?_
             refine wp_val (by rfl) (ex_load1 34 _ rfl (p := ⟨z2, 1, none⟩) rfl Tryz.underlying34 rfl (HC1.out HS.out.drop)) ?_)
          | (with_reducible refine at_load ?_
             refine wp_val (by rfl) (ldR (b := zx) (f := 1) (r := (dc, (dn : Int))) HRD.out (fun j u hj => (HS.out.cellAt (z := zx) (cs := oc) (T := 112) (by simp) (1 + j)).trans (HOC.out.2.1 j u hj))) ?_)
          | (go_at_call 205; refine (refRef_any ds dc dn Ad cd _ hld HID.out HSS.out HZD.out HRD.out HIND.out hdn ((HSD.out.keep HS.out.bel).more HS.out.bel.size)).mono ?_; rintro e u1 ⟨hb1, Ax1, cx1, rfl, ho1⟩
             have HS := Lib.hid (HS.out.call hb1)
             have HBU := Lib.hid (hb1)
             have HX1 := Lib.hid (Sl.of_own ho1)
             clear hb1 ho1)
          | (at_builtin; refine wp_appL8 (by rfl) _ _ 169 rfl w.heap.size 5 (.int .u8 0) 1 1 Tryz.underlying169 info_u8 rfl (by decide) (.slice A0 (m + 1) c0_) (m + 1) (idV (ys ++ [4])) rfl HS.out.own Ax1 (refE ds (dc, (dn : Int))).length cx1 u1.heap.size (idV (refE ds (dc, (dn : Int)))) rfl HX1.out (idV_one _) (by have hx := hrl1; unfold maxLen; omega) (by have hx := hrl1; omega) HS.out.bel.size ?_
             intro v1 w1x ho9 hg9
             obtain ⟨A1, c1, rfl⟩ := own_form' ho9
             have HS := Lib.hid (HS.out.app ho9 rfl hg9)
             clear ho9 hg9))
        have ckk2 : w1x.cell? ⟨zx, 0, none⟩ = some (.int .u8 4) := (HS.out.cellAt (z := zx) (cs := oc) (T := 112) (by simp) 0).trans HOC.out.1
        go_upto_region 29 with fail
        go_upto_region 15 with (first
          | (with_reducible refine at_load ?_
             refine wp_val (by rfl) (ex_load1 9 _ rfl (p := ⟨zx, 69, none⟩) rfl Tryz.underlying9 rfl ((HS.out.cellAt (z := zx) (cs := oc) (T := 112) (by simp) 69).trans HOC.out.2.2.2.2.2)) ?_)
          | (go_at_call 203; refine (refText_any xq (by omega) _).mono ?_; rintro e u2 ⟨hb2, Ax2, cx2, rfl, ho2⟩
             have HS := Lib.hid (HS.out.call hb2)
             have HBU := Lib.hid (hb2)
             have HX2 := Lib.hid (Sl.of_own ho2)
             clear hb2 ho2)
          | (at_builtin; refine wp_appL8 (by rfl) _ _ 169 rfl w.heap.size 5 (.int .u8 0) 1 1 Tryz.underlying169 info_u8 rfl (by decide) (.slice A1 (m + 1 + (refE ds (dc, (dn : Int))).length) c1) (m + 1 + (refE ds (dc, (dn : Int))).length) (idV (ys ++ [4] ++ refE ds (dc, (dn : Int)))) rfl HS.out.own Ax2 (textB (L xq)).length cx2 u2.heap.size (idV (textB (L xq))) rfl HX2.out (idV_one _) (by have hx := htl2; have hy0 := hrl1; unfold maxLen; omega) (by have hx := htl2; have hy0 := hrl1; omega) HS.out.bel.size ?_
             intro v2 w2x ho9 hg9
             obtain ⟨A2, c2, rfl⟩ := own_form' ho9
             have HS := Lib.hid (HS.out.app ho9 rfl hg9)
             clear ho9 hg9))
        go_wp2_with fail
        go_roundw
        case rel => exact ⟨i + 1, _, A2, _, c2, by omega, by go_num, rfl, HEN, Lib.hid HS.out.drop, by omega⟩
        case measure => (simp [intOf]) <;> omega
      · -- kind 5
        obtain ⟨dn, rfl⟩ : ∃ dn : Nat, di = (dn : Int) := ⟨di.toNat, by have := (n1 rfl).2; omega⟩
        have HRD := Lib.hid (show RefOk (dc, (dn : Int)) from HX.out.1.1)
        have HIND := Lib.hid (n1 rfl).1
        have hdn : dn < 9223372036854775808 := by have hb := (wf_bound HX.out.1.1.2).2; dsimp only at hb; omega
        have hrl1 := refE_len8 (deps := ds) (rc := dc) (ri := dn) (by omega) hdn
        clear n1 n3 n5 n7 n9
        have HEN : Hid (ys ++ [5] ++ refE ds (dc, (dn : Int)) = xh ++ opsE ds (os.take (i + 1))) := Lib.hid (by
          rw [HTK.out, ← List.append_assoc, ← HY.out]
          have e1 : opE ds (5, (dc, (dn : Int)), (ac, ai), xt, xn, xq) = [5] ++ refE ds (dc, (dn : Int)) := by
            simp [opE, ifE, partsOf]
          rw [e1]
          simp only [List.append_assoc])
        have ckk : w0x.cell? ⟨zx, 0, none⟩ = some (.int .u8 5) := (HS.out.cellAt (z := zx) (cs := oc) (T := 112) (by simp) 0).trans HOC.out.1
        go_upto_region 19 with fail
        go_upto_region 20 with (first
          | (with_reducible refine at_load ?_
             refine wp_val (by rfl) (ex_load1 34 _ rfl (p := ⟨z2, 1, none⟩) rfl Tryz.underlying34 rfl (HC1.out HS.out.drop)) ?_)
          | (with_reducible refine at_load ?_
             refine wp_val (by rfl) (ldR (b := zx) (f := 1) (r := (dc, (dn : Int))) HRD.out (fun j u hj => (HS.out.cellAt (z := zx) (cs := oc) (T := 112) (by simp) (1 + j)).trans (HOC.out.2.1 j u hj))) ?_)
          | (go_at_call 205; refine (refRef_any ds dc dn Ad cd _ hld HID.out HSS.out HZD.out HRD.out HIND.out hdn ((HSD.out.keep HS.out.bel).more HS.out.bel.size)).mono ?_; rintro e u1 ⟨hb1, Ax1, cx1, rfl, ho1⟩
             have HS := Lib.hid (HS.out.call hb1)
             have HBU := Lib.hid (hb1)
             have HX1 := Lib.hid (Sl.of_own ho1)
             clear hb1 ho1)
          | (at_builtin; refine wp_appL8 (by rfl) _ _ 169 rfl w.heap.size 5 (.int .u8 0) 1 1 Tryz.underlying169 info_u8 rfl (by decide) (.slice A0 (m + 1) c0_) (m + 1) (idV (ys ++ [5])) rfl HS.out.own Ax1 (refE ds (dc, (dn : Int))).length cx1 u1.heap.size (idV (refE ds (dc, (dn : Int)))) rfl HX1.out (idV_one _) (by have hx := hrl1; unfold maxLen; omega) (by have hx := hrl1; omega) HS.out.bel.size ?_
             intro v1 w1x ho9 hg9
             obtain ⟨A1, c1, rfl⟩ := own_form' ho9
             have HS := Lib.hid (HS.out.app ho9 rfl hg9)
             clear ho9 hg9))
        have ckk2 : w1x.cell? ⟨zx, 0, none⟩ = some (.int .u8 5) := (HS.out.cellAt (z := zx) (cs := oc) (T := 112) (by simp) 0).trans HOC.out.1
        go_wp2_with fail
        go_roundw
        case rel => exact ⟨i + 1, _, A1, _, c1, by omega, by go_num, rfl, HEN, Lib.hid HS.out.drop, by omega⟩
        case measure => (simp [intOf]) <;> omega
    · have i1 : ¬ (i : Int) < (os.length : Int) := by omega
      have hie : i = os.length := by omega
      have HF : Hid (ys = changeE ((n : Int), ds, au, os)) := Lib.hid (by rw [HY.out, hie, List.take_length, HXH.out])
      clear hie
      go_wp2_with fail
      go_ret
      have hlen := HB.out.len
      exact ⟨HB.out.bel, A, c, by rw [← HF.out, hlen]; rfl, by rw [← HF.out, hlen]; exact HB.out.own⟩
theorem refBytesO_any (o : ObjD) (v : Value) (w : World) (h : ObjIn w w.heap.size v o) (hr : rightB o = true) :
    Calls Tryz.prog 162 #[v] w (NumGives (objE o) w) := by
  obtain ⟨k, ⟨n, ds, au, os⟩, ⟨ps, cs, a2, ms, st⟩⟩ := o
  unfold rightB at hr
  unfold objE
  dsimp only at hr ⊢
  by_cases h1 : k = 1
  · rw [if_pos h1] at hr ⊢
    simp only [Bool.and_eq_true] at hr
    exact refBytesCh_any k n ds au os ps cs a2 ms st v w h h1 hr.2
  · rw [if_neg h1] at hr ⊢
    by_cases h2 : k = 2
    · rw [if_pos h2] at hr
      simp only [Bool.and_eq_true] at hr
      exact refBytesCm_any k n ds au os ps cs a2 ms st v w h h2 hr.2
    · rw [if_neg h2] at hr; cases hr
end Go.Proofs.YtdgbjhfkmembdaaGreatDoor
