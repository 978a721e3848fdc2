/-
  The document's Same, of objects that are alike. Conditions: well formed; lists of at most 2^40.
-/
import Derived.Test.YthjaepmfkgejkaaGreatDoorMerged7
import Derived.Test.YthjaepmfkgejkaaGreatDoorMerged10
import Derived.Test.YthjaepmfkgejkaaGreatDoorMerged8
import Derived.Test.YthjaepmfkgejkaaGreatDoorMerged13
import Derived.Test.YthjaepmfkgejkaaGreatDoorMerged11
import Derived.Test.YthjaepmfkgejkaaGreatDoorObjReadOp
import Derived.Test.YthjaepmfkgejkaaGreatDoorMerged18
set_option linter.unusedVariables false
set_option linter.unusedSimpArgs false
set_option maxHeartbeats 4000000
set_option maxRecDepth 100000
namespace Go.Proofs.YthjaepmfkgejkaaGreatDoor
open Lib (hid)
open Go.RowKit Go.Maps
theorem kbOp {x : OpD} (hx : KW x) : Kb Tryz.prog 4 70 (opV x) := by
  have hln := kg hx
  have l1 := k8 hx.1.1
  have l2 := k8 hx.1.2.1
  have hc := ky hx
  have ct : Tryz.prog.cellsOf 70 = 70 := by kernel_rfl
  have one : ∀ (k : Nat) (u : Value), (opV x)[k]? = some u → ((opV x).drop k).take 1 = [u] := fun k u h => by
    obtain ⟨h1, h2⟩ := List.getElem?_eq_some_iff.1 h
    rw [List.drop_eq_getElem_cons h1, List.take_succ_cons, List.take_zero, h2]
  refine UF Tryz.underlying70 (by rw [hln, ct]) (by kernel_rfl) fun f hf => ?_
  simp only [List.mem_cons, List.not_mem_nil, or_false] at hf
  rcases hf with rfl | rfl | rfl | rfl | rfl | rfl
  · simp only [qb, List.drop_zero]
    rw [show (opV x).take 1 = [.int .u8 (x.1.toNat : Int)] from rfl]
    exact fun d hd => qa Tryz.underlying5 (by simp only [Lit.wf, IntKind.min, IntKind.max, IntKind.signed, IntKind.bits, Bool.and_eq_true]; have := x.1.toNat_lt; simp; omega) d (by omega)
  · simp only [ZC]
    rw [show ((opV x).drop 1).take 33 = kf x.2.1 by unfold opV; rw [List.drop_succ_cons, List.drop_zero, ← l1, List.take_left]]
    exact kbRef hx.1.1
  ·
   simp only [ZC]
   rw [show ((opV x).drop 34).take 33 = kf x.2.2.1 by
     unfold opV
     rw [List.drop_succ_cons, ← l1, List.drop_left, ← (l2.trans l1.symm), List.take_left]]
   exact kbRef hx.1.2.1
  · simp only [cellsStr]
    rw [one 67 _ hc.2.2.2.1]
    exact fun d hd => kb_str Tryz.underlying9 hx.2.1 d (by omega)
  · simp only [cellsInt]
    rw [one 68 _ hc.2.2.2.2.1]
    exact fun d hd => qa Tryz.underlying3 hx.1.2.2 d (by omega)
  · simp only [cellsStr]
    rw [one 69 _ hc.2.2.2.2.2]
    exact fun d hd => kb_str Tryz.underlying9 hx.2.2 d (by omega)
theorem eqOp : EqT Tryz.prog 70 4 := ⟨by kernel_rfl, of_decide_eq_true (by kernel_rfl), of_decide_eq_true (by kernel_rfl), by kernel_rfl, by kernel_rfl, of_decide_eq_true (by kernel_rfl), by kernel_rfl⟩
theorem run_eqOp {x : OpD} (hx : KW x) (w : World) : (Op.equalIn 10000 70 (.agg (opV x).toArray) (.agg (opV x).toArray)).run Tryz.prog w = .ok true w := by
  have ct : Tryz.prog.cellsOf 70 = 70 := by kernel_rfl
  haveI : DecidableEq (List Value) := fun a b => Classical.propDecidable (a = b)
  have h := eqOp.run (α := List Value) id (fun _ _ h => h) (a := opV x) (b := opV x) (by rw [id, kg hx, ct]) (by rw [id, kg hx, ct]) (kbOp hx) (kbOp hx) w
  simpa using h
theorem ZM (l : List (List UInt8)) (A1 A2 : Option Addr) (c1 c2 : Nat) (w : World) (hn : l.length ≤ 1099511627776) (ho : IdsOk l) (h1 : Sl w w.heap.size A1 l.length 32 (jf l)) (h2 : Sl w w.heap.size A2 l.length 32 (jf l)) :
    Calls Tryz.prog 20 #[.slice A1 l.length c1, .slice A2 l.length c2] w fun e w' => Below w.heap.size w w' ∧ e = .returned (.bool true) := by
  have H1 := hid h1; have H2 := hid h2; have HO := hid ho
  clear h1 h2 ho
  go_enter Tryz.func20, Tryz.ntmps20
  go_wp2_with fail
  go_loopw [5] (fun t wr => ∃ i : Nat, i ≤ l.length ∧ t = .int .i64 i ∧ Hid (Below w.heap.size w wr)) (fun t _ => l.length - (intOf t).toNat)
  case atStart => exact ⟨0, by omega, rfl, hid (Below.refl _ _)⟩
  case round =>
    obtain ⟨i, hi, rfl, HBR⟩ := hrel
    by_cases hlt : i < l.length
    ·
     obtain ⟨b1, o1, rfl, hbl1, hc1⟩ := (H1.out.keep HBR.out).2 (by omega)
     obtain ⟨b2, o2, rfl, hbl2, hc2⟩ := (H2.out.keep HBR.out).2 (by omega)
     have i0 : (0 : Int) ≤ (i : Int) := by omega
     have i1 : (i : Int) < (l.length : Int) := by omega
     have R1 := hid (Wd.row (base := wr.heap.size) (Sl.id (B := 0) HO.out hc1 (i := i) hlt) (Nat.lt_of_lt_of_le hbl1 HBR.out.size))
     have R2 := hid (Wd.row (base := wr.heap.size) (Sl.id (B := 0) HO.out hc2 (i := i) hlt) (Nat.lt_of_lt_of_le hbl2 HBR.out.size))
     have HX := hid (show Kw l[i] from HO.out _ (List.getElem_mem hlt))
     have HEQ : Hid (∀ u : World, (Op.equalIn 10000 47 (.agg (idV l[i]).toArray) (.agg (idV l[i]).toArray)).run Tryz.prog u = .ok true u) := hid (fun u => (zV HX.out HX.out u).trans (by simp))
     clear hc1 hc2 hbl1 hbl2
     generalize l[i] = x at *
     go_wp2_with fail
     refine jW (base := wr.heap.size) wr (Below.refl _ _) (by kernel_rfl) (by kernel_rfl) ?_
     repeat (first
       | go_big_quiet_skip
       | (go_big_quiet_want
          first
            | (refine jg (fun w' hw' => kd 47 _ rfl (p := ⟨b1, o1 + i * 32, none⟩) rfl (run_loadVar_mid w' _ _ _ (idV x) _ (R1.out w' hw') Tryz.underlying47 rfl (by rw [km, show x.length = 32 from HX.out]; exact kR))) ?_
               go_big_quiet_on
               go_frame)
            | (refine jg (fun w' hw' => kd 47 _ rfl (p := ⟨b2, o2 + i * 32, none⟩) rfl (run_loadVar_mid w' _ _ _ (idV x) _ (R2.out w' hw') Tryz.underlying47 rfl (by rw [km, show x.length = 32 from HX.out]; exact kR))) ?_
               go_big_quiet_on
               go_frame)
            | (refine jg (fun w' hw' => jc 47 _ _ _ rfl (xs := ((idV x)).toArray) (ys := ((idV x)).toArray) rfl rfl (r := true) eqId.noGuard (HEQ.out w')) ?_
               go_big_quiet_on
               simp only [Act.put, List.setIfInBounds_toArray, List.set_cons_zero, List.set_cons_succ, Bool.not_true])
            | (go_big_quiet_op
               go_big_quiet_on)))
     refine wpQuiet_nil ?_
     rintro w' ⟨k, rfl⟩
     have hk := k.2
     generalize k.val = w9 at *
     clear k
     have HBN := hid (HBR.out.trans (hk.mono HBR.out.size))
     clear hk
     go_wp2_with fail
     go_roundw
     case rel => exact ⟨i + 1, by omega, by go_num, HBN⟩
     case measure => simp [intOf]; omega
    ·
     have i1 : ¬ (i : Int) < (l.length : Int) := by omega
     go_wp2_with fail
     go_ret
     exact ⟨HBR.out, rfl⟩
theorem sameCh_any (c : zH) (v1 v2 : Value) (w : World) (h1 : ChIn w w.heap.size v1 c) (h2 : ChIn w w.heap.size v2 c) (hl1 : c.2.1.length ≤ 1099511627776) (hl2 : c.2.2.2.length ≤ 1099511627776) :
    Calls Tryz.prog 30 #[v1, v2] w fun e w' => Below w.heap.size w w' ∧ e = .returned (.bool true) := by
  obtain ⟨ok, hop, ha, A1, c1, A3, c3, rfl, s1, s3⟩ := h1
  obtain ⟨-, -, -, A2, c2, A4, c4, rfl, s2, s4⟩ := h2
  obtain ⟨n, ds, au, os⟩ := c
  dsimp only at *
  have H1 := hid s1; have H2 := hid s2; have H3 := hid s3; have H4 := hid s4; have HI := hid ok.2.1; have HOP := hid hop
  clear s1 s2 s3 s4 ok hop
  go_enter Tryz.func30, Tryz.ntmps30
  go_upto_region 1 with (first
    | (with_reducible refine kH ?_
       refine kA (by rfl) 26 _ rfl [.int .i64 n, .slice A1 ds.length c1, .string au, .slice A3 os.length c3] _ rfl rfl (by kernel_rfl) ?_
       intro W0 hb0 hz0 hs0
       have HB0 := hid hb0; have HZ0 := hid hz0
       clear hb0 hz0 hs0)
    | (with_reducible refine kH ?_
       refine kA (by rfl) 26 _ rfl [.int .i64 n, .slice A2 ds.length c2, .string au, .slice A4 os.length c4] _ rfl rfl (by kernel_rfl) ?_
       intro W1 hb1 hz1 hs1
       have HB1 := hid hb1; have HZ1 := hid hz1
       clear hb1 hz1 hs1))
  have hx0 := (Array.getElem?_eq_some_iff.1 HZ0.out).1
  have HZ0' := hid ((HB1.out.block w.heap.size hx0).trans HZ0.out)
  have HBW := hid (HB0.out.trans (HB1.out.mono (Nat.le_of_lt hx0)))
  have hx1 := (Array.getElem?_eq_some_iff.1 HZ1.out).1
  obtain ⟨z1, hz1⟩ : ∃ z, w.heap.size = z := ⟨_, rfl⟩
  obtain ⟨z2, hz2⟩ : ∃ z, W0.heap.size = z := ⟨_, rfl⟩
  rw [hz1] at HZ0' ⊢
  rw [hz2] at HZ1 ⊢
  have q1 : z1 < W1.heap.size := by omega
  have q2 : z2 < W1.heap.size := by omega
  have HC := hid (fun (u : World) (hu : Below W1.heap.size W1 u) => (show (u.cell? ⟨z1, 0, none⟩ = some (.int .i64 n) ∧ u.cell? ⟨z1, 1, none⟩ = some (.slice A1 ds.length c1) ∧ u.cell? ⟨z1, 2, none⟩ = some (.string au) ∧ u.cell? ⟨z1, 3, none⟩ = some (.slice A3 os.length c3)) ∧ u.cell? ⟨z2, 0, none⟩ = some (.int .i64 n) ∧ u.cell? ⟨z2, 1, none⟩ = some (.slice A2 ds.length c2) ∧ u.cell? ⟨z2, 2, none⟩ = some (.string au) ∧ u.cell? ⟨z2, 3, none⟩ = some (.slice A4 os.length c4) from
    ⟨⟨(hu.cell q1).trans (k6 HZ0'.out 0), (hu.cell q1).trans (k6 HZ0'.out 1), (hu.cell q1).trans (k6 HZ0'.out 2), (hu.cell q1).trans (k6 HZ0'.out 3)⟩, (hu.cell q2).trans (k6 HZ1.out 0), (hu.cell q2).trans (k6 HZ1.out 1), (hu.cell q2).trans (k6 HZ1.out 2), (hu.cell q2).trans (k6 HZ1.out 3)⟩))
  obtain ⟨⟨b0, b1, b2, b3⟩, b4, b5, b6, b7⟩ := HC.out W1 (Below.refl _ _)
  try go_frame
  clear hx0 hx1 HZ0 HZ1 HB0 HB1 hz1 hz2 HZ0'
  have nn : ((n == n) = true) := by simp
  go_upto_region 3 with (first
    | (go_at_call 20; refine (ZM ds A1 A2 c1 c2 W1 hl1 HI.out ((H1.out.keep HBW.out).more HBW.out.size) ((H2.out.keep HBW.out).more HBW.out.size)).mono ?_; rintro e W2 ⟨hb2, rfl⟩
       obtain ⟨⟨b0', b1', b2', b3'⟩, b4', b5', b6', b7'⟩ := HC.out W2 hb2
       have HB2 := hid hb2
       clear hb2))
  clear b0 b1 b2 b3 b4 b5 b6 b7 b0' b1' b2' b3' b4' b5' b6' b7'
  go_wp2_with fail
  go_loopw [5] (fun t wr => ∃ i : Nat, i ≤ os.length ∧ t = .int .i64 i ∧ Hid (Below W1.heap.size W1 wr)) (fun t _ => os.length - (intOf t).toNat)
  case atStart => exact ⟨0, by omega, rfl, HB2⟩
  case round =>
    obtain ⟨i, hi, rfl, HBR⟩ := hrel
    have HBT := hid (HBW.out.trans (HBR.out.mono HBW.out.size))
    obtain ⟨⟨-, -, -, e3⟩, -, -, -, e7⟩ := HC.out wr HBR.out
    by_cases hlt : i < os.length
    ·
     obtain ⟨b1, o1, rfl, hbl1, hc1⟩ := (H3.out.keep HBT.out).2 (by omega)
     obtain ⟨b2, o2, rfl, hbl2, hc2⟩ := (H4.out.keep HBT.out).2 (by omega)
     have i0 : (0 : Int) ≤ (i : Int) := by omega
     have i1 : (i : Int) < (os.length : Int) := by omega
     have R1 := hid (Wd.row (base := wr.heap.size) (Sl.row (fun x hx => kg (HOP.out x hx)) hc1 hlt) (Nat.lt_of_lt_of_le hbl1 HBT.out.size))
     have R2 := hid (Wd.row (base := wr.heap.size) (Sl.row (fun x hx => kg (HOP.out x hx)) hc2 hlt) (Nat.lt_of_lt_of_le hbl2 HBT.out.size))
     have HX := hid (HOP.out _ (List.getElem_mem hlt))
     clear hc1 hc2 hbl1 hbl2
     generalize os[i] = x at *
     have HEQ := hid (fun (u : World) => run_eqOp HX.out u)
     have f3 := Wd.cell (base := wr.heap.size) e3 (Nat.lt_of_lt_of_le q1 HBR.out.size)
     have f7 := Wd.cell (base := wr.heap.size) e7 (Nat.lt_of_lt_of_le q2 HBR.out.size)
     go_upto_region 6 with fail
     refine jW (base := wr.heap.size) wr (Below.refl _ _) (by kernel_rfl) (by kernel_rfl) ?_
     repeat (first
       | go_big_quiet_skip
       | (go_big_quiet_want
          first
            | (refine jg (fun w' hw' => kd 70 _ rfl (p := ⟨b1, o1 + i * 70, none⟩) rfl (run_loadVar_mid w' _ _ _ (opV x) _ (R1.out w' hw') Tryz.underlying70 rfl (by rw [kg HX.out]; exact kw))) ?_
               go_big_quiet_on
               go_frame)
            | (refine jg (fun w' hw' => kd 70 _ rfl (p := ⟨b2, o2 + i * 70, none⟩) rfl (run_loadVar_mid w' _ _ _ (opV x) _ (R2.out w' hw') Tryz.underlying70 rfl (by rw [kg HX.out]; exact kw))) ?_
               go_big_quiet_on
               go_frame)
            | (refine jg (fun w' hw' => jc 70 _ _ _ rfl (xs := ((opV x)).toArray) (ys := ((opV x)).toArray) rfl rfl (r := true) eqOp.noGuard (HEQ.out w')) ?_
               go_big_quiet_on
               simp only [Act.put, List.setIfInBounds_toArray, List.set_cons_zero, List.set_cons_succ, Bool.not_true])
            | (go_big_quiet_op
               go_big_quiet_on)))
     refine wpQuiet_nil ?_
     rintro w' ⟨k, rfl⟩
     have hk := k.2
     generalize k.val = w9 at *
     clear k
     have HBN := hid (HBR.out.trans (hk.mono HBR.out.size))
     clear hk f3 f7
     go_wp2_with fail
     go_roundw
     case rel => exact ⟨i + 1, by omega, by go_num, HBN⟩
     case measure => simp [intOf]; omega
    ·
     have i1 : ¬ (i : Int) < (os.length : Int) := by omega
     go_wp2_with fail
     go_ret
     exact ⟨HBT.out, rfl⟩
theorem J5 (w : World) : (zeroValue 28).run Tryz.prog w = .ok (.agg ([.slice none 0 0, .slice none 0 0, .string k7, .string k7, .int .i64 0] : List Value).toArray) w := by kernel_rfl
theorem objSame_any (o : KO) (v1 v2 : Value) (w : World) (h1 : ObjIn w w.heap.size v1 o) (h2 : ObjIn w w.heap.size v2 o) (hl1 : o.2.1.2.1.length ≤ 1099511627776) (hl2 : o.2.1.2.2.2.length ≤ 1099511627776) (hl3 : o.2.2.1.length ≤ 1099511627776) (hl4 : o.2.2.2.1.length ≤ 1099511627776) :
    Calls Tryz.prog 8 #[v1, v2] w fun e w' => Below w.heap.size w w' ∧ e = .returned (.bool true) := by
  obtain ⟨ok, hop, ha, ha2, hm, Ad1, cd1, Ao1, co1, Ap1, cp1, Ac1, cc1, rfl, sd1, so1, sp1, sc1⟩ := h1
  obtain ⟨-, -, -, -, -, Ad2, cd2, Ao2, co2, Ap2, cp2, Ac2, cc2, rfl, sd2, so2, sp2, sc2⟩ := h2
  obtain ⟨k, ⟨n, ds, au, os⟩, ⟨ps, cs, a2, ms, st⟩⟩ := o
  dsimp only at *
  have HC1 : Hid (ChIn w w.heap.size (.agg [.int .i64 n, .slice Ad1 ds.length cd1, .string au, .slice Ao1 os.length co1].toArray) (n, ds, au, os)) := hid ⟨ok.1, hop, ha, Ad1, cd1, Ao1, co1, rfl, sd1, so1⟩
  have HC2 : Hid (ChIn w w.heap.size (.agg [.int .i64 n, .slice Ad2 ds.length cd2, .string au, .slice Ao2 os.length co2].toArray) (n, ds, au, os)) := hid ⟨ok.1, hop, ha, Ad2, cd2, Ao2, co2, rfl, sd2, so2⟩
  have HP1 := hid sp1; have HP2 := hid sp2; have HK1 := hid sc1; have HK2 := hid sc2
  have HI1 := hid (show IdsOk ps from ok.2.1); have HI2 := hid (show IdsOk cs from ok.2.2.1)
  clear ok hop ha ha2 hm sd1 sd2 so1 so2 sp1 sp2 sc1 sc2
  go_enter Tryz.func8, Tryz.ntmps8
  go_upto_region 1 with (first
    | (with_reducible refine kH ?_
       refine kA (by rfl) 30 _ rfl [.int .u8 (k.toNat : Int), .int .i64 n, .slice Ad1 ds.length cd1, .string au, .slice Ao1 os.length co1, .slice Ap1 ps.length cp1, .slice Ac1 cs.length cc1, .string a2, .string ms, .int .i64 st] _ rfl rfl (by kernel_rfl) ?_
       intro W0 hb0 hz0 hs0
       have HB0 := hid hb0; have HZ0 := hid hz0
       clear hb0 hz0 hs0)
    | (with_reducible refine kH ?_
       refine kA (by rfl) 30 _ rfl [.int .u8 (k.toNat : Int), .int .i64 n, .slice Ad2 ds.length cd2, .string au, .slice Ao2 os.length co2, .slice Ap2 ps.length cp2, .slice Ac2 cs.length cc2, .string a2, .string ms, .int .i64 st] _ rfl rfl (by kernel_rfl) ?_
       intro W1 hb1 hz1 hs1
       have HB1 := hid hb1; have HZ1 := hid hz1
       clear hb1 hz1 hs1))
  have hx0 := (Array.getElem?_eq_some_iff.1 HZ0.out).1
  have HZA := hid ((HB1.out.block w.heap.size hx0).trans HZ0.out)
  have HBW := hid (HB0.out.trans (HB1.out.mono (Nat.le_of_lt hx0)))
  have hx1 := (Array.getElem?_eq_some_iff.1 HZ1.out).1
  have hs1 := HB1.out.size
  obtain ⟨z1, hz1⟩ : ∃ z, w.heap.size = z := ⟨_, rfl⟩
  obtain ⟨z2, hz2⟩ : ∃ z, W0.heap.size = z := ⟨_, rfl⟩
  have HZB : Hid (W1.heap[z2]? = some (.cells [.int .u8 (k.toNat : Int), .int .i64 n, .slice Ad2 ds.length cd2, .string au, .slice Ao2 os.length co2, .slice Ap2 ps.length cp2, .slice Ac2 cs.length cc2, .string a2, .string ms, .int .i64 st].toArray 30 (0, 0))) := hid (by rw [← hz2]; exact HZ1.out)
  rw [hz1] at HZA ⊢
  rw [hz2] at ⊢
  have q1 : z1 < W1.heap.size := by omega
  have q2 : z2 < W1.heap.size := by omega
  clear hx0 hx1 hs1 HZ0 HZ1 HB0 HB1 hz1 hz2
  go_cut [5, 6] from 7 to 10 (fun t5 t6 wx => ∃ z3 z4, t5 = .pointer (some ⟨z3, 0, none⟩) ∧ t6 = .pointer (some ⟨z4, 0, none⟩) ∧ Hid (Below W1.heap.size W1 wx) ∧ Hid (wx.heap[z3]? = some (.cells [.slice Ap1 ps.length cp1, .slice Ac1 cs.length cc1, .string a2, .string ms, .int .i64 st].toArray 28 (0, 0))) ∧ Hid (wx.heap[z4]? = some (.cells [.slice Ap2 ps.length cp2, .slice Ac2 cs.length cc2, .string a2, .string ms, .int .i64 st].toArray 28 (0, 0))))
  case first =>
    refine kr 7 (fun u => Below W1.heap.size W1 u) (by kernel_rfl) ?_
    have hF0 : (fun u => Below W1.heap.size W1 u) W1.drew := (Below.refl W1.heap.size W1).drew
    refine tw 0 (.pointer (some ⟨z1, 5, none⟩)) ?_
    go_frame
    refine tkF 1 (.agg [.slice Ap1 ps.length cp1, .slice Ac1 cs.length cc1, .string a2, .string ms, .int .i64 st].toArray) (by kernel_rfl) rfl (fun _ _ _ h => h) (by rfl) hF0 (fun w' hw' => kd 28 _ rfl (p := ⟨z1, 5, none⟩) rfl (run_loadVar_mid w' _ _ _ [.slice Ap1 ps.length cp1, .slice Ac1 cs.length cc1, .string a2, .string ms, .int .i64 st] _ (fun j u hj => (hw'.cell (p := ⟨z1, 5 + j, none⟩) q1).trans ((k6 HZA.out (5 + j)).trans (vp hj))) Tryz.underlying28 rfl (by kernel_rfl))) ?_
    go_frame
    refine tw 2 (.pointer (some ⟨z2, 5, none⟩)) ?_
    go_frame
    refine tkF 3 (.agg [.slice Ap2 ps.length cp2, .slice Ac2 cs.length cc2, .string a2, .string ms, .int .i64 st].toArray) (by kernel_rfl) rfl (fun _ _ _ h => h) (by rfl) hF0 (fun w' hw' => kd 28 _ rfl (p := ⟨z2, 5, none⟩) rfl (run_loadVar_mid w' _ _ _ [.slice Ap2 ps.length cp2, .slice Ac2 cs.length cc2, .string a2, .string ms, .int .i64 st] _ (fun j u hj => (hw'.cell (p := ⟨z2, 5 + j, none⟩) q2).trans ((k6 HZB.out (5 + j)).trans (vp hj))) Tryz.underlying28 rfl (by kernel_rfl))) ?_
    go_frame
    refine zG (rs := [4, 5]) (by kernel_rfl) (by simp) ?_
    intro q' hq'
    simp only [List.mem_cons, List.not_mem_nil, or_false] at hq'
    rcases hq' with rfl | rfl
    ·
     refine zB _ rfl (by kernel_rfl) 28 rfl [.slice none 0 0, .slice none 0 0, .string k7, .string k7, .int .i64 0] (J5 _) ?_
     intro va hba hza hsa
     have hBa : Below W1.heap.size W1 va := ((Below.refl W1.heap.size W1).drew).trans (hba.mono ((Below.refl W1.heap.size W1).drew).size)
     have hla : (W1.drew).heap.size < va.heap.size := by omega
     have hma : W1.heap.size ≤ (W1.drew).heap.size := ((Below.refl W1.heap.size W1).drew).size
     clear hsa
     refine ⟨fun _ _ => hBa, ?_⟩
     go_frame
     refine ta 5 ?_
     refine zB _ rfl (by kernel_rfl) 28 rfl [.slice none 0 0, .slice none 0 0, .string k7, .string k7, .int .i64 0] (J5 _) ?_
     intro vb hbb hzb hsb
     have hBb : Below W1.heap.size W1 vb := (hBa).trans (hbb.mono (hBa).size)
     have hlb : (va).heap.size < vb.heap.size := by omega
     have hmb : W1.heap.size ≤ (va).heap.size := (hBa).size
     have hza' := (hbb.block _ (by omega)).trans hza
     clear hsb
     refine ⟨fun _ _ => hBb, ?_⟩
     go_frame
     refine ta 6 ?_
     refine jE _ rfl (by kernel_rfl) 28 _ _ rfl ((W1.drew).heap.size) 0 [] [.slice none 0 0, .slice none 0 0, .string k7, .string k7, .int .i64 0] [] [.slice Ap1 ps.length cp1, .slice Ac1 cs.length cc1, .string a2, .string ms, .int .i64 st] 28 (.agg [.slice Ap1 ps.length cp1, .slice Ac1 cs.length cc1, .string a2, .string ms, .int .i64 st].toArray) rfl rfl rfl rfl (by simpa using hza') rfl (by kernel_rfl) (by intro u hu; simp only [List.mem_cons, List.not_mem_nil, or_false] at hu; rcases hu with rfl | rfl | rfl | rfl | rfl <;> rfl) ?_
     intro sa hwa hya hta
     have hSa : Below W1.heap.size W1 sa := (hBb).trans (hwa.below (hBb).size (fun k hk => by omega))
     have hxa : sa.heap[(W1.drew).heap.size]? = some (.cells [.slice Ap1 ps.length cp1, .slice Ac1 cs.length cc1, .string a2, .string ms, .int .i64 st].toArray 28 (0, 0)) := by simpa using hya
     have hxb := (hwa.block ((va).heap.size) (by omega) (by omega)).trans hzb
     refine ⟨fun _ _ => hSa, ?_⟩
     go_frame
     refine ta 7 ?_
     refine jE _ rfl (by kernel_rfl) 28 _ _ rfl ((va).heap.size) 0 [] [.slice none 0 0, .slice none 0 0, .string k7, .string k7, .int .i64 0] [] [.slice Ap2 ps.length cp2, .slice Ac2 cs.length cc2, .string a2, .string ms, .int .i64 st] 28 (.agg [.slice Ap2 ps.length cp2, .slice Ac2 cs.length cc2, .string a2, .string ms, .int .i64 st].toArray) rfl rfl rfl rfl (by simpa using hxb) rfl (by kernel_rfl) (by intro u hu; simp only [List.mem_cons, List.not_mem_nil, or_false] at hu; rcases hu with rfl | rfl | rfl | rfl | rfl <;> rfl) ?_
     intro sb hwb hyb htb
     have hSb : Below W1.heap.size W1 sb := (hSa).trans (hwb.below (hSa).size (fun k hk => by omega))
     have hxb : sb.heap[(va).heap.size]? = some (.cells [.slice Ap2 ps.length cp2, .slice Ac2 cs.length cc2, .string a2, .string ms, .int .i64 st].toArray 28 (0, 0)) := by simpa using hyb
     have hxa := (hwb.block ((W1.drew).heap.size) (by omega) (by omega)).trans hxa
     refine ⟨fun h => absurd h (by decide), ?_⟩
     go_frame
     refine kx (by kernel_rfl) ?_ _
     go_wp2_with fail
     go_meet
     case rel => exact ⟨(W1.drew).heap.size, (va).heap.size, rfl, rfl, hid hSb, hid hxa, hid hxb⟩
    ·
     refine zB _ rfl (by kernel_rfl) 28 rfl [.slice none 0 0, .slice none 0 0, .string k7, .string k7, .int .i64 0] (J5 _) ?_
     intro vb hbb hzb hsb
     have hBb : Below W1.heap.size W1 vb := ((Below.refl W1.heap.size W1).drew).trans (hbb.mono ((Below.refl W1.heap.size W1).drew).size)
     have hlb : (W1.drew).heap.size < vb.heap.size := by omega
     have hmb : W1.heap.size ≤ (W1.drew).heap.size := ((Below.refl W1.heap.size W1).drew).size
     clear hsb
     refine ⟨fun _ _ => hBb, ?_⟩
     go_frame
     refine ta 4 ?_
     refine zB _ rfl (by kernel_rfl) 28 rfl [.slice none 0 0, .slice none 0 0, .string k7, .string k7, .int .i64 0] (J5 _) ?_
     intro va hba hza hsa
     have hBa : Below W1.heap.size W1 va := (hBb).trans (hba.mono (hBb).size)
     have hla : (vb).heap.size < va.heap.size := by omega
     have hma : W1.heap.size ≤ (vb).heap.size := (hBb).size
     have hzb' := (hba.block _ (by omega)).trans hzb
     clear hsa
     refine ⟨fun _ _ => hBa, ?_⟩
     go_frame
     refine ta 6 ?_
     refine jE _ rfl (by kernel_rfl) 28 _ _ rfl ((vb).heap.size) 0 [] [.slice none 0 0, .slice none 0 0, .string k7, .string k7, .int .i64 0] [] [.slice Ap1 ps.length cp1, .slice Ac1 cs.length cc1, .string a2, .string ms, .int .i64 st] 28 (.agg [.slice Ap1 ps.length cp1, .slice Ac1 cs.length cc1, .string a2, .string ms, .int .i64 st].toArray) rfl rfl rfl rfl (by simpa using hza) rfl (by kernel_rfl) (by intro u hu; simp only [List.mem_cons, List.not_mem_nil, or_false] at hu; rcases hu with rfl | rfl | rfl | rfl | rfl <;> rfl) ?_
     intro sa hwa hya hta
     have hSa : Below W1.heap.size W1 sa := (hBa).trans (hwa.below (hBa).size (fun k hk => by omega))
     have hxa : sa.heap[(vb).heap.size]? = some (.cells [.slice Ap1 ps.length cp1, .slice Ac1 cs.length cc1, .string a2, .string ms, .int .i64 st].toArray 28 (0, 0)) := by simpa using hya
     have hxb := (hwa.block ((W1.drew).heap.size) (by omega) (by omega)).trans hzb'
     refine ⟨fun _ _ => hSa, ?_⟩
     go_frame
     refine ta 7 ?_
     refine jE _ rfl (by kernel_rfl) 28 _ _ rfl ((W1.drew).heap.size) 0 [] [.slice none 0 0, .slice none 0 0, .string k7, .string k7, .int .i64 0] [] [.slice Ap2 ps.length cp2, .slice Ac2 cs.length cc2, .string a2, .string ms, .int .i64 st] 28 (.agg [.slice Ap2 ps.length cp2, .slice Ac2 cs.length cc2, .string a2, .string ms, .int .i64 st].toArray) rfl rfl rfl rfl (by simpa using hxb) rfl (by kernel_rfl) (by intro u hu; simp only [List.mem_cons, List.not_mem_nil, or_false] at hu; rcases hu with rfl | rfl | rfl | rfl | rfl <;> rfl) ?_
     intro sb hwb hyb htb
     have hSb : Below W1.heap.size W1 sb := (hSa).trans (hwb.below (hSa).size (fun k hk => by omega))
     have hxb : sb.heap[(W1.drew).heap.size]? = some (.cells [.slice Ap2 ps.length cp2, .slice Ac2 cs.length cc2, .string a2, .string ms, .int .i64 st].toArray 28 (0, 0)) := by simpa using hyb
     have hxa := (hwb.block ((vb).heap.size) (by omega) (by omega)).trans hxa
     refine ⟨fun h => absurd h (by decide), ?_⟩
     go_frame
     refine kx (by kernel_rfl) ?_ _
     go_wp2_with fail
     go_meet
     case rel => exact ⟨(vb).heap.size, (W1.drew).heap.size, rfl, rfl, hid hSb, hid hxa, hid hxb⟩
  case rest =>
    obtain ⟨z3, z4, rfl, rfl, HBC, HX3, HX4⟩ := hcut
    obtain ⟨Wq, hwq⟩ : ∃ u : World, u = wc := ⟨_, rfl⟩
    subst hwq
    have l3 := (Array.getElem?_eq_some_iff.1 HX3.out).1
    have l4 := (Array.getElem?_eq_some_iff.1 HX4.out).1
    have HBT := hid (HBW.out.trans (HBC.out.mono HBW.out.size))
    have HCC := hid (fun (u : World) (hu : Below Wq.heap.size Wq u) => (show (u.cell? ⟨z3, 0, none⟩ = some (.slice Ap1 ps.length cp1) ∧ u.cell? ⟨z3, 1, none⟩ = some (.slice Ac1 cs.length cc1) ∧ u.cell? ⟨z3, 2, none⟩ = some (.string a2) ∧ u.cell? ⟨z3, 3, none⟩ = some (.string ms) ∧ u.cell? ⟨z3, 4, none⟩ = some (.int .i64 st)) ∧ u.cell? ⟨z4, 0, none⟩ = some (.slice Ap2 ps.length cp2) ∧ u.cell? ⟨z4, 1, none⟩ = some (.slice Ac2 cs.length cc2) ∧ u.cell? ⟨z4, 2, none⟩ = some (.string a2) ∧ u.cell? ⟨z4, 3, none⟩ = some (.string ms) ∧ u.cell? ⟨z4, 4, none⟩ = some (.int .i64 st) from
      ⟨⟨(hu.cell l3).trans (k6 HX3.out 0), (hu.cell l3).trans (k6 HX3.out 1), (hu.cell l3).trans (k6 HX3.out 2), (hu.cell l3).trans (k6 HX3.out 3), (hu.cell l3).trans (k6 HX3.out 4)⟩, (hu.cell l4).trans (k6 HX4.out 0), (hu.cell l4).trans (k6 HX4.out 1), (hu.cell l4).trans (k6 HX4.out 2), (hu.cell l4).trans (k6 HX4.out 3), (hu.cell l4).trans (k6 HX4.out 4)⟩))
    have k1 : Wq.cell? ⟨z1, 0, none⟩ = some (.int .u8 (k.toNat : Int)) := (HBC.out.cell q1).trans (k6 HZA.out 0)
    have k2 : Wq.cell? ⟨z2, 0, none⟩ = some (.int .u8 (k.toNat : Int)) := (HBC.out.cell q2).trans (k6 HZB.out 0)
    clear l3 l4 HX3 HX4
    go_wp2_with (first
      | (with_reducible refine ke ?_
         refine k9 (by rfl) (kd 26 _ rfl (p := ⟨z1, 1, none⟩) rfl (run_loadVar_mid _ _ _ _ [.int .i64 n, .slice Ad1 ds.length cd1, .string au, .slice Ao1 os.length co1] _ (fun j u hj => (HBC.out.cell (p := ⟨z1, 1 + j, none⟩) q1).trans ((k6 HZA.out (1 + j)).trans (ZL hj))) Tryz.underlying26 rfl (by kernel_rfl))) ?_)
      | (with_reducible refine ke ?_
         refine k9 (by rfl) (kd 26 _ rfl (p := ⟨z2, 1, none⟩) rfl (run_loadVar_mid _ _ _ _ [.int .i64 n, .slice Ad2 ds.length cd2, .string au, .slice Ao2 os.length co2] _ (fun j u hj => (HBC.out.cell (p := ⟨z2, 1 + j, none⟩) q2).trans ((k6 HZB.out (1 + j)).trans (ZL hj))) Tryz.underlying26 rfl (by kernel_rfl))) ?_)
      | (go_at_call 30; refine (sameCh_any (n, ds, au, os) _ _ Wq (HC1.out.keep HBT.out |>.more HBT.out.size) (HC2.out.keep HBT.out |>.more HBT.out.size) hl1 hl2).mono ?_; rintro e W4 ⟨hb4, rfl⟩
         obtain ⟨⟨g0, g1, g2, g3, g4⟩, g5, g6, g7, g8, g9⟩ := HCC.out W4 hb4
         have HB4 := hid hb4
         have HT4 := hid (HBT.out.trans (hb4.mono HBT.out.size))
         clear hb4)
      | (go_at_call 20; refine (ZM ps Ap1 Ap2 cp1 cp2 W4 hl3 HI1.out (HP1.out.keep HT4.out |>.more HT4.out.size) (HP2.out.keep HT4.out |>.more HT4.out.size)).mono ?_; rintro e W5 ⟨hb5, rfl⟩
         obtain ⟨⟨g0, g1, g2, g3, g4⟩, g5, g6, g7, g8, g9⟩ := HCC.out W5 (HB4.out.trans (hb5.mono HB4.out.size))
         have HT5 := hid (HT4.out.trans (hb5.mono HT4.out.size))
         have HB5 := hid (HB4.out.trans (hb5.mono HB4.out.size))
         clear hb5 HP1)
      | (go_at_call 20; refine (ZM cs Ac1 Ac2 cc1 cc2 W5 hl4 HI2.out (HK1.out.keep HT5.out |>.more HT5.out.size) (HK2.out.keep HT5.out |>.more HT5.out.size)).mono ?_; rintro e W6 ⟨hb6, rfl⟩
         obtain ⟨⟨g0, g1, g2, g3, g4⟩, g5, g6, g7, g8, g9⟩ := HCC.out W6 (HB5.out.trans (hb6.mono HB5.out.size))
         have HT6 := hid (HT5.out.trans (hb6.mono HT5.out.size))
         clear hb6))
    go_ret
    exact ⟨HT6.out, by simp⟩
end Go.Proofs.YthjaepmfkgejkaaGreatDoor
