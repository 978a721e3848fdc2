/-
  The document's Same, of objects that are alike. Conditions: well formed; lists of at most 2^40.
-/
import Derived.Test.YtdgbjhfkmembdaaGreatDoorShort0
import Derived.Test.YtdgbjhfkmembdaaGreatDoorShort9
import Derived.Test.YtdgbjhfkmembdaaGreatDoorObjMem
import Derived.Test.YtdgbjhfkmembdaaGreatDoorOrdSet
import Derived.Test.YtdgbjhfkmembdaaGreatDoorHandL
import Derived.Test.YtdgbjhfkmembdaaGreatDoorStoreM
import Derived.Test.YtdgbjhfkmembdaaGreatDoorQuietR
import Derived.Test.YtdgbjhfkmembdaaGreatDoorObjReadOp
import Derived.Test.YtdgbjhfkmembdaaGreatDoorObjRight3
namespace Go.Proofs.YtdgbjhfkmembdaaGreatDoor
open Go.RowKit Go.Maps
set_option linter.unusedVariables false
set_option linter.unusedSimpArgs false

theorem kbOp {x : OpD} (hx : OpIn x) : Kb Tryz.prog 4 112 (opV x) := by
  have hln := opV_length hx
  have l1 := refV_length hx.1.1
  have l2 := refV_length hx.1.2.1
  have hc := op_cells hx
  have ct : Tryz.prog.cellsOf 112 = 70 := by kernel_rfl
  have one : ∀ (k : Nat) (u : Value), (opV x)[k]? = some u → ((opV x).drop k).take 1 = [u] := fun k u h => by
    obtain ⟨h1, h2⟩ := List.getElem?_eq_some_iff.1 h
    rw [List.drop_eq_getElem_cons h1, List.take_succ_cons, List.take_zero, h2]
  refine kb_struct Tryz.underlying112 (by rw [hln, ct]) (by kernel_rfl) fun f hf => ?_
  simp only [List.mem_cons, List.not_mem_nil, or_false] at hf
  rcases hf with rfl | rfl | rfl | rfl | rfl | rfl
  · simp only [cellsU8, List.drop_zero]
    rw [show (opV x).take 1 = [.int .u8 (x.1.toNat : Int)] from rfl]
    exact fun d hd => kb_int Tryz.underlying5 (by simp only [Lit.wf, IntKind.min, IntKind.max, IntKind.signed, IntKind.bits, Bool.and_eq_true]; have := x.1.toNat_lt; simp; omega) d (by omega)
  · simp only [cellsRef]
    rw [show ((opV x).drop 1).take 33 = refV x.2.1 by unfold opV; rw [List.drop_succ_cons, List.drop_zero, ← l1, List.take_left]]
    exact kbRef hx.1.1
  · simp only [cellsRef]
    rw [show ((opV x).drop 34).take 33 = refV x.2.2.1 by
      unfold opV
      rw [List.drop_succ_cons, ← l1, List.drop_left, ← (l2.trans l1.symm), List.take_left]]
    exact kbRef hx.1.2.1
  · simp only [cellsStr]
    rw [one 67 _ hc.2.2.2.1]
    exact fun d hd => kb_str Tryz.underlying9 hx.2.1 d (by omega)
  · simp only [cellsInt]
    rw [one 68 _ hc.2.2.2.2.1]
    exact fun d hd => kb_int Tryz.underlying3 hx.1.2.2 d (by omega)
  · simp only [cellsStr]
    rw [one 69 _ hc.2.2.2.2.2]
    exact fun d hd => kb_str Tryz.underlying9 hx.2.2 d (by omega)
set_option maxRecDepth 100000 in
theorem eqOp : EqT Tryz.prog 112 4 := ⟨by kernel_rfl, of_decide_eq_true (by kernel_rfl), of_decide_eq_true (by kernel_rfl), by kernel_rfl, by kernel_rfl, of_decide_eq_true (by kernel_rfl), by kernel_rfl⟩
theorem run_eqOp {x : OpD} (hx : OpIn x) (w : World) : (Op.equalIn 10000 112 (.agg (opV x).toArray) (.agg (opV x).toArray)).run Tryz.prog w = .ok true w := by
  have ct : Tryz.prog.cellsOf 112 = 70 := by kernel_rfl
  haveI : DecidableEq (List Value) := fun a b => Classical.propDecidable (a = b)
  have h := eqOp.run (α := List Value) id (fun _ _ h => h) (a := opV x) (b := opV x) (by rw [id, opV_length hx, ct]) (by rw [id, opV_length hx, ct]) (kbOp hx) (kbOp hx) w
  simpa using h
set_option maxHeartbeats 4000000 in
set_option maxRecDepth 100000 in
theorem idsSame_any (l : List (List UInt8)) (A1 A2 : Option Addr) (c1 c2 : Nat) (w : World) (hn : l.length ≤ 1099511627776) (ho : IdsOk l) (h1 : Sl w w.heap.size A1 l.length 32 (idsV l)) (h2 : Sl w w.heap.size A2 l.length 32 (idsV l)) :
    Calls Tryz.prog 20 #[.slice A1 l.length c1, .slice A2 l.length c2] w fun e w' => Below w.heap.size w w' ∧ e = .returned (.bool true) := by
  have H1 := Lib.hid h1; have H2 := Lib.hid h2; have HO := Lib.hid ho
  clear h1 h2 ho
  go_enter Tryz.func20, Tryz.ntmps20
  go_wp2_with fail
  go_loopw [5] (fun t wr => ∃ i : Nat, i ≤ l.length ∧ t = .int .i64 i ∧ Hid (Below w.heap.size w wr)) (fun t _ => l.length - (intOf t).toNat)
  case atStart => exact ⟨0, by omega, rfl, Lib.hid (qB _ _)⟩
  case round =>
    obtain ⟨i, hi, rfl, HBR⟩ := hrel
    by_cases hlt : i < l.length
    · obtain ⟨b1, o1, rfl, hbl1, hc1⟩ := (H1.out.keep HBR.out).2 (by omega)
      obtain ⟨b2, o2, rfl, hbl2, hc2⟩ := (H2.out.keep HBR.out).2 (by omega)
      have i0 : (0 : Int) ≤ (i : Int) := by omega
      have i1 : (i : Int) < (l.length : Int) := by omega
      have R1 := Lib.hid (Wd.row (base := wr.heap.size) (Sl.id (B := 0) HO.out hc1 (i := i) hlt) (qL hbl1 HBR.out.size))
      have R2 := Lib.hid (Wd.row (base := wr.heap.size) (Sl.id (B := 0) HO.out hc2 (i := i) hlt) (qL hbl2 HBR.out.size))
      have HX := Lib.hid (show IdOk l[i] from HO.out _ (List.getElem_mem hlt))
      have HEQ : Hid (∀ u : World, (Op.equalIn 10000 41 (.agg (idV l[i]).toArray) (.agg (idV l[i]).toArray)).run Tryz.prog u = .ok true u) := Lib.hid (fun u => (run_eqId HX.out HX.out u).trans (by simp))
      clear hc1 hc2 hbl1 hbl2
      generalize l[i] = x at *
      go_wp2_with fail
      refine wp_region_wd (base := wr.heap.size) wr (qB _ _) (by kernel_rfl) (by kernel_rfl) ?_
      repeat (first
        | go_big_quiet_skip
        | (go_big_quiet_want
           first
             | (refine quiet_val (fun w' hw' => ex_load 41 _ rfl (p := ⟨b1, o1 + i * 32, none⟩) rfl (qV w' _ _ _ (idV x) _ (R1.out w' hw') Tryz.underlying41 rfl (by rw [idV_length, show x.length = 32 from HX.out]; exact sizeId2))) ?_
                go_big_quiet_on
                simp only [Act.put, List.setIfInBounds_toArray, List.set_cons_zero, List.set_cons_succ])
             | (refine quiet_val (fun w' hw' => ex_load 41 _ rfl (p := ⟨b2, o2 + i * 32, none⟩) rfl (qV w' _ _ _ (idV x) _ (R2.out w' hw') Tryz.underlying41 rfl (by rw [idV_length, show x.length = 32 from HX.out]; exact sizeId2))) ?_
                go_big_quiet_on
                simp only [Act.put, List.setIfInBounds_toArray, List.set_cons_zero, List.set_cons_succ])
             | (refine quiet_val (fun w' hw' => ex_neq 41 _ _ _ rfl (xs := ((idV x)).toArray) (ys := ((idV x)).toArray) rfl rfl (r := true) eqId.noGuard (HEQ.out w')) ?_
                go_big_quiet_on
                simp only [Act.put, List.setIfInBounds_toArray, List.set_cons_zero, List.set_cons_succ, Bool.not_true])
             | (go_big_quiet_op
                go_big_quiet_on)))
      refine wpQuiet_nil ?_
      rintro w' ⟨k, rfl⟩
      have hk := k.2
      generalize k.val = w9 at *
      clear k
      have HBN := Lib.hid (HBR.out.trans (hk.mono HBR.out.size))
      clear hk
      go_wp2_with fail
      go_roundw
      case rel => exact ⟨i + 1, by omega, by go_num, HBN⟩
      case measure => simp [intOf]; omega
    · have i1 : ¬ (i : Int) < (l.length : Int) := by omega
      go_wp2_with fail
      go_ret
      exact ⟨HBR.out, rfl⟩
set_option maxHeartbeats 4000000 in
set_option maxRecDepth 100000 in
theorem sameCh_any (c : ChangeD) (v1 v2 : Value) (w : World) (h1 : ChIn w w.heap.size v1 c) (h2 : ChIn w w.heap.size v2 c) (hl1 : c.2.1.length ≤ 1099511627776) (hl2 : c.2.2.2.length ≤ 1099511627776) :
    Calls Tryz.prog 31 #[v1, v2] w fun e w' => Below w.heap.size w w' ∧ e = .returned (.bool true) := by
  obtain ⟨ok, hop, ha, A1, c1, A3, c3, rfl, s1, s3⟩ := h1
  obtain ⟨-, -, -, A2, c2, A4, c4, rfl, s2, s4⟩ := h2
  obtain ⟨n, ds, au, os⟩ := c
  dsimp only at *
  have H1 := Lib.hid s1; have H2 := Lib.hid s2; have H3 := Lib.hid s3; have H4 := Lib.hid s4; have HI := Lib.hid ok.2.1; have HOP := Lib.hid hop
  clear s1 s2 s3 s4 ok hop
  go_enter Tryz.func31, Tryz.ntmps31
  go_upto_region 1 with (first
    | (with_reducible refine at_box ?_
       refine wp_boxM (by rfl) 37 _ rfl [.int .i64 n, .slice A1 ds.length c1, .string au, .slice A3 os.length c3] _ rfl rfl (by kernel_rfl) ?_
       intro W0 hb0 hz0 hs0
       have HB0 := Lib.hid hb0; have HZ0 := Lib.hid hz0
       clear hb0 hz0 hs0)
    | (with_reducible refine at_box ?_
       refine wp_boxM (by rfl) 37 _ rfl [.int .i64 n, .slice A2 ds.length c2, .string au, .slice A4 os.length c4] _ rfl rfl (by kernel_rfl) ?_
       intro W1 hb1 hz1 hs1
       have HB1 := Lib.hid hb1; have HZ1 := Lib.hid hz1
       clear hb1 hz1 hs1))
  have hx0 := (qX HZ0.out)
  have HZ0' := Lib.hid ((HB1.out.block w.heap.size hx0).trans HZ0.out)
  have HBW := Lib.hid (HB0.out.trans (HB1.out.mono (Nat.le_of_lt hx0)))
  have hx1 := (qX HZ1.out)
  obtain ⟨z1, hz1⟩ : ∃ z, w.heap.size = z := ⟨_, rfl⟩
  obtain ⟨z2, hz2⟩ : ∃ z, W0.heap.size = z := ⟨_, rfl⟩
  rw [hz1] at HZ0' ⊢
  rw [hz2] at HZ1 ⊢
  have q1 : z1 < W1.heap.size := by omega
  have q2 : z2 < W1.heap.size := by omega
  have HC := Lib.hid (fun (u : World) (hu : Below W1.heap.size W1 u) => (show (u.cell? ⟨z1, 0, none⟩ = some (.int .i64 n) ∧ u.cell? ⟨z1, 1, none⟩ = some (.slice A1 ds.length c1) ∧ u.cell? ⟨z1, 2, none⟩ = some (.string au) ∧ u.cell? ⟨z1, 3, none⟩ = some (.slice A3 os.length c3)) ∧ u.cell? ⟨z2, 0, none⟩ = some (.int .i64 n) ∧ u.cell? ⟨z2, 1, none⟩ = some (.slice A2 ds.length c2) ∧ u.cell? ⟨z2, 2, none⟩ = some (.string au) ∧ u.cell? ⟨z2, 3, none⟩ = some (.slice A4 os.length c4) from
    ⟨⟨(hu.cell q1).trans (cells_at0 HZ0'.out 0), (hu.cell q1).trans (cells_at0 HZ0'.out 1), (hu.cell q1).trans (cells_at0 HZ0'.out 2), (hu.cell q1).trans (cells_at0 HZ0'.out 3)⟩, (hu.cell q2).trans (cells_at0 HZ1.out 0), (hu.cell q2).trans (cells_at0 HZ1.out 1), (hu.cell q2).trans (cells_at0 HZ1.out 2), (hu.cell q2).trans (cells_at0 HZ1.out 3)⟩))
  obtain ⟨⟨b0, b1, b2, b3⟩, b4, b5, b6, b7⟩ := HC.out W1 (qB _ _)
  try simp only [Act.put, List.setIfInBounds_toArray, List.set_cons_zero, List.set_cons_succ]
  clear hx0 hx1 HZ0 HZ1 HB0 HB1 hz1 hz2 HZ0'
  have nn : ((n == n) = true) := by simp
  go_upto_region 3 with (first
    | (go_at_call 20; refine (idsSame_any ds A1 A2 c1 c2 W1 hl1 HI.out ((H1.out.keep HBW.out).more HBW.out.size) ((H2.out.keep HBW.out).more HBW.out.size)).mono ?_; rintro e W2 ⟨hb2, rfl⟩
       obtain ⟨⟨b0', b1', b2', b3'⟩, b4', b5', b6', b7'⟩ := HC.out W2 hb2
       have HB2 := Lib.hid hb2
       clear hb2))
  clear b0 b1 b2 b3 b4 b5 b6 b7 b0' b1' b2' b3' b4' b5' b6' b7'
  go_wp2_with fail
  go_loopw [5] (fun t wr => ∃ i : Nat, i ≤ os.length ∧ t = .int .i64 i ∧ Hid (Below W1.heap.size W1 wr)) (fun t _ => os.length - (intOf t).toNat)
  case atStart => exact ⟨0, by omega, rfl, HB2⟩
  case round =>
    obtain ⟨i, hi, rfl, HBR⟩ := hrel
    have HBT := Lib.hid (HBW.out.trans (HBR.out.mono HBW.out.size))
    obtain ⟨⟨-, -, -, e3⟩, -, -, -, e7⟩ := HC.out wr HBR.out
    by_cases hlt : i < os.length
    · obtain ⟨b1, o1, rfl, hbl1, hc1⟩ := (H3.out.keep HBT.out).2 (by omega)
      obtain ⟨b2, o2, rfl, hbl2, hc2⟩ := (H4.out.keep HBT.out).2 (by omega)
      have i0 : (0 : Int) ≤ (i : Int) := by omega
      have i1 : (i : Int) < (os.length : Int) := by omega
      have R1 := Lib.hid (Wd.row (base := wr.heap.size) (Sl.row (fun x hx => opV_length (HOP.out x hx)) hc1 hlt) (qL hbl1 HBT.out.size))
      have R2 := Lib.hid (Wd.row (base := wr.heap.size) (Sl.row (fun x hx => opV_length (HOP.out x hx)) hc2 hlt) (qL hbl2 HBT.out.size))
      have HX := Lib.hid (HOP.out _ (List.getElem_mem hlt))
      clear hc1 hc2 hbl1 hbl2
      generalize os[i] = x at *
      have HEQ := Lib.hid (fun (u : World) => run_eqOp HX.out u)
      have f3 := Wd.cell (base := wr.heap.size) e3 (qL q1 HBR.out.size)
      have f7 := Wd.cell (base := wr.heap.size) e7 (qL q2 HBR.out.size)
      go_upto_region 6 with fail
      refine wp_region_wd (base := wr.heap.size) wr (qB _ _) (by kernel_rfl) (by kernel_rfl) ?_
      repeat (first
        | go_big_quiet_skip
        | (go_big_quiet_want
           first
             | (refine quiet_val (fun w' hw' => ex_load 112 _ rfl (p := ⟨b1, o1 + i * 70, none⟩) rfl (qV w' _ _ _ (opV x) _ (R1.out w' hw') Tryz.underlying112 rfl (by rw [opV_length HX.out]; exact sizeOp70))) ?_
                go_big_quiet_on
                simp only [Act.put, List.setIfInBounds_toArray, List.set_cons_zero, List.set_cons_succ])
             | (refine quiet_val (fun w' hw' => ex_load 112 _ rfl (p := ⟨b2, o2 + i * 70, none⟩) rfl (qV w' _ _ _ (opV x) _ (R2.out w' hw') Tryz.underlying112 rfl (by rw [opV_length HX.out]; exact sizeOp70))) ?_
                go_big_quiet_on
                simp only [Act.put, List.setIfInBounds_toArray, List.set_cons_zero, List.set_cons_succ])
             | (refine quiet_val (fun w' hw' => ex_neq 112 _ _ _ rfl (xs := ((opV x)).toArray) (ys := ((opV x)).toArray) rfl rfl (r := true) eqOp.noGuard (HEQ.out w')) ?_
                go_big_quiet_on
                simp only [Act.put, List.setIfInBounds_toArray, List.set_cons_zero, List.set_cons_succ, Bool.not_true])
             | (go_big_quiet_op
                go_big_quiet_on)))
      refine wpQuiet_nil ?_
      rintro w' ⟨k, rfl⟩
      have hk := k.2
      generalize k.val = w9 at *
      clear k
      have HBN := Lib.hid (HBR.out.trans (hk.mono HBR.out.size))
      clear hk f3 f7
      go_wp2_with fail
      go_roundw
      case rel => exact ⟨i + 1, by omega, by go_num, HBN⟩
      case measure => simp [intOf]; omega
    · have i1 : ¬ (i : Int) < (os.length : Int) := by omega
      go_wp2_with fail
      go_ret
      exact ⟨HBT.out, rfl⟩
theorem zeroCm_run (w : World) : (zeroValue 68).run Tryz.prog w = .ok (.agg ([.slice none 0 0, .slice none 0 0, .string noneS, .string noneS, .int .i64 0] : List Value).toArray) w := by kernel_rfl
end Go.Proofs.YtdgbjhfkmembdaaGreatDoor
