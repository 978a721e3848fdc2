/-
  The chapter's first change, as the law makes it. Conditions: the tables hold what the program's text lays.
-/
import Derived.Test.YtdgbjhfkmembdaaGreatDoorStateAdd
import Derived.Test.YtdgbjhfkmembdaaGreatDoorIds15
namespace Go.Proofs.YtdgbjhfkmembdaaGreatDoor
open Go.RowKit Go.Maps
set_option linter.unusedVariables false
set_option linter.unusedSimpArgs false

theorem ex_buildSlice15 {P : Program} {ρ : Operand → Value} {o : Oper} {w : World} (t : TypeId) (x y : Operand) (ho : o.op = .buildSlice t 2 #[(0, x), (1, y)])
    (e : TypeId) (ht : P.underlying t = some (.slice e)) (z : Value) (size bytes : Nat) (hinf : (P.info? e).map (fun i => (i.zero, i.size, i.bytes)) = some (some z, size, bytes)) (hz1 : z.cells.size = size) (hsz : 0 < size) (hmax : 2 * size ≤ 16777216)
    (us vs : List Value) (hl : us.length = size) (hl2 : vs.length = size) (hx : ρ x = .agg us.toArray) (hy : ρ y = .agg vs.toArray) : (execOp ρ o).run P w = .ok (.value (.slice (some ⟨w.heap.size, 0, none⟩) 2 2)) (w.alloc (.cells (us ++ vs).toArray e)) := by
  have hrun := run_buildSliceN w t e ht z size bytes hinf hz1 hsz [.agg us.toArray, .agg vs.toArray] (fun v hv => by
    simp only [List.mem_cons, List.not_mem_nil, or_false] at hv
    rcases hv with rfl | rfl
    · exact hl
    · exact hl2) (by simp) (by simpa using hmax)
  simp only [List.flatMap_cons, List.flatMap_nil, List.append_nil] at hrun
  unfold execOp
  have h2 : (Instr.buildSlice t 2 #[(0, .agg us.toArray), (1, .agg vs.toArray)]).run P w = .ok (.slice (some ⟨w.heap.size, 0, none⟩) 2 2) (w.alloc (.cells (us ++ vs).toArray e)) := hrun
  simp only [ho, List.map_toArray, List.map_cons, List.map_nil, hx, hy, Sem.run_bind, h2, Result.andThen_ok, Sem.run_pure]
theorem wp_valW {P : Program} {ops : Array Oper} {rest : List Oper} {o : Oper} {a : Act} {v : Value} {w w' : World} {Q : Exit → Act → World → Prop} (hw : Region.wanted o (yielded ops a.tmps) = true) (h : (execOp a.eval o).run P w = .ok (.value v) w') (hk : wpList P ops Q rest (a.put o.dst v) w') : wpList P ops Q (o :: rest) a w :=
  BigFrame.wpList_want hw fun K hK => by
    have := hK _ _ hk
    unfold Oper.wp
    rw [h]
    exact this
def o15a : OpD := (3, zeroRef, zeroRef, noneS, 0, aS)
def o15b : OpD := (1, zeroRef, zeroRef, hiS, 0, noneS)
theorem o15a_built (w : World) : (Instr.build 112 #[(0, .int .u8 3), (5, .string ⟨#[97]⟩)]).run Tryz.prog w = .ok (.agg (opV o15a).toArray) w := by kernel_rfl
theorem o15b_built (w : World) : (Instr.build 112 #[(0, .int .u8 1), (3, .string ⟨#[104, 105]⟩)]).run Tryz.prog w = .ok (.agg (opV o15b).toArray) w := by kernel_rfl
theorem ch15_built (a : Addr) (w : World) : (Instr.build 37 #[(0, .int .i64 1), (2, .string ⟨#[65, 110, 110]⟩), (3, .slice (some a) 2 2)]).run Tryz.prog w = .ok (.agg (chC 1 none 0 0 annS (some a) 2 2).toArray) w := by kernel_rfl
theorem chZ_run15 (w : World) : (zeroValue 37).run Tryz.prog w = .ok (.agg (chC 0 none 0 0 noneS none 0 0).toArray) w := by kernel_rfl
theorem o15a_in : OpIn o15a := ⟨⟨⟨rfl, by decide⟩, ⟨rfl, by decide⟩, by decide⟩, by decide, by decide⟩
theorem o15b_in : OpIn o15b := ⟨⟨⟨rfl, by decide⟩, ⟨rfl, by decide⟩, by decide⟩, by decide, by decide⟩
theorem c15_ops : ∀ x ∈ c15.2.2.2, OpIn x := by
  intro x hx
  rcases List.mem_cons.1 hx with rfl | hx
  · exact o15a_in
  · rw [List.mem_singleton.1 hx]
    exact o15b_in
theorem c15_ok : ChangeOk c15 := ⟨by decide, (fun x hx => by cases hx), fun x hx => (c15_ops x hx).1⟩
theorem rows15 : rowsV opV c15.2.2.2 = opV o15a ++ opV o15b := by
  show rowsV opV [o15a, o15b] = _
  simp [rowsV]
theorem idC15 : idC c15 = i15 := id15
/-- Two results that lie in blocks. -/
theorem results_cc {P : Program} {fn : Func} {p q : Tmp} {t u : TypeId} (h : fn.results = #[.cell p t, .cell q u]) (tmps : Array Value) (w : World) {a b : Addr} {r s : Value} (hp : tmps.getD p undef = .pointer (some a)) (hq : tmps.getD q undef = .pointer (some b)) (hl : (loadVar t a).run P w = .ok r w) (hm : (loadVar u b).run P w = .ok s w) :
    (results fn tmps).run P w = .ok (.tuple #[r, s]) w := by
  have hp' : tmps[p]?.getD undef = .pointer (some a) := by simpa using hp
  have hq' : tmps[q]?.getD undef = .pointer (some b) := by simpa using hq
  simp only [results, h]
  simp [hp', hq', asAddr, hl, hm]
/-- What hello gives. -/
def HelloGives (w : World) (e : Ending) (w' : World) : Prop := Below w.heap.size w w' ∧ ∃ A, e = .returned (.tuple #[.agg (idV i15).toArray, .agg (chC 1 none 0 0 annS A 2 2).toArray]) ∧ Sl w' w'.heap.size A 2 70 (rowsV opV c15.2.2.2)
set_option maxHeartbeats 4000000 in
set_option maxRecDepth 100000 in
theorem hello15_any (w : World) (hg : Glob w) (hsg : ShaG w) : Calls Tryz.prog 45 #[] w (HelloGives w) := by
  have HG := Lib.hid hg; have HSG := Lib.hid hsg
  clear hg hsg
  have hidl : (idV i15).length = 32 := rfl
  have HIDL := Lib.hid hidl
  clear hidl
  go_enter Tryz.func45, Tryz.ntmps45
  go_upto_region 1 with (first
    | (with_reducible refine at_alloc ?_
       first
       | (refine wp_allocM (by rfl) 41 rfl (idV zero32) (by kernel_rfl) ?_
          intro W0 hb0 hy0 hs0
          have HB0 := Lib.hid hb0; have HY0 := Lib.hid hy0; have HS0 := Lib.hid hs0
          clear hb0 hy0 hs0)
       | (refine wp_allocM (by rfl) 37 rfl (chC 0 none 0 0 noneS none 0 0) (chZ_run15 _) ?_
          intro W1 hb1 hy1 hs1
          have HB1 := Lib.hid hb1; have HY1 := Lib.hid hy1; have HS1 := Lib.hid hs1
          clear hb1 hy1 hs1)))
  obtain ⟨b0, hb0⟩ : ∃ z, w.heap.size = z := ⟨_, rfl⟩
  obtain ⟨b1, hb1⟩ : ∃ z, W0.heap.size = z := ⟨_, rfl⟩
  have HBW : Hid (Below w.heap.size w W1) := Lib.hid (HB0.out.trans (HB1.out.mono HB0.out.size))
  have HZ0 := Lib.hid ((HB1.out.block w.heap.size (qX HY0.out)).trans HY0.out)
  rw [hb0] at HZ0 ⊢
  rw [hb1] at HY1 ⊢
  have HL := Lib.hid (show w.heap.size ≤ b0 ∧ b0 < b1 ∧ b1 < W1.heap.size from by have := HS0.out; have := HS1.out; omega)
  clear HB0 HB1 HS0 HS1 HY0 hb0 hb1
  go_upto_region 2 with (first
    | (with_reducible refine at_build ?_
       first
       | refine wp_val (by rfl) (ex_build 112 _ rfl (by simp only [List.map_toArray, List.map_cons, List.map_nil]; with_reducible exact o15a_built _)) ?_
       | refine wp_val (by rfl) (ex_build 112 _ rfl (by simp only [List.map_toArray, List.map_cons, List.map_nil]; with_reducible exact o15b_built _)) ?_
       | refine wp_val (by rfl) (ex_build 37 _ rfl (by simp only [List.map_toArray, List.map_cons, List.map_nil]; with_reducible exact ch15_built _ _)) ?_)
    | (with_reducible refine at_alloc ?_
       refine wp_allocM (by rfl) 37 rfl (chC 0 none 0 0 noneS none 0 0) (chZ_run15 _) ?_
       intro W2 hb2 hy2 hs2
       have HB2 := Lib.hid hb2; have HY2 := Lib.hid hy2; have HS2 := Lib.hid hs2
       clear hb2 hy2 hs2)
    | (with_reducible refine at_store ?_
       refine wp_storeM (by rfl) 37 _ _ rfl WX.heap.size 0 [] (chC 0 none 0 0 noneS none 0 0) [] (chC 1 none 0 0 annS (some ⟨W1.heap.size, 0, none⟩) 2 2) 37 (.agg (chC 1 none 0 0 annS (some ⟨W1.heap.size, 0, none⟩) 2 2).toArray) rfl rfl rfl rfl (by simpa using HY2.out) rfl (by kernel_rfl) (chC_one _ _ _ _ _ _ _ _) ?_
       intro W3 hb3 hy3 hs3
       have HB3 := Lib.hid hb3; have HS3 := Lib.hid hs3
       have HY3 : Hid (W3.heap[WX.heap.size]? = some (.cells (chC 1 none 0 0 annS (some ⟨W1.heap.size, 0, none⟩) 2 2).toArray 37 (0, 0))) := Lib.hid (by simpa using hy3)
       clear hb3 hy3 hs3)
    | (refine wp_valW (by rfl) (ex_buildSlice15 35 _ _ rfl 112 Tryz.underlying35 (.agg (opV (0, zeroRef, zeroRef, noneS, 0, noneS)).toArray) 70 128 infoOp15 rfl (by decide) (by decide) (opV o15a) (opV o15b) (opV_length o15a_in) (opV_length o15b_in) rfl rfl) ?_
       have hyx := heap_alloc_new W1 (.cells (opV o15a ++ opV o15b).toArray 112)
       have hbx : Below W1.heap.size W1 (W1.alloc (.cells (opV o15a ++ opV o15b).toArray 112)) := (qB _ _).alloc (qR _) _
       obtain ⟨WX, hWX⟩ : ∃ z, W1.alloc (.cells (opV o15a ++ opV o15b).toArray 112) = z := ⟨_, rfl⟩
       rw [hWX] at hyx hbx ⊢
       have HYX := Lib.hid hyx; have HBX := Lib.hid hbx
       clear hyx hbx hWX))
  obtain ⟨gs, hgs⟩ : ∃ z, W1.heap.size = z := ⟨_, rfl⟩
  obtain ⟨b2, hb2⟩ : ∃ z, WX.heap.size = z := ⟨_, rfl⟩
  have hbX3 : Below WX.heap.size WX W3 := HB2.out.trans (HB3.out.below (by have := HS2.out; omega) fun k hk e => by have e2 : k = WX.heap.size := e; omega)
  have HBW3 : Hid (Below w.heap.size w W3) := Lib.hid (HBW.out.trans ((HBX.out.trans (hbX3.mono HBX.out.size)).mono HBW.out.size))
  have HYS := Lib.hid ((hbX3.block W1.heap.size (qX HYX.out)).trans HYX.out)
  have HZ3 := Lib.hid ((hbX3.block b0 (qL (qX HZ0.out) HBX.out.size)).trans ((HBX.out.block b0 (qX HZ0.out)).trans HZ0.out))
  have HY13 := Lib.hid ((hbX3.block b1 (qL (qX HY1.out) HBX.out.size)).trans ((HBX.out.block b1 (qX HY1.out)).trans HY1.out))
  have HL3 := Lib.hid (show w.heap.size ≤ b0 ∧ b0 < b1 ∧ b1 < gs ∧ gs < b2 ∧ b2 < W3.heap.size from by have := HL.out; have := qX HYX.out; have := qX HY3.out; omega)
  rw [hgs] at HY3 HYS ⊢
  rw [hb2] at HY3 ⊢
  clear hbX3 hgs hb2 HYX HBX HB2 HB3 HS2 HS3 HY2 HZ0 HY1 HL HBW
  have HSL : Hid (Sl W3 W3.heap.size (some ⟨gs, 0, none⟩) 2 70 (rowsV opV c15.2.2.2)) := Lib.hid (by
    rw [rows15]
    exact ⟨by rw [List.length_append, opV_length o15a_in, opV_length o15b_in], fun _ => ⟨gs, 0, rfl, qX HYS.out, fun j u hj => by rw [Nat.zero_add]; exact (cells_at0 HYS.out j).trans hj⟩⟩)
  have HOI := Lib.hid (objId_any (1, c15, noCommitD) _ W3 (change_obj (cd := 0) (co := 2) (Ad := none) c15_ok c15_ops (by decide) Sl.nil HSL.out) (by decide) (by decide) (by decide) (by decide) (HG.out.next HBW3.out) (HSG.out.next HBW3.out))
  have HR2 := Lib.hid (show W3.rangeAt b2 0 (chC 1 none 0 0 annS (some ⟨gs, 0, none⟩) 2 2) from fun j u hj => by rw [qZ]; exact (cells_at0 HY3.out j).trans hj)
  go_upto_region 3 with (first
    | (with_reducible refine at_load ?_
       refine wp_val (by rfl) (ex_load 37 _ rfl (p := ⟨b2, 0, none⟩) rfl (qV _ b2 0 _ _ _ HR2.out Tryz.underlying37 rfl (by kernel_rfl))) ?_)
    | (with_reducible refine at_build ?_
       refine wp_val (by rfl) (ex_build 70 _ rfl (by simp only [List.map_toArray, List.map_cons, List.map_nil]; exact obj_built15 _ _ _ _ _ _ _ _ _)) ?_)
    | (go_at_call 46; refine HOI.out.mono ?_
       rintro e W4 ⟨rfl, hb4⟩
       rw [id15, enc15]
       have HB4 := Lib.hid hb4
       clear hb4)
    | (with_reducible refine at_alloc ?_
       refine wp_allocM (by rfl) 41 rfl (idV zero32) (by kernel_rfl) ?_
       intro W5 hb5 hy5 hs5
       have HB5 := Lib.hid hb5; have HY5 := Lib.hid hy5; have HS5 := Lib.hid hs5
       clear hb5 hy5 hs5)
    | (with_reducible refine at_store ?_
       refine wp_storeM (by rfl) 41 _ _ rfl W4.heap.size 0 [] (idV zero32) [] (idV i15) 41 (.agg (idV i15).toArray) rfl rfl rfl rfl (by simpa using HY5.out) (by rw [HIDL.out]; rfl) (by rw [HIDL.out]; kernel_rfl) (idV_one _) ?_
       intro W6 hb6 hy6 hs6
       have HB6 := Lib.hid hb6
       have HY6 : Hid (W6.heap[W4.heap.size]? = some (.cells (idV i15).toArray 41 (0, 0))) := Lib.hid (by simpa using hy6)
       clear hb6 hy6 hs6))
  obtain ⟨b3, hb3⟩ : ∃ z, W4.heap.size = z := ⟨_, rfl⟩
  have hb36 : Below W3.heap.size W3 W6 := HB4.out.trans ((HB5.out.trans (HB6.out.below (B := W4.heap.size) (by have := HS5.out; omega) fun k hk e => by have e2 : k = W4.heap.size := e; omega)).mono HB4.out.size)
  have HB36 := Lib.hid hb36
  have HL6 := Lib.hid (show b2 < b3 from by have := HL3.out; have := HB4.out.size; omega)
  rw [hb3] at HY6 ⊢
  clear hb36 hb3 HB4 HB5 HS5 HY5 HB6 HOI HR2
  have HY26 := Lib.hid ((HB36.out.block b2 (qX HY3.out)).trans HY3.out)
  have HZ6 := Lib.hid ((HB36.out.block b0 (qX HZ3.out)).trans HZ3.out)
  have HY16 := Lib.hid ((HB36.out.block b1 (qX HY13.out)).trans HY13.out)
  have HFU := Lib.hid (show ∀ u : World, But (fun k => k = b0) W6 u → u.rangeAt b3 0 (idV i15) ∧ u.rangeAt b2 0 (chC 1 none 0 0 annS (some ⟨gs, 0, none⟩) 2 2) from fun u hu => ⟨fun j x hj => by rw [qZ]; exact (cells_at0 ((hu.block b3 (qX HY6.out) (by have := HL6.out; have := HL3.out; omega)).trans HY6.out) j).trans hj, fun j x hj => by rw [qZ]; exact (cells_at0 ((hu.block b2 (qX HY26.out) (by have := HL3.out; omega)).trans HY26.out) j).trans hj⟩)
  refine rN 3 (fun u => But (fun k => k = b0) W6 u) (But.of_below (qD _ _)) fun hF0 => ?_
  refine tl 0 (.agg (idV i15).toArray) rfl hF0 (fun w' hw' => ldD (rfl : IdOk i15) (HFU.out w' hw').1) ?_
  go_frame
  refine tl 1 (.agg (chC 1 none 0 0 annS (some ⟨gs, 0, none⟩) 2 2).toArray) rfl hF0 (fun w' hw' => ex_load 37 _ rfl (p := ⟨b2, 0, none⟩) rfl (qV _ b2 0 _ _ _ (HFU.out w' hw').2 Tryz.underlying37 rfl (by kernel_rfl))) ?_
  go_frame
  refine ta 2 ?_
  refine wpOp_storeM _ rfl (by kernel_rfl) 41 _ _ rfl b0 0 [] (idV zero32) [] (idV i15) 41 (.agg (idV i15).toArray) rfl rfl rfl rfl (by simpa using (show W6.drew.heap[b0]? = _ from HZ6.out)) (by rw [HIDL.out]; rfl) (by rw [HIDL.out]; kernel_rfl) (idV_one _) ?_
  intro W7 hb7 hy7 hs7
  have HF7 : Hid (But (fun k => k = b0) W6 W7) := Lib.hid ((But.refl _ W6).drew.trans hb7 fun k _ e => e)
  have HY7 : Hid (W7.heap[b0]? = some (.cells (idV i15).toArray 41 (0, 0))) := Lib.hid (by simpa using hy7)
  have HY17 := Lib.hid ((HF7.out.block b1 (qX HY16.out) (by have := HL3.out; omega)).trans HY16.out)
  clear hb7 hy7 hs7
  refine ⟨fun _ _ => HF7.out, ?_⟩
  go_frame
  refine ta 3 ?_
  refine wpOp_storeM _ rfl (by kernel_rfl) 37 _ _ rfl b1 0 [] (chC 0 none 0 0 noneS none 0 0) [] (chC 1 none 0 0 annS (some ⟨gs, 0, none⟩) 2 2) 37 (.agg (chC 1 none 0 0 annS (some ⟨gs, 0, none⟩) 2 2).toArray) rfl rfl rfl rfl (by simpa using HY17.out) rfl (by kernel_rfl) (chC_one _ _ _ _ _ _ _ _) ?_
  intro W8 hb8 hy8 hs8
  have HB8 := Lib.hid hb8
  have HY8 : Hid (W8.heap[b1]? = some (.cells (chC 1 none 0 0 annS (some ⟨gs, 0, none⟩) 2 2).toArray 37 (0, 0))) := Lib.hid (by simpa using hy8)
  have HY08 := Lib.hid ((hb8.block b0 (qX HY7.out) (by have := HL3.out; omega)).trans HY7.out)
  clear hb8 hy8 hs8
  refine ⟨fun h => absurd h (by decide), ?_⟩
  go_frame
  refine wpAnyN_done (by kernel_rfl) ?_ _
  go_wp2_with fail
  refine bodyPost_ret (results_cc Tryz.results45 _ _ rfl rfl (qV _ b0 0 41 (idV i15) _ (fun j u hj => by rw [qZ]; exact (cells_at0 HY08.out j).trans hj) Tryz.underlying41 rfl (by rw [HIDL.out]; kernel_rfl)) (qV _ b1 0 37 (chC 1 none 0 0 annS (some ⟨gs, 0, none⟩) 2 2) _ (fun j u hj => by rw [qZ]; exact (cells_at0 HY8.out j).trans hj) Tryz.underlying37 rfl (by kernel_rfl))) rfl ?_
  have hbt : But (fun k => k = b0 ∨ k = b1) W6 W8 := (HF7.out.weak fun k _ e => Or.inl e).trans HB8.out fun k _ e => Or.inr e
  have hbw : Below w.heap.size w W8 := (HBW3.out.trans (HB36.out.mono HBW3.out.size)).trans (hbt.below (HBW3.out.trans (HB36.out.mono HBW3.out.size)).size fun k hk e => by have := HL3.out; rcases e with rfl | rfl <;> omega)
  refine ⟨hbw, _, rfl, ?_⟩
  have hys : W8.heap[gs]? = some (.cells (opV o15a ++ opV o15b).toArray 112 (0, 0)) := (hbt.block gs (qL (qX HYS.out) HB36.out.size) (by have := HL3.out; intro e; rcases e with e | e <;> omega)).trans ((HB36.out.block gs (qX HYS.out)).trans HYS.out)
  rw [rows15]
  exact ⟨by rw [List.length_append, opV_length o15a_in, opV_length o15b_in], fun _ => ⟨gs, 0, rfl, qX hys, fun j u hj => by rw [Nat.zero_add]; exact (cells_at0 hys j).trans hj⟩⟩
end Go.Proofs.YtdgbjhfkmembdaaGreatDoor
