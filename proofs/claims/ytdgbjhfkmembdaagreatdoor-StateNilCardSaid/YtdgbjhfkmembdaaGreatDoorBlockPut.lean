/-
  A run is put among a document's runs. Conditions: the document lies in memory; at most 2^30 runs.
-/
import Derived.Test.YtdgbjhfkmembdaaGreatDoorBlockFind
import Derived.Test.YtdgbjhfkmembdaaGreatDoorObjOps1
import Derived.Test.YtdgbjhfkmembdaaGreatDoorSliceOp
import Derived.Test.YtdgbjhfkmembdaaGreatDoorBuild
import Derived.Test.YtdgbjhfkmembdaaGreatDoorHandL
import Derived.Test.YtdgbjhfkmembdaaGreatDoorShiftN
namespace Go.Proofs.YtdgbjhfkmembdaaGreatDoor
open Go.RowKit Go.Maps
set_option linter.unusedVariables false
set_option linter.unusedSimpArgs false

theorem infoRun : (Tryz.prog.info? 177).map (fun i => (i.zero, i.size, i.bytes)) = some (some (.agg runZ.toArray), 36, 80) := by kernel_rfl
theorem runZ_built (w : World) : (Instr.build 177 #[]).run Tryz.prog w = .ok (.agg runZ.toArray) w := by kernel_rfl
/-- copy, at a step taken by hand. -/
theorem ex_copy {P : Program} {ρ : Operand → Value} {op : Oper} {w W : World} (d s : Operand) (dT sT : TypeId) (ho : op.op = .call { callee := .builtin .copy, args := #[d, s], argTypes := #[dT, sT] }) {v1 v2 r : Value} (hd : ρ d = v1) (hs : ρ s = v2)
    (h : (Builtin.copy_ #[dT, sT] op.type #[v1, v2]).run P w = .ok r W) : (execOp ρ op).run P w = .ok (.value r) W := by
  unfold execOp
  simp only [ho, resolve, invoke, builtin, Sem.run_bind, Sem.run_pure, Result.andThen_ok, List.map_toArray, List.map_cons, List.map_nil, hd, hs, h]
def DPutGives (w : World) (B p : Nat) (v : Value) (rs : List RunM) (e : Ending) (w' : World) : Prop :=
  e = .returned (.tuple #[]) ∧ ∃ v', DocRows w' B p v' rs ∧ But (DocX p v) w w' ∧ Newer w v v'
set_option maxHeartbeats 4000000 in
set_option maxRecDepth 100000 in
theorem put_run (rs : List RunM) (i : Nat) (r : RunM) (B p : Nat) (v : Value) (w : World) (h : DocRows w B p v rs) (hr : RunIn w r) (hi : i ≤ rs.length) (hl : rs.length ≤ 1073741824) :
    Calls Tryz.prog 159 #[.pointer (some ⟨p, 0, none⟩), .int .i64 (i : Int), .agg (runV r).toArray] w (DPutGives w B p v (rs.take i ++ r :: rs.drop i)) := by
  have HD := Lib.hid h; have HR := Lib.hid hr
  have hlt := h.lt
  have hrl := runV_length hr
  clear h hr
  go_enter Tryz.func159, Tryz.ntmps159
  go_upto_region 1 with (first
    | (with_reducible refine at_box ?_
       refine wp_boxM (by rfl) 177 _ rfl (runV r) _ rfl rfl (by rw [hrl]; kernel_rfl) ?_
       intro W0 hb0 hy0 hs0
       have HB0 := Lib.hid hb0; have HY0 := Lib.hid hy0; have HS0 := Lib.hid hs0
       clear hb0 hy0 hs0))
  obtain ⟨b0, hb0⟩ : ∃ b0, w.heap.size = b0 := ⟨_, rfl⟩
  have HD0 := Lib.hid (HD.out.keep HB0.out)
  have HLB := Lib.hid (show b0 < W0.heap.size by have := HS0.out; omega)
  obtain ⟨s, t, hbx⟩ := HD0.out.box
  have HBX := Lib.hid hbx
  have c0 : W0.cell? ⟨p, 0, none⟩ = some v := cells_at0 hbx 0
  have HNB := Lib.hid (show ¬ DocX p v b0 from fun q => by
    rcases q with q | q
    · omega
    · have := (HD.out.own.lt b0 q).2
      omega)
  have HRO := Lib.hid (show ∀ u ∈ rowsV runV rs, u.oneCell' = true from fun u hu => by
    obtain ⟨x, hx, hu⟩ := List.mem_flatMap.1 hu
    exact runV_one x (HD.out.ins x hx).2.1.one u hu)
  have HR1 := Lib.hid (runV_one r HR.out.2.1.one)
  have HOWN := Lib.hid (fun (u : World) (hu : Below W0.heap.size W0 u) => (But.of_below (X := NoB) hu).own HD0.out.own fun _ _ q => q)
  have HBW := Lib.hid (show B ≤ W0.heap.size from qT HD.out.low (Nat.le_of_lt (qL hlt HB0.out.size)))
  clear hbx
  rw [hb0] at HY0 ⊢
  have HNP := Lib.hid (show v.ownBlock ≠ some p from fun e => by
    obtain ⟨cur, hc⟩ := own_tagged HD0.out.own e
    exact ne_tag hc HBX.out (by decide) rfl)
  go_upto_region 2 with (first
    | (with_reducible refine at_build ?_
       refine wp_val (by rfl) (ex_build 177 _ rfl (runZ_built _)) ?_)
    | (refine wp_buildSlice1 (by rfl) 190 _ rfl 177 Tryz.underlying190 (.agg runZ.toArray) 36 80 infoRun rfl (by decide) (by decide) runZ rfl rfl ?_)
    | (refine wp_appS_w (by rfl) _ _ 190 rfl B 177 (.agg runZ.toArray) 36 80 Tryz.underlying190 infoRun rfl (by decide) v rs.length (rowsV runV rs) rfl (HOWN.out _ ((qB _ _).alloc (qR _) _)) ⟨W0.heap.size, 0, none⟩ 1 1 runZ rfl rfl (news_cells W0 _ _) runZ_one (by unfold maxLen; omega) (by omega) (by have := HBW.out; simp; omega) ?_
       intro v1 w1 ho1 hg1 hw1
       obtain ⟨g1, c1, tail1, rfl, hB1, hgc1, hc1, hm1, ht1⟩ := own_open ho1 (by omega)
       have HC1 := Lib.hid hgc1
       have HP1 := Lib.hid ((hg1.block p (by simpa using Nat.lt_succ_of_lt (qX HBX.out)) (fun e => HNP.out e.symm)).trans ((heap_alloc_old W0 _ (qX HBX.out)).trans HBX.out))
       have HBT := Lib.hid (show But (DocX p v) W0 w1 from ((But.refl _ W0).alloc _).grown hg1 fun k e _ => .inr e)
       have HGX := Lib.hid (show g1 < W0.heap.size → DocX p v g1 from fun h => by
         rcases hw1 with q | ⟨g, q, hz⟩
         · exact .inr (q.symm.trans rfl)
         · have : g1 = g := by simpa [Value.ownBlock] using q
           subst this
           simp at hz
           omega)
       clear ho1 hg1 hw1 hgc1)
    | (with_reducible refine at_store ?_
       refine wp_storeM (by rfl) 190 _ _ rfl p 0 [] [v] [.int .i64 s, .int .i64 t] [.slice (some ⟨g1, 0, none⟩) (rs.length + 1) c1] 192 (.slice (some ⟨g1, 0, none⟩) (rs.length + 1) c1) rfl rfl rfl rfl HP1.out rfl (by kernel_rfl) (by intro u hu; rw [List.mem_singleton.1 hu]; rfl) ?_
       intro w2 hb2 hy2 hs2
       have HB2 := Lib.hid hb2; have HY2 := Lib.hid hy2
       clear hb2 hy2))
  have HPG := Lib.hid (show g1 ≠ p from ne_tag HC1.out HP1.out (by decide))
  have HC2 := Lib.hid ((HB2.out.block g1 (qX HC1.out) HPG.out).trans HC1.out)
  have HP2 : Hid (w2.heap[p]? = some (.cells [.slice (some ⟨g1, 0, none⟩) (rs.length + 1) c1, .int .i64 s, .int .i64 t].toArray 192 (0, 0))) := Lib.hid (by simpa using HY2.out)
  have HBT1 : Hid (But (DocX p v) W0 w1) := Lib.hid HBT.out
  have HBT2 : Hid (But (DocX p v) W0 w2) := Lib.hid (HBT1.out.trans HB2.out fun k hk e => .inl e)
  have HZB := Lib.hid (show w2.rangeAt b0 0 (runV r) from fun j u hj => by rw [qZ]; exact (HBT2.out.cell (g := b0) (j := j) HLB.out HNB.out).trans ((cells_at0 HY0.out j).trans hj))
  obtain ⟨m, W, hm, hrun, hW1, hW2, hW3⟩ := run_shift (P := Tryz.prog) (enc := runV) (sz := 36) w2.drew 190 190 3 177 Tryz.underlying190 sizeRun (runV_len HD.out.ins) hi (z := runZ) (tail := tail1) (by kernel_rfl) (g := g1) (c := c1) (t := 177) HC2.out hc1 (HRO.out)
  have HRUN := Lib.hid hrun; have HWC := Lib.hid hW1; have HWB := Lib.hid hW2; have HM := Lib.hid hm
  clear hrun hW1 hW2 hW3 hm
  have HPW := Lib.hid ((HWB.out.block p (qX HP2.out) (fun e => HPG.out e.symm)).trans HP2.out)
  have HEW := Lib.hid (show IntKind.i64.wrap ((i : Int) + 1) = ((i + 1 : Nat) : Int) by rw [IntWalk.i64_in _ (by omega)]; omega)
  refine rN 13 (fun u => u.cell? ⟨p, 0, none⟩ = some (.slice (some ⟨g1, 0, none⟩) (rs.length + 1) c1)) (cells_at0 HP2.out 0) fun hF0 => ?_
  refine tw 0 (.pointer (some ⟨p, 0, none⟩)) ?_
  go_frame
  refine tw 1 (.pointer (some ⟨p, 0, none⟩)) ?_
  go_frame
  refine tw 2 (.pointer (some ⟨p, 0, none⟩)) ?_
  go_frame
  refine tl 3 (.slice (some ⟨g1, 0, none⟩) (rs.length + 1) c1) rfl hF0 (fun w' hw' => l1 Tryz.underlying190 hw') ?_
  go_frame
  refine tw 4 (.int .i64 (i : Int)) ?_
  go_frame
  refine tw 5 (.int .i64 (IntKind.i64.wrap ((i : Int) + 1))) ?_
  go_frame
  refine tk 6 (sliced (some ⟨g1, 0, none⟩) (i + 1) (rs.length + 1) c1 36) rfl (fun w' hw' => ex_slice_l 190 _ _ rfl (l := i + 1) rfl (congrArg (Value.int .i64) HEW.out) Tryz.underlying190 sizeRun (by omega) rfl) ?_
  go_frame
  refine tw 7 (.pointer (some ⟨p, 0, none⟩)) ?_
  go_frame
  refine tw 8 (.pointer (some ⟨p, 0, none⟩)) ?_
  go_frame
  refine tw 9 (.pointer (some ⟨p, 0, none⟩)) ?_
  go_frame
  refine tl 10 (.slice (some ⟨g1, 0, none⟩) (rs.length + 1) c1) rfl hF0 (fun w' hw' => l1 Tryz.underlying190 hw') ?_
  go_frame
  refine tw 11 (.int .i64 (i : Int)) ?_
  go_frame
  refine tk 12 (sliced (some ⟨g1, 0, none⟩) (i) (rs.length + 1) c1 36) rfl (fun w' hw' => ex_slice_l 190 _ _ rfl (l := i) rfl rfl Tryz.underlying190 sizeRun (by omega) rfl) ?_
  go_frame
  refine ta 13 ?_
  refine wpOp_val _ rfl (by kernel_rfl) (ex_copy (v1 := (sliced (some ⟨g1, 0, none⟩) (i + 1) (rs.length + 1) c1 36)) (v2 := (sliced (some ⟨g1, 0, none⟩) (i) (rs.length + 1) c1 36)) _ _ 190 190 rfl rfl rfl HRUN.out) ?_
  refine ⟨fun h => absurd h (by decide), ?_⟩
  go_frame
  refine wpAnyN_done (by kernel_rfl) ?_ _
  go_upto_region 3 with fail
  have HBT3 : Hid (But (DocX p v) W0 W) := Lib.hid ((HBT2.out.drew).trans HWB.out fun k hk e => by subst e; exact HGX.out hk)
  have HZW := Lib.hid (show W.rangeAt b0 0 (runV r) from fun j u hj => by rw [qZ]; exact (HBT3.out.cell (g := b0) (j := j) HLB.out HNB.out).trans ((cells_at0 HY0.out j).trans hj))
  refine rN 7 (fun u => u.cell? ⟨p, 0, none⟩ = some (.slice (some ⟨g1, 0, none⟩) (rs.length + 1) c1) ∧ u.rangeAt b0 0 (runV r)) ⟨cells_at0 HPW.out 0, HZW.out⟩ fun hF1 => ?_
  refine tw 0 (.pointer (some ⟨p, 0, none⟩)) ?_
  go_frame
  refine tw 1 (.pointer (some ⟨p, 0, none⟩)) ?_
  go_frame
  refine tw 2 (.pointer (some ⟨p, 0, none⟩)) ?_
  go_frame
  refine tl 3 (.slice (some ⟨g1, 0, none⟩) (rs.length + 1) c1) rfl hF1 (fun w' hw' => l1 Tryz.underlying190 hw'.1) ?_
  go_frame
  refine tw 4 (.int .i64 (i : Int)) ?_
  go_frame
  refine tl 5 (.agg (runV r).toArray) rfl hF1 (fun w' hw' => ldU hrl hw'.2) ?_
  go_frame
  refine tk 6 (.pointer (some ⟨g1, 0 + i * 36, none⟩)) rfl (fun w' hw' => ex_indexG 190 _ _ rfl (b := g1) (off := 0) (q := i) (n := rs.length + 1) (c := c1) rfl rfl (by omega) Tryz.underlying190 sizeRun) ?_
  go_frame
  refine ta 7 ?_
  refine wpOp_storeM _ rfl (by kernel_rfl) 177 _ _ rfl g1 (0 + i * 36) (rowsV runV (rs.take i)) m (rowsV runV (rs.drop i) ++ tail1) (runV r) 177 (.agg (runV r).toArray) rfl (by rw [rowsV_length (runV_len fun x hx => HD.out.ins x (List.mem_of_mem_take hx)), List.length_take, Nat.min_eq_left hi, Nat.zero_add]) rfl rfl HWC.out (by rw [HM.out, hrl]) (by rw [hrl]; exact sizeRun) HR1.out ?_
  intro W4 hb4 hy4 hs4
  have HB4 := Lib.hid hb4; have HY4 := Lib.hid hy4
  clear hb4 hy4 hs4
  refine ⟨fun h => absurd h (by decide), ?_⟩
  go_frame
  refine wpAnyN_done (by kernel_rfl) ?_ _
  go_wp2_with fail
  go_end0
  have hBT4 : But (DocX p v) W0 W4 := HBT3.out.drew.trans HB4.out fun k hk e => by
    have e2 : k = g1 := e
    subst e2
    exact HGX.out hk
  have hP4 := (HB4.out.block p (qX HPW.out) (fun e => HPG.out e.symm)).trans HPW.out
  have hKR : KeepR W0 W4 := KeepR.but hBT4 HD0.out.at.noRunes
  refine ⟨rfl, .slice (some ⟨g1, 0, none⟩) (rs.length + 1) c1, ⟨⟨s, t, hP4⟩, HD.out.low, fun x hx => ?_, ?_⟩, (But.of_below HB0.out).trans hBT4 (fun _ _ q => q), fun k hk => ?_⟩
  · rcases List.mem_append.1 hx with hx | hx
    · exact (HD0.out.ins x (List.mem_of_mem_take hx)).keep hKR
    · rcases List.mem_cons.1 hx with rfl | hx
      · exact (HR.out.keep (KeepR.below HB0.out)).keep hKR
      · exact (HD0.out.ins x (List.mem_of_mem_drop hx)).keep hKR
  · have hlen : (rs.take i ++ r :: rs.drop i).length = rs.length + 1 := by simp; omega
    rw [hlen]
    have hins : ∀ x ∈ rs.take i ++ r :: rs.drop i, (runV x).length = 36 := fun x hx => by
      rcases List.mem_append.1 hx with hx | hx
      · exact runV_length (HD.out.ins x (List.mem_of_mem_take hx))
      · rcases List.mem_cons.1 hx with rfl | hx
        · exact hrl
        · exact runV_length (HD.out.ins x (List.mem_of_mem_drop hx))
    refine own_shut (by rw [rowsV_length hins, hlen]) hB1 ?_ hc1 hm1 ht1
    rw [HY4.out]
    simp [rowsV]
  · have hk2 : g1 = k := by simpa [Value.ownBlock] using hk
    subst hk2
    by_cases hz : g1 < W0.heap.size
    · rcases HGX.out hz with q | q
      · exact absurd q HPG.out
      · exact .inl q
    · exact .inr (qT HB0.out.size (by omega))
end Go.Proofs.YtdgbjhfkmembdaaGreatDoor
