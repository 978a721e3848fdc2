/-
  A claim more. Conditions: the state lies in memory; at most 2^30 claims.
-/
import Derived.Test.YtdgbjhfkmembdaaGreatDoorStateKey
import Derived.Test.YtdgbjhfkmembdaaGreatDoorWriterMem
namespace Go.Proofs.YtdgbjhfkmembdaaGreatDoor
open Go.RowKit Go.Maps
set_option linter.unusedVariables false
set_option linter.unusedSimpArgs false

theorem claimV_one15 (c : ClaimD) : ∀ u ∈ claimV c, u.oneCell' = true := claimV_one c
def claimZ : List Value := claimV ((0, zero32, 0), (0, zero32, 0), 0, noneS)
theorem infoClaim15 : (Tryz.prog.info? 135).map (fun i => (i.zero, i.size, i.bytes)) = some (some (.agg claimZ.toArray), 70, 120) := by kernel_rfl
theorem ex_build1N {P : Program} {ρ : Operand → Value} {o : Oper} {w : World} (t : TypeId) (x : Operand) (ho : o.op = .buildSlice t 1 #[(0, x)]) (e : TypeId) (ht : P.underlying t = some (.slice e)) (z : Value) (size bytes : Nat) (hinf : (P.info? e).map (fun i => (i.zero, i.size, i.bytes)) = some (some z, size, bytes)) (hz1 : z.cells.size = size) (hsz : 0 < size) (hmax : size ≤ 16777216)
    (us : List Value) (hl : us.length = size) (hx : ρ x = .agg us.toArray) : (execOp ρ o).run P w = .ok (.value (.slice (some ⟨w.heap.size, 0, none⟩) 1 1)) (w.alloc (.cells us.toArray e)) := by
  have hrun := run_buildSliceN w t e ht z size bytes hinf hz1 hsz [.agg us.toArray] (fun v hv => by rw [List.mem_singleton.1 hv]; exact hl) (by simp) (by simpa using hmax)
  simp only [List.flatMap_cons, List.flatMap_nil, List.append_nil, Value.cells] at hrun
  have h2 : (Instr.buildSlice t 1 #[(0, .agg us.toArray)]).run P w = .ok (.slice (some ⟨w.heap.size, 0, none⟩) 1 1) (w.alloc (.cells us.toArray e)) := hrun
  unfold execOp
  simp only [ho, List.map_toArray, List.map_cons, List.map_nil, hx, Sem.run_bind, h2, Result.andThen_ok, Sem.run_pure]
set_option maxHeartbeats 4000000 in
set_option maxRecDepth 100000 in
theorem claim_any (B s : Nat) (S : StateD) (q : StateL) (c : ClaimD) (w : World) (h : StateAt w B s S q) (hc : ClaimOk c) (hl : S.2.1.length ≤ 1073741824) :
    Calls Tryz.prog 100 #[.pointer (some ⟨s, 0, none⟩), .agg (claimV c).toArray] w fun e w' => e = .returned (.tuple #[]) ∧ But (fun j => j = s ∨ q.vc.ownBlock = some j) w w' ∧ ∃ v', StateAt w' B s (S.1, S.2.1 ++ [c], S.2.2) { q with vc := v' } ∧ Newer w q.vc v' := by
  have HS := Lib.hid h; have HC := Lib.hid hc
  have hcl := claimV_length hc
  clear h hc
  go_enter Tryz.func100, Tryz.ntmps100
  go_upto_region 1 with (first
    | (with_reducible refine at_box ?_
       refine wp_boxM (by rfl) 135 _ rfl (claimV c) _ rfl rfl (by rw [hcl]; kernel_rfl) ?_
       intro W0 hb0 hy0 hs0
       have HB0 := Lib.hid hb0; have HY0 := Lib.hid hy0
       clear hb0 hy0 hs0))
  obtain ⟨b0, hb0⟩ : ∃ b0, w.heap.size = b0 := ⟨_, rfl⟩
  rw [hb0] at HY0 ⊢
  have HNB := Lib.hid (show q.vc.ownBlock ≠ some b0 from fun e => by
    have h1 := (HS.out.claims.lt b0 e).2
    omega)
  clear hb0
  have HST := Lib.hid (HS.out.keep HB0.out)
  have HBS := Lib.hid (show B ≤ W0.heap.size from qT HST.out.low.1 (Nat.le_of_lt (qX HST.out.box)))
  have HNS := Lib.hid HST.out.sep.2.2.1
  have HF : Hid (∀ u : World, Below W0.heap.size W0 u → (fun u => u.cell? ⟨s, 1, none⟩ = some q.vc ∧ u.rangeAt b0 0 (claimV c)) u) := Lib.hid fun u hu =>
    ⟨(hu.cell (p := ⟨s, 1, none⟩) (qX HST.out.box)).trans (cells_at0 HST.out.box 1), fun j v hj => by rw [qZ]; exact (hu.cell (p := ⟨b0, j, none⟩) (qX HY0.out)).trans ((cells_at0 HY0.out j).trans hj)⟩
  refine rN 10 (fun u => u.cell? ⟨s, 1, none⟩ = some q.vc ∧ u.rangeAt b0 0 (claimV c)) (HF.out _ (qD _ _)) fun hF0 => ?_
  refine tw 0 (.pointer (some ⟨s, 0, none⟩)) ?_
  go_frame
  refine tw 1 (.pointer (some ⟨s, 0, none⟩)) ?_
  go_frame
  refine tw 2 (.pointer (some ⟨s, 0, none⟩)) ?_
  go_frame
  refine tw 3 (.pointer (some ⟨s, 1, none⟩)) ?_
  go_frame
  refine tl 4 q.vc rfl hF0 (fun w' hw' => l1 Tryz.underlying82 hw'.1) ?_
  go_frame
  refine tl 5 (.agg (claimV c).toArray) rfl hF0 (fun w' hw' => ex_load 135 _ rfl (p := ⟨b0, 0, none⟩) rfl (qV w' b0 0 _ (claimV c) _ hw'.2 Tryz.underlying135 rfl (by rw [hcl]; kernel_rfl))) ?_
  go_frame
  refine ta 6 ?_
  refine wpOp_val _ rfl (by kernel_rfl) (ex_build1N 82 _ rfl 135 Tryz.underlying82 (.agg claimZ.toArray) 70 120 infoClaim15 rfl (by decide) (by decide) (claimV c) hcl rfl) ?_
  have HBA := Lib.hid ((qD W0.heap.size W0).alloc (qR _) (.cells (claimV c).toArray 135))
  refine ⟨fun _ _ => HF.out _ HBA.out, ?_⟩
  go_frame
  refine ta 7 ?_
  refine wpOp_wp _ rfl (by kernel_rfl) ?_
  refine op_appW _ _ 82 rfl B 135 (.agg claimZ.toArray) 70 120 Tryz.underlying82 infoClaim15 rfl (by decide) q.vc S.2.1.length (rowsV claimV S.2.1) rfl ((But.of_below (X := NoB) HBA.out).own HST.out.claims fun _ _ q => q) ⟨W0.drew.heap.size, 0, none⟩ 1 1 (claimV c) rfl (by rw [hcl]) (news_cells W0.drew _ _) (claimV_one _) (by unfold maxLen; omega) (by omega) (by have := HBS.out; have := HBA.out.size; omega) ?_
  intro v9 w9 ho9 hg9 hw9
  have HB9 : Hid (But (fun j => q.vc.ownBlock = some j) W0 w9) := Lib.hid ((But.of_below HBA.out).grown hg9 fun k e _ => e)
  have HF9 : Hid ((fun u => u.cell? ⟨s, 1, none⟩ = some q.vc ∧ u.rangeAt b0 0 (claimV c)) w9) := Lib.hid ⟨(HB9.out.cell (g := s) (j := 1) (qX HST.out.box) HNS.out).trans (cells_at0 HST.out.box 1), fun j v hj => by rw [qZ]; exact (HB9.out.cell (g := b0) (j := j) (qX HY0.out) HNB.out).trans ((cells_at0 HY0.out j).trans hj)⟩
  have HO9 := Lib.hid ho9
  have HP9 := Lib.hid ((HB9.out.block s (qX HST.out.box) HNS.out).trans HST.out.box)
  have HN9 : Hid (Newer w q.vc v9) := Lib.hid fun k hk => by
    rcases hw9 with e | ⟨g, e, hz⟩
    · left
      rw [← e]; exact hk
    · right
      rw [e] at hk
      have e2 : g = k := by simpa using hk
      subst e2
      have h1 := HBA.out.size
      have h2 := HB0.out.size
      omega
  obtain ⟨A9, c9, rfl⟩ := own_form ho9
  clear ho9 hg9 hw9
  refine ⟨fun _ _ => HF9.out, ?_⟩
  go_frame
  refine tw 8 (.pointer (some ⟨s, 0, none⟩)) ?_
  go_frame
  refine tw 9 (.pointer (some ⟨s, 1, none⟩)) ?_
  go_frame
  refine ta 10 ?_
  refine wpOp_storeM _ rfl (by kernel_rfl) 82 _ _ rfl s 1 [.map (some q.bd)] [q.vc] [.map (some q.bc)] [.slice A9 (S.2.1.length + 1) c9] 87 (.slice A9 (S.2.1.length + 1) c9) rfl rfl rfl rfl HP9.out rfl (by kernel_rfl) (by intro u hu; rw [List.mem_singleton.1 hu]; rfl) ?_
  intro W2 hb2 hy2 hs2
  have HB2 := Lib.hid hb2; have HY2 := Lib.hid hy2
  clear hb2 hy2 hs2
  refine ⟨fun h => absurd h (by decide), ?_⟩
  go_frame
  refine wpAnyN_done (by kernel_rfl) ?_ _
  go_wp2_with fail
  go_end0
  have hBT : But (fun j => j = s ∨ q.vc.ownBlock = some j) W0 W2 := (HB9.out.weak fun i _ h => .inr h).trans HB2.out fun k hk e => .inl e
  have hO2 : W2.ownsRow B 135 70 (.slice A9 (S.2.1.length + 1) c9) (S.2.1.length + 1) (rowsV claimV S.2.1 ++ claimV c) := HB2.out.own HO9.out fun g hg e => by
    obtain ⟨cur, hcur⟩ := own_tagged HO9.out hg
    have e2 : g = s := e
    subst e2
    exact ne_tag hcur HP9.out (by decide) rfl
  exact ⟨rfl, (But.of_below HB0.out).trans hBT (fun i hi h => h), _, HST.out.putClaim HC.out hO2 HY2.out hBT, HN9.out⟩
end Go.Proofs.YtdgbjhfkmembdaaGreatDoor
