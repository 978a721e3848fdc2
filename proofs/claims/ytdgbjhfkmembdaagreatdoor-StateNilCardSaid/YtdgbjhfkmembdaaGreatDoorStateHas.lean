/-
  Whether a change is there. Conditions: the state lies in memory.
-/
import Derived.Test.YtdgbjhfkmembdaaGreatDoorStateNew
import Derived.Test.YtdgbjhfkmembdaaGreatDoorExMap
namespace Go.Proofs.YtdgbjhfkmembdaaGreatDoor
open Go.RowKit Go.Maps
set_option linter.unusedVariables false
set_option linter.unusedSimpArgs false

def entryZ : List Value := [.int .i64 0, .slice none 0 0, .string noneS, .slice none 0 0, .slice none 0 0]
theorem entryZ_run (w : World) : (zeroValue 105).run Tryz.prog w = .ok (.agg entryZ.toArray) w := by kernel_rfl
theorem entryZ_one : ∀ u ∈ entryZ, u.oneCell' = true := by unfold entryZ; intro u hu; simp only [List.mem_cons, List.not_mem_nil, or_false] at hu; rcases hu with rfl | rfl | rfl | rfl | rfl <;> rfl
theorem entryV_one (w : World) (e : EntryD) (m : EntryM) (h : EntryIn w e m) : ∀ u ∈ entryV e m, u.oneCell' = true := by
  obtain ⟨A1, c1, h1⟩ := own_form h.deps
  obtain ⟨A2, c2, h2⟩ := own_form h.ops
  obtain ⟨A3, c3, h3⟩ := own_form h.makes
  unfold entryV
  rw [h1, h2, h3]
  intro u hu; simp only [List.mem_cons, List.not_mem_nil, or_false] at hu; rcases hu with rfl | rfl | rfl | rfl | rfl <;> rfl
/-- What a look-up of a change gives. -/
def entryG (S : StateD) (q : StateL) (i : List UInt8) : List Value := match entryAt S i with
  | some e => entryV e (q.em i)
  | none => entryZ
theorem entryG_is (S : StateD) (q : StateL) (i : List UInt8) : ((entryAt S i).map fun e => Value.agg (entryV e (q.em i)).toArray).getD (.agg entryZ.toArray) = .agg (entryG S q i).toArray := by
  unfold entryG
  cases entryAt S i <;> rfl
theorem entryG_len (S : StateD) (q : StateL) (i : List UInt8) : (entryG S q i).length = 5 := by
  unfold entryG
  cases entryAt S i <;> rfl
theorem entryG_one {w : World} {B s : Nat} {S : StateD} {q : StateL} (h : StateAt w B s S q) (i : List UInt8) : ∀ u ∈ entryG S q i, u.oneCell' = true := by
  unfold entryG
  cases he : entryAt S i with
  | none => exact entryZ_one
  | some e => exact entryV_one w e _ (h.entries i e he).2
set_option maxHeartbeats 4000000 in
set_option maxRecDepth 100000 in
theorem has_nil (i : List UInt8) (w : World) (hi : IdOk i) : Calls Tryz.prog 26 #[.pointer none, .agg (idV i).toArray] w fun e w' => Below w.heap.size w w' ∧ e = .returned (.bool false) := by
  have HI := Lib.hid hi
  clear hi
  go_enter Tryz.func26, Tryz.ntmps26
  go_wp2_with (first
    | (with_reducible refine at_box ?_
       refine wp_boxM (by rfl) 41 _ rfl (idV i) _ rfl rfl (by rw [idV_length, HI.out]; kernel_rfl) ?_
       intro W0 hb0 hy0 hs0
       have HB0 := Lib.hid hb0
       clear hb0 hy0 hs0))
  go_ret
  exact ⟨HB0.out, rfl⟩
set_option maxHeartbeats 4000000 in
set_option maxRecDepth 100000 in
theorem has_any (B s : Nat) (S : StateD) (q : StateL) (i : List UInt8) (w : World) (h : StateAt w B s S q) (hi : IdOk i) :
    Calls Tryz.prog 26 #[.pointer (some ⟨s, 0, none⟩), .agg (idV i).toArray] w fun e w' => Below w.heap.size w w' ∧ e = .returned (.bool (entryAt S i).isSome) := by
  have HI := Lib.hid hi; have HS := Lib.hid h
  have hlt := qX h.box
  clear hi h
  go_enter Tryz.func26, Tryz.ntmps26
  go_upto_region 3 with (first
    | (with_reducible refine at_box ?_
       refine wp_boxM (by rfl) 41 _ rfl (idV i) _ rfl rfl (by rw [idV_length, HI.out]; kernel_rfl) ?_
       intro W0 hb0 hy0 hs0
       have HB0 := Lib.hid hb0; have HY0 := Lib.hid hy0
       clear hb0 hy0 hs0))
  obtain ⟨b0, hb0⟩ : ∃ b0, w.heap.size = b0 := ⟨_, rfl⟩
  rw [hb0] at HY0 ⊢
  have HS0 := Lib.hid (HS.out.keep HB0.out)
  have HG1 := Lib.hid (entryG_one HS0.out i)
  have HF : Hid (∀ u : World, Below W0.heap.size W0 u → u.cell? ⟨s, 2, none⟩ = some (.map (some q.bc)) ∧ u.rangeAt b0 0 (idV i) ∧ MapV u Tryz.prog 41 IdOk idL q.bc S.2.2.length (fun i => (entryAt S i).map fun e => .agg (entryV e (q.em i)).toArray)) := Lib.hid fun u hu =>
    ⟨(hu.cell (p := ⟨s, 2, none⟩) (qX HS0.out.box)).trans (cells_at0 HS0.out.box 2), fun j v hj => by rw [qZ]; exact (hu.cell (p := ⟨b0, j, none⟩) (qX HY0.out)).trans ((cells_at0 HY0.out j).trans hj), HS0.out.mapC.below hu⟩
  refine rN 10 (fun u => u.cell? ⟨s, 2, none⟩ = some (.map (some q.bc)) ∧ u.rangeAt b0 0 (idV i) ∧ MapV u Tryz.prog 41 IdOk idL q.bc S.2.2.length (fun i => (entryAt S i).map fun e => .agg (entryV e (q.em i)).toArray)) (HF.out _ (qD _ _)) fun hF0 => ?_
  refine tw 0 (.pointer (some ⟨s, 0, none⟩)) ?_
  go_frame
  refine tw 1 (.pointer (some ⟨s, 0, none⟩)) ?_
  go_frame
  refine tw 2 (.pointer (some ⟨s, 2, none⟩)) ?_
  go_frame
  refine tl 3 (.map (some q.bc)) rfl hF0 (fun w' hw' => l1 Tryz.underlying85 hw'.1) ?_
  go_frame
  refine tl 4 (.agg (idV i).toArray) rfl hF0 (fun w' hw' => ldD HI.out hw'.2.1) ?_
  go_frame
  refine tl 5 (.tuple #[.agg (entryG S q i).toArray, .bool (entryAt S i).isSome]) rfl hF0 (fun w' hw' => ex_mapGet2 idEnc Tryz.underlying85 (entryZ_run _) hw'.2.2 HI.out (by rw [entryG_is]; cases entryAt S i <;> rfl)) ?_
  go_frame
  refine tw 6 (.tuple #[.agg (entryG S q i).toArray, .bool (entryAt S i).isSome]) ?_
  go_frame
  refine tw 7 (.agg (entryG S q i).toArray) ?_
  go_frame
  refine tw 8 (.bool (entryAt S i).isSome) ?_
  go_frame
  refine ta 9 ?_
  refine wpOp_allocM _ rfl (by kernel_rfl) 105 rfl entryZ (entryZ_run _) ?_
  intro W1 hb1 hy1 hs1
  have HB1 := Lib.hid hb1; have HY1 := Lib.hid hy1
  clear hb1 hy1 hs1
  have HBD := Lib.hid ((qD W0.heap.size W0).trans (HB1.out.mono (qD W0.heap.size W0).size))
  refine ⟨fun _ _ => HF.out _ HBD.out, ?_⟩
  go_frame
  refine ta 10 ?_
  refine wpOp_storeM _ rfl (by kernel_rfl) 105 _ _ rfl W0.drew.heap.size 0 [] entryZ [] (entryG S q i) 105 (.agg (entryG S q i).toArray) rfl rfl rfl rfl (by simpa using HY1.out) (by rw [entryG_len]; rfl) (by rw [entryG_len]; kernel_rfl) HG1.out ?_
  intro W2 hb2 hy2 hs2
  have HB2 := Lib.hid (hb2.below (B := W0.heap.size) HBD.out.size (fun k hk e => by
    have e2 : k = W0.drew.heap.size := e
    have e3 : W0.drew.heap.size = W0.heap.size := rfl
    omega))
  clear hb2 hy2 hs2
  refine ⟨fun h => absurd h (by decide), ?_⟩
  go_frame
  refine tw 11 (.bool (entryAt S i).isSome) ?_
  go_frame
  refine wpAnyN_done (by kernel_rfl) ?_ _
  go_wp2_with fail
  go_ret
  exact ⟨HB0.out.trans ((HBD.out.trans HB2.out).mono HB0.out.size), rfl⟩
end Go.Proofs.YtdgbjhfkmembdaaGreatDoor
