/-
  The key of an index that is named. Conditions: the state and the adder lie in memory.
-/
import Derived.Test.YtdgbjhfkmembdaaGreatDoorStateHas
namespace Go.Proofs.YtdgbjhfkmembdaaGreatDoor
open Go.RowKit Go.Maps
set_option linter.unusedVariables false
set_option linter.unusedSimpArgs false

theorem infoKey15 : (Tryz.prog.info? 89).map (fun i => (i.zero, i.size, i.bytes)) = some (some (.agg (keyV (0, zero32, 0)).toArray), 34, 48) := by kernel_rfl
theorem key_built15 {t x : Int} {i : List UInt8} (hid : IdOk i) (w : World) : (Instr.build 89 #[(0, .int .i64 t), (1, .agg (idV i).toArray), (2, .int .i64 x)]).run Tryz.prog w = .ok (.agg (keyV (t, i, x)).toArray) w := by
  obtain ⟨j, hi, hz, _, _⟩ := info_parts infoKey15
  have hk : (idV zero32).length = 32 := rfl
  have h := built_struct (P := Tryz.prog) hi Tryz.underlying89 hz [[.int .i64 0], idV zero32, [.int .i64 0]] rfl (places := [(0, 1), (1, 32), (33, 1)]) (by kernel_rfl) (by kernel_rfl) [(0, .int .i64 t), (1, .agg (idV i).toArray), (2, .int .i64 x)] (by
    intro q hq
    simp only [List.mem_cons, List.not_mem_nil, or_false] at hq
    rcases hq with rfl | rfl | rfl
    · exact ⟨by show 0 < 3; omega, rfl⟩
    · exact ⟨by show 1 < 3; omega, by show (idV i).toArray.size = 32; rw [List.size_toArray, idV_length]; exact hid⟩
    · exact ⟨by show 2 < 3; omega, rfl⟩)
  have h2 := run_build (P := Tryz.prog) w 89 #[(0, .int .i64 t), (1, .agg (idV i).toArray), (2, .int .i64 x)] _ h
  refine h2.trans ?_
  simp [keyV, Value.cells]
theorem zid_built (w : World) : (Instr.build 41 #[]).run Tryz.prog w = .ok (.agg (idV zero32).toArray) w := by kernel_rfl
/-- A change that is being added, as it lies in memory. -/
structure AdderAt (w : World) (a s : Nat) (i : List UInt8) (c : ChangeD) (dv ov vm : Value) : Prop where
  box : w.heap[a]? = some (.cells (Value.pointer (some ⟨s, 0, none⟩) :: (idV i ++ [.int .i64 c.1, dv, .string c.2.2.1, ov, vm])).toArray 127 (0, 0))
  id : IdOk i
section
variable {w : World} {a s : Nat} {i : List UInt8} {c : ChangeD} {dv ov vm : Value}
theorem AdderAt.st (h : AdderAt w a s i c dv ov vm) : w.cell? ⟨a, 0, none⟩ = some (.pointer (some ⟨s, 0, none⟩)) := cells_at0 h.box 0
theorem AdderAt.idAt (h : AdderAt w a s i c dv ov vm) : w.rangeAt a 1 (idV i) := fun j u hj => by
  rw [cells_at0 h.box, Nat.add_comm, List.getElem?_cons_succ, List.getElem?_append_left (List.getElem?_eq_some_iff.1 hj).1]
  exact hj
theorem AdderAt.rest (h : AdderAt w a s i c dv ov vm) (j : Nat) : w.cell? ⟨a, 33 + j, none⟩ = ([.int .i64 c.1, dv, .string c.2.2.1, ov, vm] : List Value)[j]? := by
  have hl : (idV i).length = 32 := by rw [idV_length]; exact h.id
  rw [cells_at0 h.box, show 33 + j = (32 + j) + 1 by omega, List.getElem?_cons_succ, List.getElem?_append_right (by omega), hl, Nat.add_sub_cancel_left]
theorem AdderAt.keep {w' : World} (h : AdderAt w a s i c dv ov vm) (hb : Below w.heap.size w w') : AdderAt w' a s i c dv ov vm := ⟨(hb.block a (qX h.box)).trans h.box, h.id⟩
end
theorem entryG_form (S : StateD) (q : StateL) (i : List UInt8) : ∃ g1 g2 g3 g4, entryG S q i = [.int .i64 (timeAt S i), g1, g2, g3, g4] := by
  unfold entryG timeAt
  cases entryAt S i with
  | none => exact ⟨_, _, _, _, rfl⟩
  | some e => exact ⟨_, _, _, _, rfl⟩
theorem kl15 {t x : Int} {i : List UInt8} (h : IdOk i) : (keyV (t, i, x)).length = 34 := by simp [keyV, idV_length, show i.length = 32 from h]
set_option maxHeartbeats 4000000 in
set_option maxRecDepth 100000 in
theorem skey_any (B a s : Nat) (S : StateD) (q : StateL) (i : List UInt8) (c : ChangeD) (dv ov vm : Value) (r : RefD) (w : World) (h : StateAt w B s S q) (hA : AdderAt w a s i c dv ov vm) (hr : RefOk r) :
    Calls Tryz.prog 97 #[.pointer (some ⟨a, 0, none⟩), .agg (refV r).toArray] w fun e w' => Below w.heap.size w w' ∧ e = .returned (.agg (keyV (keyAt S i c.1 r)).toArray) := by
  have HS := Lib.hid h; have HA := Lib.hid hA; have HR := Lib.hid hr
  have hrl := refV_length hr
  obtain ⟨rc, rx⟩ := r
  have HI1 : Hid (IdOk rc) := Lib.hid hr.1
  have HI2 : Hid (IdOk i) := Lib.hid hA.id
  clear h hA hr
  have hstart : ∀ (eq : Bool), decide (rc = zero32) = eq → True := fun _ _ => trivial
  clear hstart
  go_enter Tryz.func97, Tryz.ntmps97
  go_upto_region 1 with (first
    | (with_reducible refine at_box ?_
       refine wp_boxM (by rfl) 110 _ rfl (refV (rc, rx)) _ rfl rfl (by rw [hrl]; kernel_rfl) ?_
       intro W0 hb0 hy0 hs0
       have HB0 := Lib.hid hb0; have HY0 := Lib.hid hy0; have HS0 := Lib.hid hs0
       clear hb0 hy0 hs0)
    | (with_reducible refine at_alloc ?_
       refine wp_allocM (by rfl) 89 rfl (keyV (0, zero32, 0)) (keyZ_run _) ?_
       intro W1 hb1 hy1 hs1
       have HB1 := Lib.hid hb1; have HY1 := Lib.hid hy1; have HS1 := Lib.hid hs1
       clear hb1 hy1 hs1))
  obtain ⟨b0, hb0⟩ : ∃ b0, w.heap.size = b0 := ⟨_, rfl⟩
  obtain ⟨b1, hb1⟩ : ∃ b1, W0.heap.size = b1 := ⟨_, rfl⟩
  have HBW := Lib.hid (HB0.out.trans (HB1.out.mono HB0.out.size))
  have hb0l := qX HY0.out
  have HZ0 := Lib.hid ((HB1.out.block w.heap.size hb0l).trans HY0.out)
  rw [hb0] at HZ0 ⊢
  rw [hb1] at HY1 ⊢
  have HST := Lib.hid (HS.out.keep HBW.out)
  have HAD := Lib.hid (HA.out.keep HBW.out)
  have HX : Hid (∀ u : World, Below W1.heap.size W1 u → u.cell? ⟨a, 33, none⟩ = some (.int .i64 c.1) ∧ u.rangeAt a 1 (idV i) ∧ u.cell? ⟨b0, 32, none⟩ = some (.int .i64 rx) ∧ u.rangeAt b0 0 (idV rc) ∧ u.cell? ⟨a, 0, none⟩ = some (.pointer (some ⟨s, 0, none⟩)) ∧ u.cell? ⟨s, 2, none⟩ = some (.map (some q.bc)) ∧
      MapV u Tryz.prog 41 IdOk idL q.bc S.2.2.length (fun i => (entryAt S i).map fun e => .agg (entryV e (q.em i)).toArray)) := Lib.hid fun u hu => by
    obtain ⟨g1, g2⟩ := ref_cells HR.out
    have hA2 := HAD.out.keep hu
    have hZ := (hu.block b0 (qX HZ0.out)).trans HZ0.out
    exact ⟨hA2.rest 0, hA2.idAt, (cells_at0 hZ 32).trans g2, fun j v hj => by rw [qZ]; exact (cells_at0 hZ j).trans (g1 j v hj), hA2.st, (hu.cell (p := ⟨s, 2, none⟩) (qX HST.out.box)).trans (cells_at0 HST.out.box 2), HST.out.mapC.below hu⟩
  have HL1 := Lib.hid (show w.heap.size ≤ b1 by have := HS0.out; omega)
  have hWb : W1.heap.size = b1 + 1 := by have := HS1.out; omega
  have R0 := Lib.hid (HX.out W1 (qB _ _)).2.2.2.1
  obtain ⟨g1, g2, g3, g4, hgf⟩ := entryG_form S q rc
  have HGF := Lib.hid hgf
  clear hgf
  clear HB0 HB1 HS0 HS1 hb0 hb1 hb0l HZ0 HY0
  have HWB := Lib.hid hWb
  clear hWb
  by_cases hz : rc = zero32
  · have EQ : Hid (decide (rc = zero32) = true) := Lib.hid (dT hz)
    have HK : Hid (keyAt S i c.1 (rc, rx) = (c.1, i, rx)) := Lib.hid (by unfold keyAt; rw [if_pos hz])
    clear hz
    go_upto_region 2 with (first
      | (with_reducible refine at_load ?_
         refine wp_val (by rfl) (ldD HI1.out R0.out) ?_)
      | (with_reducible refine at_build ?_
         refine wp_val (by rfl) (ex_build 41 _ rfl (zid_built _)) ?_)
      | (with_reducible refine at_binOp ?_
         refine wp_val (by rfl) (eqD HI1.out zero32_ok EQ.out) ?_))
    refine rN 12 (fun u => u.cell? ⟨a, 33, none⟩ = some (.int .i64 c.1) ∧ u.rangeAt a 1 (idV i) ∧ u.cell? ⟨b0, 32, none⟩ = some (.int .i64 rx) ∧ u.rangeAt b0 0 (idV rc) ∧ u.cell? ⟨a, 0, none⟩ = some (.pointer (some ⟨s, 0, none⟩)) ∧ u.cell? ⟨s, 2, none⟩ = some (.map (some q.bc)) ∧ MapV u Tryz.prog 41 IdOk idL q.bc S.2.2.length (fun i => (entryAt S i).map fun e => .agg (entryV e (q.em i)).toArray)) (HX.out _ (qD _ _)) fun hF0 => ?_
    refine tw 0 (.pointer (some ⟨a, 0, none⟩)) ?_
    go_frame
    refine tw 1 (.pointer (some ⟨a, 0, none⟩)) ?_
    go_frame
    refine tw 2 (.pointer (some ⟨a, 33, none⟩)) ?_
    go_frame
    refine tw 3 (.pointer (some ⟨a, 33, none⟩)) ?_
    go_frame
    refine tl 4 (.int .i64 c.1) rfl hF0 (fun w' hw' => l1 Tryz.underlying3 hw'.1) ?_
    go_frame
    refine tw 5 (.pointer (some ⟨a, 0, none⟩)) ?_
    go_frame
    refine tw 6 (.pointer (some ⟨a, 0, none⟩)) ?_
    go_frame
    refine tw 7 (.pointer (some ⟨a, 1, none⟩)) ?_
    go_frame
    refine tl 8 (.agg (idV i).toArray) rfl hF0 (fun w' hw' => ldD HI2.out hw'.2.1) ?_
    go_frame
    refine tw 9 (.pointer (some ⟨b0, 32, none⟩)) ?_
    go_frame
    refine tl 10 (.int .i64 rx) rfl hF0 (fun w' hw' => l1 Tryz.underlying3 hw'.2.2.1) ?_
    go_frame
    refine tk 11 (.agg (keyV (c.1, i, rx)).toArray) rfl (fun w' hw' => ex_build 89 _ rfl (by simp only [List.map_toArray, List.map_cons, List.map_nil]; exact key_built15 (t := c.1) (x := rx) HI2.out _)) ?_
    go_frame
    refine ta 12 ?_
    refine wpOp_storeM _ rfl (by kernel_rfl) 89 _ _ rfl b1 0 [] (keyV (0, zero32, 0)) [] (keyV (c.1, i, rx)) 89 (.agg (keyV (c.1, i, rx)).toArray) rfl rfl rfl rfl (by simpa using (show W1.drew.heap[b1]? = _ from HY1.out)) (by rw [kl15 HI2.out]; rfl) (by rw [kl15 HI2.out]; kernel_rfl) (keyV_one _) ?_
    intro W2 hb2 hy2 hs2
    have HY2 : Hid (W2.rangeAt b1 0 (keyV (c.1, i, rx))) := Lib.hid (fun j u hj => by rw [qZ]; exact (cells_at0 hy2 j).trans (by simpa using hj))
    have HB2 := Lib.hid (hb2.below (B := w.heap.size) HBW.out.size (fun k hk e => by
      have e2 : k = b1 := e
      have := HL1.out
      omega))
    clear hb2 hy2 hs2
    refine ⟨fun h => absurd h (by decide), ?_⟩
    go_frame
    refine wpAnyN_done (by kernel_rfl) ?_ _
    go_wp2_with fail
    refine bodyPost_ret (results_one Tryz.results97 _ _ rfl (qV _ b1 0 89 (keyV (c.1, i, rx)) _ HY2.out Tryz.underlying89 rfl (by rw [kl15 HI2.out]; kernel_rfl))) rfl ?_
    exact ⟨HBW.out.drew.trans HB2.out, by rw [HK.out]⟩
  · have EQ : Hid (decide (rc = zero32) = false) := Lib.hid (dF hz)
    have HK : Hid (keyAt S i c.1 (rc, rx) = (timeAt S rc, rc, rx)) := Lib.hid (by unfold keyAt; rw [if_neg hz])
    clear hz
    go_upto_region 3 with (first
      | (with_reducible refine at_load ?_
         refine wp_val (by rfl) (ldD HI1.out R0.out) ?_)
      | (with_reducible refine at_build ?_
         refine wp_val (by rfl) (ex_build 41 _ rfl (zid_built _)) ?_)
      | (with_reducible refine at_binOp ?_
         refine wp_val (by rfl) (eqD HI1.out zero32_ok EQ.out) ?_))
    refine rN 17 (fun u => u.cell? ⟨a, 33, none⟩ = some (.int .i64 c.1) ∧ u.rangeAt a 1 (idV i) ∧ u.cell? ⟨b0, 32, none⟩ = some (.int .i64 rx) ∧ u.rangeAt b0 0 (idV rc) ∧ u.cell? ⟨a, 0, none⟩ = some (.pointer (some ⟨s, 0, none⟩)) ∧ u.cell? ⟨s, 2, none⟩ = some (.map (some q.bc)) ∧ MapV u Tryz.prog 41 IdOk idL q.bc S.2.2.length (fun i => (entryAt S i).map fun e => .agg (entryV e (q.em i)).toArray)) (HX.out _ (qD _ _)) fun hF0 => ?_
    refine tw 0 (.pointer (some ⟨a, 0, none⟩)) ?_
    go_frame
    refine tw 1 (.pointer (some ⟨a, 0, none⟩)) ?_
    go_frame
    refine tw 2 (.pointer (some ⟨a, 0, none⟩)) ?_
    go_frame
    refine tl 3 (.pointer (some ⟨s, 0, none⟩)) rfl hF0 (fun w' hw' => l1 Tryz.underlying24 hw'.2.2.2.2.1) ?_
    go_frame
    refine tw 4 (.pointer (some ⟨s, 0, none⟩)) ?_
    go_frame
    refine tw 5 (.pointer (some ⟨s, 2, none⟩)) ?_
    go_frame
    refine tl 6 (.map (some q.bc)) rfl hF0 (fun w' hw' => l1 Tryz.underlying85 hw'.2.2.2.2.2.1) ?_
    go_frame
    refine tw 7 (.pointer (some ⟨b0, 0, none⟩)) ?_
    go_frame
    refine tl 8 (.agg (idV rc).toArray) rfl hF0 (fun w' hw' => ldD HI1.out hw'.2.2.2.1) ?_
    go_frame
    refine tl 9 (.agg [.int .i64 (timeAt S rc), g1, g2, g3, g4].toArray) rfl hF0 (fun w' hw' => ex_mapGet1 idEnc Tryz.underlying85 (entryZ_run _) hw'.2.2.2.2.2.2 HI1.out ((entryG_is S q rc).trans (by rw [HGF.out]))) ?_
    go_frame
    refine tw 10 (.agg [.int .i64 (timeAt S rc), g1, g2, g3].toArray) ?_
    go_frame
    refine tw 11 (.int .i64 (timeAt S rc)) ?_
    go_frame
    refine tw 12 (.pointer (some ⟨b0, 0, none⟩)) ?_
    go_frame
    refine tl 13 (.agg (idV rc).toArray) rfl hF0 (fun w' hw' => ldD HI1.out hw'.2.2.2.1) ?_
    go_frame
    refine tw 14 (.pointer (some ⟨b0, 32, none⟩)) ?_
    go_frame
    refine tl 15 (.int .i64 rx) rfl hF0 (fun w' hw' => l1 Tryz.underlying3 hw'.2.2.1) ?_
    go_frame
    refine tk 16 (.agg (keyV ((timeAt S rc), rc, rx)).toArray) rfl (fun w' hw' => ex_build 89 _ rfl (by simp only [List.map_toArray, List.map_cons, List.map_nil]; exact key_built15 (t := timeAt S rc) (x := rx) HI1.out _)) ?_
    go_frame
    refine ta 17 ?_
    refine wpOp_storeM _ rfl (by kernel_rfl) 89 _ _ rfl b1 0 [] (keyV (0, zero32, 0)) [] (keyV (timeAt S rc, rc, rx)) 89 (.agg (keyV (timeAt S rc, rc, rx)).toArray) rfl rfl rfl rfl (by simpa using (show W1.drew.heap[b1]? = _ from HY1.out)) (by rw [kl15 HI1.out]; rfl) (by rw [kl15 HI1.out]; kernel_rfl) (keyV_one _) ?_
    intro W2 hb2 hy2 hs2
    have HY2 : Hid (W2.rangeAt b1 0 (keyV (timeAt S rc, rc, rx))) := Lib.hid (fun j u hj => by rw [qZ]; exact (cells_at0 hy2 j).trans (by simpa using hj))
    have HB2 := Lib.hid (hb2.below (B := w.heap.size) HBW.out.size (fun k hk e => by
      have e2 : k = b1 := e
      have := HL1.out
      omega))
    clear hb2 hy2 hs2
    refine ⟨fun h => absurd h (by decide), ?_⟩
    go_frame
    refine wpAnyN_done (by kernel_rfl) ?_ _
    go_wp2_with fail
    refine bodyPost_ret (results_one Tryz.results97 _ _ rfl (qV _ b1 0 89 (keyV (timeAt S rc, rc, rx)) _ HY2.out Tryz.underlying89 rfl (by rw [kl15 HI1.out]; kernel_rfl))) rfl ?_
    exact ⟨HBW.out.drew.trans HB2.out, by rw [HK.out]⟩
end Go.Proofs.YtdgbjhfkmembdaaGreatDoor
