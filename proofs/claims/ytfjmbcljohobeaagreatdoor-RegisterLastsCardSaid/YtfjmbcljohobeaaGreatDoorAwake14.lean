/-
  The chapter's first example of layer 14 holds (awake). Condition: the library's variable MaxLen holds a number.
-/
import Derived.Test.YtfjmbcljohobeaaGreatDoorLaw14
import Derived.Test.YtfjmbcljohobeaaGreatDoorFreshWalks
namespace Go.Proofs.YtfjmbcljohobeaaGreatDoor
open Go.RowKit Go.Maps Go.Shelf
set_option linter.unusedVariables false
set_option linter.unusedSimpArgs false

def kk1 : KeyD := (1, zero32, 0)
def kk2 : KeyD := (2, zero32, 0)
def cc1 : ClaimD := (kk1, kk1, 3, ⟨#[97]⟩)
def cc2 : ClaimD := (kk2, kk2, 3, ⟨#[97]⟩)
def cc3 : ClaimD := ((0, zero32, 0), (0, zero32, 0), 3, ByteArray.empty)
theorem kk1_ok : KeyOk kk1 := ⟨by decide, zero32_ok, by decide⟩
theorem kk2_ok : KeyOk kk2 := ⟨by decide, zero32_ok, by decide⟩
theorem cc1_ok : ClaimOk cc1 := ⟨kk1_ok, kk1_ok, by decide, by decide⟩
theorem cc2_ok : ClaimOk cc2 := ⟨kk2_ok, kk2_ok, by decide, by decide⟩
theorem cc3_ok : ClaimOk cc3 := ⟨⟨by decide, zero32_ok, by decide⟩, ⟨by decide, zero32_ok, by decide⟩, by decide, by decide⟩
theorem right12 : rightB [cc1, cc2] = true := by decide +kernel
theorem right3 : rightB [cc3] = false := by decide +kernel
theorem docs12 : docsS [cc1, cc2] = [kk1, kk2] := by decide +kernel
theorem last1 : lastOf [cc1, cc2] kk1 = some cc1 := by decide +kernel
theorem last2 : lastOf [cc1, cc2] kk2 = some cc2 := by decide +kernel
theorem fresh_a : freshS [97] [] = [97] := by
  have c1 : clashesB [97] [] = false := by decide +kernel
  show freshGo [97] _ 2 1 [97] = _
  rw [freshGo, if_neg (by rw [c1]; simp)]
theorem fresh_aa : freshS [97] [[97]] = [97, 126, 49] := by
  have c1 : clashesB [97] [[97]] = true := by decide +kernel
  have k1 : candS [97] 1 = [97, 126, 49] := by
    unfold candS; rw [Lib.decDigits_one (by omega)]; decide +kernel
  have c2 : clashesB [97, 126, 49] [[97]] = false := by decide +kernel
  show freshGo [97] _ 3 1 [97] = _
  rw [freshGo, if_pos c1, k1, freshGo, if_neg (by rw [c2]; simp)]
theorem paths12 : pathsS [cc1, cc2] = [(kk1, [97]), (kk2, [97, 126, 49])] := by
  unfold pathsS
  rw [right12, if_pos rfl, docs12]
  simp only [pathsGo, last1, last2]
  have h1 : L cc1.2.2.2 = [97] := rfl
  have h2 : L cc2.2.2.2 = [97] := rfl
  have k1 : ¬ cc1.2.2.1 = 5 := by decide
  have k2 : ¬ cc2.2.2.1 = 5 := by decide
  rw [if_neg k1, if_neg k2, h1, h2, fresh_a, List.nil_append, fresh_aa]
theorem ex_buildSlice2 {P : Program} {ρ : Operand → Value} {o : Oper} {w : World} (t : TypeId) (x y : Operand) (ho : o.op = .buildSlice t 2 #[(0, x), (1, y)])
    (e : TypeId) (ht : P.underlying t = some (.slice e)) (z : Value) (size bytes : Nat) (hinf : (P.info? e).map (fun i => (i.zero, i.size, i.bytes)) = some (some z, size, bytes)) (hz1 : z.cells.size = size) (hsz : 0 < size) (hmax : 2 * size ≤ 16777216)
    (us vs : List Value) (hl : us.length = size) (hl2 : vs.length = size) (hx : ρ x = .agg us.toArray) (hy : ρ y = .agg vs.toArray) : (execOp ρ o).run P w = .ok (.value (.slice (some ⟨w.heap.size, 0, none⟩) 2 2)) (w.alloc (.cells (us ++ vs).toArray e)) := by
  have hrun := run_buildSliceN w t e ht z size bytes hinf hz1 hsz [.agg us.toArray, .agg vs.toArray] (fun v hv => by
    simp only [List.mem_cons, List.not_mem_nil, or_false] at hv
    rcases hv with rfl | rfl
    · exact hl
    · exact hl2) (by simp) (by simpa using hmax)
  simp only [List.flatMap_cons, List.flatMap_nil, List.append_nil] at hrun
  unfold execOp
  have h2 : (Instr.buildSlice t 2 #[(0, .agg us.toArray), (1, .agg vs.toArray)]).run P w = .ok (.slice (some ⟨w.heap.size, 0, none⟩) 2 2) (w.alloc (.cells (us ++ vs).toArray e)) := hrun
  simp only [ho, List.map_toArray, List.map_cons, List.map_nil, hx, hy, Sem.run_bind, h2, Result.andThen_ok, Sem.run_pure]
theorem key_built1 : Tryz.prog.built 26 [(0, .int .i64 1)] = some (keyV kk1).toArray := by kernel_rfl
theorem key_built2 : Tryz.prog.built 26 [(0, .int .i64 2)] = some (keyV kk2).toArray := by kernel_rfl
theorem claim_built3 : Tryz.prog.built 29 [(2, .int .u8 3)] = some (claimV cc3).toArray := by kernel_rfl

set_option maxHeartbeats 2000000 in
set_option maxRecDepth 100000 in
theorem awake14_any (w : World) (hg : Glob w) : Calls Tryz.prog 9 #[] w fun e w' => Below w.heap.size w w' ∧ e = .returned (.bool true) := by
  go_enter Tryz.func9, Tryz.ntmps9
  go_upto_region 2 with (first
    | ((with_reducible refine wpList_buildTo rfl 26 _ rfl _ rfl (keyV kk1).toArray ?_ ?_)
       · simp only [List.map_toArray, List.map_cons, List.map_nil]; exact key_built1)
    | ((with_reducible refine wpList_buildTo rfl 26 _ rfl _ rfl (keyV kk2).toArray ?_ ?_)
       · simp only [List.map_toArray, List.map_cons, List.map_nil]; exact key_built2)
    | (refine wp_storeN (B := w.heap.size) (w0 := w) rfl 26 _ _ rfl w.heap.size _ rfl rfl 26 _ (heap_alloc2_old _ _ _) (by kernel_rfl) (by kernel_rfl) (by kernel_rfl) (((Below.refl _ _).alloc (Nat.le_refl _) _).alloc (by simp) _) (Nat.le_refl _) ?_; intro W1 hbW1 hW1 hW1o)
    | (refine wp_storeN (B := w.heap.size) (w0 := w) rfl 26 _ _ rfl (w.heap.size + 1) _ rfl rfl 26 _ ((hW1o _ (by omega)).trans (heap_alloc2_new _ _ _)) (by kernel_rfl) (by kernel_rfl) (by kernel_rfl) hbW1 (by omega) ?_; intro W2 hbW2 hW2 hW2o))
  have A2 : W2.heap[w.heap.size]? = some (.cells (keyV kk1).toArray 26 (0, 0)) := (hW2o _ (by omega)).trans hW1
  have HA := Lib.hid A2; have HB := Lib.hid hW2; have HG := Lib.hid (hg.next hbW2)
  have HBW := Lib.hid hbW2
  have hb1 : Tryz.prog.built 29 [(0, .agg (keyV kk1).toArray), (1, .agg (keyV kk1).toArray), (2, .int .u8 3), (3, .string ⟨#[97]⟩)] = some (claimV cc1).toArray := claim_built cc1_ok
  have hb2 : Tryz.prog.built 29 [(0, .agg (keyV kk2).toArray), (1, .agg (keyV kk2).toArray), (2, .int .u8 3), (3, .string ⟨#[97]⟩)] = some (claimV cc2).toArray := claim_built cc2_ok
  have hsl : Sl (W2.alloc (.cells (claimV cc1 ++ claimV cc2).toArray 29)) (W2.alloc (.cells (claimV cc1 ++ claimV cc2).toArray 29)).heap.size (some ⟨W2.heap.size, 0, none⟩) [cc1, cc2].length 70 (rowsV claimV [cc1, cc2]) := by
    refine ⟨by simp [rowsV, claimV_length cc1_ok, claimV_length cc2_ok], fun _ => ⟨W2.heap.size, 0, rfl, by simp, fun j u hu => ?_⟩⟩
    rw [Nat.zero_add, cells_box (heap_alloc_new _ _)]
    simpa [rowsV] using hu
  have hpaths := paths_any [cc1, cc2] (some ⟨W2.heap.size, 0, none⟩) 2 (W2.alloc (.cells (claimV cc1 ++ claimV cc2).toArray 29)) (by simp)
    (fun x hx => by
      simp only [List.mem_cons, List.not_mem_nil, or_false] at hx
      rcases hx with rfl | rfl
      · exact cc1_ok
      · exact cc2_ok)
    (fun x hx => by
      simp only [List.mem_cons, List.not_mem_nil, or_false] at hx
      rcases hx with rfl | rfl <;> decide) hsl (hg.next (hbW2.alloc hbW2.size _))
  have h1l : (claimV cc1).length = 70 := claimV_length cc1_ok
  have h2l : (claimV cc2).length = 70 := claimV_length cc2_ok
  have HP1 := Lib.hid hb1; have HP2 := Lib.hid hb2
  clear hsl hW1 hW1o hW2o hW2 A2 hbW1 hbW2 hb1 hb2
  go_upto_region 3 with (first
    | (refine wpList_load_row rfl 26 _ rfl w.heap.size rfl 26 _ (0, 0) _ HA.out Tryz.underlying26 rfl (keyV_info kk1_ok) ?_)
    | (refine wpList_load_row rfl 26 _ rfl (w.heap.size + 1) rfl 26 _ (0, 0) _ HB.out Tryz.underlying26 rfl (keyV_info kk2_ok) ?_)
    | ((with_reducible refine wpList_buildTo rfl 29 _ rfl _ rfl (claimV cc1).toArray ?_ ?_)
       · simp only [List.map_toArray, List.map_cons, List.map_nil]; exact HP1.out
       clear HP1)
    | ((with_reducible refine wpList_buildTo rfl 29 _ rfl _ rfl (claimV cc2).toArray ?_ ?_)
       · simp only [List.map_toArray, List.map_cons, List.map_nil]; exact HP2.out
       clear HP2)
    | (refine wp_val (by rfl) (ex_buildSlice2 32 _ _ rfl 29 Tryz.underlying32 (claimA zeroC) 70 120 claimInfo rfl (by decide) (by decide) (claimV cc1) (claimV cc2) h1l h2l rfl rfl) ?_)
    | (go_at_call 14; refine hpaths.mono ?_; rintro e w5 ⟨hb5, A5, c5, r, rfl, hr, hrk, hs5⟩))
  rw [paths12] at hr
  obtain ⟨x, y, rfl⟩ : ∃ x y, r = [x, y] := by
    have hlen := congrArg List.length hr
    simp only [List.length_map, List.length_cons, List.length_nil] at hlen
    match r, hlen with
    | [x, y], _ => exact ⟨x, y, rfl⟩
  simp only [List.map_cons, List.map_nil, List.cons.injEq, Prod.mk.injEq, and_true] at hr
  obtain ⟨⟨_, hx⟩, _, hy⟩ := hr
  have hnx : ∀ z ∈ [x, y], NamedOk z := fun z hz => ⟨(hrk z hz).1, by have := (hrk z hz).2; unfold maxLen; omega⟩
  have hlens : ∀ z ∈ [x, y], (namedV z).length = 35 := fun z hz => namedV_length (hnx z hz)
  obtain ⟨b, off, rfl, hbl, hc⟩ := hs5.2 (by simp)
  have c34 : w5.cell? ⟨b, off + 34, none⟩ = some (.string x.2) := hc 34 _ (by have := rowsV_get hlens 0 (by simp) 34 _ (named_cell (hnx x (by simp))); simpa using this)
  have c69 : w5.cell? ⟨b, off + 69, none⟩ = some (.string y.2) := hc 69 _ (by have := rowsV_get hlens 1 (by simp) 34 _ (named_cell (hnx y (by simp))); simpa using this)
  have c69' : w5.cell? ⟨b, off + 35 + 34, none⟩ = some (.string y.2) := c69
  have tx : (x.2.toList == [97]) = true := by rw [toList_L, hx]; rfl
  have ty : (y.2.toList == [97, 126, 49]) = true := by rw [toList_L, hy]; rfl
  have B5 : RowKit.Below w.heap.size w w5 := (HBW.out.alloc HBW.out.size _).trans (hb5.mono (Nat.le_trans HBW.out.size (by simp)))
  have hsl3 : Sl (w5.alloc (.cells (claimV cc3).toArray 29)) (w5.alloc (.cells (claimV cc3).toArray 29)).heap.size (some ⟨w5.heap.size, 0, none⟩) [cc3].length 70 (rowsV claimV [cc3]) := by
    refine ⟨by simp [rowsV, claimV_length cc3_ok], fun _ => ⟨w5.heap.size, 0, rfl, by simp, fun j u hu => ?_⟩⟩
    rw [Nat.zero_add, cells_box (heap_alloc_new _ _)]
    simpa [rowsV] using hu
  have hright := right_any [cc3] (some ⟨w5.heap.size, 0, none⟩) 1 _ (by simp) (fun x hx => by
      simp only [List.mem_cons, List.not_mem_nil, or_false] at hx
      rw [hx]; exact cc3_ok) hsl3 (hg.next (B5.alloc B5.size _))
  rw [right3] at hright
  have h3l : (claimV cc3).length = 70 := claimV_length cc3_ok
  have HB5 := Lib.hid B5
  clear hsl3 hc hnx hlens hrk hs5 hb5 hx hy hpaths B5
  go_wp2_with (first
    | ((with_reducible refine wpList_buildTo rfl 29 _ rfl _ rfl (claimV cc3).toArray ?_ ?_)
       · simp only [List.map_toArray, List.map_cons, List.map_nil]; exact claim_built3)
    | (refine wp_buildSlice1 (by rfl) 32 _ rfl 29 Tryz.underlying32 (claimA zeroC) 70 120 claimInfo rfl (by decide) (by decide) (claimV cc3) h3l rfl ?_)
    | (go_at_call 12; refine hright.mono ?_; rintro e w6 ⟨hb6, rfl⟩))
  go_ret
  exact ⟨(HB5.out.alloc HB5.out.size _).trans (hb6.mono (Nat.le_trans HB5.out.size (by simp))), rfl⟩
end Go.Proofs.YtfjmbcljohobeaaGreatDoor
