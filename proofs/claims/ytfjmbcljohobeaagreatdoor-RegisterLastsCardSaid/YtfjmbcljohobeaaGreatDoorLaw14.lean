/-
  What the law's own helpers of layer 14 give: light, told. Conditions: claims well formed.
-/
import Derived.Test.YtfjmbcljohobeaaGreatDoorRegPaths
import Derived.Test.YtfjmbcljohobeaaGreatDoorQuietTail1
namespace Go.Proofs.YtfjmbcljohobeaaGreatDoor
open Go.RowKit Go.Maps Go.Shelf Go.Sort
set_option linter.unusedVariables false
set_option linter.unusedSimpArgs false

def lightB (l : List ClaimD) : Bool := decide (l.length ≤ 40) && l.all fun c => decide (c.2.2.2.size ≤ 100)
theorem light_yes {l : List ClaimD} (h : lightB l = true) : l.length ≤ 40 ∧ ∀ c ∈ l, c.2.2.2.size ≤ 100 := by
  unfold lightB at h
  simp only [Bool.and_eq_true, decide_eq_true_eq, List.all_eq_true] at h
  exact h
set_option maxHeartbeats 1000000 in
set_option maxRecDepth 100000 in
theorem light_any (l : List ClaimD) (A : Option Addr) (c : Nat) (w : World) (hl : l.length ≤ maxLen) (hok : ∀ x ∈ l, ClaimOk x) (hsl : Sl w w.heap.size A l.length 70 (rowsV claimV l)) :
    Calls Tryz.prog 4 #[.slice A l.length c] w fun e w' => w = w' ∧ e = .returned (.bool (lightB l)) := by
  unfold maxLen at hl
  have HSL := Lib.hid hsl; have HOK := Lib.hid hok
  clear hsl hok
  by_cases h40 : 40 < l.length
  · have hb : lightB l = false := by unfold lightB; rw [show decide (l.length ≤ 40) = false by rw [decide_eq_false_iff_not]; omega]; rfl
    rw [hb]
    have h40' : (40 : Int) < (l.length : Int) := by omega
    clear hb
    go_enter Tryz.func4, Tryz.ntmps4
    go_wp2_with fail
    go_ret
    exact ⟨rfl, rfl⟩
  · have h40' : ¬ (40 : Int) < (l.length : Int) := by omega
    have hfin : (∀ c ∈ l, c.2.2.2.size ≤ 100) → lightB l = true := by
      intro h
      unfold lightB
      rw [show decide (l.length ≤ 40) = true by rw [decide_eq_true_eq]; omega, Bool.true_and, List.all_eq_true]
      intro c hc; rw [decide_eq_true_eq]; exact h c hc
    have hbad : ∀ c ∈ l, 100 < c.2.2.2.size → lightB l = false := by
      intro c hc h
      unfold lightB
      rw [Bool.and_eq_false_iff]; right
      rw [List.all_eq_false]
      exact ⟨c, hc, by rw [decide_eq_true_eq]; omega⟩
    have HF := Lib.hid hfin; have HB := Lib.hid hbad
    clear hfin hbad
    go_enter Tryz.func4, Tryz.ntmps4
    go_wp2_with fail
    go_loop [3] (fun t => ∃ i : Nat, i ≤ l.length ∧ t = .int .i64 i ∧ Hid (∀ c ∈ l.take i, c.2.2.2.size ≤ 100)) (fun t => l.length - (intOf t).toNat)
    case atStart => exact ⟨0, by omega, rfl, Lib.hid fun c hc => absurd hc (by simp)⟩
    case round =>
      obtain ⟨i, hi, rfl, hI⟩ := hrel
      by_cases hlt : i < l.length
      · obtain ⟨b, off, rfl, hbl, hcl⟩ := HSL.out.2 (by omega)
        have i0 : (0 : Int) ≤ (i : Int) := by omega
        have i1 : (i : Int) < (l.length : Int) := by omega
        have hrow := Sl.row (fun x hx => claimV_length (HOK.out x hx)) hcl hlt
        have hc := hrow 69 _ (claim_cell (HOK.out _ (List.getElem_mem hlt))).2
        have hsz := (HOK.out _ (List.getElem_mem hlt)).2.2.2
        have htk : l.take (i + 1) = l.take i ++ [l[i]] := List.take_succ_eq_append_getElem hlt
        have hbd := HB.out _ (List.getElem_mem hlt)
        have HTK := Lib.hid htk; have HBD := Lib.hid hbd
        clear hrow htk hbd hcl
        generalize l[i] = x at *
        unfold maxLen at hsz
        rcases (by omega : (100 : Int) < (x.2.2.2.size : Int) ∨ ¬ (100 : Int) < (x.2.2.2.size : Int)) with h | h
        · go_wp2_with fail
          go_ret
          exact ⟨rfl, by rw [HBD.out (by omega)]; rfl⟩
        · go_wp2_with fail
          go_round
          case rel => exact ⟨i + 1, by omega, by go_num, Lib.hid (by
            rw [HTK.out]
            intro c hc
            rcases List.mem_append.1 hc with hc | hc
            · exact hI.out c hc
            · rw [List.mem_singleton.1 hc]; omega)⟩
          case measure => simp [intOf]; omega
      · go_wp2_with fail
        go_ret
        have h := hI.out
        rw [List.take_of_length_le (by omega)] at h
        exact ⟨rfl, by rw [HF.out h]; rfl⟩

theorem ex_built {P : Program} {ρ : Operand → Value} {o : Oper} {w : World} (t : TypeId) (ps : Array (Nat × Operand)) (ho : o.op = .build t ps) {cells : Array Value} (hf : P.built t (ps.map fun (i, x) => (i, ρ x)).toList = some cells) : (execOp ρ o).run P w = .ok (.value (.agg cells)) w := by
  unfold execOp
  simp only [ho, Sem.run_bind, run_build w t _ cells hf, Result.andThen_ok]
  rfl
theorem claim_built {c : ClaimD} (hc : ClaimOk c) : Tryz.prog.built 29 [(0, .agg (keyV c.1).toArray), (1, .agg (keyV c.2.1).toArray), (2, .int .u8 (c.2.2.1 : Int)), (3, .string c.2.2.2)] = some (claimV c).toArray := by
  obtain ⟨i, hi, hz, _, _⟩ := info_parts (show (Tryz.prog.info? 29).map (fun i => (i.zero, i.size, i.bytes)) = some (some (claimA zeroC), 70, 120) by kernel_rfl)
  have h := built_struct (P := Tryz.prog) hi Tryz.underlying29 hz [keyV (0, zero32, 0), keyV (0, zero32, 0), [.int .u8 0], [.string ByteArray.empty]] rfl (places := [(0, 34), (34, 34), (68, 1), (69, 1)]) (by kernel_rfl) (by kernel_rfl)
    [(0, .agg (keyV c.1).toArray), (1, .agg (keyV c.2.1).toArray), (2, .int .u8 (c.2.2.1 : Int)), (3, .string c.2.2.2)] (by
    intro q hq
    simp only [List.mem_cons, List.not_mem_nil, or_false] at hq
    rcases hq with rfl | rfl | rfl | rfl
    · exact ⟨by show 0 < 4; omega, by show (keyV c.1).toArray.size = 34; rw [List.size_toArray, keyV_length hc.1]⟩
    · exact ⟨by show 1 < 4; omega, by show (keyV c.2.1).toArray.size = 34; rw [List.size_toArray, keyV_length hc.2.1]⟩
    · exact ⟨by show 2 < 4; omega, rfl⟩
    · exact ⟨by show 3 < 4; omega, rfl⟩)
  rw [h]
  simp [claimV, Value.cells]
theorem claimInfo : (Tryz.prog.info? 29).map (fun i => (i.zero, i.size, i.bytes)) = some (some (claimA zeroC), 70, 120) := by kernel_rfl
set_option maxHeartbeats 2000000 in
set_option maxRecDepth 100000 in
theorem told_any (l : List ClaimD) (A : Option Addr) (c : Nat) (w : World) (hl : l.length ≤ 1000) (hok : ∀ x ∈ l, ClaimOk x) (hsl : Sl w w.heap.size A l.length 70 (rowsV claimV l)) :
    Calls Tryz.prog 6 #[.slice A l.length c] w fun e w' => RowKit.Below w.heap.size w w' ∧ ∃ v, e = .returned v ∧ w'.ownsRow w.heap.size 29 70 v l.length (rowsV claimV l) := by
  have HSL := Lib.hid hsl; have HOK := Lib.hid hok
  clear hsl hok
  obtain ⟨im, hmi, hm0, hm1, hm2⟩ := info_parts claimInfo
  go_enter Tryz.func6, Tryz.ntmps6
  go_wp2_with fail
  go_loopw [3, 4] (fun v t wr => ∃ i : Nat, i ≤ l.length ∧ t = .int .i64 i ∧ RowKit.Below w.heap.size w wr ∧ Hid (wr.ownsRow w.heap.size 29 70 v i (rowsV claimV (l.take i)))) (fun _ t _ => l.length - (intOf t).toNat)
  case atStart => exact ⟨0, by omega, rfl, RowKit.Below.refl _ _, Lib.hid ⟨by simp [rowsV], .inl ⟨rfl, rfl⟩⟩⟩
  case round =>
    obtain ⟨i, hi, rfl, hbr, hR⟩ := hrel
    by_cases hlt : i < l.length
    · obtain ⟨b, off, rfl, hbl, hcl⟩ := (HSL.out.keep hbr).2 (by omega)
      have i0 : (0 : Int) ≤ (i : Int) := by omega
      have i1 : (i : Int) < (l.length : Int) := by omega
      have hrow := Sl.row (fun x hx => claimV_length (HOK.out x hx)) hcl hlt
      have hx := HOK.out _ (List.getElem_mem hlt)
      have htk : l.take (i + 1) = l.take i ++ [l[i]] := List.take_succ_eq_append_getElem hlt
      have HTK := Lib.hid htk
      clear htk hcl
      generalize l[i] = x at *
      have hbz : b < wr.heap.size := Nat.lt_of_lt_of_le hbl hbr.size
      have c2 := Wg.cell (hrow 68 _ (claim_cell hx).1) hbz
      have c3 := Wg.cell (hrow 69 _ (claim_cell hx).2) hbz
      have r0 := Lib.hid (Wg.row (cs := keyV x.1) (o := off + i * 70) (fun j u hj => by have := hrow (0 + j) u (claim_key hx j u hj); rwa [Nat.zero_add] at this) hbz)
      have r1 := Lib.hid (Wg.row (cs := keyV x.2.1) (o := off + i * 70 + 34) (fun j u hj => by have := hrow (34 + j) u (claim_doc hx j u hj); rwa [← Nat.add_assoc] at this) hbz)
      have s0 : (Tryz.prog.info? 26).map (·.size) = some (keyV x.1).length := by rw [keyV_length hx.1]; exact sizeKey
      have s1 : (Tryz.prog.info? 26).map (·.size) = some (keyV x.2.1).length := by rw [keyV_length hx.2.1]; exact sizeKey
      have HBT := Lib.hid (claim_built hx)
      have hxl := claimV_length hx
      clear hrow
      go_wp2_with fail
      refine wp_region_tail1_wg 21 u3 (by kernel_rfl) (by kernel_rfl) (by kernel_rfl) (by kernel_rfl) (by kernel_rfl) (by kernel_rfl) (fun _ _ _ h => h) (Or.inl ⟨by rfl, fun w' => by rfl⟩) ?_
      simp only [Act.put, List.setIfInBounds_toArray, List.set_cons_zero, List.set_cons_succ, List.take_succ_cons, List.take_zero, List.drop_succ_cons, List.drop_zero]
      repeat (first
        | go_big_quiet_skip
        | (go_big_quiet_want
           first
             | (refine quiet_val (fun w' hw' => ex_load 26 _ rfl (p := ⟨b, off + i * 70, none⟩) rfl (run_loadVar_mid w' _ _ _ (keyV x.1) _ (r0.out w' hw') Tryz.underlying26 rfl s0)) ?_
                go_big_quiet_on
                simp only [Act.put, List.setIfInBounds_toArray, List.set_cons_zero, List.set_cons_succ])
             | (refine quiet_val (fun w' hw' => ex_load 26 _ rfl (p := ⟨b, off + i * 70 + 34, none⟩) rfl (run_loadVar_mid w' _ _ _ (keyV x.2.1) _ (r1.out w' hw') Tryz.underlying26 rfl s1)) ?_
                go_big_quiet_on
                simp only [Act.put, List.setIfInBounds_toArray, List.set_cons_zero, List.set_cons_succ])
             | (refine quiet_val (fun w' hw' => ex_built 29 _ rfl (cells := (claimV x).toArray) (by simp only [List.map_toArray, List.map_cons, List.map_nil]; exact HBT.out)) ?_
                go_big_quiet_on
                simp only [Act.put, List.setIfInBounds_toArray, List.set_cons_zero, List.set_cons_succ])
             | (go_big_quiet_op
                go_big_quiet_on)))
      refine wpQuiet_nil ?_
      rintro w' ⟨k, rfl⟩
      have hk := k.2
      generalize k.val = w2 at *
      clear c2 c3 r0 r1 k
      have HR2 := Lib.hid (own_below' hR.out hk.below)
      have hb2 : RowKit.Below w.heap.size w w2 := hbr.trans (hk.below.mono hbr.size)
      have hz2 := hb2.size
      have HNC : Hid (∀ j u, (claimV x)[j]? = some u → (w2.alloc (.cells (claimV x).toArray 29)).cell? ((⟨w2.heap.size, 0, none⟩ : Addr).add j) = some u) := by
        intro j u hj
        rw [Addr.add_mid, cells_box (heap_alloc_new _ _)]
        simpa using hj
      have q1 : i + 1 ≤ maxLen := by unfold maxLen; omega
      have q2 : (i + 1) * 120 ≤ 140737488355328 := by omega
      clear hR hk hbr
      go_wp2_with (first
        | (refine wp_buildSlice1 (by rfl) 32 _ rfl 29 Tryz.underlying32 (claimA zeroC) 70 120 claimInfo rfl (by decide) (by decide) (claimV x) hxl rfl ?_)
        | (at_builtin; refine wpList_append_own _ rfl _ _ 32 rfl w.heap.size 29 im (claimA zeroC) 70 120 Tryz.underlying32 hmi hm0 hm1 hm2 rfl (by decide) _ _ _ rfl (own_alloc' HR2.out _) ⟨w2.heap.size, 0, none⟩ 1 1 (claimV x) rfl (by rw [hxl]) HNC.out (claimV_one x) q1 q2 (by simp; omega) ?_; intro v5 w7 hown7 hg7 _))
      have hg7' : (w2.alloc (.cells (claimV x).toArray 29)).grownBy w7 u3.ownBlock := hg7
      have B7 : RowKit.Below w.heap.size w w7 := (hb2.alloc hb2.size _).grown hg7' (by simp; omega) (fun k e => ((own_alloc' HR2.out (.cells (claimV x).toArray 29)).lt k e).1)
      go_roundw
      case rel => exact ⟨i + 1, by omega, by go_num, B7, Lib.hid (by rw [HTK.out, rowsV_app, show rowsV claimV [x] = claimV x by simp [rowsV]]; exact hown7)⟩
      case measure => simp [intOf]; omega
    · go_wp2_with fail
      go_ret
      have h := hR.out
      rw [List.take_of_length_le (by omega), show i = l.length by omega] at h
      exact ⟨hbr, _, rfl, h⟩
end Go.Proofs.YtfjmbcljohobeaaGreatDoor
