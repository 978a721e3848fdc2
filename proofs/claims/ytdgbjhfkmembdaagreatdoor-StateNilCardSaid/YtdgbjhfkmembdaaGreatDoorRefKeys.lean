/-
  What the document's order of ids gives. Conditions: ids of 32 bytes.
-/
import Derived.Test.YtdgbjhfkmembdaaGreatDoorKeyWalks
namespace Go.Proofs.YtdgbjhfkmembdaaGreatDoor
open Go.RowKit
set_option linter.unusedVariables false

theorem cmpB_cut : ∀ (i : Nat) (a b : List UInt8), a.take i = b.take i → i ≤ a.length → i ≤ b.length → cmpB a b = cmpB (a.drop i) (b.drop i)
  | 0, _, _, _, _, _ => rfl
  | i + 1, [], _, _, h, _ => by simp at h
  | i + 1, _ :: _, [], _, _, h => by simp at h
  | i + 1, x :: a, y :: b, h, ha, hb => by
    simp only [List.take_succ_cons, List.cons.injEq] at h
    obtain ⟨rfl, h⟩ := h
    rw [cmpB_cons, if_neg (u8_irr x), if_neg (u8_irr x)]
    exact cmpB_cut i a b h (by simpa using ha) (by simpa using hb)
theorem cmpB_stop {a b : List UInt8} {i : Nat} (h : a.take i = b.take i) (ha : i < a.length) (hb : i < b.length) : (a[i] < b[i] → cmpB a b = -1) ∧ (b[i] < a[i] → cmpB a b = 1) ∧ (¬ a[i] < b[i] → ¬ b[i] < a[i] → a.take (i + 1) = b.take (i + 1)) := by
  have e := cmpB_cut i a b h (by omega) (by omega)
  rw [List.drop_eq_getElem_cons ha, List.drop_eq_getElem_cons hb, cmpB_cons] at e
  refine ⟨fun q => by rw [e, if_pos q], fun q => by rw [e, if_neg (u8_asymm q), if_pos q], fun q r => ?_⟩
  have : a[i] = b[i] := by
    rcases u8_cases a[i] b[i] with h1 | h1 | h1
    · exact absurd h1 q
    · exact absurd h1 r
    · exact h1
  rw [List.take_succ_eq_append_getElem ha, List.take_succ_eq_append_getElem hb, h, this]

theorem id_cells {l : List UInt8} (h : IdOk l) (i : Nat) (hi : i < 32) : (idV l)[i]? = some (.int .u8 ((l[i]'(by rw [h]; exact hi)).toNat : Int)) := by
  have hl : l.length = 32 := h
  simp [idV, hl, hi]
set_option maxHeartbeats 1000000 in
set_option maxRecDepth 100000 in
theorem refCompare_gr (a b : List UInt8) (w : World) (ha : IdOk a) (hb : IdOk b) :
    Calls Tryz.prog 206 #[.agg (idV a).toArray, .agg (idV b).toArray] w fun e w' => Gr w w' ∧ e = .returned (.int .i64 (cmpB a b)) := by
  have h1 : (w.alloc (.cells (idV a).toArray 41)).heap[w.heap.size]? = some (.cells (idV a).toArray 41 (0, 0)) := heap_alloc_new _ _
  have hla : a.length = 32 := ha
  have hlb : b.length = 32 := hb
  go_enter Tryz.func206, Tryz.ntmps206
  go_upto_region 1 with fail
  obtain ⟨W, hW⟩ : ∃ W, (w.alloc (.cells (idV a).toArray 41)).alloc (.cells (idV b).toArray 41) = W := ⟨_, rfl⟩
  have hA : W.heap[w.heap.size]? = some (.cells (idV a).toArray 41 (0, 0)) := by
    rw [← hW]
    exact (heap_alloc_old (w.alloc (.cells (idV a).toArray 41)) _ (by simp)).trans h1
  have hB : W.heap[w.heap.size + 1]? = some (.cells (idV b).toArray 41 (0, 0)) := by
    rw [← hW]
    have := heap_alloc_new (w.alloc (.cells (idV a).toArray 41)) (.cells (idV b).toArray 41)
    rw [World.size_alloc] at this
    exact this
  have hbW : Gr w W := by rw [← hW]; exact ((Gr.refl _).alloc _).alloc _
  have hsW : W.heap.size = w.heap.size + 2 := by rw [← hW]; simp
  rw [hW]
  clear hW h1
  have HA := Lib.hid fun (i : Nat) (hi : i < 32) => (cells_box hA i).trans (id_cells ha i hi)
  have HB := Lib.hid fun (i : Nat) (hi : i < 32) => (cells_box hB i).trans (id_cells hb i hi)
  have HSW := Lib.hid hsW
  have HST := Lib.hid fun (i : Nat) (hi : i < 32) (h : a.take i = b.take i) => cmpB_stop h (by omega) (by omega)
  have HEN := Lib.hid fun (h : a.take 32 = b.take 32) => (show cmpB a b = 0 from by
    rw [List.take_of_length_le (by omega), List.take_of_length_le (by omega)] at h
    exact cmpB_zero.2 h)
  clear hA hB hsW
  go_wp2_with fail
  go_loopw [5] (fun t wr => ∃ i : Nat, i ≤ 32 ∧ t = .int .i64 i ∧ Gr W wr ∧ Hid (a.take i = b.take i)) (fun t _ => 32 - (intOf t).toNat)
  case atStart => exact ⟨0, by omega, rfl, Gr.refl _, Lib.hid rfl⟩
  case round =>
    obtain ⟨i, hi, rfl, hgr, hI⟩ := hrel
    by_cases hlt : i < 32
    · have ca := (hgr.below.cell (p := ⟨w.heap.size, i, none⟩) (by have := HSW.out; show w.heap.size < _; omega)).trans (HA.out i hlt)
      have cb := (hgr.below.cell (p := ⟨w.heap.size + 1, i, none⟩) (by have := HSW.out; show w.heap.size + 1 < _; omega)).trans (HB.out i hlt)
      have i0 : (0 : Int) ≤ (i : Int) := by omega
      have i1 : (i : Int) < 32 := by omega
      have hst := Lib.hid (HST.out i hlt hI.out)
      generalize a[i]'(by omega) = x at *
      generalize b[i]'(by omega) = y at *
      rcases u8_cases x y with h | h | h
      · have q1 : ((x.toNat : Nat) : Int) < (y.toNat : Int) := by rw [UInt8.lt_iff_toNat_lt] at h; omega
        have hr := Lib.hid (hst.out.1 h)
        go_wp2_with fail
        go_quiet (fail)
        go_wp2_with fail
        go_ret
        exact ⟨hbW.trans (hgr.drewN _), by rw [hr.out]; rfl⟩
      · have q1 : ((y.toNat : Nat) : Int) < (x.toNat : Int) := by rw [UInt8.lt_iff_toNat_lt] at h; omega
        have q2 : ¬ ((x.toNat : Nat) : Int) < (y.toNat : Int) := by omega
        have hr := Lib.hid (hst.out.2.1 h)
        go_wp2_with fail
        go_quiet (fail)
        go_wp2_with fail
        go_quiet (fail)
        go_wp2_with fail
        go_ret
        exact ⟨hbW.trans ((hgr.drewN _).drewN _), by rw [hr.out]; rfl⟩
      · subst h
        have hnx := Lib.hid (hst.out.2.2 (u8_irr x) (u8_irr x))
        go_wp2_with fail
        go_quiet (fail)
        go_wp2_with fail
        go_quiet (fail)
        go_wp2_with fail
        go_roundw
        case rel => exact ⟨i + 1, by omega, by go_num, hgr.drewN _, hnx⟩
        case measure => simp [intOf]; omega
    · have i1 : ¬ (i : Int) < 32 := by omega
      have e : i = 32 := by omega
      have hr := Lib.hid (HEN.out (by rw [← e]; exact hI.out))
      clear e
      go_wp2_with fail
      go_ret
      exact ⟨hbW.trans hgr, by rw [hr.out]; rfl⟩

set_option maxHeartbeats 2000000 in
set_option maxRecDepth 100000 in
theorem refKeys_gr (a b : KeyD) (w : World) (ha : KeyOk a) (hb : KeyOk b) :
    Calls Tryz.prog 169 #[.agg (keyV a).toArray, .agg (keyV b).toArray] w fun e w' => Gr w w' ∧ e = .returned (.int .i64 (cmpK a b)) := by
  obtain ⟨a0, a1, a2⟩ := key_cells ha
  obtain ⟨b0, b1, b2⟩ := key_cells hb
  have h1 : (w.alloc (.cells (keyV a).toArray 89)).heap[w.heap.size]? = some (.cells (keyV a).toArray 89 (0, 0)) := heap_alloc_new _ _
  go_enter Tryz.func169, Tryz.ntmps169
  go_upto_region 1 with fail
  obtain ⟨W, hW⟩ : ∃ W, (w.alloc (.cells (keyV a).toArray 89)).alloc (.cells (keyV b).toArray 89) = W := ⟨_, rfl⟩
  have hA : W.heap[w.heap.size]? = some (.cells (keyV a).toArray 89 (0, 0)) := by
    rw [← hW]
    exact (heap_alloc_old (w.alloc (.cells (keyV a).toArray 89)) _ (by simp)).trans h1
  have hB : W.heap[w.heap.size + 1]? = some (.cells (keyV b).toArray 89 (0, 0)) := by
    rw [← hW]
    have := heap_alloc_new (w.alloc (.cells (keyV a).toArray 89)) (.cells (keyV b).toArray 89)
    rw [World.size_alloc] at this
    exact this
  have hbW : Gr w W := by rw [← hW]; exact ((Gr.refl _).alloc _).alloc _
  have hsW : W.heap.size = w.heap.size + 2 := by rw [← hW]; simp
  rw [hW]
  clear hW h1
  have ca0 := (cells_box hA 0).trans a0
  have ca1 := (cells_box hA 33).trans a1
  have ca2 : ∀ j u, (idV a.2.1)[j]? = some u → W.cell? ⟨w.heap.size, 1 + j, none⟩ = some u := fun j v hj => (cells_box hA (1 + j)).trans (a2 j v hj)
  have cb0 := (cells_box hB 0).trans b0
  have cb1 := (cells_box hB 33).trans b1
  have cb2 : ∀ j u, (idV b.2.1)[j]? = some u → W.cell? ⟨w.heap.size + 1, 1 + j, none⟩ = some u := fun j v hj => (cells_box hB (1 + j)).trans (b2 j v hj)
  clear hA hB a0 a1 a2 b0 b1 b2
  have sa : (Tryz.prog.info? 41).map (·.size) = some (idV a.2.1).length := by rw [idV_length, show a.2.1.length = 32 from ha.2.1]; kernel_rfl
  have sb : (Tryz.prog.info? 41).map (·.size) = some (idV b.2.1).length := by rw [idV_length, show b.2.1.length = 32 from hb.2.1]; kernel_rfl
  have CA2 := Lib.hid ca2; have CB2 := Lib.hid cb2; have HSW := Lib.hid hsW; have HBW := Lib.hid hbW
  have HK : Hid (cmpK a b = if cmpI a.1 b.1 ≠ 0 then cmpI a.1 b.1 else if cmpB a.2.1 b.2.1 ≠ 0 then cmpB a.2.1 b.2.1 else cmpI a.2.2 b.2.2) := rfl
  have hcmp := fun q => refCompare_gr a.2.1 b.2.1 q ha.2.1 hb.2.1
  have HCMP := Lib.hid hcmp
  clear ca2 cb2 hsW hbW hcmp ha hb
  rcases (by omega : a.1 < b.1 ∨ b.1 < a.1 ∨ (¬ a.1 < b.1 ∧ ¬ b.1 < a.1)) with h | h | ⟨h, h'⟩
  · have hr : Hid (cmpI a.1 b.1 = -1) := by show cmpI a.1 b.1 = -1; unfold cmpI; rw [if_pos h]
    go_wp2_with fail
    go_ret
    exact ⟨HBW.out, by rw [HK.out, hr.out]; rfl⟩
  · have hr : Hid (cmpI a.1 b.1 = 1) := by show cmpI a.1 b.1 = 1; unfold cmpI; rw [if_neg (by omega), if_pos h]
    have h2 : ¬ a.1 < b.1 := by omega
    go_wp2_with fail
    go_ret
    exact ⟨HBW.out, by rw [HK.out, hr.out]; rfl⟩
  · have h0 : Hid (cmpI a.1 b.1 = 0) := by show cmpI a.1 b.1 = 0; unfold cmpI; rw [if_neg h, if_neg h']
    rcases cmpB_cases a.2.1 b.2.1 with hq | hq | hq
    · have hc := HCMP.out
      rw [hq] at hc
      have HQ := Lib.hid hq; clear hq
      go_wp2_with (first
        | (refine wp_loadN rfl 41 _ rfl w.heap.size 1 rfl (idV a.2.1) _ CA2.out Tryz.underlying41 rfl sa ?_)
        | (refine wp_loadN rfl 41 _ rfl (w.heap.size + 1) 1 rfl (idV b.2.1) _ CB2.out Tryz.underlying41 rfl sb ?_)
        | (go_at_call 206; refine (hc W).mono ?_; rintro e w3 ⟨hg3, rfl⟩
           have e1 := (hg3.below.cell (p := ⟨w.heap.size, 33, none⟩) (by have := HSW.out; show w.heap.size < _; omega)).trans ca1
           have e2 := (hg3.below.cell (p := ⟨w.heap.size + 1, 33, none⟩) (by have := HSW.out; show w.heap.size + 1 < _; omega)).trans cb1
           have HG3 := Lib.hid (HBW.out.trans hg3)))
      go_ret
      exact ⟨HG3.out, by rw [HK.out, if_neg (by rw [h0.out]; simp), HQ.out]; rfl⟩
    · have hc := HCMP.out
      rw [hq] at hc
      have HQ := Lib.hid hq; clear hq
      have HK2 : Hid (cmpK a b = cmpI a.2.2 b.2.2) := by show cmpK a b = _; rw [HK.out, if_neg (by rw [h0.out]; simp), if_neg (by rw [HQ.out]; simp)]
      rcases (by omega : a.2.2 < b.2.2 ∨ b.2.2 < a.2.2 ∨ (¬ a.2.2 < b.2.2 ∧ ¬ b.2.2 < a.2.2)) with g | g | ⟨g, g'⟩
      · have hr : Hid (cmpI a.2.2 b.2.2 = -1) := by show cmpI a.2.2 b.2.2 = -1; unfold cmpI; rw [if_pos g]
        go_wp2_with (first
        | (refine wp_loadN rfl 41 _ rfl w.heap.size 1 rfl (idV a.2.1) _ CA2.out Tryz.underlying41 rfl sa ?_)
        | (refine wp_loadN rfl 41 _ rfl (w.heap.size + 1) 1 rfl (idV b.2.1) _ CB2.out Tryz.underlying41 rfl sb ?_)
        | (go_at_call 206; refine (hc W).mono ?_; rintro e w3 ⟨hg3, rfl⟩
           have e1 := (hg3.below.cell (p := ⟨w.heap.size, 33, none⟩) (by have := HSW.out; show w.heap.size < _; omega)).trans ca1
           have e2 := (hg3.below.cell (p := ⟨w.heap.size + 1, 33, none⟩) (by have := HSW.out; show w.heap.size + 1 < _; omega)).trans cb1
           have HG3 := Lib.hid (HBW.out.trans hg3)))
        go_ret
        exact ⟨HG3.out, by rw [HK2.out, hr.out]; rfl⟩
      · have hr : Hid (cmpI a.2.2 b.2.2 = 1) := by show cmpI a.2.2 b.2.2 = 1; unfold cmpI; rw [if_neg (by omega), if_pos g]
        have g2 : ¬ a.2.2 < b.2.2 := by omega
        go_wp2_with (first
        | (refine wp_loadN rfl 41 _ rfl w.heap.size 1 rfl (idV a.2.1) _ CA2.out Tryz.underlying41 rfl sa ?_)
        | (refine wp_loadN rfl 41 _ rfl (w.heap.size + 1) 1 rfl (idV b.2.1) _ CB2.out Tryz.underlying41 rfl sb ?_)
        | (go_at_call 206; refine (hc W).mono ?_; rintro e w3 ⟨hg3, rfl⟩
           have e1 := (hg3.below.cell (p := ⟨w.heap.size, 33, none⟩) (by have := HSW.out; show w.heap.size < _; omega)).trans ca1
           have e2 := (hg3.below.cell (p := ⟨w.heap.size + 1, 33, none⟩) (by have := HSW.out; show w.heap.size + 1 < _; omega)).trans cb1
           have HG3 := Lib.hid (HBW.out.trans hg3)))
        go_ret
        exact ⟨HG3.out, by rw [HK2.out, hr.out]; rfl⟩
      · have hr : Hid (cmpI a.2.2 b.2.2 = 0) := by show cmpI a.2.2 b.2.2 = 0; unfold cmpI; rw [if_neg g, if_neg g']
        go_wp2_with (first
        | (refine wp_loadN rfl 41 _ rfl w.heap.size 1 rfl (idV a.2.1) _ CA2.out Tryz.underlying41 rfl sa ?_)
        | (refine wp_loadN rfl 41 _ rfl (w.heap.size + 1) 1 rfl (idV b.2.1) _ CB2.out Tryz.underlying41 rfl sb ?_)
        | (go_at_call 206; refine (hc W).mono ?_; rintro e w3 ⟨hg3, rfl⟩
           have e1 := (hg3.below.cell (p := ⟨w.heap.size, 33, none⟩) (by have := HSW.out; show w.heap.size < _; omega)).trans ca1
           have e2 := (hg3.below.cell (p := ⟨w.heap.size + 1, 33, none⟩) (by have := HSW.out; show w.heap.size + 1 < _; omega)).trans cb1
           have HG3 := Lib.hid (HBW.out.trans hg3)))
        go_ret
        exact ⟨HG3.out, by rw [HK2.out, hr.out]; rfl⟩
    · have hc := HCMP.out
      rw [hq] at hc
      have HQ := Lib.hid hq; clear hq
      go_wp2_with (first
        | (refine wp_loadN rfl 41 _ rfl w.heap.size 1 rfl (idV a.2.1) _ CA2.out Tryz.underlying41 rfl sa ?_)
        | (refine wp_loadN rfl 41 _ rfl (w.heap.size + 1) 1 rfl (idV b.2.1) _ CB2.out Tryz.underlying41 rfl sb ?_)
        | (go_at_call 206; refine (hc W).mono ?_; rintro e w3 ⟨hg3, rfl⟩
           have e1 := (hg3.below.cell (p := ⟨w.heap.size, 33, none⟩) (by have := HSW.out; show w.heap.size < _; omega)).trans ca1
           have e2 := (hg3.below.cell (p := ⟨w.heap.size + 1, 33, none⟩) (by have := HSW.out; show w.heap.size + 1 < _; omega)).trans cb1
           have HG3 := Lib.hid (HBW.out.trans hg3)))
      go_ret
      exact ⟨HG3.out, by rw [HK.out, if_neg (by rw [h0.out]; simp), HQ.out]; rfl⟩
end Go.Proofs.YtdgbjhfkmembdaaGreatDoor
