/-
  In which run of a document a key is; whether keys are new. Conditions: the document's runs lie in memory, keys well formed, indexes small, at most 2^40 runs.
-/
import Derived.Test.YtdgbjhfkmembdaaGreatDoorBlockHold
namespace Go.Proofs.YtdgbjhfkmembdaaGreatDoor
open Go.RowKit Go.Maps
set_option linter.unusedVariables false
set_option linter.unusedSimpArgs false

def runZ : List Value := keyV (0, zero32, 0) ++ ([.slice none 0 0] ++ [.bool false])
theorem runZ_run (w : World) : (zeroValue 177).run Tryz.prog w = .ok (.agg runZ.toArray) w := by kernel_rfl
def findV (q : Option (Nat × Nat)) : Value := match q with
  | none => .tuple #[.int .i64 0, .int .i64 0, .bool false]
  | some x => .tuple #[.int .i64 (x.1 : Int), .int .i64 (x.2 : Int), .bool true]
theorem runZ_one : ∀ u ∈ runZ, u.oneCell' = true := by
  intro u hu
  unfold runZ at hu
  simp only [List.mem_append, List.mem_singleton] at hu
  rcases hu with hu | rfl | rfl
  · exact keyV_one _ u hu
  · rfl
  · rfl
theorem holds_le {r : RunD} {k : KeyD} (h : holdsR r k = true) : r.1.2.2 ≤ k.2.2 := by
  simp only [holdsR, Bool.and_eq_true, decide_eq_true_eq] at h
  exact h.2.1
def freshE (d : List RunD) (k : KeyD) (n : Int) : Int := if freshR d k n = true then 0 else 11
theorem sizeRun : (Tryz.prog.info? 177).map (·.size) = some 36 := by kernel_rfl
set_option maxHeartbeats 4000000 in
set_option maxRecDepth 100000 in
theorem find_run (rs : List RunM) (k : KeyD) (B p : Nat) (v : Value) (w : World) (h : DocRows w B p v rs) (hk : KeyOk k) (hix : ∀ r ∈ rs, Ix r.1.2.2) (hx2 : Ix k.2.2) (hl : rs.length ≤ 1099511627776) :
    Calls Tryz.prog 156 #[.pointer (some ⟨p, 0, none⟩), .agg (keyV k).toArray] w fun e w' => Below w.heap.size w w' ∧ e = .returned (findV (findR (rs.map runOf) k)) := by
  obtain ⟨A, c, rfl⟩ := own_form h.own
  have HD := Lib.hid h; have HK := Lib.hid hk; have HIX := Lib.hid hix; have HX2 := Lib.hid hx2
  have hlt := h.lt
  have hkl := keyV_length hk
  clear h hk hix hx2
  go_enter Tryz.func156, Tryz.ntmps156
  go_upto_region 1 with (first
    | (with_reducible refine at_box ?_
       refine wp_boxM (by rfl) 89 _ rfl (keyV k) _ rfl rfl (by rw [hkl]; kernel_rfl) ?_
       intro W0 hb0 hy0 hs0
       have HB0 := Lib.hid hb0; have HY0 := Lib.hid hy0; have HS0 := Lib.hid hs0
       clear hb0 hy0 hs0))
  obtain ⟨b0, hb0⟩ : ∃ b0, w.heap.size = b0 := ⟨_, rfl⟩
  have HLB := Lib.hid (show b0 < W0.heap.size by have := HS0.out; omega)
  have c0 : W0.cell? ⟨p, 0, none⟩ = some (.slice A rs.length c) := by
    obtain ⟨s, t, hb⟩ := HD.out.box
    exact (HB0.out.cell (p := ⟨p, 0, none⟩) hlt).trans (cells_at0 hb 0)
  have HRK := Lib.hid (show W0.rangeAt b0 0 (keyV k) from fun j u hj => by rw [qZ, ← hb0]; exact (cells_at0 HY0.out j).trans hj)
  have HBW : Hid (Below w.heap.size w W0) := Lib.hid HB0.out
  have HWS := Lib.hid (qT HB0.out.size (qR _))
  rw [hb0]
  clear HB0 HY0 HS0 hb0
  go_upto_region 2 with fail
  go_loopw [16] (fun t wr => ∃ i : Nat, i ≤ rs.length ∧ t = .int .i64 (i : Int) ∧ Hid (Below w.heap.size w wr) ∧ Hid (Below W0.heap.size W0 wr) ∧ Hid (∀ j (hj : j < rs.length), j < i → holdsR (runOf rs[j]) k = false)) (fun t _ => rs.length - (intOf t).toNat)
  case atStart => exact ⟨0, Nat.zero_le _, rfl, HBW, Lib.hid (qB _ _), Lib.hid (fun j _ h => absurd h (by omega))⟩
  case round =>
    obtain ⟨i, hi, rfl, HBR, HBR0, HALL⟩ := hrel
    by_cases hlt2 : i < rs.length
    · have hiw : (i : Int) < (rs.length : Int) := by omega
      have i0 : (0 : Int) ≤ (i : Int) := by omega
      obtain ⟨g, c', hgv, hrow, hgl, hgB⟩ := HD.out.row hlt2
      injection hgv with hA _ hc'
      subst hA hc'
      have HR := Lib.hid (HD.out.ins _ (List.getElem_mem hlt2))
      have HRX := Lib.hid (HIX.out _ (List.getElem_mem hlt2))
      have HROW := Lib.hid (show wr.rangeAt g (i * 36) (runV rs[i]) from fun j u hj => (HBR.out.cell (p := ⟨g, i * 36 + j, none⟩) hgl).trans (hrow j u hj))
      have HGE := Lib.hid (List.getElem?_eq_getElem hlt2)
      clear hrow hgB
      generalize rs[i] = r at *
      have HRL := Lib.hid (runV_length HR.out)
      have HR1 := Lib.hid (runV_one r HR.out.2.1.one)
      have HRW := Lib.hid (HR.out.keep (KeepR.below (HBR.out.mono (Nat.le_refl _))))

      go_upto_region 4 with (first
        | (with_reducible refine at_load ?_
           refine wp_loadN rfl 177 _ rfl g _ rfl (runV r) _ HROW.out Tryz.underlying177 rfl (by rw [HRL.out]; exact sizeRun) ?_)
        | (with_reducible refine at_alloc ?_
           refine wp_allocM (by rfl) 177 rfl runZ (runZ_run _) ?_
           intro W6 hb6 hy6 hs6
           have HB6 := Lib.hid hb6; have HY6 := Lib.hid hy6; have HS6 := Lib.hid hs6
           clear hb6 hy6 hs6)
        | (with_reducible refine at_store ?_
           refine wp_storeM (by rfl) 177 _ _ rfl wr.heap.size 0 [] runZ [] (runV r) 177 _ rfl rfl rfl rfl (by simpa using HY6.out) (by rw [HRL.out]; rfl) (by rw [HRL.out]; exact sizeRun) HR1.out ?_
           intro W7 hb7 hy7 hs7
           have HB7 := Lib.hid hb7
           have HY7 : Hid (W7.heap[wr.heap.size]? = some (.cells (runV r).toArray 177 (0, 0))) := Lib.hid (by simpa using hy7)
           clear hb7 hy7 hs7))
      have HBR7 : Hid (Below wr.heap.size wr W7) := Lib.hid (HB6.out.trans (HB7.out.below (by have := HS6.out; omega) (fun k hk e => by omega)))
      have HU := Lib.hid (show W7.rangeAt wr.heap.size 0 (runV r) from fun j u hj => by rw [qZ]; exact (cells_at0 HY7.out j).trans hj)
      have HKU := Lib.hid (show W7.rangeAt b0 0 (keyV k) from fun j u hj => (HBR7.out.cell (p := ⟨b0, 0 + j, none⟩) (qL HLB.out HBR0.out.size)).trans ((HBR0.out.cell (p := ⟨b0, 0 + j, none⟩) HLB.out).trans (HRK.out j u hj)))
      have HR7 := Lib.hid (HRW.out.keep (KeepR.below HBR7.out))
      have HBR8 : Hid (Below w.heap.size w W7) := Lib.hid (HBR.out.trans (HBR7.out.mono HBR.out.size))
      have HBR9 : Hid (Below W0.heap.size W0 W7) := Lib.hid (HBR0.out.trans (HBR7.out.mono HBR0.out.size))
      clear HB6 HY6 HS6 HB7 HY7 HROW HRW
      go_upto_region 5 with (first
        | (refine wp_val (by rfl) (ldU HRL.out HU.out) ?_)
        | (refine wp_val (by rfl) (ldK HK.out HKU.out) ?_)
        | (go_at_call 199; refine (holds_any r k W7 HR7.out HK.out HRX.out HX2.out).mono ?_; rintro e w8 ⟨hb8, rfl⟩
           have HB8 := Lib.hid hb8
           clear hb8))
      cases hh : holdsR (runOf r) k
      · have HH := Lib.hid hh
        clear hh
        go_wp2_with fail
        go_roundw
        case rel =>
          refine ⟨i + 1, by omega, by go_num, Lib.hid (HBR8.out.trans (HB8.out.mono HBR8.out.size)), Lib.hid (HBR9.out.trans (HB8.out.mono HBR9.out.size)), Lib.hid (fun j hj hji => ?_)⟩
          rcases (by omega : j < i ∨ j = i) with q | q
          · exact HALL.out j hj q
          · subst q
            have hge := HGE.out
            obtain ⟨hi3, e3⟩ := List.getElem?_eq_some_iff.1 hge
            rw [e3]; exact HH.out
        case measure => (simp [intOf]) <;> omega
      · have HH := Lib.hid hh
        clear hh
        go_wp2_with fail
        go_ret3
        refine ⟨HBR8.out.trans (HB8.out.mono HBR8.out.size), ?_⟩
        have hfd : findR (rs.map runOf) k = some (i, (k.2.2 - r.1.2.2).toNat) := by
          have hge := HGE.out
          obtain ⟨hi3, e3⟩ := List.getElem?_eq_some_iff.1 hge
          have hm : (rs.map runOf)[i]'(by simpa using hi3) = runOf r := by rw [List.getElem_map, e3]
          rw [findR_hit (d := rs.map runOf) (i := i) (k := k) (by simpa using hi3) (fun j hj hji => by rw [List.getElem_map]; exact HALL.out j (by simpa using hj) hji) (by rw [hm]; exact HH.out), hm]
          rfl
        rw [hfd]
        have hpos : 0 ≤ k.2.2 - r.1.2.2 := by
          have h1 : r.1.2.2 ≤ k.2.2 := holds_le HH.out
          omega
        show _ = Ending.returned (.tuple #[.int .i64 (i : Int), .int .i64 (((k.2.2 - r.1.2.2).toNat : Nat) : Int), .bool true])
        rw [Int.toNat_of_nonneg hpos]
        rfl
    · have hiw : ¬ (i : Int) < (rs.length : Int) := by omega
      go_wp2_with fail
      go_ret3
      refine ⟨HBR.out, ?_⟩
      rw [findR_none (d := rs.map runOf) (k := k) fun j hj => by
        have hj2 : j < rs.length := by simpa using hj
        rw [List.getElem_map]; exact HALL.out j hj2 (by omega)]
      rfl

set_option maxHeartbeats 4000000 in
set_option maxRecDepth 100000 in
theorem fresh_run (rs : List RunM) (k : KeyD) (n : Int) (B p : Nat) (v : Value) (w : World) (h : DocRows w B p v rs) (hk : KeyOk k) (hix : ∀ r ∈ rs, Ix r.1.2.2) (hx2 : Ix k.2.2) (hx3 : Ix n) (hln : ∀ r ∈ rs, r.2.2.1.length ≤ 2305843009213693952) (hl : rs.length ≤ 1099511627776) :
    Calls Tryz.prog 157 #[.pointer (some ⟨p, 0, none⟩), .agg (keyV k).toArray, .int .i64 n] w fun e w' => Below w.heap.size w w' ∧ e = .returned (.int .i64 (freshE (rs.map runOf) k n)) := by
  have HX3 := Lib.hid hx3; have HLN := Lib.hid hln
  clear hx3 hln
  obtain ⟨A, c, rfl⟩ := own_form h.own
  have HD := Lib.hid h; have HK := Lib.hid hk; have HIX := Lib.hid hix; have HX2 := Lib.hid hx2
  have hlt := h.lt
  have hkl := keyV_length hk
  clear h hk hix hx2
  go_enter Tryz.func157, Tryz.ntmps157
  go_upto_region 1 with (first
    | (with_reducible refine at_box ?_
       refine wp_boxM (by rfl) 89 _ rfl (keyV k) _ rfl rfl (by rw [hkl]; kernel_rfl) ?_
       intro W0 hb0 hy0 hs0
       have HB0 := Lib.hid hb0; have HY0 := Lib.hid hy0; have HS0 := Lib.hid hs0
       clear hb0 hy0 hs0))
  obtain ⟨b0, hb0⟩ : ∃ b0, w.heap.size = b0 := ⟨_, rfl⟩
  have HLB := Lib.hid (show b0 < W0.heap.size by have := HS0.out; omega)
  have c0 : W0.cell? ⟨p, 0, none⟩ = some (.slice A rs.length c) := by
    obtain ⟨s, t, hb⟩ := HD.out.box
    exact (HB0.out.cell (p := ⟨p, 0, none⟩) hlt).trans (cells_at0 hb 0)
  have HRK := Lib.hid (show W0.rangeAt b0 0 (keyV k) from fun j u hj => by rw [qZ, ← hb0]; exact (cells_at0 HY0.out j).trans hj)
  have HBW : Hid (Below w.heap.size w W0) := Lib.hid HB0.out
  have HWS := Lib.hid (qT HB0.out.size (qR _))
  rw [hb0]
  clear HB0 HY0 HS0 hb0
  go_upto_region 2 with fail
  go_loopw [14] (fun t wr => ∃ i : Nat, i ≤ rs.length ∧ t = .int .i64 (i : Int) ∧ Hid (Below w.heap.size w wr) ∧ Hid (Below W0.heap.size W0 wr) ∧ Hid (∀ j (hj : j < rs.length), j < i → meetsR (runOf rs[j]) k n = false)) (fun t _ => rs.length - (intOf t).toNat)
  case atStart => exact ⟨0, Nat.zero_le _, rfl, HBW, Lib.hid (qB _ _), Lib.hid (fun j _ h => absurd h (by omega))⟩
  case round =>
    obtain ⟨i, hi, rfl, HBR, HBR0, HALL⟩ := hrel
    by_cases hlt2 : i < rs.length
    · have hiw : (i : Int) < (rs.length : Int) := by omega
      have i0 : (0 : Int) ≤ (i : Int) := by omega
      obtain ⟨g, c', hgv, hrow, hgl, hgB⟩ := HD.out.row hlt2
      injection hgv with hA _ hc'
      subst hA hc'
      have HR := Lib.hid (HD.out.ins _ (List.getElem_mem hlt2))
      have HRX := Lib.hid (HIX.out _ (List.getElem_mem hlt2))
      have HROW := Lib.hid (show wr.rangeAt g (i * 36) (runV rs[i]) from fun j u hj => (HBR.out.cell (p := ⟨g, i * 36 + j, none⟩) hgl).trans (hrow j u hj))
      have HGE := Lib.hid (List.getElem?_eq_getElem hlt2)
      clear hrow hgB
      generalize rs[i] = r at *
      have HRL := Lib.hid (runV_length HR.out)
      have HR1 := Lib.hid (runV_one r HR.out.2.1.one)
      have HRW := Lib.hid (HR.out.keep (KeepR.below (HBR.out.mono (Nat.le_refl _))))

      go_upto_region 4 with (first
        | (with_reducible refine at_load ?_
           refine wp_loadN rfl 177 _ rfl g _ rfl (runV r) _ HROW.out Tryz.underlying177 rfl (by rw [HRL.out]; exact sizeRun) ?_)
        | (with_reducible refine at_alloc ?_
           refine wp_allocM (by rfl) 177 rfl runZ (runZ_run _) ?_
           intro W6 hb6 hy6 hs6
           have HB6 := Lib.hid hb6; have HY6 := Lib.hid hy6; have HS6 := Lib.hid hs6
           clear hb6 hy6 hs6)
        | (with_reducible refine at_store ?_
           refine wp_storeM (by rfl) 177 _ _ rfl wr.heap.size 0 [] runZ [] (runV r) 177 _ rfl rfl rfl rfl (by simpa using HY6.out) (by rw [HRL.out]; rfl) (by rw [HRL.out]; exact sizeRun) HR1.out ?_
           intro W7 hb7 hy7 hs7
           have HB7 := Lib.hid hb7
           have HY7 : Hid (W7.heap[wr.heap.size]? = some (.cells (runV r).toArray 177 (0, 0))) := Lib.hid (by simpa using hy7)
           clear hb7 hy7 hs7))
      have HBR7 : Hid (Below wr.heap.size wr W7) := Lib.hid (HB6.out.trans (HB7.out.below (by have := HS6.out; omega) (fun k hk e => by omega)))
      have HU := Lib.hid (show W7.rangeAt wr.heap.size 0 (runV r) from fun j u hj => by rw [qZ]; exact (cells_at0 HY7.out j).trans hj)
      have HKU := Lib.hid (show W7.rangeAt b0 0 (keyV k) from fun j u hj => (HBR7.out.cell (p := ⟨b0, 0 + j, none⟩) (qL HLB.out HBR0.out.size)).trans ((HBR0.out.cell (p := ⟨b0, 0 + j, none⟩) HLB.out).trans (HRK.out j u hj)))
      have HR7 := Lib.hid (HRW.out.keep (KeepR.below HBR7.out))
      have HBR8 : Hid (Below w.heap.size w W7) := Lib.hid (HBR.out.trans (HBR7.out.mono HBR.out.size))
      have HBR9 : Hid (Below W0.heap.size W0 W7) := Lib.hid (HBR0.out.trans (HBR7.out.mono HBR0.out.size))
      clear HB6 HY6 HS6 HB7 HY7 HROW HRW
      
      cases hh : meetsR (runOf r) k n
      · have HH := Lib.hid hh
        clear hh
        go_wp2_with (first
          | (refine wp_val (by rfl) (ldU HRL.out HU.out) ?_)
          | (refine wp_val (by rfl) (ldK HK.out HKU.out) ?_)
          | (go_at_call 160; refine (meets_any r k n W7 HR7.out HK.out HRX.out HX2.out HX3.out (HLN.out _ (List.mem_of_getElem? HGE.out))).mono ?_; rintro e w8 ⟨hb8, rfl⟩
             rw [HH.out]
             have HB8 := Lib.hid hb8
             clear hb8))
        go_roundw
        case rel =>
          refine ⟨i + 1, by omega, by go_num, Lib.hid (HBR8.out.trans (HB8.out.mono HBR8.out.size)), Lib.hid (HBR9.out.trans (HB8.out.mono HBR9.out.size)), Lib.hid (fun j hj hji => ?_)⟩
          rcases (by omega : j < i ∨ j = i) with q | q
          · exact HALL.out j hj q
          · subst q
            have hge := HGE.out
            obtain ⟨hi3, e3⟩ := List.getElem?_eq_some_iff.1 hge
            rw [e3]; exact HH.out
        case measure => (simp [intOf]) <;> omega
      · have HH := Lib.hid hh
        clear hh
        go_wp2_with (first
          | (refine wp_val (by rfl) (ldU HRL.out HU.out) ?_)
          | (refine wp_val (by rfl) (ldK HK.out HKU.out) ?_)
          | (go_at_call 160; refine (meets_any r k n W7 HR7.out HK.out HRX.out HX2.out HX3.out (HLN.out _ (List.mem_of_getElem? HGE.out))).mono ?_; rintro e w8 ⟨hb8, rfl⟩
             rw [HH.out]
             have HB8 := Lib.hid hb8
             clear hb8))
        go_ret
        refine ⟨HBR8.out.trans (HB8.out.mono HBR8.out.size), ?_⟩
        have hfd : freshR (rs.map runOf) k n = false := by
          unfold freshR
          rw [List.all_eq_false]
          exact ⟨runOf r, List.mem_map.2 ⟨r, List.mem_of_getElem? HGE.out, rfl⟩, by rw [HH.out]; decide⟩
        unfold freshE
        rw [hfd]
        rfl
    · have hiw : ¬ (i : Int) < (rs.length : Int) := by omega
      go_wp2_with fail
      go_ret
      refine ⟨HBR.out, ?_⟩
      have hfd : freshR (rs.map runOf) k n = true := by
        unfold freshR
        rw [List.all_eq_true]
        intro y hy
        obtain ⟨x, hx, rfl⟩ := List.mem_map.1 hy
        obtain ⟨j, hj, rfl⟩ := List.getElem_of_mem hx
        rw [HALL.out j hj (by omega)]
        rfl
      unfold freshE
      rw [hfd]
      rfl

end Go.Proofs.YtdgbjhfkmembdaaGreatDoor
