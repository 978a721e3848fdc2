/-
  What an index is that is named. Conditions: the state and the adder lie in memory; the index is from 0 up.
-/
import Derived.Test.YtdgbjhfkmembdaaGreatDoorStateKey
namespace Go.Proofs.YtdgbjhfkmembdaaGreatDoor
open Go.RowKit Go.Maps
set_option linter.unusedVariables false
set_option linter.unusedSimpArgs false

theorem makeV_length {m : MakeD} (h : KeyOk m.2) : (makeV m).length = 35 := by simp [makeV, keyV_length h]
theorem makeV_one (m : MakeD) : ∀ u ∈ makeV m, u.oneCell' = true := by
  intro u hu
  rcases List.mem_cons.1 hu with rfl | hu
  · rfl
  · exact keyV_one _ u hu
theorem makeZ_run (w : World) : (zeroValue 199).run Tryz.prog w = .ok (.agg (makeV (false, (0, zero32, 0))).toArray) w := by kernel_rfl
def WhatGives (S : StateD) (mk : List MakeD) (r : RefD) (more : Nat) (w : World) (e : Ending) (w' : World) : Prop :=
  Below w.heap.size w w' ∧ ((∃ m, whatAt S mk r more = some m ∧ e = .returned (.agg (makeV m).toArray)) ∨ (whatAt S mk r more = none ∧ e = .panicked (stopP 22)))
theorem WhatGives.yes {S : StateD} {mk : List MakeD} {r : RefD} {more : Nat} {w w' : World} {e : Ending} {m : MakeD} (h : whatAt S mk r more = some m) (hb : Below w.heap.size w w') (he : e = .returned (.agg (makeV m).toArray)) : WhatGives S mk r more w e w' := ⟨hb, .inl ⟨m, h, he⟩⟩
theorem WhatGives.no {S : StateD} {mk : List MakeD} {r : RefD} {more : Nat} {w w' : World} {e : Ending} (h : whatAt S mk r more = none) (hb : Below w.heap.size w w') (he : e = .panicked (stopP 22)) : WhatGives S mk r more w e w' := ⟨hb, .inr ⟨h, he⟩⟩
/-- What the entry that is looked up made. -/
def madeOf (S : StateD) (i : List UInt8) : List MakeD := ((entryAt S i).map (·.2)).getD []
theorem entryG_made {w : World} {B s : Nat} {S : StateD} {q : StateL} (h : StateAt w B s S q) (i : List UInt8) : ∃ g1 g2 g3 A4 c4, entryG S q i = [.int .i64 (timeAt S i), g1, g2, g3, .slice A4 (madeOf S i).length c4] ∧
    w.ownsRow 0 199 35 (.slice A4 (madeOf S i).length c4) (madeOf S i).length (rowsV makeV (madeOf S i)) ∧ ∀ m ∈ madeOf S i, KeyOk m.2 := by
  unfold entryG timeAt madeOf
  cases he : entryAt S i with
  | none => exact ⟨_, _, _, none, 0, rfl, World.ownsRow_nil _ _ _ _, fun m hm => by cases hm⟩
  | some e =>
    obtain ⟨_, hin⟩ := h.entries i e he
    obtain ⟨A4, c4, hv⟩ := own_form hin.makes
    refine ⟨(q.em i).1, .string e.1.2.2.1, (q.em i).2.1, A4, c4, ?_, ?_, hin.keys⟩
    · show entryV e (q.em i) = _
      unfold entryV
      rw [hv]
      rfl
    · have h2 := hin.makes
      rw [hv] at h2
      exact h2
set_option maxHeartbeats 4000000 in
set_option maxRecDepth 100000 in
theorem what_any (B a s : Nat) (S : StateD) (q : StateL) (i : List UInt8) (c : ChangeD) (dv ov : Value) (Am : Option Addr) (cm : Nat) (mk : List MakeD) (r : RefD) (more : Nat) (w : World) (h : StateAt w B s S q) (hA : AdderAt w a s i c dv ov (.slice Am mk.length cm)) (hM : w.ownsRow 0 199 35 (.slice Am mk.length cm) mk.length (rowsV makeV mk))
    (hk : ∀ m ∈ mk, KeyOk m.2) (hr : RefOk r) (hr0 : 0 ≤ r.2 ∧ r.2 ≤ 1099511627776) (hm : more ≤ 1099511627776) (hl : mk.length ≤ 1099511627776) (hl2 : (madeOf S r.1).length ≤ 1099511627776) :
    Calls Tryz.prog 96 #[.pointer (some ⟨a, 0, none⟩), .agg (refV r).toArray, .int .i64 (more : Int)] w (WhatGives S mk r more w) := by
  have HS := Lib.hid h; have HA := Lib.hid hA; have HR := Lib.hid hr; have HMM := Lib.hid hM; have HKK := Lib.hid hk
  have hrl := refV_length hr
  obtain ⟨rc, rx⟩ := r
  have HI1 : Hid (IdOk rc) := Lib.hid hr.1
  dsimp only at hr0 hl2
  obtain ⟨x0, rfl⟩ : ∃ x0 : Nat, rx = (x0 : Int) := ⟨rx.toNat, by omega⟩
  clear h hA hr hM hk
  go_enter Tryz.func96, Tryz.ntmps96
  go_upto_region 1 with (first
    | (with_reducible refine at_box ?_
       refine wp_boxM (by rfl) 110 _ rfl (refV (rc, (x0 : Int))) _ rfl rfl (by rw [hrl]; kernel_rfl) ?_
       intro W0 hb0 hy0 hs0
       have HB0 := Lib.hid hb0; have HY0 := Lib.hid hy0; have HS0 := Lib.hid hs0
       clear hb0 hy0 hs0)
    | (with_reducible refine at_alloc ?_
       refine wp_allocM (by rfl) 199 rfl (makeV (false, (0, zero32, 0))) (makeZ_run _) ?_
       intro W1 hb1 hy1 hs1
       have HB1 := Lib.hid hb1; have HY1 := Lib.hid hy1; have HS1 := Lib.hid hs1
       clear hb1 hy1 hs1))
  obtain ⟨b0, hb0⟩ : ∃ b0, w.heap.size = b0 := ⟨_, rfl⟩
  obtain ⟨b1, hb1⟩ : ∃ b1, W0.heap.size = b1 := ⟨_, rfl⟩
  have HBW := Lib.hid (HB0.out.trans (HB1.out.mono HB0.out.size))
  have hb0l := qX HY0.out
  have HZ0 := Lib.hid ((HB1.out.block w.heap.size hb0l).trans HY0.out)
  rw [hb0] at HZ0 ⊢
  rw [hb1] at HY1 ⊢
  have HST := Lib.hid (HS.out.keep HBW.out)
  have HAD := Lib.hid (HA.out.keep HBW.out)
  have HMW := Lib.hid ((But.of_below (X := NoB) HBW.out).own HMM.out fun _ _ q => q)
  have HX : Hid (∀ u : World, Below W1.heap.size W1 u → (fun u => u.cell? ⟨b0, 32, none⟩ = some (.int .i64 (x0 : Int)) ∧ u.rangeAt b0 0 (idV rc) ∧ u.cell? ⟨a, 0, none⟩ = some (.pointer (some ⟨s, 0, none⟩)) ∧ u.cell? ⟨s, 2, none⟩ = some (.map (some q.bc)) ∧ MapV u Tryz.prog 41 IdOk idL q.bc S.2.2.length (fun i => (entryAt S i).map fun e => .agg (entryV e (q.em i)).toArray) ∧ u.cell? ⟨a, 37, none⟩ = some (.slice Am mk.length cm)) u) := Lib.hid fun u hu => by
    obtain ⟨g1, g2⟩ := ref_cells HR.out
    have hA2 := HAD.out.keep hu
    have hZ := (hu.block b0 (qX HZ0.out)).trans HZ0.out
    exact ⟨(cells_at0 hZ 32).trans g2, fun j v hj => by rw [qZ]; exact (cells_at0 hZ j).trans (g1 j v hj), hA2.st, (hu.cell (p := ⟨s, 2, none⟩) (qX HST.out.box)).trans (cells_at0 HST.out.box 2), HST.out.mapC.below hu, hA2.rest 4⟩
  have HL1 := Lib.hid (show w.heap.size ≤ b1 by have := HS0.out; omega)
  have hWb : W1.heap.size = b1 + 1 := by have := HS1.out; omega
  have R0 := Lib.hid (HX.out W1 (qB _ _)).2.1
  have c37 : W1.cell? ⟨a, 37, none⟩ = some (.slice Am mk.length cm) := (HX.out W1 (qB _ _)).2.2.2.2.2
  clear HB0 HB1 HS0 HS1 hb0 hb1 hb0l HZ0 HY0
  have HWB := Lib.hid hWb
  clear hWb
  go_upto_region 2 with fail
  clear c37
  by_cases hz : rc = zero32
  · have EQ : Hid (decide (rc = zero32) = true) := Lib.hid (dT hz)
    have HMS : Hid (makesAt S mk (rc, (x0 : Int)) = mk) := Lib.hid (by unfold makesAt; rw [if_pos hz])
    clear hz
    go_upto_region 4 with (first
      | (with_reducible refine at_load ?_
         refine wp_val (by rfl) (ldD HI1.out R0.out) ?_)
      | (with_reducible refine at_build ?_
         refine wp_val (by rfl) (ex_build 41 _ rfl (zid_built _)) ?_)
      | (with_reducible refine at_binOp ?_
         refine wp_val (by rfl) (ex_neq 41 _ _ _ rfl (xs := (idV rc).toArray) (ys := (idV zero32).toArray) (r := true) rfl rfl eqId.noGuard (EQ.out ▸ run_eqId HI1.out zero32_ok _)) ?_; go_frame; try simp only [nTF]))
    have HBV := Lib.hid (qB W1.heap.size W1)
    have HKEYS := HKK.out
    have HLEN := hl
    obtain ⟨L, hL⟩ : ∃ L, mk = L := ⟨_, rfl⟩
    have HMK : Hid (makesAt S mk (rc, (x0 : Int)) = L) := Lib.hid (by rw [← hL]; exact HMS.out)
    have HROW : Hid (W1.ownsRow 0 199 35 (.slice Am L.length cm) L.length (rowsV makeV L)) := Lib.hid (by rw [← hL]; exact HMW.out)
    have HKO : Hid (∀ m ∈ L, KeyOk m.2) := Lib.hid (by rw [← hL]; exact HKEYS)
    have hLn : L.length ≤ 1099511627776 := by rw [← hL]; exact HLEN
    rw [show (mk).length = L.length by rw [hL]]
    have k32 : W1.cell? ⟨b0, 32, none⟩ = some (.int .i64 (x0 : Int)) := (HX.out W1 HBV.out).1
    have HY1V := Lib.hid ((HBV.out.block b1 (by have := HWB.out; omega)).trans HY1.out)
    have hWV := HBV.out.size
    clear hL HX HKEYS HLEN
    have ew1 : IntKind.i64.wrap ((L.length : Int) - (more : Int)) = (L.length : Int) - (more : Int) := IntWalk.i64_in _ (by omega)
    by_cases hlt : (x0 : Int) < (L.length : Int) - (more : Int)
    · have ew2 : IntKind.i64.wrap ((x0 : Int) + (more : Int)) = ((x0 + more : Nat) : Int) := by rw [IntWalk.i64_in _ (by omega)]; omega
      have hj : x0 + more < L.length := by omega
      have j0 : (0 : Int) ≤ ((x0 + more : Nat) : Int) := by omega
      have j1 : ((x0 + more : Nat) : Int) < (L.length : Int) := by omega
      have HW : Hid (whatAt S mk (rc, (x0 : Int)) more = some (L[x0 + more])) := Lib.hid (by
        unfold whatAt
        dsimp only
        rw [HMK.out, if_pos hlt, Int.toNat_natCast, List.getElem?_eq_getElem hj])
      obtain ⟨g, c5, tail5, hv5, _, hg5, _⟩ := own_open HROW.out (by omega)
      injection hv5 with hA5 _ hc5
      subst hA5 hc5
      have HMO := Lib.hid (HKO.out _ (List.getElem_mem hj))
      have HRG := Lib.hid (show W1.rangeAt g ((x0 + more) * 35) (makeV L[x0 + more]) from fun k u hk => by
        have h2 := rowsV_get (enc := makeV) (sz := 35) (fun x hx => makeV_length (HKO.out x hx)) _ hj k u hk
        rw [cells_at0 hg5, List.getElem?_append_left (List.getElem?_eq_some_iff.1 h2).1]
        exact h2)
      clear hg5
      generalize L[x0 + more] = m at *
      have hml := makeV_length HMO.out
      go_wp2_with (first
        | (go_at_call 51; refine (sneed_yes 22 _).mono ?_; rintro e w9 ⟨rfl, rfl⟩)
        | (with_reducible refine at_load ?_
           refine wp_loadN rfl 199 _ rfl g _ rfl (makeV m) _ HRG.out Tryz.underlying199 rfl (by rw [hml]; kernel_rfl) ?_)
        | (with_reducible refine at_store ?_
           refine wp_storeM (by rfl) 199 _ _ rfl b1 0 [] (makeV (false, (0, zero32, 0))) [] (makeV m) 199 (.agg (makeV m).toArray) rfl rfl rfl rfl (by simpa using HY1V.out) (by rw [hml]; rfl) (by rw [hml]; kernel_rfl) (makeV_one _) ?_
           intro W9 hb9 hy9 hs9
           have HY9 : Hid (W9.rangeAt b1 0 (makeV m)) := Lib.hid (fun j u hj => by rw [qZ]; exact (cells_at0 hy9 j).trans (by simpa using hj))
           have HB9 := Lib.hid (hb9.below (B := w.heap.size) (qT HBW.out.size hWV) (fun k hk e => by
             have e2 : k = b1 := e
             have := HL1.out
             omega))
           clear hb9 hy9 hs9))
      refine bodyPost_ret (results_one Tryz.results96 _ _ rfl (qV _ b1 0 199 (makeV m) _ HY9.out Tryz.underlying199 rfl (by rw [hml]; kernel_rfl))) rfl ?_
      exact WhatGives.yes HW.out (HBW.out.trans ((HBV.out.mono HBW.out.size).trans HB9.out)) rfl
    · have HW : Hid (whatAt S mk (rc, (x0 : Int)) more = none) := Lib.hid (by
        unfold whatAt
        dsimp only
        rw [HMK.out, if_neg hlt])
      go_wp2_with (first
        | (go_at_call 51; refine (sneed_no 22 _).mono ?_; rintro e w9 ⟨rfl, rfl⟩))
      exact ⟨rfl, WhatGives.no HW.out (HBW.out.trans (HBV.out.mono HBW.out.size)) rfl⟩
  · have EQ : Hid (decide (rc = zero32) = false) := Lib.hid (dF hz)
    have HMS : Hid (makesAt S mk (rc, (x0 : Int)) = madeOf S rc) := Lib.hid (by unfold makesAt; rw [if_neg hz]; rfl)
    clear hz
    obtain ⟨g1, g2, g3, A4, c4, hgf, hgm, HKEYS⟩ := entryG_made HST.out rc
    obtain ⟨lS, hlS⟩ : ∃ lS, madeOf S rc = lS := ⟨_, rfl⟩
    rw [hlS] at hgf hgm HKEYS hl2 HMS
    have HGF := Lib.hid hgf; have HGM := Lib.hid hgm
    clear hgf hgm hlS
    go_upto_region 3 with (first
      | (with_reducible refine at_load ?_
         refine wp_val (by rfl) (ldD HI1.out R0.out) ?_)
      | (with_reducible refine at_build ?_
         refine wp_val (by rfl) (ex_build 41 _ rfl (zid_built _)) ?_)
      | (with_reducible refine at_binOp ?_
         refine wp_val (by rfl) (ex_neq 41 _ _ _ rfl (xs := (idV rc).toArray) (ys := (idV zero32).toArray) (r := false) rfl rfl eqId.noGuard (EQ.out ▸ run_eqId HI1.out zero32_ok _)) ?_; go_frame; try simp only [nTF]))
    refine rN 11 (fun u => u.cell? ⟨b0, 32, none⟩ = some (.int .i64 (x0 : Int)) ∧ u.rangeAt b0 0 (idV rc) ∧ u.cell? ⟨a, 0, none⟩ = some (.pointer (some ⟨s, 0, none⟩)) ∧ u.cell? ⟨s, 2, none⟩ = some (.map (some q.bc)) ∧ MapV u Tryz.prog 41 IdOk idL q.bc S.2.2.length (fun i => (entryAt S i).map fun e => .agg (entryV e (q.em i)).toArray) ∧ u.cell? ⟨a, 37, none⟩ = some (.slice Am mk.length cm)) (HX.out _ (qD _ _)) fun hF0 => ?_
    refine tw 0 (.pointer (some ⟨a, 0, none⟩)) ?_
    go_frame
    refine tw 1 (.pointer (some ⟨a, 0, none⟩)) ?_
    go_frame
    refine tw 2 (.pointer (some ⟨a, 0, none⟩)) ?_
    go_frame
    refine tl 3 (.pointer (some ⟨s, 0, none⟩)) rfl hF0 (fun w' hw' => l1 Tryz.underlying24 hw'.2.2.1) ?_
    go_frame
    refine tw 4 (.pointer (some ⟨s, 0, none⟩)) ?_
    go_frame
    refine tw 5 (.pointer (some ⟨s, 2, none⟩)) ?_
    go_frame
    refine tl 6 (.map (some q.bc)) rfl hF0 (fun w' hw' => l1 Tryz.underlying85 hw'.2.2.2.1) ?_
    go_frame
    refine tw 7 (.pointer (some ⟨b0, 0, none⟩)) ?_
    go_frame
    refine tl 8 (.agg (idV rc).toArray) rfl hF0 (fun w' hw' => ldD HI1.out hw'.2.1) ?_
    go_frame
    refine tl 9 (.agg [.int .i64 (timeAt S rc), g1, g2, g3, .slice A4 lS.length c4].toArray) rfl hF0 (fun w' hw' => ex_mapGet1 idEnc Tryz.underlying85 (entryZ_run _) hw'.2.2.2.2.1 HI1.out ((entryG_is S q rc).trans (by rw [HGF.out]))) ?_
    go_frame
    refine tw 10 (.slice A4 lS.length c4) ?_
    go_frame
    refine tw 11 (.slice A4 lS.length c4) ?_
    go_frame
    refine wpAnyN_done (by kernel_rfl) ?_ _
    clear hF0
    have HBV := Lib.hid (qD W1.heap.size W1)
    have HLEN := hl2
    go_upto_region 4 with fail
    obtain ⟨L, hL⟩ : ∃ L, lS = L := ⟨_, rfl⟩
    have HMK : Hid (makesAt S mk (rc, (x0 : Int)) = L) := Lib.hid (by rw [← hL]; exact HMS.out)
    have HROW : Hid (W1.drew.ownsRow 0 199 35 (.slice A4 L.length c4) L.length (rowsV makeV L)) := Lib.hid (by rw [← hL]; exact (But.of_below (X := NoB) (qD W1.heap.size W1)).own HGM.out fun _ _ q => q)
    have HKO : Hid (∀ m ∈ L, KeyOk m.2) := Lib.hid (by rw [← hL]; exact HKEYS)
    have hLn : L.length ≤ 1099511627776 := by rw [← hL]; exact HLEN
    rw [show (lS).length = L.length by rw [hL]]
    have k32 : W1.drew.cell? ⟨b0, 32, none⟩ = some (.int .i64 (x0 : Int)) := (HX.out W1.drew HBV.out).1
    have HY1V := Lib.hid ((HBV.out.block b1 (by have := HWB.out; omega)).trans HY1.out)
    have hWV := HBV.out.size
    clear hL HX HKEYS HLEN
    have ew1 : IntKind.i64.wrap ((L.length : Int) - (more : Int)) = (L.length : Int) - (more : Int) := IntWalk.i64_in _ (by omega)
    by_cases hlt : (x0 : Int) < (L.length : Int) - (more : Int)
    · have ew2 : IntKind.i64.wrap ((x0 : Int) + (more : Int)) = ((x0 + more : Nat) : Int) := by rw [IntWalk.i64_in _ (by omega)]; omega
      have hj : x0 + more < L.length := by omega
      have j0 : (0 : Int) ≤ ((x0 + more : Nat) : Int) := by omega
      have j1 : ((x0 + more : Nat) : Int) < (L.length : Int) := by omega
      have HW : Hid (whatAt S mk (rc, (x0 : Int)) more = some (L[x0 + more])) := Lib.hid (by
        unfold whatAt
        dsimp only
        rw [HMK.out, if_pos hlt, Int.toNat_natCast, List.getElem?_eq_getElem hj])
      obtain ⟨g, c5, tail5, hv5, _, hg5, _⟩ := own_open HROW.out (by omega)
      injection hv5 with hA5 _ hc5
      subst hA5 hc5
      have HMO := Lib.hid (HKO.out _ (List.getElem_mem hj))
      have HRG := Lib.hid (show W1.drew.rangeAt g ((x0 + more) * 35) (makeV L[x0 + more]) from fun k u hk => by
        have h2 := rowsV_get (enc := makeV) (sz := 35) (fun x hx => makeV_length (HKO.out x hx)) _ hj k u hk
        rw [cells_at0 hg5, List.getElem?_append_left (List.getElem?_eq_some_iff.1 h2).1]
        exact h2)
      clear hg5
      generalize L[x0 + more] = m at *
      have hml := makeV_length HMO.out
      go_wp2_with (first
        | (go_at_call 51; refine (sneed_yes 22 _).mono ?_; rintro e w9 ⟨rfl, rfl⟩)
        | (with_reducible refine at_load ?_
           refine wp_loadN rfl 199 _ rfl g _ rfl (makeV m) _ HRG.out Tryz.underlying199 rfl (by rw [hml]; kernel_rfl) ?_)
        | (with_reducible refine at_store ?_
           refine wp_storeM (by rfl) 199 _ _ rfl b1 0 [] (makeV (false, (0, zero32, 0))) [] (makeV m) 199 (.agg (makeV m).toArray) rfl rfl rfl rfl (by simpa using HY1V.out) (by rw [hml]; rfl) (by rw [hml]; kernel_rfl) (makeV_one _) ?_
           intro W9 hb9 hy9 hs9
           have HY9 : Hid (W9.rangeAt b1 0 (makeV m)) := Lib.hid (fun j u hj => by rw [qZ]; exact (cells_at0 hy9 j).trans (by simpa using hj))
           have HB9 := Lib.hid (hb9.below (B := w.heap.size) (qT HBW.out.size hWV) (fun k hk e => by
             have e2 : k = b1 := e
             have := HL1.out
             omega))
           clear hb9 hy9 hs9))
      refine bodyPost_ret (results_one Tryz.results96 _ _ rfl (qV _ b1 0 199 (makeV m) _ HY9.out Tryz.underlying199 rfl (by rw [hml]; kernel_rfl))) rfl ?_
      exact WhatGives.yes HW.out (HBW.out.trans ((HBV.out.mono HBW.out.size).trans HB9.out)) rfl
    · have HW : Hid (whatAt S mk (rc, (x0 : Int)) more = none) := Lib.hid (by
        unfold whatAt
        dsimp only
        rw [HMK.out, if_neg hlt])
      go_wp2_with (first
        | (go_at_call 51; refine (sneed_no 22 _).mono ?_; rintro e w9 ⟨rfl, rfl⟩))
      exact ⟨rfl, WhatGives.no HW.out (HBW.out.trans (HBV.out.mono HBW.out.size)) rfl⟩
end Go.Proofs.YtdgbjhfkmembdaaGreatDoor
