/-
  RegisterPaths' walk. Conditions: claims well formed; the library's variable MaxLen holds a number.
-/
import Derived.Test.YtfjmbcljohobeaaDoorRefPaths14
import Derived.Test.YtfjmbcljohobeaaDoorNamedEq
import Derived.Test.YtfjmbcljohobeaaDoorAwake14
namespace Go.Proofs.YtfjmbcljohobeaaDoor
open Go.RowKit Go.Maps Go.Shelf
set_option linter.unusedVariables false
set_option linter.unusedSimpArgs false

theorem named_inj {a b : List NamedD} (h : (a.map fun x : NamedD => (x.1, L x.2)) = b.map fun x : NamedD => (x.1, L x.2)) : a = b := by
  have hinj : ∀ a b : NamedD, (a.1, L a.2) = (b.1, L b.2) → a = b := fun a b h => by
    have h1 := (Prod.ext_iff.1 h).1
    have h2 := (Prod.ext_iff.1 h).2
    exact Prod.ext h1 (by
      have h3 : a.2.data.toList = b.2.data.toList := h2
      cases ha : a.2; cases hb : b.2
      rw [ha, hb] at h3
      simp at h3
      rw [h3])
  exact List.map_inj_right hinj |>.1 h
set_option maxHeartbeats 8000000 in
set_option maxRecDepth 100000 in
theorem paths14_walk (l : List ClaimD) (A : Option Addr) (c : Nat) (w : World) (hl : l.length ≤ maxLen) (hok : ∀ x ∈ l, ClaimOk x) (hsl : Sl w w.heap.size A l.length 70 (rowsV claimV l)) (hg : Glob w) :
    Calls Tryd.prog 3 #[.slice A l.length c] w fun e w' => e = .returned (.bool true) ∧ Below w.heap.size w w' := by
  have hlight := light_any l A c w hl hok hsl
  have HSL := Lib.hid hsl; have HOK := Lib.hid hok
  clear hsl hok
  cases hlt : lightB l with
  | false =>
    rw [hlt] at hlight
    clear hlt
    go_enter Tryd.func3, Tryd.ntmps3
    go_wp2_with (go_at_call 12; refine hlight.mono ?_; rintro e w1 ⟨rfl, rfl⟩)
    go_ret
    exact ⟨rfl, Below.refl _ _⟩
  | true =>
    rw [hlt] at hlight
    obtain ⟨h40, h100⟩ := light_yes hlt
    clear hlt
    have htold := fun (u : World) (hu : Below w.heap.size w u) => told_any l A c u (by omega) HOK.out ((HSL.out.keep hu).more hu.size)
    have HT := Lib.hid htold
    have ht0 := HT.out w (Below.refl _ _)
    have hsm : ∀ z ∈ l, z.2.2.2.size ≤ 1073741824 := fun z hz => by have := h100 z hz; omega
    have HSM := Lib.hid hsm
    clear htold hsm h100
    go_enter Tryd.func3, Tryd.ntmps3
    go_upto_region 3 with (go_at_call 12; refine hlight.mono ?_; rintro e w1 ⟨rfl, rfl⟩)
    go_wp2_with (go_at_call 14; refine ht0.mono ?_; rintro e w2 ⟨hb2, v, rfl, hv⟩; obtain ⟨A6, c6, rfl⟩ := own_shape hv
                 have hp6 := paths_any l A6 c6 w2 (by omega) HOK.out HSM.out (Sl.of_own hv) (hg.next hb2)
                 have HB2 := Lib.hid hb2
                 clear hv hb2)
    refine hp6.mono ?_
    rintro e w3 ⟨hb3, A7, c7, r, rfl, hr, hk, hs⟩
    have HB3 := Lib.hid (HB2.out.trans (hb3.mono HB2.out.size))
    have HRP := Lib.hid hr; have HK := Lib.hid hk; have HS := Lib.hid hs
    have hrr := refRight14_any l A c w3 (by omega) HOK.out ((HSL.out.keep HB3.out).more HB3.out.size)
    have hrl : r.length ≤ 1099511627776 := by
      have h := congrArg List.length hr
      rw [List.length_map] at h
      rw [h]
      unfold pathsS
      split
      · have := pathsGo_length (lastOf l) (docsS l) []
        have := docsS_length l
        omega
      · simp
    clear hr hk hs hb3 hp6 ht0 HB2
    cases hrb : rightB l with
    | false =>
      rw [hrb] at hrr
      have HRB := Lib.hid hrb
      have hr0 : ((r.length : Int) == 0) = true := by
        have h := congrArg List.length HRP.out
        rw [List.length_map] at h
        unfold pathsS at h
        rw [hrb] at h
        simp at h
        simp [h]
      clear hrb
      go_upto_region 5 with (go_at_call 15; refine hrr.mono ?_; rintro e w4 ⟨hb4, rfl⟩)
      have HB4 := Lib.hid (HB3.out.trans (hb4.mono HB3.out.size))
      have ht4 := HT.out w4 HB4.out
      clear hrr hb4
      go_wp2_with (go_at_call 14; refine ht4.mono ?_; rintro e w5 ⟨hb5, v, rfl, hv⟩; obtain ⟨A9, c9, rfl⟩ := own_shape hv
                   have HB5 := Lib.hid (HB4.out.trans (hb5.mono HB4.out.size))
                   have hri := right_any l A9 c9 w5 (by omega) HOK.out (Sl.of_own hv) (hg.next HB5.out)
                   clear hv hb5)
      rw [HRB.out] at hri
      refine hri.mono ?_
      rintro e w6 ⟨hb6, rfl⟩
      have HB6 := Lib.hid (HB5.out.trans (hb6.mono HB5.out.size))
      have haw := awake14_any w6 (hg.next HB6.out)
      clear hri hb6 ht4
      go_wp2_with (go_at_call 17; refine haw.mono ?_; rintro e w7 ⟨hb7, rfl⟩)
      go_ret
      exact ⟨rfl, HB6.out.trans (hb7.mono HB6.out.size)⟩
    | true =>
      rw [hrb] at hrr
      have HRB := Lib.hid hrb
      have hpe : pathsS l = pathsGo (lastOf l) (docsS l) [] := by unfold pathsS; rw [hrb]; rfl
      have HPE := Lib.hid hpe
      clear hrb hpe
      go_upto_region 6 with (go_at_call 15; refine hrr.mono ?_; rintro e w4 ⟨hb4, rfl⟩)
      have HB4 := Lib.hid (HB3.out.trans (hb4.mono HB3.out.size))
      have hp2 := refPaths14_any l A c w4 (by omega) HOK.out HSM.out ((HSL.out.keep HB4.out).more HB4.out.size)
      have HS4 := Lib.hid ((HS.out.keep hb4).more hb4.size)
      clear hrr hb4
      go_upto_region 7 with (go_at_call 18; refine hp2.mono ?_; rintro e w5 ⟨hb5, A8, c8, r8, rfl, hr8, hk8, hl8, hs8⟩)
      have hreq : r = r8 := (named_inj (hr8.trans (HPE.out.symm.trans HRP.out.symm))).symm
      subst hreq
      have HB5 := Lib.hid (HB4.out.trans (hb5.mono HB4.out.size))
      have HS5 := Lib.hid ((HS4.out.keep hb5).more hb5.size)
      have HS8 := Lib.hid hs8
      have ht5 := HT.out w5 HB5.out
      clear hp2 hr8 hk8 hl8 hs8 hb5
      go_wp2_with (go_at_call 14; refine ht5.mono ?_; rintro e w6 ⟨hb6, v, rfl, hv⟩; obtain ⟨A9, c9, rfl⟩ := own_shape hv
                   have HB6 := Lib.hid (HB5.out.trans (hb6.mono HB5.out.size)); have HB56 := Lib.hid hb6
                   have hri := right_any l A9 c9 w6 (by omega) HOK.out (Sl.of_own hv) (hg.next HB6.out)
                   clear hv hb6)
      rw [HRB.out] at hri
      refine hri.mono ?_
      rintro e w7 ⟨hb7, rfl⟩
      have HB7 := Lib.hid (HB6.out.trans (hb7.mono HB6.out.size))
      have hb57 : Below w5.heap.size w5 w7 := HB56.out.trans (hb7.mono HB56.out.size)
      have H7 := Lib.hid ((HS5.out.keep hb57).more hb57.size)
      have H8 := Lib.hid ((HS8.out.keep hb57).more hb57.size)
      clear hri hb7 hb57 ht5 HB56
      go_wp2_with fail
      go_loopw [5] (fun t wr => ∃ i : Nat, i ≤ r.length ∧ t = .int .i64 i ∧ Below w7.heap.size w7 wr) (fun t _ => r.length - (intOf t).toNat)
      case atStart => exact ⟨0, by omega, rfl, Below.refl _ _⟩
      case round =>
        obtain ⟨i, hi, rfl, hbr⟩ := hrel
        by_cases hlt : i < r.length
        · obtain ⟨b8, o8, rfl, hbl8, hc8⟩ := (H8.out.keep hbr).2 (by omega)
          obtain ⟨b7, o7, rfl, hbl7, hc7⟩ := (H7.out.keep hbr).2 (by omega)
          have i0 : (0 : Int) ≤ (i : Int) := by omega
          have i1 : (i : Int) < (r.length : Int) := by omega
          have hnx : ∀ z ∈ r, NamedOk z := fun z hz => ⟨(HK.out z hz).1, by have := (HK.out z hz).2; unfold maxLen; omega⟩
          have hn := hnx _ (List.getElem_mem hlt)
          have hrow8 := Sl.row (fun z hz => namedV_length (hnx z hz)) hc8 hlt
          have row7 := Wd.row (base := wr.heap.size) (Sl.row (fun z hz => namedV_length (hnx z hz)) hc7 hlt) (Nat.lt_of_lt_of_le hbl7 hbr.size)
          have row8 := Wd.row (base := wr.heap.size) (b := b8) (o := o8 + i * 35) (cs := keyV r[i].1) (fun j u hj => by have := hrow8 (0 + j) u (named_doc hn j u hj); rwa [Nat.zero_add] at this) (Nat.lt_of_lt_of_le hbl8 hbr.size)
          have cel8 := Wd.cell (base := wr.heap.size) (hrow8 34 _ (named_cell hn)) (Nat.lt_of_lt_of_le hbl8 hbr.size)
          generalize r[i] = z at *
          have hsz : (Tryd.prog.info? 37).map (·.size) = some (namedV z).length := by rw [namedV_length hn]; kernel_rfl
          have hsk : (Tryd.prog.info? 35).map (·.size) = some (keyV z.1).length := by rw [keyV_length hn.1]; exact sizeKey
          have heq : ∀ w' : World, (Op.equalIn 10000 37 (.agg (namedV z).toArray) (.agg (namedV z).toArray)).run Tryd.prog w' = .ok true w' := fun w' => by have := run_eqNamed hn hn w'; simpa using this
          have R8 := Lib.hid row8; have R7 := Lib.hid row7; have HEQ := Lib.hid heq
          have HBT := Lib.hid (named_built z.2 hn.1)
          clear row8 row7 heq hc8 hc7 hnx hrow8
          go_wp2_with fail
          refine wp_region_wd (base := wr.heap.size) wr (Below.refl _ _) (by kernel_rfl) (by kernel_rfl) ?_
          repeat (first
            | go_big_quiet_skip
            | (go_big_quiet_want
               first
                 | (refine quiet_val (fun w' hw' => ex_load 37 _ rfl (p := ⟨b7, o7 + i * 35, none⟩) rfl (run_loadVar_mid w' _ _ _ (namedV z) _ (R7.out w' hw') Tryd.underlying37 rfl hsz)) ?_
                    go_big_quiet_on
                    simp only [Act.put, List.setIfInBounds_toArray, List.set_cons_zero, List.set_cons_succ])
                 | (refine quiet_val (fun w' hw' => ex_load 35 _ rfl (p := ⟨b8, o8 + i * 35, none⟩) rfl (run_loadVar_mid w' _ _ _ (keyV z.1) _ (R8.out w' hw') Tryd.underlying35 rfl hsk)) ?_
                    go_big_quiet_on
                    simp only [Act.put, List.setIfInBounds_toArray, List.set_cons_zero, List.set_cons_succ])
                 | (refine quiet_val (fun w' hw' => ex_built 37 _ rfl (cells := (namedV z).toArray) (by simp only [List.map_toArray, List.map_cons, List.map_nil]; exact HBT.out)) ?_
                    go_big_quiet_on
                    simp only [Act.put, List.setIfInBounds_toArray, List.set_cons_zero, List.set_cons_succ])
                 | (refine quiet_val (fun w' hw' => ex_neq 37 _ _ _ rfl (xs := (namedV z).toArray) (ys := (namedV z).toArray) rfl rfl (r := true) eqNamed.noGuard (HEQ.out w')) ?_
                    go_big_quiet_on
                    simp only [Act.put, List.setIfInBounds_toArray, List.set_cons_zero, List.set_cons_succ, Bool.not_true])
                 | (go_big_quiet_op
                    go_big_quiet_on)))
          refine wpQuiet_nil ?_
          rintro w' ⟨k, rfl⟩
          have hk := k.2
          generalize k.val = w9 at *
          have hb9 := Lib.hid (hbr.trans (hk.mono hbr.size))
          clear hk k hbr cel8
          go_wp2_with fail
          go_roundw
          case rel => exact ⟨i + 1, by omega, by go_num, hb9.out⟩
          case measure => simp [intOf]; omega
        · have hb9 := HB7.out.trans (hbr.mono HB7.out.size)
          have haw := awake14_any wr (hg.next hb9)
          have HB9 := Lib.hid hb9
          clear hb9 hbr
          go_wp2_with (go_at_call 17; refine haw.mono ?_; rintro e w10 ⟨hb10, rfl⟩)
          go_ret
          exact ⟨rfl, HB9.out.trans (hb10.mono HB9.out.size)⟩
end Go.Proofs.YtfjmbcljohobeaaDoor
