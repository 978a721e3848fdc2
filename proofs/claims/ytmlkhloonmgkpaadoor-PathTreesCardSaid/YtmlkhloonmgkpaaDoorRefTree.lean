/-
  What the reference's Tree gives. Conditions: texts of at most 2^47 bytes, at most 97 files.
-/
import Derived.Test.YtmlkhloonmgkpaaDoorTreeWalks
import Derived.Test.YtmlkhloonmgkpaaDoorParts
import Derived.Test.YtmlkhloonmgkpaaDoorRefFresh
namespace Go.Proofs.YtmlkhloonmgkpaaDoor
open Go.RowKit
set_option linter.unusedVariables false

def pathsOf (fs : List (ByteArray × ByteArray)) : List ByteArray := fs.map (·.1)
theorem Ls_take (fs : List (ByteArray × ByteArray)) (i : Nat) : Ls ((pathsOf fs).take i) = (fs.take i).map fun f => L f.1 := by
  simp [Ls, pathsOf, List.map_take, Function.comp_def]

/-- A row of the call's own stands as it stood. -/
theorem own_below {w w' : World} {base : Nat} {e : TypeId} {sz : Nat} {v : Value} {n : Nat} {xs : List Value} (h : w.ownsRow base e sz v n xs) (hb : Below w.heap.size w w') : w'.ownsRow base e sz v n xs := by
  refine ⟨h.1, ?_⟩
  rcases h.2 with h0 | ⟨g, cap, cur, hv, hbg, hg, hle, hm, hcs, ht⟩
  · exact .inl h0
  · exact .inr ⟨g, cap, cur, hv, hbg, by rw [hb.block g (Array.getElem?_eq_some_iff.1 hg).1]; exact hg, hle, hm, hcs, ht⟩

set_option maxHeartbeats 2000000 in
set_option maxRecDepth 100000 in
theorem refTree_any (fs : List (ByteArray × ByteArray)) (A : Option Addr) (c : Nat) (w : World) (hn : fs.length ≤ 1099511627776) (hsm : smallF fs) (hsl : Sl w w.heap.size A fs.length 2 (cells2 fs)) :
    Calls Tryd.prog 42 #[.slice A fs.length c] w fun e w' => Below w.heap.size w w' ∧ e = .returned (.int .i64 (treeE fs)) := by
  have HSL := Lib.hid hsl; clear hsl
  have HSM := Lib.hid hsm; clear hsm
  by_cases h64 : 64 < fs.length
  · rw [show treeE fs = 3 by unfold treeE; rw [if_pos h64]]
    go_enter Tryd.func42, Tryd.ntmps42
    go_wp2_with fail
    go_ret
    exact ⟨Below.refl _ _, rfl⟩
  have hst := treeing_start h64
  have HST := Lib.hid hst; clear hst
  have hsml : ∀ i, smallL ((pathsOf fs).take i) := by
    intro i t ht
    obtain ⟨f, hf, rfl⟩ := List.mem_map.1 (List.mem_of_mem_take ht)
    exact (HSM.out f hf).1
  have HSML := Lib.hid hsml; clear hsml
  have hpl : (pathsOf fs).length = fs.length := by simp [pathsOf]
  have HPL := Lib.hid hpl; clear hpl
  go_enter Tryd.func42, Tryd.ntmps42
  go_wp2_with fail
  go_loopw [3, 4] (fun t3 t4 wr => ∃ i : Nat, i ≤ fs.length ∧ t4 = .int .i64 i ∧ Below w.heap.size w wr ∧ wr.ownsRow w.heap.size 9 1 t3 i (strs ((pathsOf fs).take i)) ∧ Hid (Treeing fs i)) (fun _ t4 _ => fs.length - (intOf t4).toNat)
  case atStart => exact ⟨0, by omega, rfl, Below.refl _ _, World.ownsRow_nil _ _ _ _, HST⟩
  case round =>
    obtain ⟨i, hi, rfl, hbr, hown, hT⟩ := hrel
    by_cases hlt : i < fs.length
    · obtain ⟨b, off, rfl, hbl, hcl⟩ := (HSL.out.keep hbr).2 (by omega)
      obtain ⟨k0, k1⟩ := cells2_get fs i hlt
      have hc0 := hcl (i * 2) _ k0
      have hc1 := hcl (i * 2 + 1) _ k1
      rw [← Nat.add_assoc] at hc1
      have hstep := treeing_step hT.out hlt
      obtain ⟨hpz, hbz⟩ := HSM.out _ (List.getElem_mem hlt)
      have htk : (pathsOf fs).take (i + 1) = (pathsOf fs).take i ++ [fs[i].1] := by
        rw [List.take_succ_eq_append_getElem (by rw [HPL.out]; exact hlt)]
        simp [pathsOf]
      have HTK := Lib.hid htk; clear htk
      have hl : ((pathsOf fs).take i).length = i := by rw [List.length_take, HPL.out]; omega
      have HL := Lib.hid hl; clear hl
      have HSTEP := Lib.hid hstep; clear hstep
      clear hcl k0 k1
      generalize hp : fs[i].1 = p at *
      generalize hb : fs[i].2 = bb at *
      have HPE := Lib.hid hp; clear hp hb
      have i0 : (0 : Int) ≤ (i : Int) := by omega
      have i1 : (i : Int) < (fs.length : Int) := by omega
      have hbs := hbr.size
      obtain ⟨A3, c3, hv3⟩ := own_form hown
      subst hv3
      have HOWN := Lib.hid hown; clear hown
      go_wp2_with fail
      refine (refPath_any p _ (Nat.le_trans hpz (by decide))).mono ?_
      cases hpb : pathB p
      · have HPB := Lib.hid hpb; clear hpb
        rintro e w3 ⟨hb3, rfl⟩
        go_wp2_with fail
        go_ret
        refine ⟨hbr.trans (hb3.mono hbs), ?_⟩
        rw [HSTEP.out, if_pos HPB.out]; rfl
      · have HPB := Lib.hid hpb; clear hpb
        rintro e w3 ⟨hb3, rfl⟩
        have hbw := hbr.trans (hb3.mono hbs)
        obtain ⟨cl, _⟩ := bcell hb3
        have hbsz : b < wr.heap.size := by omega
        have d0 : w3.cell? ⟨b, off + i * 2, none⟩ = some (.string p) := by rw [cl _ _ hbsz]; exact hc0
        have d1 : w3.cell? ⟨b, off + i * 2 + 1, none⟩ = some (.string bb) := by rw [cl _ _ hbsz]; exact hc1
        clear cl hc0 hc1
        go_wp2_with fail
        refine (refFileBytes_any bb _).mono ?_
        rw [bytesE_eq]
        rintro e w4 ⟨hb4, rfl⟩
        have hbw4 := hbw.trans (hb4.mono hbw.size)
        rcases bytesE_cases bb with hbe | hbe | hbe
        · have HBE := Lib.hid hbe
          rw [hbe]
          clear hbe
          obtain ⟨cl4, _⟩ := bcell hb4
          have d4 : w4.cell? ⟨b, off + i * 2, none⟩ = some (.string p) := by rw [cl4 _ _ (by have := hb3.size; omega)]; exact d0
          clear cl4 d0 d1
          have HOWN4 : Hid (w4.ownsRow w.heap.size 9 1 (.slice A3 i c3) i (strs ((pathsOf fs).take i))) := Lib.hid (own_below HOWN.out (hb3.trans (hb4.mono hb3.size)))
          go_wp2_with fail
          have hw4 := hbw4.size
          have hcls := refClashes_any p ((pathsOf fs).take i) A3 c3 w4 w4 hpz (by rw [HL.out]; omega) (HSML.out i) (by rw [HL.out]; have := Sl.of_own HOWN4.out; exact this)
          rw [HL.out, Ls_take] at hcls
          have HCLS := Lib.hid hcls; clear hcls
          cases hcc : clashesB (L p) ((fs.take i).map fun f => L f.1)
          · have HCC := Lib.hid hcc; clear hcc
            refine HCLS.out.mono ?_
            rw [HCC.out]
            rintro e w5 ⟨rfl, rfl⟩
            have HNX : Hid (Treeing fs (i + 1)) := Lib.hid (by
              unfold Treeing
              rw [HSTEP.out, HPB.out, if_neg (by simp), HBE.out, if_neg (by simp), HCC.out, if_neg (by simp)])
            go_wp2_with (at_builtin; refine wp_app1 rfl _ _ 53 rfl w.heap.size 9 (.string ByteArray.empty) 16 Tryd.underlying53 info_str rfl _ _ _ rfl HOWN4.out _ _ rfl rfl ?c1 ?c2 ?c3 ?_)
            case c1 => unfold maxLen; omega
            case c2 => omega
            case c3 => omega
            intro v' w6 hown6 hbel
            have hb6 := hbel w.heap.size w (Nat.le_refl _) hbw4
            clear hbel
            go_wp2_with fail
            go_roundw
            case rel =>
              refine ⟨i + 1, by omega, by go_num, hb6, ?_, HNX⟩
              rw [HTK.out]
              simpa [strs] using hown6
            case measure => simp [intOf]; omega
          · have HCC := Lib.hid hcc; clear hcc
            refine HCLS.out.mono ?_
            rw [HCC.out]
            rintro e w5 ⟨rfl, rfl⟩
            go_wp2_with fail
            go_ret
            refine ⟨hbw4, ?_⟩
            rw [HSTEP.out, HPB.out, if_neg (by simp), HBE.out, if_neg (by simp), HCC.out]; rfl
        all_goals
          have HBE := Lib.hid hbe
          rw [hbe]
          clear hbe
          go_wp2_with fail
          go_ret
          refine ⟨hbw4, ?_⟩
          rw [HSTEP.out, HPB.out, if_neg (by simp), HBE.out]; rfl
    · go_wp2_with fail
      go_ret
      exact ⟨hbr, by rw [treeing_end hT.out (by omega)]; rfl⟩
end Go.Proofs.YtmlkhloonmgkpaaDoor
