/-
  What the program's Tree gives. Conditions: texts of at most 2^47 bytes; the library's variable MaxLen holds a number.
-/
import Derived.Test.YtmlkhloonmgkpaaDoorFiles
import Derived.Test.YtmlkhloonmgkpaaDoorTreeSpec
import Derived.Test.YtmlkhloonmgkpaaDoorRunes
namespace Go.Proofs.YtmlkhloonmgkpaaDoor
open Go.RowKit
set_option linter.unusedVariables false

theorem bytesE_eq (s : ByteArray) : bytesS s = bytesE s := rfl
theorem bytesE_cases (s : ByteArray) : bytesE s = 0 ∨ bytesE s = 2 ∨ bytesE s = 5 := by
  unfold bytesE
  split
  · exact .inr (.inl rfl)
  · split
    · exact .inl rfl
    · exact .inr (.inr rfl)
theorem bcell {W w1 : World} (hb : Below W.heap.size W w1) : (∀ b o, b < W.heap.size → w1.cell? ⟨b, o, none⟩ = W.cell? ⟨b, o, none⟩) ∧ (∀ b o, b < W.heap.size → w1.frozen? ⟨b, o, none⟩ = W.frozen? ⟨b, o, none⟩) :=
  ⟨fun b o h => hb.cell (p := ⟨b, o, none⟩) h, fun b o h => hb.frozen (p := ⟨b, o, none⟩) h⟩

/-- Read up to i: what is left decides. -/
def Treeing (fs : List (ByteArray × ByteArray)) (i : Nat) : Prop := treeE fs = treeGo ((fs.take i).map fun f => L f.1) (fs.drop i)
theorem treeing_start {fs : List (ByteArray × ByteArray)} (h : ¬ 64 < fs.length) : Treeing fs 0 := by
  unfold Treeing treeE; rw [if_neg h]; rfl
theorem treeing_step {fs : List (ByteArray × ByteArray)} {i : Nat} (h : Treeing fs i) (hi : i < fs.length) :
    treeE fs = if pathB fs[i].1 = false then 10 else if bytesE fs[i].2 ≠ 0 then bytesE fs[i].2 else if clashesB (L fs[i].1) ((fs.take i).map fun f => L f.1) then 11 else treeGo ((fs.take (i + 1)).map fun f => L f.1) (fs.drop (i + 1)) := by
  rw [h, List.drop_eq_getElem_cons hi, treeGo, List.take_succ_eq_append_getElem hi, List.map_append]
  rfl
theorem treeing_end {fs : List (ByteArray × ByteArray)} {i : Nat} (h : Treeing fs i) (hi : fs.length ≤ i) : treeE fs = 0 := by
  rw [h, List.drop_eq_nil_of_le hi]; rfl
theorem clashes_take_no {fs : List (ByteArray × ByteArray)} {i : Nat} {l : List UInt8} (hi : i ≤ fs.length) (h : ∀ j (hj : j < fs.length), j < i → clashB l (L fs[j].1) = false) : clashesB l ((fs.take i).map fun f => L f.1) = false := by
  unfold clashesB
  rw [List.any_eq_false]
  intro x hx
  obtain ⟨f, hf, rfl⟩ := List.mem_map.1 hx
  obtain ⟨j, hj, rfl⟩ := List.getElem_of_mem hf
  rw [List.length_take] at hj
  rw [List.getElem_take]
  simp [h j (by omega) (by omega)]
theorem clashes_take_yes {fs : List (ByteArray × ByteArray)} {i j : Nat} {l : List UInt8} (hi : i ≤ fs.length) (hj : j < i) (h : clashB l (L (fs[j]'(by omega)).1) = true) : clashesB l ((fs.take i).map fun f => L f.1) = true := by
  unfold clashesB
  rw [List.any_eq_true]
  refine ⟨L (fs[j]'(by omega)).1, List.mem_map.2 ⟨fs[j]'(by omega), ?_, rfl⟩, h⟩
  rw [List.mem_take_iff_getElem]
  exact ⟨j, by omega, rfl⟩

set_option maxHeartbeats 2000000 in
set_option maxRecDepth 100000 in
theorem tree_any (fs : List (ByteArray × ByteArray)) (A : Option Addr) (c : Nat) (w : World) (hn : fs.length ≤ 1099511627776) (hcap : fs.length ≤ c) (hsm : smallF fs) (hsl : Sl w w.heap.size A fs.length 2 (cells2 fs)) (hg : Glob w) :
    Calls Tryd.prog 41 #[.slice A fs.length c] w fun e w' => Below w.heap.size w w' ∧ e = .returned (.int .i64 (treeE fs)) := by
  have HSL := Lib.hid hsl; clear hsl
  have HSM := Lib.hid hsm; clear hsm
  by_cases h64 : 64 < fs.length
  · rw [show treeE fs = 3 by unfold treeE; rw [if_pos h64]]
    go_enter Tryd.func41, Tryd.ntmps41
    go_wp2_with fail
    go_ret
    exact ⟨Below.refl _ _, rfl⟩
  have hst := treeing_start h64
  have HST := Lib.hid hst; clear hst
  go_enter Tryd.func41, Tryd.ntmps41
  go_wp2_with fail
  go_loopw [13] (fun t13 wr => ∃ i : Nat, i ≤ fs.length ∧ t13 = .int .i64 i ∧ Below w.heap.size w wr ∧ Hid (Treeing fs i)) (fun t13 _ => fs.length - (intOf t13).toNat)
  case atStart => exact ⟨0, by omega, rfl, Below.refl _ _, HST⟩
  case round =>
    obtain ⟨i, hi, rfl, hbr, hT⟩ := hrel
    have gr := hg.next hbr
    obtain ⟨wo, hwo⟩ : ∃ wo : World, wo = wr := ⟨_, rfl⟩
    subst hwo
    by_cases hlt : i < fs.length
    · have HSLR : Hid (Sl wo w.heap.size A fs.length 2 (cells2 fs)) := Lib.hid (HSL.out.keep hbr)
      obtain ⟨b, off, hAe, hbl, hcl⟩ := HSLR.out.2 (by omega)
      obtain ⟨k0, k1⟩ := cells2_get fs i hlt
      have hc0 := hcl (i * 2) _ k0
      have hc1 := hcl (i * 2 + 1) _ k1
      rw [← Nat.add_assoc] at hc1
      have hstep := treeing_step hT.out hlt
      obtain ⟨hpz, hbz⟩ := HSM.out _ (List.getElem_mem hlt)
      have HCL := Lib.hid hcl; clear hcl k0 k1
      have HSTEP := Lib.hid hstep; clear hstep
      generalize hp : fs[i].1 = p at *
      generalize hb : fs[i].2 = bb at *
      have HPE := Lib.hid hp; clear hp hb
      have i0 : (0 : Int) ≤ (i : Int) := by omega
      have i1 : (i : Int) < (fs.length : Int) := by omega
      subst hAe
      go_wp2_with fail
      have hba := hbr.alloc hbr.size (.cells #[.string p, .string bb] 65)
      have ga := hg.next hba
      refine (path_any p _ (Nat.le_trans hpz (by decide)) ga).mono ?_
      cases hpb : pathB p
      · have HPB := Lib.hid hpb; clear hpb
        rintro e w3 ⟨hb3, rfl⟩
        go_wp2_with fail
        go_ret
        refine ⟨hba.trans (hb3.mono (by have := hbr.size; simp; omega)), ?_⟩
        rw [HSTEP.out, if_pos HPB.out]; rfl
      · have HPB := Lib.hid hpb; clear hpb
        rintro e w3 ⟨hb3, rfl⟩
        have hbw := hba.trans (hb3.mono (by have := hbr.size; simp; omega))
        have gw := hg.next hbw
        obtain ⟨cl, _⟩ := bcell hb3
        have d0 : w3.cell? ⟨wo.heap.size, 0, none⟩ = some (.string p) := by rw [cl _ _ (by simp)]; rw [World.cell?_alloc_new]; rfl
        have d1 : w3.cell? ⟨wo.heap.size, 1, none⟩ = some (.string bb) := by rw [cl _ _ (by simp)]; rw [World.cell?_alloc_new]; rfl
        have hz3 : wo.heap.size < w3.heap.size := by have := hb3.size; simp at this; omega
        have D0 := Lib.hid d0
        clear cl d0
        go_wp2_with fail
        refine (bytes_any bb _ (Nat.le_trans hbz (by decide))).mono ?_
        rw [bytesE_eq]
        rintro e w4 ⟨rfl, rfl⟩
        rcases bytesE_cases bb with hbe | hbe | hbe
        · have HBE := Lib.hid hbe
          rw [hbe]
          clear hbe
          go_wp2_with fail
          have ic : i ≤ c := by omega
          go_wp2_with fail
          go_loopw [32] (fun t32 wy => ∃ j : Nat, j ≤ i ∧ t32 = .int .i64 j ∧ Below w3.heap.size w3 wy ∧ Hid (∀ k (hk : k < fs.length), k < j → clashB (L p) (L fs[k].1) = false)) (fun t32 _ => i - (intOf t32).toNat)
          case atStart => exact ⟨0, by omega, rfl, Below.refl _ _, Lib.hid fun k _ hk => absurd hk (by omega)⟩
          case round =>
            obtain ⟨j, hj, rfl, hby, hI⟩ := hrel
            have hbwy := hbw.trans (hby.mono (by have := hbw.size; omega))
            by_cases hlj : j < i
            · obtain ⟨b', off', hAe, _, hcl⟩ := (HSL.out.keep hbwy).2 (by omega)
              obtain ⟨rfl, rfl⟩ : b = b' ∧ off = off' := by injection hAe with h; injection h with h1 h2; exact ⟨h1, h2⟩
              obtain ⟨k0, k1⟩ := cells2_get fs j (by omega)
              have c0 := hcl (j * 2) _ k0
              have c1 := hcl (j * 2 + 1) _ k1
              rw [← Nat.add_assoc] at c1
              have hoz := (HSM.out _ (List.getElem_mem (show j < fs.length by omega))).1
              have e0 : wr.cell? ⟨wo.heap.size, 0, none⟩ = some (.string p) := by rw [(bcell hby).1 _ _ hz3]; exact D0.out
              have hzy : wo.heap.size < wr.heap.size := by have := hby.size; omega
              have hnext : clashB (L p) (L (fs[j]'(by omega)).1) = false → ∀ k (hk : k < fs.length), k < j + 1 → clashB (L p) (L fs[k].1) = false := by
                intro h k hk hkj
                rcases (by omega : k < j ∨ k = j) with h' | h'
                · exact hI.out k hk h'
                · subst h'; exact h
              have hstop : clashB (L p) (L (fs[j]'(by omega)).1) = true → treeE fs = 11 := by
                intro h
                rw [HSTEP.out, HPB.out, if_neg (by simp), HBE.out, if_neg (by simp), if_pos (clashes_take_yes (j := j) (by omega) hlj h)]
              have HNX := Lib.hid hnext; clear hnext
              have HSP := Lib.hid hstop; clear hstop
              clear hcl k0 k1 hAe
              generalize hq : (fs[j]'(by omega)).1 = q at *
              generalize hqb : (fs[j]'(by omega)).2 = qb at *
              have HQ := Lib.hid hq; clear hq hqb
              have j0 : (0 : Int) ≤ (j : Int) := by omega
              have j1 : (j : Int) < (i : Int) := by omega
              cases hcs : clashB (L p) (L q)
              · have HCS := Lib.hid hcs; clear hcs
                go_wp2_with fail
                refine (clash_any p q _ hpz hoz).mono ?_
                rw [HCS.out]
                rintro e w5 ⟨rfl, rfl⟩
                go_wp2_with fail
                go_roundw
                case rel => exact ⟨j + 1, by omega, by go_num, hby.alloc hby.size _, Lib.hid (HNX.out HCS.out)⟩
                case measure => simp [intOf]; omega
              · have HCS := Lib.hid hcs; clear hcs
                go_wp2_with fail
                refine (clash_any p q _ hpz hoz).mono ?_
                rw [HCS.out]
                rintro e w5 ⟨rfl, rfl⟩
                go_wp2_with fail
                go_ret
                exact ⟨hbwy.alloc hbwy.size _, by rw [HSP.out HCS.out]; rfl⟩
            · have hnx : Treeing fs (i + 1) := by
                unfold Treeing
                rw [HSTEP.out, HPB.out, if_neg (by simp), HBE.out, if_neg (by simp), if_neg]
                rw [clashes_take_no (by omega) (fun k hk hki => hI.out k hk (by omega))]
                simp
              have HNX := Lib.hid hnx; clear hnx
              go_wp2_with fail
              go_roundw
              case rel => exact ⟨i + 1, by omega, by go_num, hbwy, HNX⟩
              case measure => simp [intOf]; omega
        all_goals
          have HBE := Lib.hid hbe
          rw [hbe]
          clear hbe
          go_wp2_with fail
          go_ret
          refine ⟨hbw, ?_⟩
          rw [HSTEP.out, HPB.out, if_neg (by simp), HBE.out]; rfl
    · go_wp2_with fail
      go_ret
      exact ⟨hbr, by rw [treeing_end hT.out (by omega)]; rfl⟩
end Go.Proofs.YtmlkhloonmgkpaaDoor
