/-
  PathTrees' walk: the law returns true. Conditions: texts within the form's reach; the library's variable MaxLen holds a number.
-/
import Derived.Test.YtmlkhloonmgkpaaDoorRefTree
import Derived.Test.YtmlkhloonmgkpaaDoorAppS
import Derived.Test.YtmlkhloonmgkpaaDoorAwake07
namespace Go.Proofs.YtmlkhloonmgkpaaDoor.pathTrees
open Go.RowKit
set_option linter.unusedVariables false

theorem info_file : (Tryd.prog.info? 65).map (fun i => (i.zero, i.size, i.bytes)) = some (some (.agg #[.string ByteArray.empty, .string ByteArray.empty]), 2, 32) := by kernel_rfl

set_option maxHeartbeats 2000000 in
set_option maxRecDepth 100000 in
theorem walk (fs : List (ByteArray × ByteArray)) (A : Option Addr) (c : Nat) (w : World) (hn : fs.length ≤ maxLen) (hcap : fs.length ≤ c) (hsm : smallF fs) (hsl : Sl w w.heap.size A fs.length 2 (cells2 fs)) (hg : Glob w) :
    Calls Tryd.prog 11 #[.slice A fs.length c] w fun e w' => e = .returned (.bool true) ∧ Below w.heap.size w w' := by
  have HSL := Lib.hid hsl; clear hsl
  have HSM := Lib.hid hsm; clear hsm
  unfold maxLen at hn
  by_cases hbig : 70 < fs.length
  · go_enter Tryd.func11, Tryd.ntmps11
    go_wp2_with fail
    go_ret
    exact ⟨rfl, Below.refl _ _⟩
  · clear hn
    go_enter Tryd.func11, Tryd.ntmps11
    go_wp2_with fail
    go_loop [3] (fun t => ∃ i : Nat, i ≤ fs.length ∧ t = .int .i64 i) (fun t => fs.length - (intOf t).toNat)
    case atStart => exact ⟨0, by omega, rfl⟩
    case round =>
      obtain ⟨i, hi, rfl⟩ := hrel
      by_cases hlt : i < fs.length
      · obtain ⟨b, off, rfl, hbl, hcl⟩ := HSL.out.2 (by omega)
        obtain ⟨k0, k1⟩ := cells2_get fs i hlt
        have hc0 := hcl (i * 2) _ k0
        have hc1 := hcl (i * 2 + 1) _ k1
        rw [← Nat.add_assoc] at hc1
        obtain ⟨hpz, hbz⟩ := HSM.out _ (List.getElem_mem hlt)
        have HCL := Lib.hid hcl; clear hcl k0 k1
        generalize fs[i].1 = p at *
        generalize fs[i].2 = bb at *
        have i0 : (0 : Int) ≤ (i : Int) := by omega
        have i1 : (i : Int) < (fs.length : Int) := by omega
        rcases (by omega : (200 < bb.size ∧ bb.size ≤ 4096) ∨ ((¬ 200 < bb.size) ∧ 200 < p.size) ∨ ((¬ 200 < bb.size) ∧ ¬ 200 < p.size) ∨ (200 < bb.size ∧ (¬ bb.size ≤ 4096) ∧ 200 < p.size) ∨ (200 < bb.size ∧ (¬ bb.size ≤ 4096) ∧ ¬ 200 < p.size)) with ⟨q1, q2⟩ | ⟨q1, q2⟩ | ⟨q1, q2⟩ | ⟨q1, q2, q3⟩ | ⟨q1, q2, q3⟩
        · go_wp2_with fail
          go_ret
          exact ⟨rfl, Below.refl _ _⟩
        · go_wp2_with fail
          go_ret
          exact ⟨rfl, Below.refl _ _⟩
        · go_wp2_with fail
          go_round
          case rel => exact ⟨i + 1, by omega, by go_num⟩
          case measure => simp [intOf]; omega
        · go_wp2_with fail
          go_ret
          exact ⟨rfl, Below.refl _ _⟩
        · go_wp2_with fail
          go_round
          case rel => exact ⟨i + 1, by omega, by go_num⟩
          case measure => simp [intOf]; omega
      · have HONE : Hid (∀ u ∈ cells2 fs, u.oneCell' = true) := Lib.hid (cells2_one fs)
        go_wp2_with (at_builtin; refine wp_appSc (by rfl) _ _ 63 rfl 65 (.agg #[.string ByteArray.empty, .string ByteArray.empty]) 2 32 Tryd.underlying63 info_file rfl (by decide) rfl A fs.length c (cells2 fs) rfl HSL.out HONE.out ?c1 ?c2 ?_)
        case c1 => unfold maxLen; omega
        case c2 => omega
        intro A' c' w1 hsl1 hcap1 hb1
        have HSL1 := Lib.hid hsl1; clear hsl1
        have g1 := hg.next hb1
        go_wp2_with fail
        refine (tree_any fs A' c' _ (by omega) hcap1 HSM.out HSL1.out g1).mono ?_
        rintro e w2 ⟨hb2', rfl⟩
        have hb2 := hb1.trans (hb2'.mono hb1.size)
        have HSL2 := Lib.hid ((HSL.out.keep hb2).more hb2.size)
        clear hb2'
        go_wp2_with fail
        refine (refTree_any fs A c _ (by omega) HSM.out HSL2.out).mono ?_
        rintro e w3 ⟨hb3', rfl⟩
        have hb3 := hb2.trans (hb3'.mono hb2.size)
        have g3 := hg.next hb3
        clear hb3'
        go_wp2_with fail
        refine (awake07_any _ g3).mono ?_
        rintro e w4 ⟨hb4, rfl⟩
        go_wp2_with fail
        go_ret
        exact ⟨rfl, hb3.trans (hb4.mono hb3.size)⟩
end Go.Proofs.YtmlkhloonmgkpaaDoor.pathTrees
