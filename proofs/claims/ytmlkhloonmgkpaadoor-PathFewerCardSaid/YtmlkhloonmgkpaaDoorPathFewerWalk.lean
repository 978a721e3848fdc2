/-
  PathFewer's walk: the law returns true. Conditions: texts within the form's reach; the library's variable MaxLen holds a number.
-/
import Derived.Test.YtmlkhloonmgkpaaDoorTreeWalks
import Derived.Test.YtmlkhloonmgkpaaDoorAppO
import Derived.Test.YtmlkhloonmgkpaaDoorFewerSpec
import Derived.Test.YtmlkhloonmgkpaaDoorAwake07
import Derived.Deep.QuietTactic
import Derived.BigQuiet
namespace Go.Proofs.YtmlkhloonmgkpaaDoor.pathFewer
open Go.RowKit
set_option linter.unusedVariables false

theorem info_file : (Tryd.prog.info? 65).map (fun i => (i.zero, i.size, i.bytes)) = some (some (.agg #[.string ByteArray.empty, .string ByteArray.empty]), 2, 32) := by kernel_rfl

theorem own_cap {w : World} {base : Nat} {e : TypeId} {sz : Nat} {A : Option Addr} {n c : Nat} {xs : List Value} (h : w.ownsRow base e sz (.slice A n c) n xs) : n ≤ c := by
  rcases h.2 with ⟨hv, hn⟩ | ⟨g, cap, cur, hv, _, _, hle, _⟩
  · omega
  · injection hv with _ _ h3
    omega

theorem own_below9 {w w' : World} {base : Nat} {e : TypeId} {sz : Nat} {v : Value} {n : Nat} {xs : List Value} (h : w.ownsRow base e sz v n xs) (hb : Below w.heap.size w w') : w'.ownsRow base e sz v n xs := by
  refine ⟨h.1, ?_⟩
  rcases h.2 with h0 | ⟨g, cap, cur, hv, hbg, hg, hle, hm, hcs, ht⟩
  · exact .inl h0
  · exact .inr ⟨g, cap, cur, hv, hbg, by rw [hb.block g (Array.getElem?_eq_some_iff.1 hg).1]; exact hg, hle, hm, hcs, ht⟩
theorem swap_world {w7 : World} {base g n ct : Nat} {fs : List (ByteArray × ByteArray)} {a b : Nat} (h : w7.ownsRow base 65 2 (.slice (some ⟨g, 0, none⟩) n ct) n (cells2 fs)) (q1 q2 p1 p2 : ByteArray) (ha : a < fs.length) (hb : b < fs.length) :
    (((((w7.setCell ⟨g, a * 2, none⟩ (.string q1)).setCell ⟨g, a * 2 + 1, none⟩ (.string q2)).setCell ⟨g, b * 2, none⟩ (.string p1)).setCell ⟨g, b * 2 + 1, none⟩ (.string p2)).drew).ownsRow base 65 2 (.slice (some ⟨g, 0, none⟩) n ct) n (cells2 ((fs.set a (q1, q2)).set b (p1, p2))) ∧
    Below g w7 ((((w7.setCell ⟨g, a * 2, none⟩ (.string q1)).setCell ⟨g, a * 2 + 1, none⟩ (.string q2)).setCell ⟨g, b * 2, none⟩ (.string p1)).setCell ⟨g, b * 2 + 1, none⟩ (.string p2)).drew := by
  obtain ⟨h1, _⟩ := h.stored (a * 2) (.string q1)
  obtain ⟨h2, _⟩ := h1.stored (a * 2 + 1) (.string q2)
  obtain ⟨h3, _⟩ := h2.stored (b * 2) (.string p1)
  obtain ⟨h4, _⟩ := h3.stored (b * 2 + 1) (.string p2)
  refine ⟨?_, ((((Below.refl g w7).setCell (Nat.le_refl _) _).setCell (Nat.le_refl _) _).setCell (Nat.le_refl _) _).setCell (Nat.le_refl _) _ |>.drew⟩
  rw [cells2_set _ _ _ (by simpa using hb), cells2_set _ _ _ ha]
  exact h4.drew

set_option maxHeartbeats 2000000 in
set_option maxRecDepth 100000 in
theorem walk (fs : List (ByteArray × ByteArray)) (A : Option Addr) (c : Nat) (x y : Int) (w : World) (hn : fs.length ≤ maxLen) (hcap : fs.length ≤ c) (hsm : smallF fs) (hsl : Sl w w.heap.size A fs.length 2 (cells2 fs)) (hx : (Lit.int .i64 x).wf = true) (hy : (Lit.int .i64 y).wf = true) (hg : Glob w) :
    Calls Tryd.prog 12 #[.slice A fs.length c, .int .i64 x, .int .i64 y] w fun e w' => e = .returned (.bool true) ∧ Below w.heap.size w w' := by
  have HSL := Lib.hid hsl; clear hsl
  have HSM := Lib.hid hsm; clear hsm
  unfold maxLen at hn
  by_cases hbig : 20 < fs.length
  · go_enter Tryd.func12, Tryd.ntmps12
    go_wp2_with fail
    go_ret
    exact ⟨rfl, Below.refl _ _⟩
  clear hn
  by_cases hz : fs.length = 0
  · have hz' : ((fs.length : Int) == 0) = true := by simp [hz]
    have HZ := Lib.hid hz; clear hz
    go_enter Tryd.func12, Tryd.ntmps12
    go_wp2_with fail
    go_ret
    exact ⟨rfl, Below.refl _ _⟩
  have hz' : ((fs.length : Int) == 0) = false := by
    rw [beq_eq_false_iff_ne]
    omega
  go_enter Tryd.func12, Tryd.ntmps12
  go_wp2_with fail
  go_loop [7] (fun t => ∃ i : Nat, i ≤ fs.length ∧ t = .int .i64 i) (fun t => fs.length - (intOf t).toNat)
  case atStart => exact ⟨0, by omega, rfl⟩
  case round =>
    obtain ⟨i, hi, rfl⟩ := hrel
    by_cases hlt : i < fs.length
    · obtain ⟨b, off, rfl, hbl, hcl⟩ := HSL.out.2 (by omega)
      obtain ⟨k0, k1⟩ := cells2_get fs i hlt
      have hc0 := hcl (i * 2) _ k0
      have hc1 := hcl (i * 2 + 1) _ k1
      rw [← Nat.add_assoc] at hc1
      obtain ⟨hpz, hbz⟩ := HSM.out _ (List.getElem_mem hlt)
      have HCL := Lib.hid hcl; clear hcl k0 k1
      generalize fs[i].1 = p at *
      generalize fs[i].2 = bb at *
      have i0 : (0 : Int) ≤ (i : Int) := by omega
      have i1 : (i : Int) < (fs.length : Int) := by omega
      rcases (by omega : (200 < bb.size) ∨ ((¬ 200 < bb.size) ∧ 200 < p.size) ∨ ((¬ 200 < bb.size) ∧ ¬ 200 < p.size)) with q1 | ⟨q1, q2⟩ | ⟨q1, q2⟩
      · go_wp2_with fail
        go_ret
        exact ⟨rfl, Below.refl _ _⟩
      · go_wp2_with fail
        go_ret
        exact ⟨rfl, Below.refl _ _⟩
      · go_wp2_with fail
        go_round
        case rel => exact ⟨i + 1, by omega, by go_num⟩
        case measure => simp [intOf]; omega
    · cases ht : decide (treeE fs = 0)
      · have ht' : ((treeE fs : Int) != 0) = true := by simpa using ht
        go_wp2_with fail
        refine (tree_any fs A c _ (by omega) hcap HSM.out HSL.out hg).mono ?_
        rintro e w2 ⟨hb2, rfl⟩
        have g2 := hg.next hb2
        go_wp2_with fail
        refine (awake07_any _ g2).mono ?_
        rintro e w4 ⟨hb4, rfl⟩
        go_wp2_with fail
        go_ret
        exact ⟨rfl, hb2.trans (hb4.mono hb2.size)⟩
      · have htz : treeE fs = 0 := of_decide_eq_true ht
        have HT := Lib.hid htz; clear ht htz
        go_wp2_with fail
        refine (tree_any fs A c _ (by omega) hcap HSM.out HSL.out hg).mono ?_
        rw [HT.out]
        rintro e w2 ⟨hb2, rfl⟩
        have g2 := hg.next hb2
        go_wp2_with fail
        go_quiet (fail)
        have hn0 : 0 < fs.length := by omega
        have hal := modu_lt x hn0
        have hbl := modu_lt y hn0
        have ea := modu_eq x hn0 (by omega)
        have eb := modu_eq y hn0 (by omega)
        simp only [ea, eb]
        clear ea eb
        generalize modu x fs.length = a at *
        generalize modu y fs.length = b at *
        have hbW : Below w.heap.size w (w2.drewN nq) := below_drewN hb2 _
        generalize w2.drewN nq = W at *
        clear hb2 g2
        have gW := hg.next hbW
        go_wp2_with fail
        go_loopw [10, 11] (fun t10 t11 wr => ∃ k : Nat, k ≤ fs.length ∧ t11 = .int .i64 k ∧ Below w.heap.size w wr ∧ wr.ownsRow w.heap.size 65 2 t10 ((fs.take k).eraseIdx a).length (cells2 ((fs.take k).eraseIdx a))) (fun _ t11 _ => fs.length - (intOf t11).toNat)
        case atStart => exact ⟨0, by omega, rfl, hbW, World.ownsRow_nil _ _ _ _⟩
        case round =>
          obtain ⟨k, hk, rfl, hbr, hown⟩ := hrel
          have hbrs := hbr.size
          by_cases hlk : k < fs.length
          · have hst := take_erase_step fs k a hlk
            have HST := Lib.hid hst; clear hst
            have hlen : ((fs.take k).eraseIdx a).length ≤ fs.length := Nat.le_trans (List.eraseIdx_sublist _ _).length_le (by rw [List.length_take]; omega)
            obtain ⟨bk, off, rfl, hbk, hcl⟩ := (HSL.out.keep hbr).2 (by omega)
            obtain ⟨k0, k1⟩ := cells2_get fs k hlk
            have hc0 := hcl (k * 2) _ k0
            have hc1 := hcl (k * 2 + 1) _ k1
            rw [← Nat.add_assoc] at hc1
            have HCL := Lib.hid hcl; clear hcl k0 k1
            have hpe : fs[k] = (fs[k].1, fs[k].2) := rfl
            have HPE := Lib.hid hpe; clear hpe
            have hk0 : (0 : Int) ≤ (k : Int) := by omega
            have hk1 : (k : Int) < (fs.length : Int) := by omega
            generalize hp : fs[k].1 = p at *
            generalize hb : fs[k].2 = bb at *
            clear hp hb
            by_cases hka : k = a
            · have hne : ((k : Int) != (a : Int)) = false := by simp [hka]
              have HKA := Lib.hid hka; clear hka
              go_wp2_with fail
              go_roundw
              case rel =>
                refine ⟨k + 1, by omega, by go_num, hbr, ?_⟩
                rw [HST.out, if_pos HKA.out]
                exact hown
              case measure => simp [intOf]; omega
            · have hne : ((k : Int) != (a : Int)) = true := by simp; omega
              have HKA := Lib.hid hka; clear hka
              go_wp2_with (at_builtin; refine wp_appN rfl _ _ 63 rfl w.heap.size 65 (.agg #[.string ByteArray.empty, .string ByteArray.empty]) 2 32 Tryd.underlying63 info_file rfl (by decide) _ _ _ rfl hown [.string p, .string bb] _ rfl rfl ?c1 ?c2 ?c3 ?c4 ?_)
              case c1 => intro u hu; simp at hu; rcases hu with rfl | rfl <;> rfl
              case c2 => unfold maxLen; omega
              case c3 => omega
              case c4 => omega
              intro v' w6 hown6 hbel
              have hb6 := hbel w.heap.size w (Nat.le_refl _) hbr
              clear hbel
              go_wp2_with fail
              go_roundw
              case rel =>
                refine ⟨k + 1, by omega, by go_num, hb6, ?_⟩
                rw [HST.out, if_neg HKA.out, cells2_append, List.length_append, HPE.out]
                exact hown6
              case measure => simp [intOf]; omega
          · have hkn : fs.take k = fs := List.take_of_length_le (by omega)
            rw [hkn] at hown
            clear hkn
            have hEl : (fs.eraseIdx a).length ≤ fs.length := (List.eraseIdx_sublist _ _).length_le
            obtain ⟨AE, cE, hv⟩ := own_form hown
            subst hv
            have hcE := own_cap hown
            have hslE := Sl.of_own hown
            have HSLE := Lib.hid hslE; clear hslE hown
            have HSLR : Hid (Sl wr wr.heap.size A fs.length 2 (cells2 fs)) := Lib.hid ((HSL.out.keep hbr).more hbrs)
            have HONE : Hid (∀ u ∈ cells2 fs, u.oneCell' = true) := Lib.hid (cells2_one fs)
            go_wp2_with (at_builtin; refine wp_appO (by rfl) _ _ 63 rfl 65 (.agg #[.string ByteArray.empty, .string ByteArray.empty]) 2 32 Tryd.underlying63 info_file rfl (by decide) rfl A fs.length c (cells2 fs) rfl HSLR.out HONE.out ?c1 ?c2 ?c3 ?_)
            case c1 => omega
            case c2 => unfold maxLen; omega
            case c3 => omega
            intro g ct w7 hown7 hct hg7 hg7' hb7'
            have hb7 := hbr.trans (hb7'.mono hbrs)
            have HSLE7 := Lib.hid (HSLE.out.keep hb7')
            go_wp2_with fail
            obtain ⟨ka0, ka1⟩ := cells2_get fs a hal
            obtain ⟨kb0, kb1⟩ := cells2_get fs b hbl
            have ca0 : w7.cell? ⟨g, a * 2, none⟩ = _ := (hown7.cellAt (a * 2) (by omega)).trans ka0
            have ca1 : w7.cell? ⟨g, a * 2 + 1, none⟩ = _ := (hown7.cellAt (a * 2 + 1) (by omega)).trans ka1
            have cb0 : w7.cell? ⟨g, b * 2, none⟩ = _ := (hown7.cellAt (b * 2) (by omega)).trans kb0
            have cb1 : w7.cell? ⟨g, b * 2 + 1, none⟩ = _ := (hown7.cellAt (b * 2 + 1) (by omega)).trans kb1
            have fa0 := hown7.frozenAt (a * 2)
            have fa1 := hown7.frozenAt (a * 2 + 1)
            have fb0 := hown7.frozenAt (b * 2)
            have fb1 := hown7.frozenAt (b * 2 + 1)
            clear ka0 ka1 kb0 kb1
            have hat : ((fs.set a fs[b]).set b fs[a]) = ((fs.set a (fs[b].1, fs[b].2)).set b (fs[a].1, fs[a].2)) := rfl
            have HAT := Lib.hid hat; clear hat
            generalize hfa1 : fs[a].1 = p1 at *
            generalize hfa2 : fs[a].2 = p2 at *
            generalize hfb1 : fs[b].1 = q1' at *
            generalize hfb2 : fs[b].2 = q2' at *
            clear hfa1 hfa2 hfb1 hfb2
            have HOWN7 := Lib.hid hown7; clear hown7
            have a0 : (0 : Int) ≤ (a : Int) := by omega
            have a1 : (a : Int) < (fs.length : Int) := by omega
            have b0 : (0 : Int) ≤ (b : Int) := by omega
            have b1 : (b : Int) < (fs.length : Int) := by omega
            by_cases hab : a = b
            · subst hab
              have e1 := Value.string.inj (Option.some.inj (ca0.symm.trans cb0))
              have e2 := Value.string.inj (Option.some.inj (ca1.symm.trans cb1))
              subst e1 e2
              go_region
              go_wp2_with fail
              obtain ⟨hO8, hB8⟩ := swap_world HOWN7.out p1 p2 p1 p2 hal hal
              rw [← HAT.out] at hO8
              generalize ((((w7.setCell ⟨g, a * 2, none⟩ (.string p1)).setCell ⟨g, a * 2 + 1, none⟩ (.string p2)).setCell ⟨g, a * 2, none⟩ (.string p1)).setCell ⟨g, a * 2 + 1, none⟩ (.string p2)).drew = W8 at *
              have hb8 := hb7.trans (hB8.mono (by omega))
              have g8 := hg.next hb8
              have HSLE8 : Hid (Sl W8 W8.heap.size AE (fs.eraseIdx a).length 2 (cells2 (fs.eraseIdx a))) := Lib.hid ((HSLE7.out.keep (hB8.mono hg7)).more (by have := hB8.size; omega))
              have HO8 := Lib.hid hO8; clear hO8
              refine (tree_any (fs.eraseIdx a) AE cE _ (by omega) hcE (smallF_erase HSM.out a) HSLE8.out g8).mono ?_
              rw [tree_less HT.out a]
              rintro e w9 ⟨hb9, rfl⟩
              have hb89 := hb8.trans (hb9.mono hb8.size)
              have g9 := hg.next hb89
              have HSL9 := Lib.hid (Sl.of_own (own_below9 HO8.out hb9))
              clear hb9
              go_wp2_with fail
              have hsw := tree_any ((fs.set a fs[a]).set a fs[a]) (some ⟨g, 0, none⟩) ct w9 (by rw [List.length_set, List.length_set]; omega) (by rw [List.length_set, List.length_set]; omega) (smallF_swap HSM.out hal hal) (by rw [List.length_set, List.length_set]; exact HSL9.out) g9
              rw [List.length_set, List.length_set, tree_swap HT.out hal hal] at hsw
              refine hsw.mono ?_
              rintro e w10 ⟨hb10, rfl⟩
              have hb810 := hb89.trans (hb10.mono hb89.size)
              have g10 := hg.next hb810
              clear hsw hb10
              go_wp2_with fail
              refine (awake07_any _ g10).mono ?_
              rintro e w11 ⟨hb11, rfl⟩
              go_wp2_with fail
              go_ret
              exact ⟨rfl, hb810.trans (hb11.mono hb810.size)⟩
            · have n1 : ¬ a * 2 = b * 2 := by omega
              have n2 : ¬ a * 2 = b * 2 + 1 := by omega
              have n3 : ¬ a * 2 + 1 = b * 2 := by omega
              have n4 : ¬ b * 2 = a * 2 + 1 := by omega
              have n5 : ¬ b * 2 = a * 2 := by omega
              have n6 : ¬ b * 2 + 1 = a * 2 := by omega
              go_region
              clear n1 n2 n3 n4 n5 n6
              go_wp2_with fail
              obtain ⟨hO8, hB8⟩ := swap_world HOWN7.out q1' q2' p1 p2 hal hbl
              rw [← HAT.out] at hO8
              generalize ((((w7.setCell ⟨g, a * 2, none⟩ (.string q1')).setCell ⟨g, a * 2 + 1, none⟩ (.string q2')).setCell ⟨g, b * 2, none⟩ (.string p1)).setCell ⟨g, b * 2 + 1, none⟩ (.string p2)).drew = W8 at *
              have hb8 := hb7.trans (hB8.mono (by omega))
              have g8 := hg.next hb8
              have HSLE8 : Hid (Sl W8 W8.heap.size AE (fs.eraseIdx a).length 2 (cells2 (fs.eraseIdx a))) := Lib.hid ((HSLE7.out.keep (hB8.mono hg7)).more (by have := hB8.size; omega))
              have HO8 := Lib.hid hO8; clear hO8
              refine (tree_any (fs.eraseIdx a) AE cE _ (by omega) hcE (smallF_erase HSM.out a) HSLE8.out g8).mono ?_
              rw [tree_less HT.out a]
              rintro e w9 ⟨hb9, rfl⟩
              have hb89 := hb8.trans (hb9.mono hb8.size)
              have g9 := hg.next hb89
              have HSL9 := Lib.hid (Sl.of_own (own_below9 HO8.out hb9))
              clear hb9
              go_wp2_with fail
              have hsw := tree_any ((fs.set a fs[b]).set b fs[a]) (some ⟨g, 0, none⟩) ct w9 (by rw [List.length_set, List.length_set]; omega) (by rw [List.length_set, List.length_set]; omega) (smallF_swap HSM.out hal hbl) (by rw [List.length_set, List.length_set]; exact HSL9.out) g9
              rw [List.length_set, List.length_set, tree_swap HT.out hal hbl] at hsw
              refine hsw.mono ?_
              rintro e w10 ⟨hb10, rfl⟩
              have hb810 := hb89.trans (hb10.mono hb89.size)
              have g10 := hg.next hb810
              clear hsw hb10
              go_wp2_with fail
              refine (awake07_any _ g10).mono ?_
              rintro e w11 ⟨hb11, rfl⟩
              go_wp2_with fail
              go_ret
              exact ⟨rfl, hb810.trans (hb11.mono hb810.size)⟩
end Go.Proofs.YtmlkhloonmgkpaaDoor.pathFewer
