/-
  What ref06.Texts gives: are two rows of texts the same? No conditions but the rows' length.
-/
import Derived.Test.YthjaepmfkgejkaaDoorMerged2
namespace Go.Proofs.YthjaepmfkgejkaaDoor
open Go.RowKit
set_option linter.unusedVariables false
set_option linter.unusedSimpArgs false

set_option maxHeartbeats 1000000 in
set_option maxRecDepth 100000 in
theorem texts_any (a b : List ByteArray) (A C : Option Addr) (c d : Nat) (w : World) (ha : Sl w w.heap.size A a.length 1 (a.map Value.string)) (hb : Sl w w.heap.size C b.length 1 (b.map Value.string)) (hn : a.length ≤ 1099511627776) :
    Calls Tryd.prog 19 #[.slice A a.length c, .slice C b.length d] w fun e w' => Below w.heap.size w w' ∧ e = .returned (.bool (decide (a.map L = b.map L))) := by
  by_cases hl : a.length = b.length
  · have HA := Lib.hid ha; clear ha
    have HB := Lib.hid hb; clear hb
    have hle : ((a.length : Int) != (b.length : Int)) = false := by simp; omega
    have HL := Lib.hid hl; clear hl
    go_enter Tryd.func19, Tryd.ntmps19
    go_wp2_with fail
    go_loopw [5] (fun t wr => ∃ k : Nat, k ≤ a.length ∧ t = .int .i64 k ∧ Below w.heap.size w wr ∧ Hid (∀ j (h : j < a.length) (h' : j < b.length), j < k → L a[j] = L b[j])) (fun t _ => a.length - (intOf t).toNat)
    case atStart => exact ⟨0, by omega, rfl, Below.refl _ _, Lib.hid fun j _ _ hj => absurd hj (by omega)⟩
    case round =>
      obtain ⟨k, hk, rfl, hbw, hR⟩ := hrel
      by_cases hlt : k < a.length
      · have hlt2 : k < b.length := by have := HL.out; omega
        obtain ⟨g, off, rfl, hg, hc⟩ := (HA.out.keep hbw).2 (by omega)
        obtain ⟨g2, off2, rfl, hg2, hc2⟩ := (HB.out.keep hbw).2 (by omega)
        have c1 := hc k (.string a[k]) (by simp [hlt])
        have c2 := hc2 k (.string b[k]) (by simp [hlt2])
        clear hc hc2
        have k0 : (0 : Int) ≤ (k : Int) := by omega
        have k1 : (k : Int) < (a.length : Int) := by omega
        have k2 : (k : Int) < (b.length : Int) := by omega
        have hstop : L a[k] ≠ L b[k] → decide (a.map L = b.map L) = false := by
          intro h
          rw [decide_eq_false_iff_not]
          intro e
          have := congrArg (·[k]?) e
          simp [hlt, hlt2] at this
          exact h (by show a[k].data.toList = b[k].data.toList; rw [this])
        have hgo : L a[k] = L b[k] → ∀ j (h : j < a.length) (h' : j < b.length), j < k + 1 → L a[j] = L b[j] := by
          intro h j hj hj' hjk
          rcases (by omega : j < k ∨ j = k) with h' | h'
          · exact hR.out j hj hj' h'
          · subst h'; exact h
        have HST := Lib.hid hstop; clear hstop
        have HGO := Lib.hid hgo; clear hgo
        generalize hx : a[k] = x at *
        generalize hy : b[k] = y at *
        clear hx hy
        have hbq := str_beq x y
        by_cases he : L x = L y
        · rw [decide_eq_true he] at hbq
          have HE := Lib.hid he; clear he
          have hbn : (!(x.toList == y.toList)) = false := by rw [hbq]; rfl
          go_wp2_with fail
          go_quiet (fail)
          go_wp2_with fail
          go_roundw
          case rel => exact ⟨k + 1, by omega, by go_num, below_drewN hbw _, Lib.hid (HGO.out HE.out)⟩
          case measure => simp [intOf]; omega
        · rw [decide_eq_false he] at hbq
          have HE := Lib.hid he; clear he
          have hbn : (!(x.toList == y.toList)) = true := by rw [hbq]; rfl
          go_wp2_with fail
          go_quiet (fail)
          go_wp2_with fail
          go_ret
          exact ⟨below_drewN hbw _, by rw [HST.out HE.out]; rfl⟩
      · go_wp2_with fail
        go_ret
        refine ⟨hbw, ?_⟩
        have : a.map L = b.map L := by
          apply List.ext_getElem
          · simp; exact HL.out
          · intro j h1 h2
            rw [List.length_map] at h1 h2
            rw [List.getElem_map, List.getElem_map]
            exact hR.out j h1 h2 (by omega)
        rw [decide_eq_true this]; rfl
  · have hle : ((a.length : Int) != (b.length : Int)) = true := by simp; omega
    have hno : decide (a.map L = b.map L) = false := by
      rw [decide_eq_false_iff_not]
      intro e
      have := congrArg List.length e
      simp at this
      exact hl this
    rw [hno]
    clear hl ha hb hno
    go_enter Tryd.func19, Tryd.ntmps19
    go_wp2_with fail
    go_ret
    exact ⟨Below.refl _ _, rfl⟩

end Go.Proofs.YthjaepmfkgejkaaDoor
