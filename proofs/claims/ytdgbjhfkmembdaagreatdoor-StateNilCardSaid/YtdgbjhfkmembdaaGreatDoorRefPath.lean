/-
  What the reference's predicates of layer 7 give. Conditions: a text's length is an int's (2^40 where runes are listed).
-/
import Derived.Test.YtdgbjhfkmembdaaGreatDoorPathNames
import Derived.Test.YtdgbjhfkmembdaaGreatDoorRunes
namespace Go.Proofs.YtdgbjhfkmembdaaGreatDoor
open Go.RowKit
set_option linter.unusedVariables false

theorem sizeId : (Tryz.prog.info? 41).map (·.size) = some 32 := by kernel_rfl

def RF (s : ByteArray) (w : World) (e : Ending) (w' : World) : Prop := Below w.heap.size w w' ∧ e = .returned (.bool (plainB s shownB))

set_option maxRecDepth 100000 in
theorem refRunes_any (s : ByteArray) (w : World) (hs : s.size ≤ 1099511627776) : Calls Tryz.prog 260 #[.string s] w (RF s w) := by
  go_enter Tryz.func260, Tryz.ntmps260
  go_wp2_with fail
  refine (runes_any s _ hs).mono ?_
  rintro e w1 ⟨hb1, ⟨l, A, c, hl, rfl, hsl⟩ | ⟨hl, n, rfl⟩⟩
  · have hpl : plainB s shownB = l.all shownB := by unfold plainB; rw [hl]
    have HP := Lib.hid hpl; clear hpl
    have hll : l.length ≤ s.size := by
      have hgo : ∀ (f pos : Nat) (l : List Nat), runesGo s f pos = some l → l.length ≤ f := by
        intro f
        induction f with
        | zero => intro pos l h; simp [runesGo] at h; subst h; simp
        | succ f ih =>
          intro pos l h
          rw [runesGo] at h
          split at h
          · split at h
            · obtain ⟨l', hl', rfl⟩ := Option.map_eq_some_iff.1 h
              have := ih _ _ hl'
              simp; omega
            · cases h
          · cases h; simp
      exact hgo _ _ _ hl
    clear hl
    have HS := Lib.hid hsl; clear hsl
    go_wp2_with fail
    go_loop [6] (fun t => ∃ k : Nat, k ≤ l.length ∧ t = .int .i64 k ∧ Hid (∀ j (h : j < l.length), j < k → shownB l[j] = true)) (fun t => l.length - (intOf t).toNat)
    case atStart => exact ⟨0, by omega, rfl, Lib.hid fun j _ hj => absurd hj (by omega)⟩
    case round =>
      obtain ⟨k, hk, rfl, hR⟩ := hrel
      by_cases hlt : k < l.length
      · obtain ⟨b, off, rfl, hbl, hcl⟩ := HS.out.2 (by omega)
        have hc := hcl k (.int .i32 (l[k] : Int)) (by simp [i32s, hlt])
        have HCL := Lib.hid hcl; clear hcl
        have hstop : shownB l[k] = false → plainB s shownB = false := by
          intro h
          rw [HP.out, List.all_eq_false]
          exact ⟨l[k], List.getElem_mem hlt, by simp [h]⟩
        have hgo : shownB l[k] = true → ∀ j (h : j < l.length), j < k + 1 → shownB l[j] = true := by
          intro h j hj hjk
          rcases (by omega : j < k ∨ j = k) with h' | h'
          · exact hR.out j hj h'
          · subst h'; exact h
        generalize hr : l[k] = r at *
        clear hr
        have HST := Lib.hid hstop; clear hstop
        have HGO := Lib.hid hgo; clear hgo
        rcases (by omega : r < 32 ∨ r = 127 ∨ (32 ≤ r ∧ r < 127) ∨ 127 < r) with h | h | h | h
        · have hy : Hid (plainB s shownB = false) := Lib.hid (HST.out (by simp [shownB]; omega))
          go_wp2_with fail
          go_ret
          exact ⟨hb1, by rw [hy.out]; rfl⟩
        · subst h
          have hy : Hid (plainB s shownB = false) := Lib.hid (HST.out (by decide))
          go_wp2_with fail
          go_ret
          exact ⟨hb1, by rw [hy.out]; rfl⟩
        · have hy : Hid (shownB r = true) := Lib.hid (by simp [shownB]; omega)
          have h127 : ((r : Int) == 127) = false := by simp; omega
          go_wp2_with fail
          go_round
          case rel => exact ⟨k + 1, by omega, by go_num, Lib.hid (HGO.out hy.out)⟩
          case measure => simp [intOf]; omega
        · have hy : Hid (shownB r = true) := Lib.hid (by simp [shownB]; omega)
          have h127 : ((r : Int) == 127) = false := by simp; omega
          go_wp2_with fail
          go_round
          case rel => exact ⟨k + 1, by omega, by go_num, Lib.hid (HGO.out hy.out)⟩
          case measure => simp [intOf]; omega
      · go_wp2_with fail
        go_ret
        refine ⟨hb1, ?_⟩
        have : plainB s shownB = true := by
          rw [HP.out, List.all_eq_true]
          intro x hx
          obtain ⟨j, hj, rfl⟩ := List.getElem_of_mem hx
          exact hR.out j hj (by omega)
        rw [this]; rfl
  · have hpl : plainB s shownB = false := by unfold plainB; rw [hl]
    have HP := Lib.hid hpl; clear hpl hl
    go_wp2_with fail
    go_ret
    exact ⟨hb1, by rw [HP.out]; rfl⟩

theorem refAuthor_any (s : ByteArray) (w : World) (hs : s.size ≤ maxLen) : Calls Tryz.prog 236 #[.string s] w fun e w' => Below w.heap.size w w' ∧ e = .returned (.bool (authorB s)) := by
  unfold maxLen at hs
  by_cases h1 : 1 ≤ s.size
  · by_cases h2 : s.size ≤ 32
    · rw [show authorB s = plainB s shownB by simp [authorB, h1, h2]]
      go_enter Tryz.func236, Tryz.ntmps236
      go_wp2_with (go_at_call 260; refine (refRunes_any s _ (by omega)).mono ?_; rintro e w1 ⟨hb1, rfl⟩)
      go_ret
      exact ⟨hb1, rfl⟩
    · rw [show authorB s = false by simp [authorB, h2]]
      go_enter Tryz.func236, Tryz.ntmps236
      go_wp2_with fail
      go_ret
      exact ⟨Below.refl _ _, rfl⟩
  · rw [show authorB s = false by simp [authorB, h1]]
    go_enter Tryz.func236, Tryz.ntmps236
    go_wp2_with fail
    go_ret
    exact ⟨Below.refl _ _, rfl⟩

theorem refNote_any (s : ByteArray) (w : World) (hs : s.size ≤ maxLen) : Calls Tryz.prog 238 #[.string s] w fun e w' => Below w.heap.size w w' ∧ e = .returned (.bool (noteB s)) := by
  unfold maxLen at hs
  by_cases h2 : s.size ≤ 256
  · rw [show noteB s = isText s by simp [noteB, h2]]
    go_enter Tryz.func238, Tryz.ntmps238
    go_wp2_with (go_at_call 265; refine (is_any s _ (by omega)).mono ?_; rintro e w1 ⟨hb1, rfl⟩)
    go_ret
    exact ⟨hb1, rfl⟩
  · rw [show noteB s = false by simp [noteB, h2]]
    go_enter Tryz.func238, Tryz.ntmps238
    go_wp2_with fail
    go_ret
    exact ⟨Below.refl _ _, rfl⟩
end Go.Proofs.YtdgbjhfkmembdaaGreatDoor
