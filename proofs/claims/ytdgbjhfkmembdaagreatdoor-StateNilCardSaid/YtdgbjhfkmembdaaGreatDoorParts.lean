/-
  What the reference's Path, Parts and Texts give, and the program's Parts. Condition: the library's variable MaxLen holds a number; a text's length is an int's.
-/
import Derived.Test.YtdgbjhfkmembdaaGreatDoorPieces
namespace Go.Proofs.YtdgbjhfkmembdaaGreatDoor
open Go.RowKit
set_option linter.unusedVariables false

theorem pathB_pieces {s : ByteArray} {q : List ByteArray} (hq : q.map L = pieces (L s)) (h1 : ¬ s.size < 1) (h2 : ¬ 64 < s.size) (hp : plainB s shownB = true) : pathB s = (q.map L).all pieceB := by
  rw [hq]; simp [pathB, hp]; omega

set_option maxHeartbeats 1000000 in
set_option maxRecDepth 100000 in
theorem refPath_any (s : ByteArray) (w : World) (hs : s.size ≤ maxLen) : Calls Tryz.prog 262 #[.string s] w fun e w' => Below w.heap.size w w' ∧ e = .returned (.bool (pathB s)) := by
  unfold maxLen at hs
  by_cases h1 : s.size < 1
  · rw [show pathB s = false by simp [pathB]; omega]
    go_enter Tryz.func262, Tryz.ntmps262
    go_wp2_with fail
    go_ret
    exact ⟨Below.refl _ _, rfl⟩
  by_cases h2 : 64 < s.size
  · rw [show pathB s = false by simp [pathB]; omega]
    go_enter Tryz.func262, Tryz.ntmps262
    go_wp2_with fail
    go_ret
    exact ⟨Below.refl _ _, rfl⟩
  have hs' : s.size ≤ 1099511627776 := by omega
  cases hp : plainB s shownB
  · have HP := Lib.hid hp; clear hp
    rw [show pathB s = false by simp [pathB, HP.out]]
    go_enter Tryz.func262, Tryz.ntmps262
    go_wp2_with (go_at_call 260; refine (refRunes_any s _ hs').mono ?_; unfold RF; rw [HP.out]; rintro e w1 ⟨hb1, rfl⟩)
    go_ret
    exact ⟨hb1, rfl⟩
  · have HP := Lib.hid hp; clear hp
    go_enter Tryz.func262, Tryz.ntmps262
    go_wp2_with (go_at_call 260; refine (refRunes_any s _ hs').mono ?_; unfold RF; rw [HP.out]; rintro e w1 ⟨hb1, rfl⟩)
    refine (pieces_any s _ hs').mono ?_
    rintro e w2 ⟨hb2, q, A, c, hq, rfl, hsl, _⟩
    have HN : Hid (pathB s = (q.map L).all pieceB) := Lib.hid (pathB_pieces hq h1 h2 HP.out)
    have hql : q.length ≤ 65 := by
      have h := congrArg List.length hq
      rw [List.length_map] at h
      have h' := splitB_pieces s
      have h'' := congrArg List.length h'
      rw [List.length_map, ← h] at h''
      have h3 := Lib.splitB_length_le slashS 0 (Lib.countB s slashS) s
      have h4 := Lib.countB_le slashS (by decide) _ s (Nat.le_refl _)
      omega
    have HS := Lib.hid hsl; clear hsl
    have HQ := Lib.hid hq; clear hq
    have hbw : Below w.heap.size w w2 := hb1.trans (hb2.mono hb1.size)
    go_wp2_with fail
    go_loop [4] (fun t => ∃ k : Nat, k ≤ q.length ∧ t = .int .i64 k ∧ Hid (∀ j (h : j < q.length), j < k → pieceB (L q[j]) = true)) (fun t => q.length - (intOf t).toNat)
    case atStart => exact ⟨0, by omega, rfl, Lib.hid fun j _ hj => absurd hj (by omega)⟩
    case round =>
      obtain ⟨k, hk, rfl, hR⟩ := hrel
      by_cases hlt : k < q.length
      · obtain ⟨b, off, rfl, hbl, hcl⟩ := HS.out.2 (by omega)
        have hc := hcl k (.string q[k]) (by simp [hlt])
        clear hcl
        have hpe := piece_eq q[k]
        have hstop : pieceB (L q[k]) = false → pathB s = false := by
          intro h
          rw [HN.out, List.all_eq_false]
          exact ⟨L q[k], List.mem_map_of_mem (List.getElem_mem hlt), by simp [h]⟩
        have hgo : pieceB (L q[k]) = true → ∀ j (h : j < q.length), j < k + 1 → pieceB (L q[j]) = true := by
          intro h j hj hjk
          rcases (by omega : j < k ∨ j = k) with h' | h'
          · exact hR.out j hj h'
          · subst h'; exact h
        generalize hqk : q[k] = p at *
        clear hqk
        have HPE := Lib.hid hpe; clear hpe
        have HST := Lib.hid hstop; clear hstop
        have HGO := Lib.hid hgo; clear hgo
        cases e1 : p.toList.isEmpty
        · cases e2 : (p.toList == [46])
          · cases e3 : (p.toList == [46, 46])
            · have hy : Hid (pieceB (L p) = true) := Lib.hid (by rw [HPE.out, e1, e2, e3]; rfl)
              go_wp2_with fail
              go_round
              case rel => exact ⟨k + 1, by omega, by go_num, Lib.hid (HGO.out hy.out)⟩
              case measure => simp [intOf]; omega
            · have hy : Hid (pathB s = false) := Lib.hid (HST.out (by rw [HPE.out, e1, e2, e3]; rfl))
              go_wp2_with fail
              go_ret
              exact ⟨hbw, by rw [hy.out]; rfl⟩
          · have hy : Hid (pathB s = false) := Lib.hid (HST.out (by rw [HPE.out, e1, e2]; rfl))
            go_wp2_with fail
            go_ret
            exact ⟨hbw, by rw [hy.out]; rfl⟩
        · have hy : Hid (pathB s = false) := Lib.hid (HST.out (by rw [HPE.out, e1]; rfl))
          go_wp2_with fail
          go_ret
          exact ⟨hbw, by rw [hy.out]; rfl⟩
      · go_wp2_with fail
        go_ret
        refine ⟨hbw, ?_⟩
        have : pathB s = true := by
          rw [HN.out, List.all_eq_true]
          intro x hx
          obtain ⟨y, hy, rfl⟩ := List.mem_map.1 hx
          obtain ⟨j, hj, rfl⟩ := List.getElem_of_mem hy
          exact hR.out j hj (by omega)
        rw [this]; rfl

/-- A path's parts; none, if it is none. -/
def partsS (s : ByteArray) : List (List UInt8) := if pathB s then pieces (L s) else []
theorem path_size {s : ByteArray} (h : pathB s = true) : s.size ≤ 64 := by simp [pathB] at h; omega
theorem path_text {s : ByteArray} (h : pathB s = true) : isText s = true := by
  simp only [pathB, Bool.and_eq_true] at h
  cases ht : isText s
  · have := h.1.2; rw [plainB_text ht] at this; cases this
  · rfl

end Go.Proofs.YtdgbjhfkmembdaaGreatDoor
