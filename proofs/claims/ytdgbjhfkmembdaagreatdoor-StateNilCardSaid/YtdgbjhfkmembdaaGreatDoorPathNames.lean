/-
  What Author, Note, Name and Path give. Path asks that the library's variable MaxLen holds a number.
-/
import Derived.Test.YtdgbjhfkmembdaaGreatDoorPathWalks
namespace Go.Proofs.YtdgbjhfkmembdaaGreatDoor
open Go.RowKit
set_option linter.unusedVariables false

theorem ba (a b c : Bool) (h : a = true) (h' : b = true) : (a && b && c) = c := by rw [h, h']; simp

theorem author_any (s : ByteArray) (w : World) (hs : s.size ≤ maxLen) : Calls Tryz.prog 226 #[.string s] w fun e w' => Below w.heap.size w w' ∧ e = .returned (.bool (authorB s)) := by
  have hs' := hs
  unfold maxLen at hs
  by_cases h1 : 1 ≤ s.size
  · by_cases h2 : s.size ≤ 32
    · rw [show authorB s = plainB s shownB by simp [authorB, h1, h2]]
      go_enter Tryz.func226, Tryz.ntmps226
      go_wp2_with (go_at_call 210; refine (plain_shown s _ hs').mono ?_; rintro e w1 ⟨hb1, rfl⟩)
      go_ret
      exact ⟨hb1, rfl⟩
    · rw [show authorB s = false by simp [authorB, h2]]
      go_enter Tryz.func226, Tryz.ntmps226
      go_wp2_with fail
      go_ret
      exact ⟨Below.refl _ _, rfl⟩
  · rw [show authorB s = false by simp [authorB, h1]]
    go_enter Tryz.func226, Tryz.ntmps226
    go_wp2_with fail
    go_ret
    exact ⟨Below.refl _ _, rfl⟩

theorem note_any (s : ByteArray) (w : World) (hs : s.size ≤ maxLen) : Calls Tryz.prog 228 #[.string s] w fun e w' => Below w.heap.size w w' ∧ e = .returned (.bool (noteB s)) := by
  have hs' := hs
  unfold maxLen at hs
  by_cases h2 : s.size ≤ 256
  · rw [show noteB s = plainB s anyB by simp [noteB, h2, anyB_text]]
    go_enter Tryz.func228, Tryz.ntmps228
    go_wp2_with (go_at_call 210; refine (plain_yes s _ hs').mono ?_; rintro e w1 ⟨hb1, rfl⟩)
    go_ret
    exact ⟨hb1, rfl⟩
  · rw [show noteB s = false by simp [noteB, h2]]
    go_enter Tryz.func228, Tryz.ntmps228
    go_wp2_with fail
    go_ret
    exact ⟨Below.refl _ _, rfl⟩

def headB (s : ByteArray) : Bool := decide (1 ≤ s.size) && decide (s.size ≤ 32) && !(B s 0 == 46) && !(B s 0 == 45) && !decide (s = HEAD)
theorem nameB_eq (s : ByteArray) : nameB s = (headB s && (List.range s.size).all fun i => signB (B s i)) := rfl
theorem HEAD_eq (s : ByteArray) : (s.toList == [72, 69, 65, 68]) = decide (s = HEAD) := by
  rw [toList_L, Bool.eq_iff_iff]
  simp only [beq_iff_eq, decide_eq_true_eq]
  constructor
  · intro h; exact L_inj h
  · intro h; subst h; rfl

theorem all_range_stop {p : Nat → Bool} {n k : Nat} (h : k < n) (hk : p k = false) : (List.range n).all p = false := by
  rw [List.all_eq_false]
  exact ⟨k, by simpa using h, by simp [hk]⟩
theorem all_range_done {p : Nat → Bool} {n : Nat} (h : ∀ j, j < n → p j = true) : (List.range n).all p = true := by
  rw [List.all_eq_true]
  intro x hx
  exact h x (by simpa using hx)

/-- The library's variable MaxLen holds a number. -/
def Glob (w : World) : Prop := ∃ m : Int, w.cell? ⟨0, 0, none⟩ = some (.int .i64 m)
theorem Glob.keep {w w' : World} {B : Nat} (h : Glob w) (hb : Below B w w') (hB : 0 < B) : Glob w' := by
  obtain ⟨m, hm⟩ := h
  exact ⟨m, (hb.cell (p := ⟨0, 0, none⟩) hB).trans hm⟩
theorem Glob.lt {w : World} (h : Glob w) : 0 < w.heap.size := by
  obtain ⟨m, hm⟩ := h
  rcases Nat.lt_or_ge 0 w.heap.size with a | a
  · exact a
  · unfold World.cell? at hm
    rw [Array.getElem?_eq_none a] at hm
    cases hm
theorem Glob.next {w w' : World} (h : Glob w) (hb : Below w.heap.size w w') : Glob w' := h.keep hb h.lt

theorem piece_eq (p : ByteArray) : pieceB (L p) = (!p.toList.isEmpty && !(p.toList == [46]) && !(p.toList == [46, 46])) := by
  rw [toList_L, Bool.eq_iff_iff]
  simp [pieceB]

set_option maxRecDepth 100000 in
theorem path_any (s : ByteArray) (w : World) (hs : s.size ≤ maxLen) (hg : Glob w) : Calls Tryz.prog 173 #[.string s] w fun e w' => Below w.heap.size w w' ∧ e = .returned (.bool (pathB s)) := by
  have hs' := hs
  unfold maxLen at hs
  by_cases h1 : s.size < 1
  · rw [show pathB s = false by simp [pathB]; omega]
    go_enter Tryz.func173, Tryz.ntmps173
    go_wp2_with fail
    go_ret
    exact ⟨Below.refl _ _, rfl⟩
  by_cases h2 : 64 < s.size
  · rw [show pathB s = false by simp [pathB]; omega]
    go_enter Tryz.func173, Tryz.ntmps173
    go_wp2_with fail
    go_ret
    exact ⟨Below.refl _ _, rfl⟩
  cases hp : plainB s shownB
  · have HP := Lib.hid hp; clear hp
    rw [show pathB s = false by simp [pathB, HP.out]]
    go_enter Tryz.func173, Tryz.ntmps173
    go_wp2_with (go_at_call 210; refine (plain_shown s _ hs').mono ?_; rw [HP.out]; rintro e w1 ⟨hb1, rfl⟩)
    go_ret
    exact ⟨hb1, rfl⟩
  · have HP := Lib.hid hp; clear hp
    have HN : Hid (pathB s = ((Lib.splitB slashS 0 (Lib.countB s slashS) s).map L).all pieceB) := Lib.hid (by rw [splitB_pieces]; simp [pathB, HP.out]; omega)
    have hlen := Lib.splitB_all slashS (by decide) 0 (Lib.countB s slashS) s rfl
    have hle := Lib.countB_le slashS (by decide) _ s (Nat.le_refl _)
    generalize hq : Lib.splitB slashS 0 (Lib.countB s slashS) s = q at *
    have HQ := Lib.hid hq; clear hq
    have hql : q.length ≤ 65 := by omega
    have HL := Lib.hid hlen; clear hlen hle
    go_enter Tryz.func173, Tryz.ntmps173
    go_wp2_with (go_at_call 210; refine (plain_shown s _ hs').mono ?_; rw [HP.out]; rintro e w1 ⟨hb1, rfl⟩)
    obtain ⟨m, hm⟩ := hg.next hb1
    refine (Tryz.strings_Split s slashS m w1 (by omega) hm (by decide)).mono ?_
    rw [HQ.out, ← HL.out]
    rintro e w2 ⟨rfl, hw2⟩
    have hbw : Below w.heap.size w w2 := by rw [hw2]; exact hb1.alloc hb1.size _
    have hcell : ∀ j, (h : j < q.length) → w2.cell? ⟨w1.heap.size, j, none⟩ = some (.string q[j]) := by
      intro j h
      rw [hw2, World.cell?_alloc_new]
      simp [h]
    have HC := Lib.hid hcell; clear hcell hw2
    go_wp2_with fail
    go_loop [21] (fun t => ∃ k : Nat, k ≤ q.length ∧ t = .int .i64 k ∧ Hid (∀ j (h : j < q.length), j < k → pieceB (L q[j]) = true)) (fun t => q.length - (intOf t).toNat)
    case atStart => exact ⟨0, by omega, rfl, Lib.hid fun j _ hj => absurd hj (by omega)⟩
    case round =>
      obtain ⟨k, hk, rfl, hR⟩ := hrel
      by_cases hlt : k < q.length
      · have hc := HC.out k hlt
        have hpe := piece_eq q[k]
        have hstop : pieceB (L q[k]) = false → pathB s = false := by
          intro h
          rw [HN.out, List.all_eq_false]
          exact ⟨L q[k], List.mem_map_of_mem (List.getElem_mem hlt), by simp [h]⟩
        have hgo : pieceB (L q[k]) = true → ∀ j (h : j < q.length), j < k + 1 → pieceB (L q[j]) = true := by
          intro h j hj hjk
          rcases (by omega : j < k ∨ j = k) with h' | h'
          · exact hR.out j hj h'
          · subst h'; exact h
        generalize hqk : q[k] = p at *
        clear hqk
        have HPE := Lib.hid hpe; clear hpe
        have HST := Lib.hid hstop; clear hstop
        have HGO := Lib.hid hgo; clear hgo
        cases e1 : p.toList.isEmpty
        · cases e2 : (p.toList == [46])
          · cases e3 : (p.toList == [46, 46])
            · have hy : Hid (pieceB (L p) = true) := Lib.hid (by rw [HPE.out, e1, e2, e3]; rfl)
              go_wp2_with fail
              go_round
              case rel => exact ⟨k + 1, by omega, by go_num, Lib.hid (HGO.out hy.out)⟩
              case measure => simp [intOf]; omega
            · have hy : Hid (pathB s = false) := Lib.hid (HST.out (by rw [HPE.out, e1, e2, e3]; rfl))
              go_wp2_with fail
              go_ret
              exact ⟨hbw, by rw [hy.out]; rfl⟩
          · have hy : Hid (pathB s = false) := Lib.hid (HST.out (by rw [HPE.out, e1, e2]; rfl))
            go_wp2_with fail
            go_ret
            exact ⟨hbw, by rw [hy.out]; rfl⟩
        · have hy : Hid (pathB s = false) := Lib.hid (HST.out (by rw [HPE.out, e1]; rfl))
          go_wp2_with fail
          go_ret
          exact ⟨hbw, by rw [hy.out]; rfl⟩
      · go_wp2_with fail
        go_ret
        refine ⟨hbw, ?_⟩
        have : pathB s = true := by
          rw [HN.out, List.all_eq_true]
          intro x hx
          obtain ⟨y, hy, rfl⟩ := List.mem_map.1 hx
          obtain ⟨j, hj, rfl⟩ := List.getElem_of_mem hy
          exact hR.out j hj (by omega)
        rw [this]; rfl
end Go.Proofs.YtdgbjhfkmembdaaGreatDoor
