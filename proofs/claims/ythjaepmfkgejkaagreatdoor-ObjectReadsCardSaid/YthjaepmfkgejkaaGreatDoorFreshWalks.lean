/-
  What Clash and Fresh give. Conditions: texts of at most 2^47 bytes; at most 97 taken paths (Fresh).
-/
import Derived.Test.YthjaepmfkgejkaaGreatDoorPathNames
import Derived.Test.YthjaepmfkgejkaaGreatDoorFreshSpec
namespace Go.Proofs.YthjaepmfkgejkaaGreatDoor
open Go.RowKit
set_option linter.unusedVariables false

/-- The loop's state: at number k, with f steps left, the text t is tried. -/
structure Trying (s : ByteArray) (taken : List (List UInt8)) (k f : Nat) (t : ByteArray) : Prop where
  one : 1 ≤ k
  sum : k + f = taken.length + 3
  size : t.size ≤ s.size + 4
  is : freshS (L s) taken = freshGo (L s) taken f k (L t)
  cand : 2 ≤ k → L t = candS (L s) (k - 1)
  behind : ∀ j, 1 ≤ j → j + 1 < k → clashesB (candS (L s) j) taken = true

theorem Trying.start (s : ByteArray) (taken : List (List UInt8)) : Trying s taken 1 (taken.length + 2) s :=
  ⟨by omega, by omega, by omega, rfl, fun h => absurd h (by omega), fun j h1 h2 => absurd h2 (by omega)⟩
theorem Trying.left {s t : ByteArray} {taken : List (List UInt8)} {k f : Nat} (h : Trying s taken k f t) : ∃ g, f = g + 1 ∧ k ≤ taken.length + 2 := by
  have := cand_few (l := L s) (taken := taken) (m := k - 2) (fun j h1 h2 => h.behind j h1 (by omega))
  have := h.sum
  exact ⟨f - 1, by omega, by omega⟩
theorem Trying.next {s t t' : ByteArray} {taken : List (List UInt8)} {k f : Nat} (h : Trying s taken k (f + 1) t) (hc : clashesB (L t) taken = true) (ht : L t' = candS (L s) k) (hz : t'.size ≤ s.size + 4) : Trying s taken (k + 1) f t' := by
  have h1 := h.one
  refine ⟨by omega, by have := h.sum; omega, hz, ?_, fun _ => by rw [Nat.add_sub_cancel]; exact ht, fun j hj hk => ?_⟩
  · rw [h.is, freshGo, if_pos hc, ht]
  · rcases (by omega : j + 1 < k ∨ j = k - 1) with a | a
    · exact h.behind j hj a
    · subst a
      rw [← h.cand (by omega)]; exact hc
theorem Trying.done {s t : ByteArray} {taken : List (List UInt8)} {k f : Nat} (h : Trying s taken k (f + 1) t) (hc : clashesB (L t) taken = false) : L t = freshS (L s) taken := by
  rw [h.is, freshGo, if_neg (by rw [hc]; simp)]
end Go.Proofs.YthjaepmfkgejkaaGreatDoor
