/-
  What a fresh path is: the path itself, or a candidate; its length. No conditions; no program.
-/
import Derived.Test.YtdgbjhfkmembdaaGreatDoorFreshWalks
namespace Go.Proofs.YtdgbjhfkmembdaaGreatDoor

theorem freshGo_form (l : List UInt8) (T : List (List UInt8)) : ∀ (f n : Nat) (t : List UInt8), freshGo l T f n t = t ∨ ∃ m, n ≤ m ∧ m < n + f ∧ freshGo l T f n t = candS l m := by
  intro f
  induction f with
  | zero => intro n t; exact .inl rfl
  | succ f ih =>
    intro n t
    unfold freshGo
    split
    · rcases ih (n + 1) (candS l n) with h | ⟨m, h1, h2, h3⟩
      · exact .inr ⟨n, Nat.le_refl _, by omega, h⟩
      · exact .inr ⟨m, by omega, by omega, h3⟩
    · exact .inl rfl
theorem candS_length (l : List UInt8) (n : Nat) : (candS l n).length = l.length + 1 + (Lib.decDigits n).length := by
  have h2 := congrArg List.length (first_rest l)
  rw [List.length_append] at h2
  simp only [candS, List.length_append, List.length_cons, List.length_nil]
  omega
theorem freshS_length (l : List UInt8) (T : List (List UInt8)) (h : T.length ≤ 97) : l.length ≤ (freshS l T).length ∧ (freshS l T).length ≤ l.length + 3 := by
  unfold freshS
  rcases freshGo_form l T (T.length + 2) 1 l with e | ⟨m, h1, h2, e⟩
  · rw [e]; omega
  · rw [e, candS_length]
    have := decDigits_len (k := m) (by omega)
    omega
theorem freshS_self (l : List UInt8) (T : List (List UInt8)) : (freshS l T = l) ↔ clashesB l T = false := by
  constructor
  · intro h
    have := fresh_clear (l := l) (taken := T)
    rw [h] at this
    exact this
  · intro h
    unfold freshS freshGo
    rw [if_neg (by rw [h]; simp)]
end Go.Proofs.YtdgbjhfkmembdaaGreatDoor
