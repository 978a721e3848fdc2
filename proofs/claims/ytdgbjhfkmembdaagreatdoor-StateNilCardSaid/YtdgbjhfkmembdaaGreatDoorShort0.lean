/-
  Short names of what is said most often. Conditions: none.
-/
import Derived.Test.YtdgbjhfkmembdaaGreatDoorMem
import Derived.Deep.MidRow
namespace Go.Proofs.YtdgbjhfkmembdaaGreatDoor
open Go.RowKit

theorem qX {α : Type} {xs : Array α} {i : Nat} {a : α} (h : xs[i]? = some a) : i < xs.size := (Array.getElem?_eq_some_iff.1 h).1
theorem dT {p : Prop} [Decidable p] (h : p) : decide p = true := decide_eq_true h
theorem dF {p : Prop} [Decidable p] (h : ¬ p) : decide p = false := decide_eq_false h
theorem qR (n : Nat) : n ≤ n := Nat.le_refl n
theorem qT {a b c : Nat} (h : a ≤ b) (g : b ≤ c) : a ≤ c := Nat.le_trans h g
theorem qL {a b c : Nat} (h : a < b) (g : b ≤ c) : a < c := Nat.lt_of_lt_of_le h g
theorem qZ (n : Nat) : 0 + n = n := Nat.zero_add n
theorem qD (b : Nat) (w : World) : Below b w w.drew := (Below.refl b w).drew
theorem qB (b : Nat) (w : World) : Below b w w := Below.refl b w
abbrev qV := @run_loadVar_mid
end Go.Proofs.YtdgbjhfkmembdaaGreatDoor
