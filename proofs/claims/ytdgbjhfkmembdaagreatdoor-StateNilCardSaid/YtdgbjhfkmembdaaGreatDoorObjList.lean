/-
  What the reader's list reads, one by one. Conditions: what one reading does is handed in.
-/
import Derived.Test.YtdgbjhfkmembdaaGreatDoorObjReader
namespace Go.Proofs.YtdgbjhfkmembdaaGreatDoor
open Go.RowKit Go.Maps
set_option linter.unusedVariables false
set_option linter.unusedSimpArgs false

/-- What is left to read decides. -/
def LRest {α : Type} (p : Ps α) (l : List UInt8) (n k1 i a : Nat) (xs : List α) : Prop := pMany p n (l.drop k1) = (pMany p (n - i) (l.drop a)).map fun q => (xs ++ q.1, q.2)
theorem LRest.start {α : Type} (p : Ps α) (l : List UInt8) (n k1 : Nat) : LRest p l n k1 0 k1 [] := by
  unfold LRest
  rw [Nat.sub_zero]
  cases pMany p n (l.drop k1) <;> simp
theorem LRest.next {α : Type} {p : Ps α} {l : List UInt8} {n k1 i a a2 : Nat} {xs : List α} {x : α} (h : LRest p l n k1 i a xs) (hi : i < n) (hx : p (l.drop a) = some (x, l.drop a2)) : LRest p l n k1 (i + 1) a2 (xs ++ [x]) := by
  unfold LRest at h ⊢
  rw [h, show n - i = (n - (i + 1)) + 1 by omega]
  show Option.map _ (pBind p _ (l.drop a)) = _
  rw [pBind_at hx]
  unfold pBind
  rcases pMany p (n - (i + 1)) (l.drop a2) with _ | ⟨ys, r⟩
  · rfl
  · simp [pRet]
theorem LRest.fail {α : Type} {p : Ps α} {l : List UInt8} {n k1 i a : Nat} {xs : List α} (h : LRest p l n k1 i a xs) (hi : i < n) (hx : p (l.drop a) = none) : pMany p n (l.drop k1) = none := by
  unfold LRest at h
  rw [h, show n - i = (n - (i + 1)) + 1 by omega]
  show Option.map _ (pBind p _ (l.drop a)) = _
  unfold pBind
  rw [hx]
  rfl
theorem LRest.end {α : Type} {p : Ps α} {l : List UInt8} {n k1 i a : Nat} {xs : List α} (h : LRest p l n k1 i a xs) (hi : n ≤ i) : pMany p n (l.drop k1) = some (xs, l.drop a) := by
  unfold LRest at h
  rw [h, show n - i = 0 by omega]
  simp [pMany, pRet]
end Go.Proofs.YtdgbjhfkmembdaaGreatDoor
