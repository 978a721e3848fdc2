/-
  The reader's object: what stands while it is read. Conditions: as each says.
-/
import Derived.Test.YtdgbjhfkmembdaaGreatDoorObjOps1
import Derived.Test.YtdgbjhfkmembdaaGreatDoorObjRight3
namespace Go.Proofs.YtdgbjhfkmembdaaGreatDoor
open Go.RowKit Go.Maps
set_option linter.unusedVariables false
set_option linter.unusedSimpArgs false

structure ObjZ (w0 : World) (g rb zo : Nat) : Prop where
  low : g < w0.heap.size
  zr : w0.heap.size ≤ rb
  zz : w0.heap.size ≤ zo
  nr : zo ≠ rb
section
variable {w0 w wy : World} {g b off c : Nat} {l : List UInt8} {rb zo a a2 : Nat} {cs cs' : List Value}
end
theorem readS_byte {l : List UInt8} (h : pByte l = none) : readS l = none := by
  unfold readS pObj pBind; rw [h]
theorem readS_kind {l r : List UInt8} {k : UInt8} (h : pByte l = some (k, r)) (h1 : k ≠ 67) (h2 : k ≠ 75) : readS l = none := by
  unfold readS pObj; rw [pBind_at h, if_neg h1, if_neg h2]
/-- A change's bytes. -/
theorem readS_ch {l r : List UInt8} (h : pByte l = some (67, r)) : readS l = match pChange r with
  | some (c, q) => if q = [] ∧ rightB (1, c, noCommitD) = true then some (1, c, noCommitD) else none
  | none => none := by
  unfold readS pObj; rw [pBind_at h, if_pos rfl]
  unfold pBind
  rcases pChange r with _ | ⟨c, q⟩ <;> rfl
/-- A commit's bytes. -/
theorem readS_cm {l r : List UInt8} (h : pByte l = some (75, r)) : readS l = match pCommit r with
  | some (c, q) => if q = [] ∧ rightB (2, noChangeD, c) = true then some (2, noChangeD, c) else none
  | none => none := by
  unfold readS pObj; rw [pBind_at h, if_neg (by decide), if_pos rfl]
  unfold pBind
  rcases pCommit r with _ | ⟨c, q⟩ <;> rfl
end Go.Proofs.YtdgbjhfkmembdaaGreatDoor
