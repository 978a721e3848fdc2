/-
  The reader's memory: bytes, and the place in them. Conditions: as each says.
-/
import Derived.Test.YtdgbjhfkmembdaaGreatDoorObjMem
import Derived.Test.YtdgbjhfkmembdaaGreatDoorLebWalks
import Derived.Test.YtdgbjhfkmembdaaGreatDoorQuietR
import Derived.Test.YtdgbjhfkmembdaaGreatDoorHandB
import Derived.WalkLawsBesides
namespace Go.Proofs.YtdgbjhfkmembdaaGreatDoor
open Go.RowKit Go.Maps
set_option linter.unusedVariables false
set_option linter.unusedSimpArgs false

/-- A call that panics, at a step taken by hand. -/
theorem wpOp_callP {P : Program} {ops : Array Oper} {Q : Exit → Act → World → Prop} {i : Nat} {K : Act → World → Prop} {a : Act} {w : World} {f : FuncId} {args : Array Value} {ch : List PanicEntry} (o : Oper) (hi : opAt ops.toList i = some o) (hw : Region.wanted o (yielded ops a.tmps) = true)
    (h : (execOp a.eval o).run P w = .ok (.enter f args) w) (hc : Calls P f args w fun e w' => e = .panicked ch ∧ Q (.panic ch) a w') : wpOp P ops Q i K a w := by
  unfold wpOp
  simp only [opAt_spec hi, if_pos hw]
  refine .inl ?_
  unfold Oper.wp
  rw [h]
  exact hc.mono fun e w' ⟨he, hk⟩ => by subst he; exact hk
section
variable {g b off c at' at2 : Nat} {l : List UInt8} {w w' : World}
variable {α : Type} {p : Ps α} {R : α → Value → World → Prop} {e : Ending} {a : α} {r : List UInt8}
end
theorem pNum_at {l : List UInt8} {at' n k : Nat} (h : getS (l.drop at') = some (n, k)) : pNum (l.drop at') = some (n, l.drop (at' + k)) := by
  unfold pNum; rw [h]; simp only [List.drop_drop]
theorem pNum_no {l : List UInt8} {at' : Nat} (h : getS (l.drop at') = none) : pNum (l.drop at') = none := by
  unfold pNum; rw [h]
theorem pText_at {l t : List UInt8} {at' k : Nat} (h : getTextS (l.drop at') 4096 = some (t, k)) : pText (l.drop at') = some (⟨t.toArray⟩, l.drop (at' + k)) := by
  unfold pText; rw [h]; simp only [List.drop_drop]
theorem pText_no {l : List UInt8} {at' : Nat} (h : getTextS (l.drop at') 4096 = none) : pText (l.drop at') = none := by
  unfold pText; rw [h]
end Go.Proofs.YtdgbjhfkmembdaaGreatDoor
