/-
  Worlds that only drew and grew. No conditions; no program.
-/
import Derived.Test.YtdgbjhfkmembdaaGreatDoorIdCells
import Derived.Sort.Grow
import Derived.Deep.Draws
import Derived.Below
namespace Go.Proofs.YtdgbjhfkmembdaaGreatDoor
open Go.RowKit Go.Sort
set_option linter.unusedVariables false

/-- The world has drawn, and new blocks lie behind; nothing else. -/
def Gr (w w' : World) : Prop := ∃ q os, w' = grow (w.drewN q) os
theorem Gr.refl (w : World) : Gr w w := ⟨0, #[], by rw [grow_empty]; rfl⟩
theorem Gr.trans {a b c : World} (h : Gr a b) (k : Gr b c) : Gr a c := by
  obtain ⟨q, os, rfl⟩ := h
  obtain ⟨q', os', rfl⟩ := k
  refine ⟨q + q', os ++ os', ?_⟩
  rw [show (grow (a.drewN q) os).drewN q' = grow ((a.drewN q).drewN q') os from rfl, grow_grow, World.drewN_drewN]
theorem Gr.alloc {a b : World} (h : Gr a b) (o : Obj) : Gr a (b.alloc o) := h.trans ⟨0, #[o], by rw [alloc_eq_grow]; rfl⟩
theorem Gr.drewN {a b : World} (h : Gr a b) (q : Nat) : Gr a (b.drewN q) := h.trans ⟨q, #[], by rw [grow_empty]⟩
theorem Gr.drew {a b : World} (h : Gr a b) : Gr a b.drew := h.drewN 1
theorem Gr.below {a b : World} (h : Gr a b) : Below a.heap.size a b := by
  obtain ⟨q, os, rfl⟩ := h
  refine ⟨rfl, rfl, rfl, by simp [grow, World.drewN], fun k hk => ?_⟩
  show (a.heap ++ os)[k]? = _
  rw [Array.getElem?_append_left hk]
end Go.Proofs.YtdgbjhfkmembdaaGreatDoor
