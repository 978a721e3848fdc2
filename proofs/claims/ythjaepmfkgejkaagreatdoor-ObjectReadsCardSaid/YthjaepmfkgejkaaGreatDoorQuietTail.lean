/-
  A region that draws its order: ahead operations that only read, but for calls that stay in a class of worlds; behind them a row of operations, each waiting for the one ahead of it. One walk in the text's order serves every order. Over any program; conditions as each says.
-/
import Derived.Test.YthjaepmfkgejkaaGreatDoorQStep
import Derived.StillTail
import Derived.Test.YthjaepmfkgejkaaGreatDoorGr
namespace Go.Proofs.YthjaepmfkgejkaaGreatDoor
open Go.RowKit
set_option linter.unusedVariables false

section
variable {P : Program} {md : Region.Mode} {H ops : Array Oper} {C : World → Prop}
/-- The two lists of what is done agree on what stands ahead. -/
structure Agree (H ops : Array Oper) (done listed : Array Bool) : Prop where
  size : done.size = H.size
  same : ∀ j b, j < H.size → done.getD j b = listed.getD j b

theorem Agree.set {done listed : Array Bool} (h : Agree H ops done listed) {i : Nat} (hl : H.size ≤ listed.size) : Agree H ops (done.setIfInBounds i true) (listed.setIfInBounds i true) := by
  refine ⟨by simpa using h.size, fun j b hj => ?_⟩
  by_cases e : i = j
  · subst e
    have h1 : i < done.size := by rw [h.size]; exact hj
    have h2 : i < listed.size := by omega
    simp [h1, h2]
  · rw [getD_set_ne b e, getD_set_ne b e]
    exact h.same j b hj
end

/-! ### The worlds that only drew and grew -/

def Wg (w : World) : Type := { w' : World // Gr w w' }
instance (w : World) : Nonempty (Wg w) := ⟨⟨w, Gr.refl _⟩⟩
theorem Wg.cell {w : World} {b o : Nat} {v : Value} (hc : w.cell? ⟨b, o, none⟩ = some v) (hb : b < w.heap.size) : ∀ n : Wg w, n.val.cell? ⟨b, o, none⟩ = some v := fun n => (n.2.below.cell (p := ⟨b, o, none⟩) hb).trans hc
theorem Wg.row {w : World} {b o : Nat} {cs : List Value} (hc : ∀ j u, cs[j]? = some u → w.cell? ⟨b, o + j, none⟩ = some u) (hb : b < w.heap.size) : ∀ w', (∃ n : Wg w, w' = n.val) → ∀ j u, cs[j]? = some u → w'.cell? ⟨b, o + j, none⟩ = some u := by
  rintro w' ⟨n, rfl⟩ j u hu
  exact Wg.cell (hc j u hu) hb n
theorem Wg.call {w : World} {P : Program} {f : FuncId} {args : Array Value} {v : Value} (h : ∀ w', Calls P f args w' fun e w'' => Gr w' w'' ∧ e = .returned v) (n : Wg w) :
    Calls P f args n.val fun e w'' => e = .returned v ∧ ∃ m : Wg w, w'' = m.val :=
  (h n.val).mono fun e w'' ⟨hb, he⟩ => ⟨he, ⟨w'', n.2.trans hb⟩, rfl⟩
end Go.Proofs.YthjaepmfkgejkaaGreatDoor
