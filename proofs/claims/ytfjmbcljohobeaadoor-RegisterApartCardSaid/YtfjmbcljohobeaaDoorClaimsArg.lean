/-
  A slice of claims that came in, read. Conditions: none.
-/
import Derived.Test.YtfjmbcljohobeaaDoorClaimCells
import Derived.Test.YtfjmbcljohobeaaDoorKeySort
namespace Go.Proofs.YtfjmbcljohobeaaDoor
open Go.RowKit Go.ChangeShapes Go.WideShapes Go.ChangeAt
set_option linter.unusedVariables false

instance : Inhabited ClaimD := ⟨zeroC⟩
theorem claims_in {H : Type} {enc : TypeId × Value → H} {W : World} {a : Option Addr} {len cap : Nat} {d : DataW H} {ps : List MemPlace}
    (h : DataW.Trod enc Tryd.prog W 0 (fun _ => true) true 22 (.slice a len cap) d ps) :
    ∃ l : List ClaimD, l.length = len ∧ len ≤ maxLen ∧ (∀ c ∈ l, ClaimOk c) ∧ Sl W W.heap.size a l.length 70 (rowsV claimV l) := by
  obtain ⟨l, h1, h2, _, h4, h5⟩ := open_rows (ok := ClaimOk) (enc := claimV) Tryd.underlying22 (show Tryd.prog.cellsOf 43 = 70 by kernel_rfl) (by decide) (fun x hx => claimV_length hx)
    (fun n cs x hx => trod_claim Tryd.underlying43 ⟨rfl, rfl⟩ ⟨rfl, rfl⟩ ⟨rfl, rfl⟩ ⟨rfl, rfl⟩ (by kernel_rfl) hx) h
  exact ⟨l, h1, h2, h4, h5⟩
end Go.Proofs.YtfjmbcljohobeaaDoor
