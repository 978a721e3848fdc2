/-
  A slice of claims that came in, read. Conditions: none.
-/
import Derived.Test.YtfjmbcljohobeaaGreatDoorMerged1
namespace Go.Proofs.YtfjmbcljohobeaaGreatDoor
open Go.RowKit Go.ChangeShapes Go.WideShapes Go.ChangeAt
set_option linter.unusedVariables false

instance : Inhabited ClaimD := ⟨zeroC⟩
theorem claims_in {H : Type} {enc : TypeId × Value → H} {W : World} {a : Option Addr} {len cap : Nat} {d : DataW H} {ps : List MemPlace}
    (h : DataW.Trod enc Tryz.prog W 0 (fun _ => true) true 22 (.slice a len cap) d ps) :
    ∃ l : List ClaimD, l.length = len ∧ len ≤ maxLen ∧ (∀ c ∈ l, ClaimOk c) ∧ Sl W W.heap.size a l.length 70 (rowsV claimV l) := by
  obtain ⟨l, h1, h2, _, h4, h5⟩ := open_rows (ok := ClaimOk) (enc := claimV) Tryz.underlying22 (show Tryz.prog.cellsOf 37 = 70 by kernel_rfl) (by decide) (fun x hx => claimV_length hx)
    (fun n cs x hx => trod_claim Tryz.underlying37 ⟨rfl, rfl⟩ ⟨rfl, rfl⟩ ⟨rfl, rfl⟩ ⟨rfl, rfl⟩ (by kernel_rfl) hx) h
  exact ⟨l, h1, h2, h4, h5⟩
set_option maxRecDepth 100000 in
theorem claim_arg {H : Type} {enc : TypeId × Value → H} {W : World} {r : Reach} {b0 : Nat} {v : Value} {d : DataW H} {ps : List MemPlace} (hv : Value.okWide Tryz.prog W r b0 37 v)
    (h : DataW.Trod enc Tryz.prog W 0 (fun _ => true) true 37 v d ps) : ∃ x : ClaimD, ClaimOk x ∧ v = .agg (claimV x).toArray := by
  obtain ⟨cs, rfl, _⟩ := okWide_struct Tryz.underlying37 hv
  obtain ⟨fuel, hf⟩ := h
  obtain ⟨c, hc, e⟩ := trod_claim Tryz.underlying37 ⟨rfl, rfl⟩ ⟨rfl, rfl⟩ ⟨rfl, rfl⟩ ⟨rfl, rfl⟩ (by kernel_rfl) hf
  have e' : cs.toList = claimV c := e
  have e2 := congrArg List.toArray e'
  rw [Array.toArray_toList] at e2
  exact ⟨c, hc, congrArg Value.agg e2⟩
set_option maxRecDepth 100000 in
theorem key_arg {H : Type} {enc : TypeId × Value → H} {W : World} {r : Reach} {b0 : Nat} {v : Value} {d : DataW H} {ps : List MemPlace} (hv : Value.okWide Tryz.prog W r b0 26 v)
    (h : DataW.Trod enc Tryz.prog W 0 (fun _ => true) true 26 v d ps) : ∃ k : KeyD, KeyOk k ∧ v = .agg (keyV k).toArray := by
  obtain ⟨cs, rfl, _⟩ := okWide_struct Tryz.underlying26 hv
  obtain ⟨fuel, hf⟩ := h
  obtain ⟨k, hk, e⟩ := trodKey hf
  have e' : cs.toList = keyV k := e
  have e2 := congrArg List.toArray e'
  rw [Array.toArray_toList] at e2
  exact ⟨k, hk, congrArg Value.agg e2⟩
def keyData (H : Type) : DataW H := .agg [.lit (.int .i64 0), .agg (List.replicate 32 (.lit (.int .u8 0))), .lit (.int .i64 0)]
def claimData (H : Type) : DataW H := .agg [keyData H, keyData H, .lit (.int .u8 0), .lit (.string [])]
end Go.Proofs.YtfjmbcljohobeaaGreatDoor
