/-
  The register's claims compared. Conditions: well formed.
-/
import Derived.Test.YtfjmbcljohobeaaGreatDoorMerged1
namespace Go.Proofs.YtfjmbcljohobeaaGreatDoor
open Go.RowKit
set_option linter.unusedVariables false

theorem cellsClaim : Tryz.prog.cellsOf 29 = 70 := by kernel_rfl
theorem kbClaimReg {c : ClaimD} (hc : ClaimOk c) : Kb Tryz.prog 4 29 (claimV c) :=
  kbClaim Tryz.underlying29 ⟨rfl, rfl⟩ ⟨rfl, rfl⟩ ⟨rfl, rfl⟩ ⟨rfl, rfl⟩ cellsClaim (by kernel_rfl) hc
set_option maxRecDepth 100000 in
theorem eqClaim : EqT Tryz.prog 29 4 := ⟨by kernel_rfl, of_decide_eq_true (by kernel_rfl), of_decide_eq_true (by kernel_rfl), by kernel_rfl, by kernel_rfl, of_decide_eq_true (by kernel_rfl), by kernel_rfl⟩
instance : DecidableEq { c : ClaimD // ClaimOk c } := fun x y => decidable_of_iff (x.1 = y.1) Subtype.ext_iff.symm
set_option maxRecDepth 100000 in
theorem run_eqClaim {a b : ClaimD} (ha : ClaimOk a) (hb : ClaimOk b) (w : World) : (Op.equalIn 10000 29 (.agg (claimV a).toArray) (.agg (claimV b).toArray)).run Tryz.prog w = .ok (decide (a = b)) w := by
  have h := eqClaim.run (α := { c : ClaimD // ClaimOk c }) (fun c => claimV c.1) (fun x y h => Subtype.ext (claimV_inj x.2 y.2 h)) (a := ⟨a, ha⟩) (b := ⟨b, hb⟩) (by rw [claimV_length ha, cellsClaim]) (by rw [claimV_length hb, cellsClaim]) (kbClaimReg ha) (kbClaimReg hb) w
  rw [h]
  congr 1
  rw [Bool.eq_iff_iff, decide_eq_true_iff, decide_eq_true_iff]
  exact ⟨fun e => congrArg Subtype.val e, fun e => Subtype.ext e⟩
end Go.Proofs.YtfjmbcljohobeaaGreatDoor
