/-
  DERIVED. GIVEN WITH THE SEED: THE CARDS: each row of YtfjmbcljohobeaaGreatDoorRows.lean that lists a variable, with what it lists TIED to the program's text (the seventh form; the later family's looks); each row that meets fmt, with fmt's text TOLD by the authors' own Lean function (tested against real Go, not proved from fmt's source: count such statements apart). THE CARD IS WHAT COUNTS. Prove the row's statement (the work); the ties are given (YtfjmbcljohobeaaGreatDoorTie.lean); close each card by the builder's one call (the guide's Derived/Test/ToyasCard.lean, 'card_holds'). Laid BY PROGRAM, IN A SANDBOX (cutbox-door.mjs). By AI agents, Wed Nov 11 2026. No macro, syntax, notation, axiom, sorry.
-/
import Derived.Test.YtfjmbcljohobeaaGreatDoorRows
import GoSem.ClaimSeven
namespace Go.Proofs.YtfjmbcljohobeaaGreatDoor
namespace Rows

/-- THE TIED CARD OF 'variorumlaw14.RegisterLasts'. -/
def registerLastsCard : Claim7 := { stood := { row := registerLastsRow, standIns := [], harness := (true, "50d45d92b9dedf6f284fe5dac71553fb4805b22c877b88c2a3df792836a7c6ce"), looks := false }, kinds := [], alts := [], laidByText := true, laidKinds := [.data, .data, .data, .data, .pinned], laidTests := true, laidLooks := .later }
def RegisterLastsCardSaid : Prop := Claim7.holds Tryz.pinned (.plain (OpenSpec.ofChange registerLastsSpec)) registerLastsCard

/-- THE SECOND FORM's CARD OF 'variorumlaw14.RegisterLasts'. -/
def registerLastsUptoCard : Claim7 := { stood := { row := registerLastsUptoRow, standIns := [], harness := (true, "50d45d92b9dedf6f284fe5dac71553fb4805b22c877b88c2a3df792836a7c6ce"), looks := false }, kinds := [], alts := [], laidByText := true, laidKinds := [.data, .data, .data, .data, .pinned], laidTests := true, laidLooks := .later }
def RegisterLastsUptoCardSaid : Prop := Claim7.holds Tryz.pinned (.plain (OpenSpec.upto registerLastsSpec)) registerLastsUptoCard
end Rows
end Go.Proofs.YtfjmbcljohobeaaGreatDoor
