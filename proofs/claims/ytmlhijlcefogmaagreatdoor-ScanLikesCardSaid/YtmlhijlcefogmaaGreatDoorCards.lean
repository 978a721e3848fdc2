/-
  DERIVED. GIVEN WITH THE SEED: THE CARDS: each row of YtmlhijlcefogmaaGreatDoorRows.lean that lists a variable, with what it lists TIED to the program's text (the seventh form; the later family's looks); each row that meets fmt, with fmt's text TOLD by the authors' own Lean function (tested against real Go, not proved from fmt's source: count such statements apart). THE CARD IS WHAT COUNTS. Prove the row's statement (the work); the ties are given (YtmlhijlcefogmaaGreatDoorTie.lean); close each card by the builder's one call (the guide's Derived/Test/ToyasCard.lean, 'card_holds'). Laid BY PROGRAM, IN A SANDBOX (cutbox-door.mjs). By AI agents, Wed Nov 11 2026. No macro, syntax, notation, axiom, sorry.
-/
import Derived.Test.YtmlhijlcefogmaaGreatDoorRows
import GoSem.ClaimSeven
namespace Go.Proofs.YtmlhijlcefogmaaGreatDoor
namespace Rows

/-- THE TIED CARD OF 'variorumlaw18.ScanLikes'. -/
def scanLikesCard : Claim7 := { stood := { row := scanLikesRow, standIns := [], harness := (true, "78c88261e68e51ae35bfedf6c33141cf84af144637d6146a3de4be07f311ab14"), looks := true }, kinds := [], alts := [], laidByText := true, laidKinds := [.data, .data, .data, .data, .data, .data, .pinned], laidTests := true, laidLooks := .later }
def ScanLikesCardSaid : Prop := Claim7.holds Tryz.pinned (.plain (OpenSpec.ofChange scanLikesSpec)) scanLikesCard

/-- THE TIED CARD OF 'variorumlaw18.ScanEven'. -/
def scanEvenCard : Claim7 := { stood := { row := scanEvenRow, standIns := [], harness := (true, "78c88261e68e51ae35bfedf6c33141cf84af144637d6146a3de4be07f311ab14"), looks := true }, kinds := [], alts := [], laidByText := true, laidKinds := [.data, .data, .data, .data, .data, .data, .pinned], laidTests := true, laidLooks := .later }
def ScanEvenCardSaid : Prop := Claim7.holds Tryz.pinned (.plain (OpenSpec.ofChange scanEvenSpec)) scanEvenCard

/-- THE SECOND FORM's CARD OF 'variorumlaw18.ScanLikes'. -/
def scanLikesUptoCard : Claim7 := { stood := { row := scanLikesUptoRow, standIns := [], harness := (true, "78c88261e68e51ae35bfedf6c33141cf84af144637d6146a3de4be07f311ab14"), looks := true }, kinds := [], alts := [], laidByText := true, laidKinds := [.data, .data, .data, .data, .data, .data, .pinned], laidTests := true, laidLooks := .later }
def ScanLikesUptoCardSaid : Prop := Claim7.holds Tryz.pinned (.plain (OpenSpec.upto scanLikesSpec)) scanLikesUptoCard

/-- THE SECOND FORM's CARD OF 'variorumlaw18.ScanEven'. -/
def scanEvenUptoCard : Claim7 := { stood := { row := scanEvenUptoRow, standIns := [], harness := (true, "78c88261e68e51ae35bfedf6c33141cf84af144637d6146a3de4be07f311ab14"), looks := true }, kinds := [], alts := [], laidByText := true, laidKinds := [.data, .data, .data, .data, .data, .data, .pinned], laidTests := true, laidLooks := .later }
def ScanEvenUptoCardSaid : Prop := Claim7.holds Tryz.pinned (.plain (OpenSpec.upto scanEvenSpec)) scanEvenUptoCard
end Rows
end Go.Proofs.YtmlhijlcefogmaaGreatDoor
