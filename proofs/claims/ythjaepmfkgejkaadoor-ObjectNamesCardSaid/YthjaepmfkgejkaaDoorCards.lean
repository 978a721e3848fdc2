/-
  DERIVED. GIVEN WITH THE SEED: THE CARDS: each row of YthjaepmfkgejkaaDoorRows.lean that lists a variable, with what it lists TIED to the program's text (the seventh form; the later family's looks); each row that meets fmt, with fmt's text TOLD by the authors' own Lean function (tested against real Go, not proved from fmt's source: count such statements apart). THE CARD IS WHAT COUNTS. Prove the row's statement (the work); the ties are given (YthjaepmfkgejkaaDoorTie.lean); close each card by the builder's one call (the guide's Derived/Test/ToyasCard.lean, 'card_holds'). Laid BY PROGRAM, IN A SANDBOX (cutbox-door.mjs). By AI agents, Wed Nov 11 2026. No macro, syntax, notation, axiom, sorry.
-/
import Derived.Test.YthjaepmfkgejkaaDoorRows
import GoSem.ClaimSeven
namespace Go.Proofs.YthjaepmfkgejkaaDoor
namespace Rows

/-- THE TIED CARD OF 'variorumlaw08.ObjectBack'. -/
def objectBackCard : Claim7 := { stood := { row := objectBackRow, standIns := [], harness := (true, "92af6beb89b2da79e2033f762c95d4fa2fa265142432d3b876ab8b53427824cc"), looks := true }, kinds := [], alts := [], laidByText := true, laidKinds := [.data, .pinned], laidTests := true, laidLooks := .later }
def ObjectBackCardSaid : Prop := Claim7.holds Tryd.pinned (.plain (OpenSpec.ofChange objectBackSpec)) objectBackCard

/-- THE TIED CARD OF 'variorumlaw08.ObjectCut'. -/
def objectCutCard : Claim7 := { stood := { row := objectCutRow, standIns := [], harness := (true, "92af6beb89b2da79e2033f762c95d4fa2fa265142432d3b876ab8b53427824cc"), looks := true }, kinds := [], alts := [], laidByText := true, laidKinds := [.data, .pinned], laidTests := true, laidLooks := .later }
def ObjectCutCardSaid : Prop := Claim7.holds Tryd.pinned (.plain (OpenSpec.ofChange objectCutSpec)) objectCutCard

/-- THE TIED CARD OF 'variorumlaw08.ObjectNames'. -/
def objectNamesCard : Claim7 := { stood := { row := objectNamesRow, standIns := [], harness := (true, "92af6beb89b2da79e2033f762c95d4fa2fa265142432d3b876ab8b53427824cc"), looks := true }, kinds := [], alts := [], laidByText := true, laidKinds := [.data, .pinned], laidTests := true, laidLooks := .later }
def ObjectNamesCardSaid : Prop := Claim7.holds Tryd.pinned (.plain (OpenSpec.ofChange objectNamesSpec)) objectNamesCard

/-- THE TIED CARD OF 'variorumlaw23.HunkFiles'. -/
def hunkFilesCard : Claim7 := { stood := { row := hunkFilesRow, standIns := [], harness := (true, "92af6beb89b2da79e2033f762c95d4fa2fa265142432d3b876ab8b53427824cc"), looks := true }, kinds := [], alts := [], laidByText := true, laidKinds := [.data, .data, .data, .data, .pinned], laidTests := true, laidLooks := .later }
def HunkFilesCardSaid : Prop := Claim7.holds Tryd.pinned (.plain (OpenSpec.ofChange hunkFilesSpec)) hunkFilesCard

/-- THE SECOND FORM's CARD OF 'variorumlaw08.ObjectBack'. -/
def objectBackUptoCard : Claim7 := { stood := { row := objectBackUptoRow, standIns := [], harness := (true, "92af6beb89b2da79e2033f762c95d4fa2fa265142432d3b876ab8b53427824cc"), looks := true }, kinds := [], alts := [], laidByText := true, laidKinds := [.data, .pinned], laidTests := true, laidLooks := .later }
def ObjectBackUptoCardSaid : Prop := Claim7.holds Tryd.pinned (.plain (OpenSpec.upto objectBackSpec)) objectBackUptoCard

/-- THE SECOND FORM's CARD OF 'variorumlaw08.ObjectCut'. -/
def objectCutUptoCard : Claim7 := { stood := { row := objectCutUptoRow, standIns := [], harness := (true, "92af6beb89b2da79e2033f762c95d4fa2fa265142432d3b876ab8b53427824cc"), looks := true }, kinds := [], alts := [], laidByText := true, laidKinds := [.data, .pinned], laidTests := true, laidLooks := .later }
def ObjectCutUptoCardSaid : Prop := Claim7.holds Tryd.pinned (.plain (OpenSpec.upto objectCutSpec)) objectCutUptoCard

/-- THE SECOND FORM's CARD OF 'variorumlaw08.ObjectNames'. -/
def objectNamesUptoCard : Claim7 := { stood := { row := objectNamesUptoRow, standIns := [], harness := (true, "92af6beb89b2da79e2033f762c95d4fa2fa265142432d3b876ab8b53427824cc"), looks := true }, kinds := [], alts := [], laidByText := true, laidKinds := [.data, .pinned], laidTests := true, laidLooks := .later }
def ObjectNamesUptoCardSaid : Prop := Claim7.holds Tryd.pinned (.plain (OpenSpec.upto objectNamesSpec)) objectNamesUptoCard

/-- THE SECOND FORM's CARD OF 'variorumlaw23.HunkFiles'. -/
def hunkFilesUptoCard : Claim7 := { stood := { row := hunkFilesUptoRow, standIns := [], harness := (true, "92af6beb89b2da79e2033f762c95d4fa2fa265142432d3b876ab8b53427824cc"), looks := true }, kinds := [], alts := [], laidByText := true, laidKinds := [.data, .data, .data, .data, .pinned], laidTests := true, laidLooks := .later }
def HunkFilesUptoCardSaid : Prop := Claim7.holds Tryd.pinned (.plain (OpenSpec.upto hunkFilesSpec)) hunkFilesUptoCard
end Rows
end Go.Proofs.YthjaepmfkgejkaaDoor
