/-
  DERIVED. GIVEN WITH THE SEED: THE CARDS: each row of YthjaepmfkgejkaaGreatDoorRows.lean that lists a variable, with what it lists TIED to the program's text (the seventh form; the later family's looks); each row that meets fmt, with fmt's text TOLD by the authors' own Lean function (tested against real Go, not proved from fmt's source: count such statements apart). THE CARD IS WHAT COUNTS. Prove the row's statement (the work); the ties are given (YthjaepmfkgejkaaGreatDoorTie.lean); close each card by the builder's one call (the guide's Derived/Test/ToyasCard.lean, 'card_holds'). Laid BY PROGRAM, IN A SANDBOX (cutbox-door.mjs). By AI agents, Wed Nov 11 2026. No macro, syntax, notation, axiom, sorry.
-/
import Derived.Test.YthjaepmfkgejkaaGreatDoorRows
import GoSem.ClaimSeven
namespace Go.Proofs.YthjaepmfkgejkaaGreatDoor
namespace Rows

/-- THE TIED CARD OF 'variorumlaw08.ObjectReads'. -/
def objectReadsCard : Claim7 := { stood := { row := objectReadsRow, standIns := [], harness := (true, "5d14f4f9c0304722f6dae3a9557462337214bcc69aa2b5452a294a61eaf160a6"), looks := true }, kinds := [], alts := [], laidByText := true, laidKinds := [.data, .pinned], laidTests := true, laidLooks := .later }
def ObjectReadsCardSaid : Prop := Claim7.holds Tryz.pinned (.plain (OpenSpec.ofChange objectReadsSpec)) objectReadsCard

/-- THE TIED CARD OF 'variorumlaw08.ObjectWrites'. -/
def objectWritesCard : Claim7 := { stood := { row := objectWritesRow, standIns := [], harness := (true, "5d14f4f9c0304722f6dae3a9557462337214bcc69aa2b5452a294a61eaf160a6"), looks := true }, kinds := [], alts := [], laidByText := true, laidKinds := [.data, .data, .data, .pinned], laidTests := true, laidLooks := .later }
def ObjectWritesCardSaid : Prop := Claim7.holds Tryz.pinned (.plain (OpenSpec.ofChange objectWritesSpec)) objectWritesCard

/-- THE SECOND FORM's CARD OF 'variorumlaw08.ObjectReads'. -/
def objectReadsUptoCard : Claim7 := { stood := { row := objectReadsUptoRow, standIns := [], harness := (true, "5d14f4f9c0304722f6dae3a9557462337214bcc69aa2b5452a294a61eaf160a6"), looks := true }, kinds := [], alts := [], laidByText := true, laidKinds := [.data, .pinned], laidTests := true, laidLooks := .later }
def ObjectReadsUptoCardSaid : Prop := Claim7.holds Tryz.pinned (.plain (OpenSpec.upto objectReadsSpec)) objectReadsUptoCard

/-- THE SECOND FORM's CARD OF 'variorumlaw08.ObjectWrites'. -/
def objectWritesUptoCard : Claim7 := { stood := { row := objectWritesUptoRow, standIns := [], harness := (true, "5d14f4f9c0304722f6dae3a9557462337214bcc69aa2b5452a294a61eaf160a6"), looks := true }, kinds := [], alts := [], laidByText := true, laidKinds := [.data, .data, .data, .pinned], laidTests := true, laidLooks := .later }
def ObjectWritesUptoCardSaid : Prop := Claim7.holds Tryz.pinned (.plain (OpenSpec.upto objectWritesSpec)) objectWritesUptoCard
end Rows
end Go.Proofs.YthjaepmfkgejkaaGreatDoor
