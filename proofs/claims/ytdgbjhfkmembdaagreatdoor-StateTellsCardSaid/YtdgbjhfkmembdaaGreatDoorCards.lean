/-
  DERIVED. GIVEN WITH THE SEED: THE CARDS: each row of YtdgbjhfkmembdaaGreatDoorRows.lean that lists a variable, with what it lists TIED to the program's text (the seventh form; the later family's looks); each row that meets fmt, with fmt's text TOLD by the authors' own Lean function (tested against real Go, not proved from fmt's source: count such statements apart). THE CARD IS WHAT COUNTS. Prove the row's statement (the work); the ties are given (YtdgbjhfkmembdaaGreatDoorTie.lean); close each card by the builder's one call (the guide's Derived/Test/ToyasCard.lean, 'card_holds'). Laid BY PROGRAM, IN A SANDBOX (cutbox-door.mjs). By AI agents, Wed Nov 11 2026. No macro, syntax, notation, axiom, sorry.
-/
import Derived.Test.YtdgbjhfkmembdaaGreatDoorRows
import GoSem.ClaimSeven
namespace Go.Proofs.YtdgbjhfkmembdaaGreatDoor
namespace Rows

/-- THE TIED CARD OF 'variorumlaw15.StateTells'. -/
def stateTellsCard : Claim7 := { stood := { row := stateTellsRow, standIns := [], harness := (true, "6227bb3dbf419629525bc1e66fff7b9affaeef4bf9c99e76c2f3ede9cca04418"), looks := true }, kinds := [], alts := [], laidByText := true, laidKinds := [.data, .data, .data, .data, .data, .data, .pinned], laidTests := true, laidLooks := .later }
def StateTellsCardSaid : Prop := Claim7.holds Tryz.pinned (.plain (OpenSpec.ofChange stateTellsSpec)) stateTellsCard

/-- THE TIED CARD OF 'variorumlaw15.StateRefused'. -/
def stateRefusedCard : Claim7 := { stood := { row := stateRefusedRow, standIns := [], harness := (true, "6227bb3dbf419629525bc1e66fff7b9affaeef4bf9c99e76c2f3ede9cca04418"), looks := true }, kinds := [], alts := [], laidByText := true, laidKinds := [.data, .data, .data, .data, .data, .data, .pinned], laidTests := true, laidLooks := .later }
def StateRefusedCardSaid : Prop := Claim7.holds Tryz.pinned (.plain (OpenSpec.ofChange stateRefusedSpec)) stateRefusedCard

/-- THE TIED CARD OF 'variorumlaw15.StateUnion'. -/
def stateUnionCard : Claim7 := { stood := { row := stateUnionRow, standIns := [], harness := (true, "6227bb3dbf419629525bc1e66fff7b9affaeef4bf9c99e76c2f3ede9cca04418"), looks := true }, kinds := [], alts := [], laidByText := true, laidKinds := [.data, .data, .data, .data, .data, .data, .pinned], laidTests := true, laidLooks := .later }
def StateUnionCardSaid : Prop := Claim7.holds Tryz.pinned (.plain (OpenSpec.ofChange stateUnionSpec)) stateUnionCard

/-- THE TIED CARD OF 'variorumlaw15.StateCopies'. -/
def stateCopiesCard : Claim7 := { stood := { row := stateCopiesRow, standIns := [], harness := (true, "6227bb3dbf419629525bc1e66fff7b9affaeef4bf9c99e76c2f3ede9cca04418"), looks := true }, kinds := [], alts := [], laidByText := true, laidKinds := [.data, .data, .data, .data, .data, .data, .pinned], laidTests := true, laidLooks := .later }
def StateCopiesCardSaid : Prop := Claim7.holds Tryz.pinned (.plain (OpenSpec.ofChange stateCopiesSpec)) stateCopiesCard

/-- THE TIED CARD OF 'variorumlaw15.StateNil'. -/
def stateNilCard : Claim7 := { stood := { row := stateNilRow, standIns := [], harness := (true, "6227bb3dbf419629525bc1e66fff7b9affaeef4bf9c99e76c2f3ede9cca04418"), looks := true }, kinds := [], alts := [], laidByText := true, laidKinds := [.data, .data, .data, .data, .data, .data, .pinned], laidTests := true, laidLooks := .later }
def StateNilCardSaid : Prop := Claim7.holds Tryz.pinned (.plain (OpenSpec.ofChange stateNilSpec)) stateNilCard

/-- THE TIED CARD OF 'variorumlaw15.StateAdds'. -/
def stateAddsCard : Claim7 := { stood := { row := stateAddsRow, standIns := [], harness := (true, "6227bb3dbf419629525bc1e66fff7b9affaeef4bf9c99e76c2f3ede9cca04418"), looks := true }, kinds := [], alts := [], laidByText := true, laidKinds := [.data, .data, .data, .data, .data, .data, .pinned], laidTests := true, laidLooks := .later }
def StateAddsCardSaid : Prop := Claim7.holds Tryz.pinned (.plain (OpenSpec.ofChange stateAddsSpec)) stateAddsCard

/-- THE SECOND FORM's CARD OF 'variorumlaw15.StateTells'. -/
def stateTellsUptoCard : Claim7 := { stood := { row := stateTellsUptoRow, standIns := [], harness := (true, "6227bb3dbf419629525bc1e66fff7b9affaeef4bf9c99e76c2f3ede9cca04418"), looks := true }, kinds := [], alts := [], laidByText := true, laidKinds := [.data, .data, .data, .data, .data, .data, .pinned], laidTests := true, laidLooks := .later }
def StateTellsUptoCardSaid : Prop := Claim7.holds Tryz.pinned (.plain (OpenSpec.upto stateTellsSpec)) stateTellsUptoCard

/-- THE SECOND FORM's CARD OF 'variorumlaw15.StateRefused'. -/
def stateRefusedUptoCard : Claim7 := { stood := { row := stateRefusedUptoRow, standIns := [], harness := (true, "6227bb3dbf419629525bc1e66fff7b9affaeef4bf9c99e76c2f3ede9cca04418"), looks := true }, kinds := [], alts := [], laidByText := true, laidKinds := [.data, .data, .data, .data, .data, .data, .pinned], laidTests := true, laidLooks := .later }
def StateRefusedUptoCardSaid : Prop := Claim7.holds Tryz.pinned (.plain (OpenSpec.upto stateRefusedSpec)) stateRefusedUptoCard

/-- THE SECOND FORM's CARD OF 'variorumlaw15.StateUnion'. -/
def stateUnionUptoCard : Claim7 := { stood := { row := stateUnionUptoRow, standIns := [], harness := (true, "6227bb3dbf419629525bc1e66fff7b9affaeef4bf9c99e76c2f3ede9cca04418"), looks := true }, kinds := [], alts := [], laidByText := true, laidKinds := [.data, .data, .data, .data, .data, .data, .pinned], laidTests := true, laidLooks := .later }
def StateUnionUptoCardSaid : Prop := Claim7.holds Tryz.pinned (.plain (OpenSpec.upto stateUnionSpec)) stateUnionUptoCard

/-- THE SECOND FORM's CARD OF 'variorumlaw15.StateCopies'. -/
def stateCopiesUptoCard : Claim7 := { stood := { row := stateCopiesUptoRow, standIns := [], harness := (true, "6227bb3dbf419629525bc1e66fff7b9affaeef4bf9c99e76c2f3ede9cca04418"), looks := true }, kinds := [], alts := [], laidByText := true, laidKinds := [.data, .data, .data, .data, .data, .data, .pinned], laidTests := true, laidLooks := .later }
def StateCopiesUptoCardSaid : Prop := Claim7.holds Tryz.pinned (.plain (OpenSpec.upto stateCopiesSpec)) stateCopiesUptoCard

/-- THE SECOND FORM's CARD OF 'variorumlaw15.StateNil'. -/
def stateNilUptoCard : Claim7 := { stood := { row := stateNilUptoRow, standIns := [], harness := (true, "6227bb3dbf419629525bc1e66fff7b9affaeef4bf9c99e76c2f3ede9cca04418"), looks := true }, kinds := [], alts := [], laidByText := true, laidKinds := [.data, .data, .data, .data, .data, .data, .pinned], laidTests := true, laidLooks := .later }
def StateNilUptoCardSaid : Prop := Claim7.holds Tryz.pinned (.plain (OpenSpec.upto stateNilSpec)) stateNilUptoCard

/-- THE SECOND FORM's CARD OF 'variorumlaw15.StateAdds'. -/
def stateAddsUptoCard : Claim7 := { stood := { row := stateAddsUptoRow, standIns := [], harness := (true, "6227bb3dbf419629525bc1e66fff7b9affaeef4bf9c99e76c2f3ede9cca04418"), looks := true }, kinds := [], alts := [], laidByText := true, laidKinds := [.data, .data, .data, .data, .data, .data, .pinned], laidTests := true, laidLooks := .later }
def StateAddsUptoCardSaid : Prop := Claim7.holds Tryz.pinned (.plain (OpenSpec.upto stateAddsSpec)) stateAddsUptoCard
end Rows
end Go.Proofs.YtdgbjhfkmembdaaGreatDoor
