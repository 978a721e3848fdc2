/-
  DERIVED. GIVEN WITH THE SEED: THE CARDS: each row of YtfjmbcljohobeaaDoorRows.lean that lists a variable, with what it lists TIED to the program's text (the seventh form; the later family's looks); each row that meets fmt, with fmt's text TOLD by the authors' own Lean function (tested against real Go, not proved from fmt's source: count such statements apart). THE CARD IS WHAT COUNTS. Prove the row's statement (the work); the ties are given (YtfjmbcljohobeaaDoorTie.lean); close each card by the builder's one call (the guide's Derived/Test/ToyasCard.lean, 'card_holds'). Laid BY PROGRAM, IN A SANDBOX (cutbox-door.mjs). By AI agents, Wed Nov 11 2026. No macro, syntax, notation, axiom, sorry.
-/
import Derived.Test.YtfjmbcljohobeaaDoorRows
import GoSem.ClaimSeven
namespace Go.Proofs.YtfjmbcljohobeaaDoor
namespace Rows

/-- THE TIED CARD OF 'variorumlaw14.RegisterPaths'. -/
def registerPathsCard : Claim7 := { stood := { row := registerPathsRow, standIns := [], harness := (true, "022a4b85df5a9b1c89348ea4242fbcbdfa258a37c670624daef56d2f64a8b583"), looks := false }, kinds := [], alts := [], laidByText := true, laidKinds := [.data, .data, .data, .data, .pinned], laidTests := true, laidLooks := .later }
def RegisterPathsCardSaid : Prop := Claim7.holds Tryd.pinned (.plain (OpenSpec.ofChange registerPathsSpec)) registerPathsCard

/-- THE TIED CARD OF 'variorumlaw14.RegisterTurned'. -/
def registerTurnedCard : Claim7 := { stood := { row := registerTurnedRow, standIns := [], harness := (true, "022a4b85df5a9b1c89348ea4242fbcbdfa258a37c670624daef56d2f64a8b583"), looks := false }, kinds := [], alts := [], laidByText := true, laidKinds := [.data, .data, .data, .data, .pinned], laidTests := true, laidLooks := .later }
def RegisterTurnedCardSaid : Prop := Claim7.holds Tryd.pinned (.plain (OpenSpec.ofChange registerTurnedSpec)) registerTurnedCard

/-- THE TIED CARD OF 'variorumlaw14.RegisterNewest'. -/
def registerNewestCard : Claim7 := { stood := { row := registerNewestRow, standIns := [], harness := (true, "022a4b85df5a9b1c89348ea4242fbcbdfa258a37c670624daef56d2f64a8b583"), looks := false }, kinds := [], alts := [], laidByText := true, laidKinds := [.data, .data, .data, .data, .pinned], laidTests := true, laidLooks := .later }
def RegisterNewestCardSaid : Prop := Claim7.holds Tryd.pinned (.plain (OpenSpec.ofChange registerNewestSpec)) registerNewestCard

/-- THE TIED CARD OF 'variorumlaw14.RegisterApart'. -/
def registerApartCard : Claim7 := { stood := { row := registerApartRow, standIns := [], harness := (true, "022a4b85df5a9b1c89348ea4242fbcbdfa258a37c670624daef56d2f64a8b583"), looks := false }, kinds := [], alts := [], laidByText := true, laidKinds := [.data, .data, .data, .data, .pinned], laidTests := true, laidLooks := .later }
def RegisterApartCardSaid : Prop := Claim7.holds Tryd.pinned (.plain (OpenSpec.ofChange registerApartSpec)) registerApartCard

/-- THE TIED CARD OF 'variorumlaw23.HunkTells'. -/
def hunkTellsCard : Claim7 := { stood := { row := hunkTellsRow, standIns := [], harness := (true, "022a4b85df5a9b1c89348ea4242fbcbdfa258a37c670624daef56d2f64a8b583"), looks := false }, kinds := [], alts := [], laidByText := true, laidKinds := [.data, .data, .data, .data, .pinned], laidTests := true, laidLooks := .later }
def HunkTellsCardSaid : Prop := Claim7.holds Tryd.pinned (.plain (OpenSpec.ofChange hunkTellsSpec)) hunkTellsCard

/-- THE TIED CARD OF 'variorumlaw23.HunkFiles'. -/
def hunkFilesCard : Claim7 := { stood := { row := hunkFilesRow, standIns := [], harness := (true, "022a4b85df5a9b1c89348ea4242fbcbdfa258a37c670624daef56d2f64a8b583"), looks := false }, kinds := [], alts := [], laidByText := true, laidKinds := [.data, .data, .data, .data, .pinned], laidTests := true, laidLooks := .later }
def HunkFilesCardSaid : Prop := Claim7.holds Tryd.pinned (.plain (OpenSpec.ofChange hunkFilesSpec)) hunkFilesCard

/-- THE TIED CARD OF 'variorumlaw23.HunkLines'. -/
def hunkLinesCard : Claim7 := { stood := { row := hunkLinesRow, standIns := [], harness := (true, "022a4b85df5a9b1c89348ea4242fbcbdfa258a37c670624daef56d2f64a8b583"), looks := false }, kinds := [], alts := [], laidByText := true, laidKinds := [.data, .data, .data, .data, .pinned], laidTests := true, laidLooks := .later }
def HunkLinesCardSaid : Prop := Claim7.holds Tryd.pinned (.plain (OpenSpec.ofChange hunkLinesSpec)) hunkLinesCard

/-- THE TIED CARD OF 'variorumlaw23.HunkApart'. -/
def hunkApartCard : Claim7 := { stood := { row := hunkApartRow, standIns := [], harness := (true, "022a4b85df5a9b1c89348ea4242fbcbdfa258a37c670624daef56d2f64a8b583"), looks := false }, kinds := [], alts := [], laidByText := true, laidKinds := [.data, .data, .data, .data, .pinned], laidTests := true, laidLooks := .later }
def HunkApartCardSaid : Prop := Claim7.holds Tryd.pinned (.plain (OpenSpec.ofChange hunkApartSpec)) hunkApartCard

/-- THE TIED CARD OF 'variorumlaw23.HunkBack'. -/
def hunkBackCard : Claim7 := { stood := { row := hunkBackRow, standIns := [], harness := (true, "022a4b85df5a9b1c89348ea4242fbcbdfa258a37c670624daef56d2f64a8b583"), looks := false }, kinds := [], alts := [], laidByText := true, laidKinds := [.data, .data, .data, .data, .pinned], laidTests := true, laidLooks := .later }
def HunkBackCardSaid : Prop := Claim7.holds Tryd.pinned (.plain (OpenSpec.ofChange hunkBackSpec)) hunkBackCard

/-- THE SECOND FORM's CARD OF 'variorumlaw14.RegisterPaths'. -/
def registerPathsUptoCard : Claim7 := { stood := { row := registerPathsUptoRow, standIns := [], harness := (true, "022a4b85df5a9b1c89348ea4242fbcbdfa258a37c670624daef56d2f64a8b583"), looks := false }, kinds := [], alts := [], laidByText := true, laidKinds := [.data, .data, .data, .data, .pinned], laidTests := true, laidLooks := .later }
def RegisterPathsUptoCardSaid : Prop := Claim7.holds Tryd.pinned (.plain (OpenSpec.upto registerPathsSpec)) registerPathsUptoCard

/-- THE SECOND FORM's CARD OF 'variorumlaw14.RegisterTurned'. -/
def registerTurnedUptoCard : Claim7 := { stood := { row := registerTurnedUptoRow, standIns := [], harness := (true, "022a4b85df5a9b1c89348ea4242fbcbdfa258a37c670624daef56d2f64a8b583"), looks := false }, kinds := [], alts := [], laidByText := true, laidKinds := [.data, .data, .data, .data, .pinned], laidTests := true, laidLooks := .later }
def RegisterTurnedUptoCardSaid : Prop := Claim7.holds Tryd.pinned (.plain (OpenSpec.upto registerTurnedSpec)) registerTurnedUptoCard

/-- THE SECOND FORM's CARD OF 'variorumlaw14.RegisterNewest'. -/
def registerNewestUptoCard : Claim7 := { stood := { row := registerNewestUptoRow, standIns := [], harness := (true, "022a4b85df5a9b1c89348ea4242fbcbdfa258a37c670624daef56d2f64a8b583"), looks := false }, kinds := [], alts := [], laidByText := true, laidKinds := [.data, .data, .data, .data, .pinned], laidTests := true, laidLooks := .later }
def RegisterNewestUptoCardSaid : Prop := Claim7.holds Tryd.pinned (.plain (OpenSpec.upto registerNewestSpec)) registerNewestUptoCard

/-- THE SECOND FORM's CARD OF 'variorumlaw14.RegisterApart'. -/
def registerApartUptoCard : Claim7 := { stood := { row := registerApartUptoRow, standIns := [], harness := (true, "022a4b85df5a9b1c89348ea4242fbcbdfa258a37c670624daef56d2f64a8b583"), looks := false }, kinds := [], alts := [], laidByText := true, laidKinds := [.data, .data, .data, .data, .pinned], laidTests := true, laidLooks := .later }
def RegisterApartUptoCardSaid : Prop := Claim7.holds Tryd.pinned (.plain (OpenSpec.upto registerApartSpec)) registerApartUptoCard

/-- THE SECOND FORM's CARD OF 'variorumlaw23.HunkTells'. -/
def hunkTellsUptoCard : Claim7 := { stood := { row := hunkTellsUptoRow, standIns := [], harness := (true, "022a4b85df5a9b1c89348ea4242fbcbdfa258a37c670624daef56d2f64a8b583"), looks := false }, kinds := [], alts := [], laidByText := true, laidKinds := [.data, .data, .data, .data, .pinned], laidTests := true, laidLooks := .later }
def HunkTellsUptoCardSaid : Prop := Claim7.holds Tryd.pinned (.plain (OpenSpec.upto hunkTellsSpec)) hunkTellsUptoCard

/-- THE SECOND FORM's CARD OF 'variorumlaw23.HunkFiles'. -/
def hunkFilesUptoCard : Claim7 := { stood := { row := hunkFilesUptoRow, standIns := [], harness := (true, "022a4b85df5a9b1c89348ea4242fbcbdfa258a37c670624daef56d2f64a8b583"), looks := false }, kinds := [], alts := [], laidByText := true, laidKinds := [.data, .data, .data, .data, .pinned], laidTests := true, laidLooks := .later }
def HunkFilesUptoCardSaid : Prop := Claim7.holds Tryd.pinned (.plain (OpenSpec.upto hunkFilesSpec)) hunkFilesUptoCard

/-- THE SECOND FORM's CARD OF 'variorumlaw23.HunkLines'. -/
def hunkLinesUptoCard : Claim7 := { stood := { row := hunkLinesUptoRow, standIns := [], harness := (true, "022a4b85df5a9b1c89348ea4242fbcbdfa258a37c670624daef56d2f64a8b583"), looks := false }, kinds := [], alts := [], laidByText := true, laidKinds := [.data, .data, .data, .data, .pinned], laidTests := true, laidLooks := .later }
def HunkLinesUptoCardSaid : Prop := Claim7.holds Tryd.pinned (.plain (OpenSpec.upto hunkLinesSpec)) hunkLinesUptoCard

/-- THE SECOND FORM's CARD OF 'variorumlaw23.HunkApart'. -/
def hunkApartUptoCard : Claim7 := { stood := { row := hunkApartUptoRow, standIns := [], harness := (true, "022a4b85df5a9b1c89348ea4242fbcbdfa258a37c670624daef56d2f64a8b583"), looks := false }, kinds := [], alts := [], laidByText := true, laidKinds := [.data, .data, .data, .data, .pinned], laidTests := true, laidLooks := .later }
def HunkApartUptoCardSaid : Prop := Claim7.holds Tryd.pinned (.plain (OpenSpec.upto hunkApartSpec)) hunkApartUptoCard

/-- THE SECOND FORM's CARD OF 'variorumlaw23.HunkBack'. -/
def hunkBackUptoCard : Claim7 := { stood := { row := hunkBackUptoRow, standIns := [], harness := (true, "022a4b85df5a9b1c89348ea4242fbcbdfa258a37c670624daef56d2f64a8b583"), looks := false }, kinds := [], alts := [], laidByText := true, laidKinds := [.data, .data, .data, .data, .pinned], laidTests := true, laidLooks := .later }
def HunkBackUptoCardSaid : Prop := Claim7.holds Tryd.pinned (.plain (OpenSpec.upto hunkBackSpec)) hunkBackUptoCard
end Rows
end Go.Proofs.YtfjmbcljohobeaaDoor
