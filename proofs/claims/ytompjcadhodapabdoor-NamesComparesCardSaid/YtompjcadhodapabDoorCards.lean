/-
  DERIVED. GIVEN WITH THE SEED: THE CARDS: each row of YtompjcadhodapabDoorRows.lean that lists a variable, with what it lists TIED to the program's text (the seventh form; the later family's looks); each row that meets fmt, with fmt's text TOLD by the authors' own Lean function (tested against real Go, not proved from fmt's source: count such statements apart). THE CARD IS WHAT COUNTS. Prove the row's statement (the work); the ties are given (YtompjcadhodapabDoorTie.lean); close each card by the builder's one call (the guide's Derived/Test/ToyasCard.lean, 'card_holds'). Laid BY PROGRAM, IN A SANDBOX (cutbox-door.mjs). By AI agents, Wed Nov 11 2026. No macro, syntax, notation, axiom, sorry.
-/
import Derived.Test.YtompjcadhodapabDoorRows
import GoSem.ClaimSeven
namespace Go.Proofs.YtompjcadhodapabDoor
namespace Rows

/-- THE TIED CARD OF 'tesseractlaw06.NamesRound'. -/
def namesRoundCard : Claim7 := { stood := { row := namesRoundRow, standIns := [], harness := (true, "4c520dd10d1c6c7989d50e9b6ef1d9474fa7bb0e949e8eec6b76e234bb8db0ed"), looks := false }, kinds := [], alts := [], laidByText := true, laidKinds := [.data, .pinned], laidTests := true, laidLooks := .later }
def NamesRoundCardSaid : Prop := Claim7.holds Tryd.pinned (.plain (OpenSpec.ofChange namesRoundSpec)) namesRoundCard

/-- THE TIED CARD OF 'tesseractlaw06.NamesOrder'. -/
def namesOrderCard : Claim7 := { stood := { row := namesOrderRow, standIns := [], harness := (true, "4c520dd10d1c6c7989d50e9b6ef1d9474fa7bb0e949e8eec6b76e234bb8db0ed"), looks := false }, kinds := [], alts := [], laidByText := true, laidKinds := [.data, .pinned], laidTests := true, laidLooks := .later }
def NamesOrderCardSaid : Prop := Claim7.holds Tryd.pinned (.plain (OpenSpec.ofChange namesOrderSpec)) namesOrderCard

/-- THE TIED CARD OF 'tesseractlaw06.NamesSide'. -/
def namesSideCard : Claim7 := { stood := { row := namesSideRow, standIns := [], harness := (true, "4c520dd10d1c6c7989d50e9b6ef1d9474fa7bb0e949e8eec6b76e234bb8db0ed"), looks := false }, kinds := [], alts := [], laidByText := true, laidKinds := [.data, .pinned], laidTests := true, laidLooks := .later }
def NamesSideCardSaid : Prop := Claim7.holds Tryd.pinned (.plain (OpenSpec.ofChange namesSideSpec)) namesSideCard

/-- THE TIED CARD OF 'tesseractlaw06.NamesCompares'. -/
def namesComparesCard : Claim7 := { stood := { row := namesComparesRow, standIns := [], harness := (true, "4c520dd10d1c6c7989d50e9b6ef1d9474fa7bb0e949e8eec6b76e234bb8db0ed"), looks := false }, kinds := [], alts := [], laidByText := true, laidKinds := [.data, .pinned], laidTests := true, laidLooks := .later }
def NamesComparesCardSaid : Prop := Claim7.holds Tryd.pinned (.plain (OpenSpec.ofChange namesComparesSpec)) namesComparesCard

/-- THE SECOND FORM's CARD OF 'tesseractlaw06.NamesRound'. -/
def namesRoundUptoCard : Claim7 := { stood := { row := namesRoundUptoRow, standIns := [], harness := (true, "4c520dd10d1c6c7989d50e9b6ef1d9474fa7bb0e949e8eec6b76e234bb8db0ed"), looks := false }, kinds := [], alts := [], laidByText := true, laidKinds := [.data, .pinned], laidTests := true, laidLooks := .later }
def NamesRoundUptoCardSaid : Prop := Claim7.holds Tryd.pinned (.plain (OpenSpec.upto namesRoundSpec)) namesRoundUptoCard

/-- THE SECOND FORM's CARD OF 'tesseractlaw06.NamesOrder'. -/
def namesOrderUptoCard : Claim7 := { stood := { row := namesOrderUptoRow, standIns := [], harness := (true, "4c520dd10d1c6c7989d50e9b6ef1d9474fa7bb0e949e8eec6b76e234bb8db0ed"), looks := false }, kinds := [], alts := [], laidByText := true, laidKinds := [.data, .pinned], laidTests := true, laidLooks := .later }
def NamesOrderUptoCardSaid : Prop := Claim7.holds Tryd.pinned (.plain (OpenSpec.upto namesOrderSpec)) namesOrderUptoCard

/-- THE SECOND FORM's CARD OF 'tesseractlaw06.NamesSide'. -/
def namesSideUptoCard : Claim7 := { stood := { row := namesSideUptoRow, standIns := [], harness := (true, "4c520dd10d1c6c7989d50e9b6ef1d9474fa7bb0e949e8eec6b76e234bb8db0ed"), looks := false }, kinds := [], alts := [], laidByText := true, laidKinds := [.data, .pinned], laidTests := true, laidLooks := .later }
def NamesSideUptoCardSaid : Prop := Claim7.holds Tryd.pinned (.plain (OpenSpec.upto namesSideSpec)) namesSideUptoCard

/-- THE SECOND FORM's CARD OF 'tesseractlaw06.NamesCompares'. -/
def namesComparesUptoCard : Claim7 := { stood := { row := namesComparesUptoRow, standIns := [], harness := (true, "4c520dd10d1c6c7989d50e9b6ef1d9474fa7bb0e949e8eec6b76e234bb8db0ed"), looks := false }, kinds := [], alts := [], laidByText := true, laidKinds := [.data, .pinned], laidTests := true, laidLooks := .later }
def NamesComparesUptoCardSaid : Prop := Claim7.holds Tryd.pinned (.plain (OpenSpec.upto namesComparesSpec)) namesComparesUptoCard
end Rows
end Go.Proofs.YtompjcadhodapabDoor
