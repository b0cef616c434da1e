/-
  DERIVED. GIVEN WITH THE SEED: THE CARDS: each row of YtkdpclllenbgfaaDoorRows.lean that lists a variable, with what it lists TIED to the program's text (the seventh form; the later family's looks); each row that meets fmt, with fmt's text TOLD by the authors' own Lean function (tested against real Go, not proved from fmt's source: count such statements apart). THE CARD IS WHAT COUNTS. Prove the row's statement (the work); the ties are given (YtkdpclllenbgfaaDoorTie.lean); close each card by the builder's one call (the guide's Derived/Test/ToyasCard.lean, 'card_holds'). Laid BY PROGRAM, IN A SANDBOX (cutbox-door.mjs). By AI agents, Wed Nov 11 2026. No macro, syntax, notation, axiom, sorry.
-/
import Derived.Test.YtkdpclllenbgfaaDoorRows
import GoSem.ClaimSeven
namespace Go.Proofs.YtkdpclllenbgfaaDoor
namespace Rows

/-- THE TIED CARD OF 'tesseractlaw12.QueryReads'. -/
def queryReadsCard : Claim7 := { stood := { row := queryReadsRow, standIns := [], harness := (true, "d455eff5acda1c6c3baee406db2b03b423eec8ef486f4fb91fb26df432e0a980"), looks := false }, kinds := [], alts := [], laidByText := true, laidKinds := [.data, .pinned], laidTests := true, laidLooks := .later }
def QueryReadsCardSaid : Prop := Claim7.holds Tryd.pinned (.plain (OpenSpec.ofChange queryReadsSpec)) queryReadsCard

/-- THE TIED CARD OF 'tesseractlaw12.QueryRound'. -/
def queryRoundCard : Claim7 := { stood := { row := queryRoundRow, standIns := [], harness := (true, "d455eff5acda1c6c3baee406db2b03b423eec8ef486f4fb91fb26df432e0a980"), looks := false }, kinds := [], alts := [], laidByText := true, laidKinds := [.data, .pinned], laidTests := true, laidLooks := .later }
def QueryRoundCardSaid : Prop := Claim7.holds Tryd.pinned (.plain (OpenSpec.ofChange queryRoundSpec)) queryRoundCard

/-- THE SECOND FORM's CARD OF 'tesseractlaw12.QueryReads'. -/
def queryReadsUptoCard : Claim7 := { stood := { row := queryReadsUptoRow, standIns := [], harness := (true, "d455eff5acda1c6c3baee406db2b03b423eec8ef486f4fb91fb26df432e0a980"), looks := false }, kinds := [], alts := [], laidByText := true, laidKinds := [.data, .pinned], laidTests := true, laidLooks := .later }
def QueryReadsUptoCardSaid : Prop := Claim7.holds Tryd.pinned (.plain (OpenSpec.upto queryReadsSpec)) queryReadsUptoCard

/-- THE SECOND FORM's CARD OF 'tesseractlaw12.QueryRound'. -/
def queryRoundUptoCard : Claim7 := { stood := { row := queryRoundUptoRow, standIns := [], harness := (true, "d455eff5acda1c6c3baee406db2b03b423eec8ef486f4fb91fb26df432e0a980"), looks := false }, kinds := [], alts := [], laidByText := true, laidKinds := [.data, .pinned], laidTests := true, laidLooks := .later }
def QueryRoundUptoCardSaid : Prop := Claim7.holds Tryd.pinned (.plain (OpenSpec.upto queryRoundSpec)) queryRoundUptoCard
end Rows
end Go.Proofs.YtkdpclllenbgfaaDoor
