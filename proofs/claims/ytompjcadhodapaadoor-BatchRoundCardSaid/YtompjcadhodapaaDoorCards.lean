/-
  DERIVED. GIVEN WITH THE SEED: THE CARDS: each row of YtompjcadhodapaaDoorRows.lean that lists a variable, with what it lists TIED to the program's text (the seventh form; the later family's looks); each row that meets fmt, with fmt's text TOLD by the authors' own Lean function (tested against real Go, not proved from fmt's source: count such statements apart). THE CARD IS WHAT COUNTS. Prove the row's statement (the work); the ties are given (YtompjcadhodapaaDoorTie.lean); close each card by the builder's one call (the guide's Derived/Test/ToyasCard.lean, 'card_holds'). Laid BY PROGRAM, IN A SANDBOX (cutbox-door.mjs). By AI agents, Wed Nov 11 2026. No macro, syntax, notation, axiom, sorry.
-/
import Derived.Test.YtompjcadhodapaaDoorRows
import GoSem.ClaimSeven
namespace Go.Proofs.YtompjcadhodapaaDoor
namespace Rows

/-- THE TIED CARD OF 'tesseractlaw09.BatchRound'. -/
def batchRoundCard : Claim7 := { stood := { row := batchRoundRow, standIns := [], harness := (true, "7e3cd20f1c1bfe42073f5589f624cca2a7b66df950127afef09f1fc29482bd83"), looks := false }, kinds := [], alts := [], laidByText := true, laidKinds := [.data, .pinned], laidTests := true, laidLooks := .later }
def BatchRoundCardSaid : Prop := Claim7.holds Tryd.pinned (.plain (OpenSpec.ofChange batchRoundSpec)) batchRoundCard

/-- THE TIED CARD OF 'tesseractlaw09.BatchReads'. -/
def batchReadsCard : Claim7 := { stood := { row := batchReadsRow, standIns := [], harness := (true, "7e3cd20f1c1bfe42073f5589f624cca2a7b66df950127afef09f1fc29482bd83"), looks := false }, kinds := [], alts := [], laidByText := true, laidKinds := [.data, .pinned], laidTests := true, laidLooks := .later }
def BatchReadsCardSaid : Prop := Claim7.holds Tryd.pinned (.plain (OpenSpec.ofChange batchReadsSpec)) batchReadsCard

/-- THE TIED CARD OF 'tesseractlaw06.NamesKinds'. -/
def namesKindsCard : Claim7 := { stood := { row := namesKindsRow, standIns := [], harness := (true, "7e3cd20f1c1bfe42073f5589f624cca2a7b66df950127afef09f1fc29482bd83"), looks := false }, kinds := [], alts := [], laidByText := true, laidKinds := [.data, .pinned], laidTests := true, laidLooks := .later }
def NamesKindsCardSaid : Prop := Claim7.holds Tryd.pinned (.plain (OpenSpec.ofChange namesKindsSpec)) namesKindsCard

/-- THE TIED CARD OF 'tesseractlaw06.NamesPaths'. -/
def namesPathsCard : Claim7 := { stood := { row := namesPathsRow, standIns := [], harness := (true, "7e3cd20f1c1bfe42073f5589f624cca2a7b66df950127afef09f1fc29482bd83"), looks := false }, kinds := [], alts := [], laidByText := true, laidKinds := [.data, .pinned], laidTests := true, laidLooks := .later }
def NamesPathsCardSaid : Prop := Claim7.holds Tryd.pinned (.plain (OpenSpec.ofChange namesPathsSpec)) namesPathsCard

/-- THE SECOND FORM's CARD OF 'tesseractlaw09.BatchRound'. -/
def batchRoundUptoCard : Claim7 := { stood := { row := batchRoundUptoRow, standIns := [], harness := (true, "7e3cd20f1c1bfe42073f5589f624cca2a7b66df950127afef09f1fc29482bd83"), looks := false }, kinds := [], alts := [], laidByText := true, laidKinds := [.data, .pinned], laidTests := true, laidLooks := .later }
def BatchRoundUptoCardSaid : Prop := Claim7.holds Tryd.pinned (.plain (OpenSpec.upto batchRoundSpec)) batchRoundUptoCard

/-- THE SECOND FORM's CARD OF 'tesseractlaw09.BatchReads'. -/
def batchReadsUptoCard : Claim7 := { stood := { row := batchReadsUptoRow, standIns := [], harness := (true, "7e3cd20f1c1bfe42073f5589f624cca2a7b66df950127afef09f1fc29482bd83"), looks := false }, kinds := [], alts := [], laidByText := true, laidKinds := [.data, .pinned], laidTests := true, laidLooks := .later }
def BatchReadsUptoCardSaid : Prop := Claim7.holds Tryd.pinned (.plain (OpenSpec.upto batchReadsSpec)) batchReadsUptoCard

/-- THE SECOND FORM's CARD OF 'tesseractlaw06.NamesKinds'. -/
def namesKindsUptoCard : Claim7 := { stood := { row := namesKindsUptoRow, standIns := [], harness := (true, "7e3cd20f1c1bfe42073f5589f624cca2a7b66df950127afef09f1fc29482bd83"), looks := false }, kinds := [], alts := [], laidByText := true, laidKinds := [.data, .pinned], laidTests := true, laidLooks := .later }
def NamesKindsUptoCardSaid : Prop := Claim7.holds Tryd.pinned (.plain (OpenSpec.upto namesKindsSpec)) namesKindsUptoCard

/-- THE SECOND FORM's CARD OF 'tesseractlaw06.NamesPaths'. -/
def namesPathsUptoCard : Claim7 := { stood := { row := namesPathsUptoRow, standIns := [], harness := (true, "7e3cd20f1c1bfe42073f5589f624cca2a7b66df950127afef09f1fc29482bd83"), looks := false }, kinds := [], alts := [], laidByText := true, laidKinds := [.data, .pinned], laidTests := true, laidLooks := .later }
def NamesPathsUptoCardSaid : Prop := Claim7.holds Tryd.pinned (.plain (OpenSpec.upto namesPathsSpec)) namesPathsUptoCard
end Rows
end Go.Proofs.YtompjcadhodapaaDoor
