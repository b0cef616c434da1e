/-
  DERIVED. GIVEN WITH THE SEED: THE CARDS: each row of YtkgifbnkkmeoiaaGreatDoorRows.lean that lists a variable, with what it lists TIED to the program's text (the seventh form; the later family's looks); each row that meets fmt, with fmt's text TOLD by the authors' own Lean function (tested against real Go, not proved from fmt's source: count such statements apart). THE CARD IS WHAT COUNTS. Prove the row's statement (the work); the ties are given (YtkgifbnkkmeoiaaGreatDoorTie.lean); close each card by the builder's one call (the guide's Derived/Test/ToyasCard.lean, 'card_holds'). Laid BY PROGRAM, IN A SANDBOX (cutbox-door.mjs). By AI agents, Wed Nov 11 2026. No macro, syntax, notation, axiom, sorry.
-/
import Derived.Test.YtkgifbnkkmeoiaaGreatDoorRows
import GoSem.ClaimSeven
namespace Go.Proofs.YtkgifbnkkmeoiaaGreatDoor
namespace Rows

/-- THE TIED CARD OF 'tesseractlaw22.LinksPuts'. -/
def linksPutsCard : Claim7 := { stood := { row := linksPutsRow, standIns := [], harness := (true, "9aac36c8a7580b0f1bc0af04f0686e0702fcfd354303c73adae210a25fe8080f"), looks := false }, kinds := [], alts := [], laidByText := true, laidKinds := [.data, .pinned], laidTests := true, laidLooks := .later }
def LinksPutsCardSaid : Prop := Claim7.holds Tryz.pinned (.plain (OpenSpec.ofChange linksPutsSpec)) linksPutsCard

/-- THE TIED CARD OF 'tesseractlaw22.LinksGets'. -/
def linksGetsCard : Claim7 := { stood := { row := linksGetsRow, standIns := [], harness := (true, "9aac36c8a7580b0f1bc0af04f0686e0702fcfd354303c73adae210a25fe8080f"), looks := false }, kinds := [], alts := [], laidByText := true, laidKinds := [.data, .pinned], laidTests := true, laidLooks := .later }
def LinksGetsCardSaid : Prop := Claim7.holds Tryz.pinned (.plain (OpenSpec.ofChange linksGetsSpec)) linksGetsCard

/-- THE TIED CARD OF 'tesseractlaw22.LinksTells'. -/
def linksTellsCard : Claim7 := { stood := { row := linksTellsRow, standIns := [], harness := (true, "9aac36c8a7580b0f1bc0af04f0686e0702fcfd354303c73adae210a25fe8080f"), looks := false }, kinds := [], alts := [], laidByText := true, laidKinds := [.data, .pinned], laidTests := true, laidLooks := .later }
def LinksTellsCardSaid : Prop := Claim7.holds Tryz.pinned (.plain (OpenSpec.ofChange linksTellsSpec)) linksTellsCard

/-- THE SECOND FORM's CARD OF 'tesseractlaw22.LinksPuts'. -/
def linksPutsUptoCard : Claim7 := { stood := { row := linksPutsUptoRow, standIns := [], harness := (true, "9aac36c8a7580b0f1bc0af04f0686e0702fcfd354303c73adae210a25fe8080f"), looks := false }, kinds := [], alts := [], laidByText := true, laidKinds := [.data, .pinned], laidTests := true, laidLooks := .later }
def LinksPutsUptoCardSaid : Prop := Claim7.holds Tryz.pinned (.plain (OpenSpec.upto linksPutsSpec)) linksPutsUptoCard

/-- THE SECOND FORM's CARD OF 'tesseractlaw22.LinksGets'. -/
def linksGetsUptoCard : Claim7 := { stood := { row := linksGetsUptoRow, standIns := [], harness := (true, "9aac36c8a7580b0f1bc0af04f0686e0702fcfd354303c73adae210a25fe8080f"), looks := false }, kinds := [], alts := [], laidByText := true, laidKinds := [.data, .pinned], laidTests := true, laidLooks := .later }
def LinksGetsUptoCardSaid : Prop := Claim7.holds Tryz.pinned (.plain (OpenSpec.upto linksGetsSpec)) linksGetsUptoCard

/-- THE SECOND FORM's CARD OF 'tesseractlaw22.LinksTells'. -/
def linksTellsUptoCard : Claim7 := { stood := { row := linksTellsUptoRow, standIns := [], harness := (true, "9aac36c8a7580b0f1bc0af04f0686e0702fcfd354303c73adae210a25fe8080f"), looks := false }, kinds := [], alts := [], laidByText := true, laidKinds := [.data, .pinned], laidTests := true, laidLooks := .later }
def LinksTellsUptoCardSaid : Prop := Claim7.holds Tryz.pinned (.plain (OpenSpec.upto linksTellsSpec)) linksTellsUptoCard
end Rows
end Go.Proofs.YtkgifbnkkmeoiaaGreatDoor
