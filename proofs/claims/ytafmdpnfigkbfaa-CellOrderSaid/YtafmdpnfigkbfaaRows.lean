/-
  No cell of these rows narrows 'for every input' (looked for: loops, veiled, ifaces, maps, wideKeys, modest, calm, conditions, laid).
  DERIVED. THE GIVEN ROWS OF THIS SEAT. 7 by the template 'for every input the law returns true; each argument reads behind the call as it read before'; 0 by the template 'total and deterministic' (their statements: YtafmdpnfigkbfaaTotals.lean).
  GIVEN WITH THE SEED: the statements are not yours to turn. If you find one false, say at which input.
  Laid BY PROGRAM, IN A SANDBOX (cutbox-rows.mjs): the forced cells as the released guide's own fill.sh prints them over the translation 1ae18e29f8f41d4e… (all of the seat's roots in one cut). By AI agents, Wed Nov 11 2026. No macro, syntax, notation, axiom, sorry.
-/
import Derived.Test.YtafmdpnfigkbfaaChecked
import GoSem.Claim
import GoSem.ClaimJoined
import GoSem.ClaimMapViews
import Derived.JoinedTies
import Derived.KernelRfl
namespace Go.Proofs.Ytafmdpnfigkbfaa
/- THE CELL 'sum', in the pinned program and in every row, IS THE sha256 OF THE DUMP (.gsa) THAT YtafmdpnfigkbfaaProg.lean LOADS. Nothing in Lean hashes anything: it is a label: what it is worth is what the hold of that sum in a sandbox is worth. -/
noncomputable def Try.pinned : Pinned := { name := "ytafmdpnfigkbfaa", sum := "1ae18e29f8f41d4ede82c6e9e40dd41126a90567ce467c2457b84bdfbaa45433", checked := Try.checked }
namespace Rows
def none {H : Type} : Left H := { results := [], args := [] }

/-- 'tesseractlaw05.CellFolds': WHATEVER THE INPUT: true; the input reads as it did. -/
def cellFoldsSpec : ChangeSpec := { name := "cellFolds", fn := fun _ => fun
  | [d1, d2] => { results := [.lit (.bool true)], args := [d1, d2] }
  | _ => none }
def cellFoldsRow : OpenClaim := { program := "ytafmdpnfigkbfaa", sum := "1ae18e29f8f41d4ede82c6e9e40dd41126a90567ce467c2457b84bdfbaa45433", func := "tesseract/tesseractlaw05.CellFolds", spec := "cellFolds", unfollowed := true, recurses := true, apart := false }
def CellFoldsSaid : Prop := cellFoldsRow.holds Try.pinned (OpenSpec.ofChange cellFoldsSpec)

/-- ITS FALSE NEIGHBOUR: 'it returns false'. Refute it at one input. -/
def cellFoldsWrong : ChangeSpec := { name := "cellFolds", fn := fun _ => fun
  | [d1, d2] => { results := [.lit (.bool false)], args := [d1, d2] }
  | _ => none }
def CellFoldsWrongFalsely : Prop := cellFoldsRow.holds Try.pinned (OpenSpec.ofChange cellFoldsWrong)

/-- 'tesseractlaw05.CellMerges': WHATEVER THE INPUT: true; the input reads as it did. -/
def cellMergesSpec : ChangeSpec := { name := "cellMerges", fn := fun _ => fun
  | [d1, d2] => { results := [.lit (.bool true)], args := [d1, d2] }
  | _ => none }
def cellMergesRow : OpenClaim := { program := "ytafmdpnfigkbfaa", sum := "1ae18e29f8f41d4ede82c6e9e40dd41126a90567ce467c2457b84bdfbaa45433", func := "tesseract/tesseractlaw05.CellMerges", spec := "cellMerges", unfollowed := true, recurses := true, apart := false }
def CellMergesSaid : Prop := cellMergesRow.holds Try.pinned (OpenSpec.ofChange cellMergesSpec)

/-- ITS FALSE NEIGHBOUR: 'it returns false'. Refute it at one input. -/
def cellMergesWrong : ChangeSpec := { name := "cellMerges", fn := fun _ => fun
  | [d1, d2] => { results := [.lit (.bool false)], args := [d1, d2] }
  | _ => none }
def CellMergesWrongFalsely : Prop := cellMergesRow.holds Try.pinned (OpenSpec.ofChange cellMergesWrong)

/-- 'tesseractlaw05.CellMay': WHATEVER THE INPUT: true; the input reads as it did. -/
def cellMaySpec : ChangeSpec := { name := "cellMay", fn := fun _ => fun
  | [d1, d2] => { results := [.lit (.bool true)], args := [d1, d2] }
  | _ => none }
def cellMayRow : OpenClaim := { program := "ytafmdpnfigkbfaa", sum := "1ae18e29f8f41d4ede82c6e9e40dd41126a90567ce467c2457b84bdfbaa45433", func := "tesseract/tesseractlaw05.CellMay", spec := "cellMay", unfollowed := true, recurses := true, apart := false }
def CellMaySaid : Prop := cellMayRow.holds Try.pinned (OpenSpec.ofChange cellMaySpec)

/-- ITS FALSE NEIGHBOUR: 'it returns false'. Refute it at one input. -/
def cellMayWrong : ChangeSpec := { name := "cellMay", fn := fun _ => fun
  | [d1, d2] => { results := [.lit (.bool false)], args := [d1, d2] }
  | _ => none }
def CellMayWrongFalsely : Prop := cellMayRow.holds Try.pinned (OpenSpec.ofChange cellMayWrong)

/-- 'tesseractlaw05.CellOrder': WHATEVER THE INPUT: true; the input reads as it did. -/
def cellOrderSpec : ChangeSpec := { name := "cellOrder", fn := fun _ => fun
  | [d1, d2, d3] => { results := [.lit (.bool true)], args := [d1, d2, d3] }
  | _ => none }
def cellOrderRow : OpenClaim := { program := "ytafmdpnfigkbfaa", sum := "1ae18e29f8f41d4ede82c6e9e40dd41126a90567ce467c2457b84bdfbaa45433", func := "tesseract/tesseractlaw05.CellOrder", spec := "cellOrder", unfollowed := true, recurses := true, apart := false }
def CellOrderSaid : Prop := cellOrderRow.holds Try.pinned (OpenSpec.ofChange cellOrderSpec)

/-- ITS FALSE NEIGHBOUR: 'it returns false'. Refute it at one input. -/
def cellOrderWrong : ChangeSpec := { name := "cellOrder", fn := fun _ => fun
  | [d1, d2, d3] => { results := [.lit (.bool false)], args := [d1, d2, d3] }
  | _ => none }
def CellOrderWrongFalsely : Prop := cellOrderRow.holds Try.pinned (OpenSpec.ofChange cellOrderWrong)

/-- 'tesseractlaw05.CellParts': WHATEVER THE INPUT: true; the input reads as it did. -/
def cellPartsSpec : ChangeSpec := { name := "cellParts", fn := fun _ => fun
  | [d1, d2, d3] => { results := [.lit (.bool true)], args := [d1, d2, d3] }
  | _ => none }
def cellPartsRow : OpenClaim := { program := "ytafmdpnfigkbfaa", sum := "1ae18e29f8f41d4ede82c6e9e40dd41126a90567ce467c2457b84bdfbaa45433", func := "tesseract/tesseractlaw05.CellParts", spec := "cellParts", unfollowed := true, recurses := true, apart := false }
def CellPartsSaid : Prop := cellPartsRow.holds Try.pinned (OpenSpec.ofChange cellPartsSpec)

/-- ITS FALSE NEIGHBOUR: 'it returns false'. Refute it at one input. -/
def cellPartsWrong : ChangeSpec := { name := "cellParts", fn := fun _ => fun
  | [d1, d2, d3] => { results := [.lit (.bool false)], args := [d1, d2, d3] }
  | _ => none }
def CellPartsWrongFalsely : Prop := cellPartsRow.holds Try.pinned (OpenSpec.ofChange cellPartsWrong)

/-- 'tesseractlaw05.CellOwns': WHATEVER THE INPUT: true; the input reads as it did. -/
def cellOwnsSpec : ChangeSpec := { name := "cellOwns", fn := fun _ => fun
  | [d1, d2, d3] => { results := [.lit (.bool true)], args := [d1, d2, d3] }
  | _ => none }
def cellOwnsRow : OpenClaim := { program := "ytafmdpnfigkbfaa", sum := "1ae18e29f8f41d4ede82c6e9e40dd41126a90567ce467c2457b84bdfbaa45433", func := "tesseract/tesseractlaw05.CellOwns", spec := "cellOwns", unfollowed := true, recurses := true, apart := false }
def CellOwnsSaid : Prop := cellOwnsRow.holds Try.pinned (OpenSpec.ofChange cellOwnsSpec)

/-- ITS FALSE NEIGHBOUR: 'it returns false'. Refute it at one input. -/
def cellOwnsWrong : ChangeSpec := { name := "cellOwns", fn := fun _ => fun
  | [d1, d2, d3] => { results := [.lit (.bool false)], args := [d1, d2, d3] }
  | _ => none }
def CellOwnsWrongFalsely : Prop := cellOwnsRow.holds Try.pinned (OpenSpec.ofChange cellOwnsWrong)

/-- 'tesseractlaw05.CellSums': WHATEVER THE INPUT: true; the input reads as it did. -/
def cellSumsSpec : ChangeSpec := { name := "cellSums", fn := fun _ => fun
  | [d] => { results := [.lit (.bool true)], args := [d] }
  | _ => none }
def cellSumsRow : OpenClaim := { program := "ytafmdpnfigkbfaa", sum := "1ae18e29f8f41d4ede82c6e9e40dd41126a90567ce467c2457b84bdfbaa45433", func := "tesseract/tesseractlaw05.CellSums", spec := "cellSums", unfollowed := true, recurses := true, apart := false }
def CellSumsSaid : Prop := cellSumsRow.holds Try.pinned (OpenSpec.ofChange cellSumsSpec)

/-- ITS FALSE NEIGHBOUR: 'it returns false'. Refute it at one input. -/
def cellSumsWrong : ChangeSpec := { name := "cellSums", fn := fun _ => fun
  | [d] => { results := [.lit (.bool false)], args := [d] }
  | _ => none }
def CellSumsWrongFalsely : Prop := cellSumsRow.holds Try.pinned (OpenSpec.ofChange cellSumsWrong)

/- THE SECOND FORM. 'bulk': how many values and letters a reading holds, each counted each time it is reached (what is shared counts as often as it is met; a slice's spare places count too). A statement '..UptoSaid' is the law's where the arguments, and the package variables that the reading takes, are together of bulk at most 1048576: NARROWER than '..Said'. Prove '..Said' where nothing that the law and all that it calls make is longer than what came in: it says more and counts as full. Else prove '..UptoSaid'. A law counts once. -/
mutual
def uptoBulk {H : Type} : DataW H → Nat
  | .lit (.string bytes) => bytes.length + 1
  | .lit _ => 1
  | .nil => 1
  | .ptr d => uptoBulk d + 1
  | .slice elems spare => uptoBulkAll elems + uptoBulkAll spare + 1
  | .agg parts => uptoBulkAll parts + 1
  | .iface _ d => uptoBulk d + 1
  | .map entries => uptoBulkEntries entries + 1
  | .held _ => 1
def uptoBulkAll {H : Type} : List (DataW H) → Nat
  | [] => 0
  | d :: r => uptoBulk d + uptoBulkAll r
def uptoBulkEntries {H : Type} : List (Lit × DataW H) → Nat
  | [] => 0
  | x :: r => uptoBulkEntry x + uptoBulkEntries r
def uptoBulkEntry {H : Type} : Lit × DataW H → Nat
  | (.string bytes, d) => bytes.length + uptoBulk d + 1
  | (_, d) => uptoBulk d + 1
 end
def uptoSmall : (H : Type) → List (DataW H) → Bool := fun _ ds => decide (uptoBulkAll ds ≤ 1048576)
def OpenSpec.upto (s : _root_.Go.ChangeSpec) : _root_.Go.OpenSpec := { _root_.Go.OpenSpec.ofChange s with cond := some uptoSmall }

/-- 'tesseractlaw05.CellFolds', WHERE WHAT IT READS IS OF BULK AT MOST 1048576: true; the input reads as it did. -/
def cellFoldsUptoRow : OpenClaim := { program := "ytafmdpnfigkbfaa", sum := "1ae18e29f8f41d4ede82c6e9e40dd41126a90567ce467c2457b84bdfbaa45433", func := "tesseract/tesseractlaw05.CellFolds", spec := "cellFolds", unfollowed := true, recurses := true, apart := false, narrowed := true }
def CellFoldsUptoSaid : Prop := cellFoldsUptoRow.holds Try.pinned (OpenSpec.upto cellFoldsSpec)

/-- 'tesseractlaw05.CellMerges', WHERE WHAT IT READS IS OF BULK AT MOST 1048576: true; the input reads as it did. -/
def cellMergesUptoRow : OpenClaim := { program := "ytafmdpnfigkbfaa", sum := "1ae18e29f8f41d4ede82c6e9e40dd41126a90567ce467c2457b84bdfbaa45433", func := "tesseract/tesseractlaw05.CellMerges", spec := "cellMerges", unfollowed := true, recurses := true, apart := false, narrowed := true }
def CellMergesUptoSaid : Prop := cellMergesUptoRow.holds Try.pinned (OpenSpec.upto cellMergesSpec)

/-- 'tesseractlaw05.CellMay', WHERE WHAT IT READS IS OF BULK AT MOST 1048576: true; the input reads as it did. -/
def cellMayUptoRow : OpenClaim := { program := "ytafmdpnfigkbfaa", sum := "1ae18e29f8f41d4ede82c6e9e40dd41126a90567ce467c2457b84bdfbaa45433", func := "tesseract/tesseractlaw05.CellMay", spec := "cellMay", unfollowed := true, recurses := true, apart := false, narrowed := true }
def CellMayUptoSaid : Prop := cellMayUptoRow.holds Try.pinned (OpenSpec.upto cellMaySpec)

/-- 'tesseractlaw05.CellOrder', WHERE WHAT IT READS IS OF BULK AT MOST 1048576: true; the input reads as it did. -/
def cellOrderUptoRow : OpenClaim := { program := "ytafmdpnfigkbfaa", sum := "1ae18e29f8f41d4ede82c6e9e40dd41126a90567ce467c2457b84bdfbaa45433", func := "tesseract/tesseractlaw05.CellOrder", spec := "cellOrder", unfollowed := true, recurses := true, apart := false, narrowed := true }
def CellOrderUptoSaid : Prop := cellOrderUptoRow.holds Try.pinned (OpenSpec.upto cellOrderSpec)

/-- 'tesseractlaw05.CellParts', WHERE WHAT IT READS IS OF BULK AT MOST 1048576: true; the input reads as it did. -/
def cellPartsUptoRow : OpenClaim := { program := "ytafmdpnfigkbfaa", sum := "1ae18e29f8f41d4ede82c6e9e40dd41126a90567ce467c2457b84bdfbaa45433", func := "tesseract/tesseractlaw05.CellParts", spec := "cellParts", unfollowed := true, recurses := true, apart := false, narrowed := true }
def CellPartsUptoSaid : Prop := cellPartsUptoRow.holds Try.pinned (OpenSpec.upto cellPartsSpec)

/-- 'tesseractlaw05.CellOwns', WHERE WHAT IT READS IS OF BULK AT MOST 1048576: true; the input reads as it did. -/
def cellOwnsUptoRow : OpenClaim := { program := "ytafmdpnfigkbfaa", sum := "1ae18e29f8f41d4ede82c6e9e40dd41126a90567ce467c2457b84bdfbaa45433", func := "tesseract/tesseractlaw05.CellOwns", spec := "cellOwns", unfollowed := true, recurses := true, apart := false, narrowed := true }
def CellOwnsUptoSaid : Prop := cellOwnsUptoRow.holds Try.pinned (OpenSpec.upto cellOwnsSpec)

/-- 'tesseractlaw05.CellSums', WHERE WHAT IT READS IS OF BULK AT MOST 1048576: true; the input reads as it did. -/
def cellSumsUptoRow : OpenClaim := { program := "ytafmdpnfigkbfaa", sum := "1ae18e29f8f41d4ede82c6e9e40dd41126a90567ce467c2457b84bdfbaa45433", func := "tesseract/tesseractlaw05.CellSums", spec := "cellSums", unfollowed := true, recurses := true, apart := false, narrowed := true }
def CellSumsUptoSaid : Prop := cellSumsUptoRow.holds Try.pinned (OpenSpec.upto cellSumsSpec)

end Rows
end Go.Proofs.Ytafmdpnfigkbfaa
