/-
  No cell of these rows narrows 'for every input' (looked for: loops, veiled, ifaces, maps, wideKeys, modest, calm, conditions, laid).
  DERIVED. THE GIVEN ROWS OF THIS SEAT. 3 by the template 'for every input the law returns true; each argument reads behind the call as it read before'; 0 by the template 'total and deterministic' (their statements: YtkgifbnkkmeoiaaTotals.lean).
  GIVEN WITH THE SEED: the statements are not yours to turn. If you find one false, say at which input.
  Laid BY PROGRAM, IN A SANDBOX (cutbox-rows.mjs): the forced cells as the released guide's own fill.sh prints them over the translation 3bde540732bf78fe… (all of the seat's roots in one cut). By AI agents, Wed Nov 11 2026. No macro, syntax, notation, axiom, sorry.
-/
import Derived.Test.YtkgifbnkkmeoiaaChecked
import GoSem.Claim
import GoSem.ClaimJoined
import GoSem.ClaimMapViews
import Derived.JoinedTies
import Derived.KernelRfl
namespace Go.Proofs.Ytkgifbnkkmeoiaa
/- THE CELL 'sum', in the pinned program and in every row, IS THE sha256 OF THE DUMP (.gsa) THAT YtkgifbnkkmeoiaaProg.lean LOADS. Nothing in Lean hashes anything: it is a label: what it is worth is what the hold of that sum in a sandbox is worth. -/
noncomputable def Try.pinned : Pinned := { name := "ytkgifbnkkmeoiaa", sum := "3bde540732bf78fe3605d46a19bb07461074ec3b38c30c86ead793e26ee06715", checked := Try.checked }
namespace Rows
def none {H : Type} : Left H := { results := [], args := [] }

/-- 'tesseractlaw22.LinksPlays': WHATEVER THE INPUT: true; the input reads as it did. -/
def linksPlaysSpec : ChangeSpec := { name := "linksPlays", fn := fun _ => fun
  | [d] => { results := [.lit (.bool true)], args := [d] }
  | _ => none }
def linksPlaysRow : OpenClaim := { program := "ytkgifbnkkmeoiaa", sum := "3bde540732bf78fe3605d46a19bb07461074ec3b38c30c86ead793e26ee06715", func := "tesseract/tesseractlaw22.LinksPlays", spec := "linksPlays", inPlace := ["internal/abi.NoEscape", "internal/bytealg.MakeNoZero"], unfollowed := true, recurses := true, apart := false }
def LinksPlaysSaid : Prop := linksPlaysRow.holds Try.pinned (OpenSpec.ofChange linksPlaysSpec)

/-- ITS FALSE NEIGHBOUR: 'it returns false'. Refute it at one input. -/
def linksPlaysWrong : ChangeSpec := { name := "linksPlays", fn := fun _ => fun
  | [d] => { results := [.lit (.bool false)], args := [d] }
  | _ => none }
def LinksPlaysWrongFalsely : Prop := linksPlaysRow.holds Try.pinned (OpenSpec.ofChange linksPlaysWrong)

/-- 'tesseractlaw22.LinksWays': WHATEVER THE INPUT: true; the input reads as it did. -/
def linksWaysSpec : ChangeSpec := { name := "linksWays", fn := fun _ => fun
  | [d1, d2, d3] => { results := [.lit (.bool true)], args := [d1, d2, d3] }
  | _ => none }
def linksWaysRow : OpenClaim := { program := "ytkgifbnkkmeoiaa", sum := "3bde540732bf78fe3605d46a19bb07461074ec3b38c30c86ead793e26ee06715", func := "tesseract/tesseractlaw22.LinksWays", spec := "linksWays", inPlace := ["internal/abi.NoEscape", "internal/bytealg.MakeNoZero"], unfollowed := true, recurses := true, apart := false }
def LinksWaysSaid : Prop := linksWaysRow.holds Try.pinned (OpenSpec.ofChange linksWaysSpec)

/-- ITS FALSE NEIGHBOUR: 'it returns false'. Refute it at one input. -/
def linksWaysWrong : ChangeSpec := { name := "linksWays", fn := fun _ => fun
  | [d1, d2, d3] => { results := [.lit (.bool false)], args := [d1, d2, d3] }
  | _ => none }
def LinksWaysWrongFalsely : Prop := linksWaysRow.holds Try.pinned (OpenSpec.ofChange linksWaysWrong)

/-- 'tesseractlaw22.LinksOwns': WHATEVER THE INPUT: true; the input reads as it did. -/
def linksOwnsSpec : ChangeSpec := { name := "linksOwns", fn := fun _ => fun
  | [d] => { results := [.lit (.bool true)], args := [d] }
  | _ => none }
def linksOwnsRow : OpenClaim := { program := "ytkgifbnkkmeoiaa", sum := "3bde540732bf78fe3605d46a19bb07461074ec3b38c30c86ead793e26ee06715", func := "tesseract/tesseractlaw22.LinksOwns", spec := "linksOwns", inPlace := ["internal/abi.NoEscape", "internal/bytealg.MakeNoZero"], unfollowed := true, recurses := true, apart := false }
def LinksOwnsSaid : Prop := linksOwnsRow.holds Try.pinned (OpenSpec.ofChange linksOwnsSpec)

/-- ITS FALSE NEIGHBOUR: 'it returns false'. Refute it at one input. -/
def linksOwnsWrong : ChangeSpec := { name := "linksOwns", fn := fun _ => fun
  | [d] => { results := [.lit (.bool false)], args := [d] }
  | _ => none }
def LinksOwnsWrongFalsely : Prop := linksOwnsRow.holds Try.pinned (OpenSpec.ofChange linksOwnsWrong)

/- THE SECOND FORM. 'bulk': how many values and letters a reading holds, each counted each time it is reached (what is shared counts as often as it is met; a slice's spare places count too). A statement '..UptoSaid' is the law's where the arguments, and the package variables that the reading takes, are together of bulk at most 1048576: NARROWER than '..Said'. Prove '..Said' where nothing that the law and all that it calls make is longer than what came in: it says more and counts as full. Else prove '..UptoSaid'. A law counts once. -/
mutual
def uptoBulk {H : Type} : DataW H → Nat
  | .lit (.string bytes) => bytes.length + 1
  | .lit _ => 1
  | .nil => 1
  | .ptr d => uptoBulk d + 1
  | .slice elems spare => uptoBulkAll elems + uptoBulkAll spare + 1
  | .agg parts => uptoBulkAll parts + 1
  | .iface _ d => uptoBulk d + 1
  | .map entries => uptoBulkEntries entries + 1
  | .held _ => 1
def uptoBulkAll {H : Type} : List (DataW H) → Nat
  | [] => 0
  | d :: r => uptoBulk d + uptoBulkAll r
def uptoBulkEntries {H : Type} : List (Lit × DataW H) → Nat
  | [] => 0
  | x :: r => uptoBulkEntry x + uptoBulkEntries r
def uptoBulkEntry {H : Type} : Lit × DataW H → Nat
  | (.string bytes, d) => bytes.length + uptoBulk d + 1
  | (_, d) => uptoBulk d + 1
 end
def uptoSmall : (H : Type) → List (DataW H) → Bool := fun _ ds => decide (uptoBulkAll ds ≤ 1048576)
def OpenSpec.upto (s : _root_.Go.ChangeSpec) : _root_.Go.OpenSpec := { _root_.Go.OpenSpec.ofChange s with cond := some uptoSmall }

/-- 'tesseractlaw22.LinksPlays', WHERE WHAT IT READS IS OF BULK AT MOST 1048576: true; the input reads as it did. -/
def linksPlaysUptoRow : OpenClaim := { program := "ytkgifbnkkmeoiaa", sum := "3bde540732bf78fe3605d46a19bb07461074ec3b38c30c86ead793e26ee06715", func := "tesseract/tesseractlaw22.LinksPlays", spec := "linksPlays", inPlace := ["internal/abi.NoEscape", "internal/bytealg.MakeNoZero"], unfollowed := true, recurses := true, apart := false, narrowed := true }
def LinksPlaysUptoSaid : Prop := linksPlaysUptoRow.holds Try.pinned (OpenSpec.upto linksPlaysSpec)

/-- 'tesseractlaw22.LinksWays', WHERE WHAT IT READS IS OF BULK AT MOST 1048576: true; the input reads as it did. -/
def linksWaysUptoRow : OpenClaim := { program := "ytkgifbnkkmeoiaa", sum := "3bde540732bf78fe3605d46a19bb07461074ec3b38c30c86ead793e26ee06715", func := "tesseract/tesseractlaw22.LinksWays", spec := "linksWays", inPlace := ["internal/abi.NoEscape", "internal/bytealg.MakeNoZero"], unfollowed := true, recurses := true, apart := false, narrowed := true }
def LinksWaysUptoSaid : Prop := linksWaysUptoRow.holds Try.pinned (OpenSpec.upto linksWaysSpec)

/-- 'tesseractlaw22.LinksOwns', WHERE WHAT IT READS IS OF BULK AT MOST 1048576: true; the input reads as it did. -/
def linksOwnsUptoRow : OpenClaim := { program := "ytkgifbnkkmeoiaa", sum := "3bde540732bf78fe3605d46a19bb07461074ec3b38c30c86ead793e26ee06715", func := "tesseract/tesseractlaw22.LinksOwns", spec := "linksOwns", inPlace := ["internal/abi.NoEscape", "internal/bytealg.MakeNoZero"], unfollowed := true, recurses := true, apart := false, narrowed := true }
def LinksOwnsUptoSaid : Prop := linksOwnsUptoRow.holds Try.pinned (OpenSpec.upto linksOwnsSpec)

end Rows
end Go.Proofs.Ytkgifbnkkmeoiaa
