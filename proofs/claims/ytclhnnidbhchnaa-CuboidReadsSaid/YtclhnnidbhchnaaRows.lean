/-
  No cell of these rows narrows 'for every input' (looked for: loops, veiled, ifaces, maps, wideKeys, modest, calm, conditions, laid).
  DERIVED. THE GIVEN ROWS OF THIS SEAT. 8 by the template 'for every input the law returns true; each argument reads behind the call as it read before'; 0 by the template 'total and deterministic' (their statements: YtclhnnidbhchnaaTotals.lean).
  GIVEN WITH THE SEED: the statements are not yours to turn. If you find one false, say at which input.
  Laid BY PROGRAM, IN A SANDBOX (cutbox-rows.mjs): the forced cells as the released guide's own fill.sh prints them over the translation 5de81559f344f804… (all of the seat's roots in one cut). By AI agents, Wed Nov 11 2026. No macro, syntax, notation, axiom, sorry.
-/
import Derived.Test.YtclhnnidbhchnaaChecked
import GoSem.Claim
import GoSem.ClaimJoined
import GoSem.ClaimMapViews
import Derived.JoinedTies
import Derived.KernelRfl
namespace Go.Proofs.Ytclhnnidbhchnaa
/- THE CELL 'sum', in the pinned program and in every row, IS THE sha256 OF THE DUMP (.gsa) THAT YtclhnnidbhchnaaProg.lean LOADS. Nothing in Lean hashes anything: it is a label: what it is worth is what the hold of that sum in a sandbox is worth. -/
noncomputable def Try.pinned : Pinned := { name := "ytclhnnidbhchnaa", sum := "5de81559f344f8042376ed6fdd9428e364023dc6bf23fe139d4e070bbfd2b887", checked := Try.checked }
namespace Rows
def none {H : Type} : Left H := { results := [], args := [] }

/-- 'tesseractlaw05.CellSums': WHATEVER THE INPUT: true; the input reads as it did. -/
def cellSumsSpec : ChangeSpec := { name := "cellSums", fn := fun _ => fun
  | [d] => { results := [.lit (.bool true)], args := [d] }
  | _ => none }
def cellSumsRow : OpenClaim := { program := "ytclhnnidbhchnaa", sum := "5de81559f344f8042376ed6fdd9428e364023dc6bf23fe139d4e070bbfd2b887", func := "tesseract/tesseractlaw05.CellSums", spec := "cellSums", unfollowed := true, recurses := true, plainKeys := false, apart := false }
def CellSumsSaid : Prop := cellSumsRow.holds Try.pinned (OpenSpec.ofChange cellSumsSpec)

/-- ITS FALSE NEIGHBOUR: 'it returns false'. Refute it at one input. -/
def cellSumsWrong : ChangeSpec := { name := "cellSums", fn := fun _ => fun
  | [d] => { results := [.lit (.bool false)], args := [d] }
  | _ => none }
def CellSumsWrongFalsely : Prop := cellSumsRow.holds Try.pinned (OpenSpec.ofChange cellSumsWrong)

/-- 'tesseractlaw10.CuboidTwice': WHATEVER THE INPUT: true; the input reads as it did. -/
def cuboidTwiceSpec : ChangeSpec := { name := "cuboidTwice", fn := fun _ => fun
  | [d1, d2, d3, d4] => { results := [.lit (.bool true)], args := [d1, d2, d3, d4] }
  | _ => none }
def cuboidTwiceRow : OpenClaim := { program := "ytclhnnidbhchnaa", sum := "5de81559f344f8042376ed6fdd9428e364023dc6bf23fe139d4e070bbfd2b887", func := "tesseract/tesseractlaw10.CuboidTwice", spec := "cuboidTwice", unfollowed := true, recurses := true, plainKeys := false, apart := false }
def CuboidTwiceSaid : Prop := cuboidTwiceRow.holds Try.pinned (OpenSpec.ofChange cuboidTwiceSpec)

/-- ITS FALSE NEIGHBOUR: 'it returns false'. Refute it at one input. -/
def cuboidTwiceWrong : ChangeSpec := { name := "cuboidTwice", fn := fun _ => fun
  | [d1, d2, d3, d4] => { results := [.lit (.bool false)], args := [d1, d2, d3, d4] }
  | _ => none }
def CuboidTwiceWrongFalsely : Prop := cuboidTwiceRow.holds Try.pinned (OpenSpec.ofChange cuboidTwiceWrong)

/-- 'tesseractlaw10.CuboidOrder': WHATEVER THE INPUT: true; the input reads as it did. -/
def cuboidOrderSpec : ChangeSpec := { name := "cuboidOrder", fn := fun _ => fun
  | [d1, d2] => { results := [.lit (.bool true)], args := [d1, d2] }
  | _ => none }
def cuboidOrderRow : OpenClaim := { program := "ytclhnnidbhchnaa", sum := "5de81559f344f8042376ed6fdd9428e364023dc6bf23fe139d4e070bbfd2b887", func := "tesseract/tesseractlaw10.CuboidOrder", spec := "cuboidOrder", unfollowed := true, recurses := true, plainKeys := false, apart := false }
def CuboidOrderSaid : Prop := cuboidOrderRow.holds Try.pinned (OpenSpec.ofChange cuboidOrderSpec)

/-- ITS FALSE NEIGHBOUR: 'it returns false'. Refute it at one input. -/
def cuboidOrderWrong : ChangeSpec := { name := "cuboidOrder", fn := fun _ => fun
  | [d1, d2] => { results := [.lit (.bool false)], args := [d1, d2] }
  | _ => none }
def CuboidOrderWrongFalsely : Prop := cuboidOrderRow.holds Try.pinned (OpenSpec.ofChange cuboidOrderWrong)

/-- 'tesseractlaw10.CuboidPlays': WHATEVER THE INPUT: true; the input reads as it did. -/
def cuboidPlaysSpec : ChangeSpec := { name := "cuboidPlays", fn := fun _ => fun
  | [d1, d2, d3, d4] => { results := [.lit (.bool true)], args := [d1, d2, d3, d4] }
  | _ => none }
def cuboidPlaysRow : OpenClaim := { program := "ytclhnnidbhchnaa", sum := "5de81559f344f8042376ed6fdd9428e364023dc6bf23fe139d4e070bbfd2b887", func := "tesseract/tesseractlaw10.CuboidPlays", spec := "cuboidPlays", unfollowed := true, recurses := true, plainKeys := false, apart := false }
def CuboidPlaysSaid : Prop := cuboidPlaysRow.holds Try.pinned (OpenSpec.ofChange cuboidPlaysSpec)

/-- ITS FALSE NEIGHBOUR: 'it returns false'. Refute it at one input. -/
def cuboidPlaysWrong : ChangeSpec := { name := "cuboidPlays", fn := fun _ => fun
  | [d1, d2, d3, d4] => { results := [.lit (.bool false)], args := [d1, d2, d3, d4] }
  | _ => none }
def CuboidPlaysWrongFalsely : Prop := cuboidPlaysRow.holds Try.pinned (OpenSpec.ofChange cuboidPlaysWrong)

/-- 'tesseractlaw10.CuboidRolls': WHATEVER THE INPUT: true; the input reads as it did. -/
def cuboidRollsSpec : ChangeSpec := { name := "cuboidRolls", fn := fun _ => fun
  | [d1, d2, d3, d4] => { results := [.lit (.bool true)], args := [d1, d2, d3, d4] }
  | _ => none }
def cuboidRollsRow : OpenClaim := { program := "ytclhnnidbhchnaa", sum := "5de81559f344f8042376ed6fdd9428e364023dc6bf23fe139d4e070bbfd2b887", func := "tesseract/tesseractlaw10.CuboidRolls", spec := "cuboidRolls", unfollowed := true, recurses := true, plainKeys := false, apart := false }
def CuboidRollsSaid : Prop := cuboidRollsRow.holds Try.pinned (OpenSpec.ofChange cuboidRollsSpec)

/-- ITS FALSE NEIGHBOUR: 'it returns false'. Refute it at one input. -/
def cuboidRollsWrong : ChangeSpec := { name := "cuboidRolls", fn := fun _ => fun
  | [d1, d2, d3, d4] => { results := [.lit (.bool false)], args := [d1, d2, d3, d4] }
  | _ => none }
def CuboidRollsWrongFalsely : Prop := cuboidRollsRow.holds Try.pinned (OpenSpec.ofChange cuboidRollsWrong)

/-- 'tesseractlaw10.CuboidOwns': WHATEVER THE INPUT: true; the input reads as it did. -/
def cuboidOwnsSpec : ChangeSpec := { name := "cuboidOwns", fn := fun _ => fun
  | [d1, d2, d3, d4] => { results := [.lit (.bool true)], args := [d1, d2, d3, d4] }
  | _ => none }
def cuboidOwnsRow : OpenClaim := { program := "ytclhnnidbhchnaa", sum := "5de81559f344f8042376ed6fdd9428e364023dc6bf23fe139d4e070bbfd2b887", func := "tesseract/tesseractlaw10.CuboidOwns", spec := "cuboidOwns", unfollowed := true, recurses := true, plainKeys := false, apart := false }
def CuboidOwnsSaid : Prop := cuboidOwnsRow.holds Try.pinned (OpenSpec.ofChange cuboidOwnsSpec)

/-- ITS FALSE NEIGHBOUR: 'it returns false'. Refute it at one input. -/
def cuboidOwnsWrong : ChangeSpec := { name := "cuboidOwns", fn := fun _ => fun
  | [d1, d2, d3, d4] => { results := [.lit (.bool false)], args := [d1, d2, d3, d4] }
  | _ => none }
def CuboidOwnsWrongFalsely : Prop := cuboidOwnsRow.holds Try.pinned (OpenSpec.ofChange cuboidOwnsWrong)

/-- 'tesseractlaw10.CuboidRound': WHATEVER THE INPUT: true; the input reads as it did. -/
def cuboidRoundSpec : ChangeSpec := { name := "cuboidRound", fn := fun _ => fun
  | [d1, d2, d3] => { results := [.lit (.bool true)], args := [d1, d2, d3] }
  | _ => none }
def cuboidRoundRow : OpenClaim := { program := "ytclhnnidbhchnaa", sum := "5de81559f344f8042376ed6fdd9428e364023dc6bf23fe139d4e070bbfd2b887", func := "tesseract/tesseractlaw10.CuboidRound", spec := "cuboidRound", unfollowed := true, recurses := true, plainKeys := false, apart := false }
def CuboidRoundSaid : Prop := cuboidRoundRow.holds Try.pinned (OpenSpec.ofChange cuboidRoundSpec)

/-- ITS FALSE NEIGHBOUR: 'it returns false'. Refute it at one input. -/
def cuboidRoundWrong : ChangeSpec := { name := "cuboidRound", fn := fun _ => fun
  | [d1, d2, d3] => { results := [.lit (.bool false)], args := [d1, d2, d3] }
  | _ => none }
def CuboidRoundWrongFalsely : Prop := cuboidRoundRow.holds Try.pinned (OpenSpec.ofChange cuboidRoundWrong)

/-- 'tesseractlaw10.CuboidReads': WHATEVER THE INPUT: true; the input reads as it did. -/
def cuboidReadsSpec : ChangeSpec := { name := "cuboidReads", fn := fun _ => fun
  | [d1, d2, d3] => { results := [.lit (.bool true)], args := [d1, d2, d3] }
  | _ => none }
def cuboidReadsRow : OpenClaim := { program := "ytclhnnidbhchnaa", sum := "5de81559f344f8042376ed6fdd9428e364023dc6bf23fe139d4e070bbfd2b887", func := "tesseract/tesseractlaw10.CuboidReads", spec := "cuboidReads", unfollowed := true, recurses := true, plainKeys := false, apart := false }
def CuboidReadsSaid : Prop := cuboidReadsRow.holds Try.pinned (OpenSpec.ofChange cuboidReadsSpec)

/-- ITS FALSE NEIGHBOUR: 'it returns false'. Refute it at one input. -/
def cuboidReadsWrong : ChangeSpec := { name := "cuboidReads", fn := fun _ => fun
  | [d1, d2, d3] => { results := [.lit (.bool false)], args := [d1, d2, d3] }
  | _ => none }
def CuboidReadsWrongFalsely : Prop := cuboidReadsRow.holds Try.pinned (OpenSpec.ofChange cuboidReadsWrong)

/- THE SECOND FORM. 'bulk': how many values and letters a reading holds, each counted each time it is reached (what is shared counts as often as it is met; a slice's spare places count too). A statement '..UptoSaid' is the law's where the arguments, and the package variables that the reading takes, are together of bulk at most 1048576: NARROWER than '..Said'. Prove '..Said' where nothing that the law and all that it calls make is longer than what came in: it says more and counts as full. Else prove '..UptoSaid'. A law counts once. -/
mutual
def uptoBulk {H : Type} : DataW H → Nat
  | .lit (.string bytes) => bytes.length + 1
  | .lit _ => 1
  | .nil => 1
  | .ptr d => uptoBulk d + 1
  | .slice elems spare => uptoBulkAll elems + uptoBulkAll spare + 1
  | .agg parts => uptoBulkAll parts + 1
  | .iface _ d => uptoBulk d + 1
  | .map entries => uptoBulkEntries entries + 1
  | .held _ => 1
def uptoBulkAll {H : Type} : List (DataW H) → Nat
  | [] => 0
  | d :: r => uptoBulk d + uptoBulkAll r
def uptoBulkEntries {H : Type} : List (Lit × DataW H) → Nat
  | [] => 0
  | x :: r => uptoBulkEntry x + uptoBulkEntries r
def uptoBulkEntry {H : Type} : Lit × DataW H → Nat
  | (.string bytes, d) => bytes.length + uptoBulk d + 1
  | (_, d) => uptoBulk d + 1
 end
def uptoSmall : (H : Type) → List (DataW H) → Bool := fun _ ds => decide (uptoBulkAll ds ≤ 1048576)
def OpenSpec.upto (s : _root_.Go.ChangeSpec) : _root_.Go.OpenSpec := { _root_.Go.OpenSpec.ofChange s with cond := some uptoSmall }

/-- 'tesseractlaw05.CellSums', WHERE WHAT IT READS IS OF BULK AT MOST 1048576: true; the input reads as it did. -/
def cellSumsUptoRow : OpenClaim := { program := "ytclhnnidbhchnaa", sum := "5de81559f344f8042376ed6fdd9428e364023dc6bf23fe139d4e070bbfd2b887", func := "tesseract/tesseractlaw05.CellSums", spec := "cellSums", unfollowed := true, recurses := true, plainKeys := false, apart := false, narrowed := true }
def CellSumsUptoSaid : Prop := cellSumsUptoRow.holds Try.pinned (OpenSpec.upto cellSumsSpec)

/-- 'tesseractlaw10.CuboidTwice', WHERE WHAT IT READS IS OF BULK AT MOST 1048576: true; the input reads as it did. -/
def cuboidTwiceUptoRow : OpenClaim := { program := "ytclhnnidbhchnaa", sum := "5de81559f344f8042376ed6fdd9428e364023dc6bf23fe139d4e070bbfd2b887", func := "tesseract/tesseractlaw10.CuboidTwice", spec := "cuboidTwice", unfollowed := true, recurses := true, plainKeys := false, apart := false, narrowed := true }
def CuboidTwiceUptoSaid : Prop := cuboidTwiceUptoRow.holds Try.pinned (OpenSpec.upto cuboidTwiceSpec)

/-- 'tesseractlaw10.CuboidOrder', WHERE WHAT IT READS IS OF BULK AT MOST 1048576: true; the input reads as it did. -/
def cuboidOrderUptoRow : OpenClaim := { program := "ytclhnnidbhchnaa", sum := "5de81559f344f8042376ed6fdd9428e364023dc6bf23fe139d4e070bbfd2b887", func := "tesseract/tesseractlaw10.CuboidOrder", spec := "cuboidOrder", unfollowed := true, recurses := true, plainKeys := false, apart := false, narrowed := true }
def CuboidOrderUptoSaid : Prop := cuboidOrderUptoRow.holds Try.pinned (OpenSpec.upto cuboidOrderSpec)

/-- 'tesseractlaw10.CuboidPlays', WHERE WHAT IT READS IS OF BULK AT MOST 1048576: true; the input reads as it did. -/
def cuboidPlaysUptoRow : OpenClaim := { program := "ytclhnnidbhchnaa", sum := "5de81559f344f8042376ed6fdd9428e364023dc6bf23fe139d4e070bbfd2b887", func := "tesseract/tesseractlaw10.CuboidPlays", spec := "cuboidPlays", unfollowed := true, recurses := true, plainKeys := false, apart := false, narrowed := true }
def CuboidPlaysUptoSaid : Prop := cuboidPlaysUptoRow.holds Try.pinned (OpenSpec.upto cuboidPlaysSpec)

/-- 'tesseractlaw10.CuboidRolls', WHERE WHAT IT READS IS OF BULK AT MOST 1048576: true; the input reads as it did. -/
def cuboidRollsUptoRow : OpenClaim := { program := "ytclhnnidbhchnaa", sum := "5de81559f344f8042376ed6fdd9428e364023dc6bf23fe139d4e070bbfd2b887", func := "tesseract/tesseractlaw10.CuboidRolls", spec := "cuboidRolls", unfollowed := true, recurses := true, plainKeys := false, apart := false, narrowed := true }
def CuboidRollsUptoSaid : Prop := cuboidRollsUptoRow.holds Try.pinned (OpenSpec.upto cuboidRollsSpec)

/-- 'tesseractlaw10.CuboidOwns', WHERE WHAT IT READS IS OF BULK AT MOST 1048576: true; the input reads as it did. -/
def cuboidOwnsUptoRow : OpenClaim := { program := "ytclhnnidbhchnaa", sum := "5de81559f344f8042376ed6fdd9428e364023dc6bf23fe139d4e070bbfd2b887", func := "tesseract/tesseractlaw10.CuboidOwns", spec := "cuboidOwns", unfollowed := true, recurses := true, plainKeys := false, apart := false, narrowed := true }
def CuboidOwnsUptoSaid : Prop := cuboidOwnsUptoRow.holds Try.pinned (OpenSpec.upto cuboidOwnsSpec)

/-- 'tesseractlaw10.CuboidRound', WHERE WHAT IT READS IS OF BULK AT MOST 1048576: true; the input reads as it did. -/
def cuboidRoundUptoRow : OpenClaim := { program := "ytclhnnidbhchnaa", sum := "5de81559f344f8042376ed6fdd9428e364023dc6bf23fe139d4e070bbfd2b887", func := "tesseract/tesseractlaw10.CuboidRound", spec := "cuboidRound", unfollowed := true, recurses := true, plainKeys := false, apart := false, narrowed := true }
def CuboidRoundUptoSaid : Prop := cuboidRoundUptoRow.holds Try.pinned (OpenSpec.upto cuboidRoundSpec)

/-- 'tesseractlaw10.CuboidReads', WHERE WHAT IT READS IS OF BULK AT MOST 1048576: true; the input reads as it did. -/
def cuboidReadsUptoRow : OpenClaim := { program := "ytclhnnidbhchnaa", sum := "5de81559f344f8042376ed6fdd9428e364023dc6bf23fe139d4e070bbfd2b887", func := "tesseract/tesseractlaw10.CuboidReads", spec := "cuboidReads", unfollowed := true, recurses := true, plainKeys := false, apart := false, narrowed := true }
def CuboidReadsUptoSaid : Prop := cuboidReadsUptoRow.holds Try.pinned (OpenSpec.upto cuboidReadsSpec)

end Rows
end Go.Proofs.Ytclhnnidbhchnaa
