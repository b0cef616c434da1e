/-
  No cell of these rows narrows 'for every input' (looked for: loops, veiled, ifaces, maps, wideKeys, modest, calm, conditions, laid).
  DERIVED. THE GIVEN ROWS OF THIS SEAT. 13 by the template 'for every input the law returns true; each argument reads behind the call as it read before'; 0 by the template 'total and deterministic' (their statements: YtekngocjojfomaaTotals.lean).
  GIVEN WITH THE SEED: the statements are not yours to turn. If you find one false, say at which input.
  Laid BY PROGRAM, IN A SANDBOX (cutbox-rows.mjs): the forced cells as the released guide's own fill.sh prints them over the translation c3ca7f682f238082… (all of the seat's roots in one cut). By AI agents, Wed Nov 11 2026. No macro, syntax, notation, axiom, sorry.
-/
import Derived.Test.YtekngocjojfomaaChecked
import GoSem.Claim
import GoSem.ClaimJoined
import GoSem.ClaimMapViews
import Derived.JoinedTies
import Derived.KernelRfl
namespace Go.Proofs.Ytekngocjojfomaa
/- THE CELL 'sum', in the pinned program and in every row, IS THE sha256 OF THE DUMP (.gsa) THAT YtekngocjojfomaaProg.lean LOADS. Nothing in Lean hashes anything: it is a label: what it is worth is what the hold of that sum in a sandbox is worth. -/
noncomputable def Try.pinned : Pinned := { name := "ytekngocjojfomaa", sum := "c3ca7f682f238082dd334e00b0f8a128a5e2796066468326d0a615b8a32c97be", checked := Try.checked }
namespace Rows
def none {H : Type} : Left H := { results := [], args := [] }

/-- 'tesseractlaw04.WideOf': WHATEVER THE INPUT: true; the input reads as it did. -/
def wideOfSpec : ChangeSpec := { name := "wideOf", fn := fun _ => fun
  | [d] => { results := [.lit (.bool true)], args := [d] }
  | _ => none }
def wideOfRow : OpenClaim := { program := "ytekngocjojfomaa", sum := "c3ca7f682f238082dd334e00b0f8a128a5e2796066468326d0a615b8a32c97be", func := "tesseract/tesseractlaw04.WideOf", spec := "wideOf", apart := false }
def WideOfSaid : Prop := wideOfRow.holds Try.pinned (OpenSpec.ofChange wideOfSpec)

/-- ITS FALSE NEIGHBOUR: 'it returns false'. Refute it at one input. -/
def wideOfWrong : ChangeSpec := { name := "wideOf", fn := fun _ => fun
  | [d] => { results := [.lit (.bool false)], args := [d] }
  | _ => none }
def WideOfWrongFalsely : Prop := wideOfRow.holds Try.pinned (OpenSpec.ofChange wideOfWrong)

/-- 'tesseractlaw04.WideInts': WHATEVER THE INPUT: true; the input reads as it did. -/
def wideIntsSpec : ChangeSpec := { name := "wideInts", fn := fun _ => fun
  | [d1, d2] => { results := [.lit (.bool true)], args := [d1, d2] }
  | _ => none }
def wideIntsRow : OpenClaim := { program := "ytekngocjojfomaa", sum := "c3ca7f682f238082dd334e00b0f8a128a5e2796066468326d0a615b8a32c97be", func := "tesseract/tesseractlaw04.WideInts", spec := "wideInts", apart := false }
def WideIntsSaid : Prop := wideIntsRow.holds Try.pinned (OpenSpec.ofChange wideIntsSpec)

/-- ITS FALSE NEIGHBOUR: 'it returns false'. Refute it at one input. -/
def wideIntsWrong : ChangeSpec := { name := "wideInts", fn := fun _ => fun
  | [d1, d2] => { results := [.lit (.bool false)], args := [d1, d2] }
  | _ => none }
def WideIntsWrongFalsely : Prop := wideIntsRow.holds Try.pinned (OpenSpec.ofChange wideIntsWrong)

/-- 'tesseractlaw04.WideTotals': WHATEVER THE INPUT: true; the input reads as it did. -/
def wideTotalsSpec : ChangeSpec := { name := "wideTotals", fn := fun _ => fun
  | [d] => { results := [.lit (.bool true)], args := [d] }
  | _ => none }
def wideTotalsRow : OpenClaim := { program := "ytekngocjojfomaa", sum := "c3ca7f682f238082dd334e00b0f8a128a5e2796066468326d0a615b8a32c97be", func := "tesseract/tesseractlaw04.WideTotals", spec := "wideTotals", apart := false }
def WideTotalsSaid : Prop := wideTotalsRow.holds Try.pinned (OpenSpec.ofChange wideTotalsSpec)

/-- ITS FALSE NEIGHBOUR: 'it returns false'. Refute it at one input. -/
def wideTotalsWrong : ChangeSpec := { name := "wideTotals", fn := fun _ => fun
  | [d] => { results := [.lit (.bool false)], args := [d] }
  | _ => none }
def WideTotalsWrongFalsely : Prop := wideTotalsRow.holds Try.pinned (OpenSpec.ofChange wideTotalsWrong)

/-- 'tesseractlaw04.WideAdds': WHATEVER THE INPUT: true; the input reads as it did. -/
def wideAddsSpec : ChangeSpec := { name := "wideAdds", fn := fun _ => fun
  | [d1, d2] => { results := [.lit (.bool true)], args := [d1, d2] }
  | _ => none }
def wideAddsRow : OpenClaim := { program := "ytekngocjojfomaa", sum := "c3ca7f682f238082dd334e00b0f8a128a5e2796066468326d0a615b8a32c97be", func := "tesseract/tesseractlaw04.WideAdds", spec := "wideAdds", apart := false }
def WideAddsSaid : Prop := wideAddsRow.holds Try.pinned (OpenSpec.ofChange wideAddsSpec)

/-- ITS FALSE NEIGHBOUR: 'it returns false'. Refute it at one input. -/
def wideAddsWrong : ChangeSpec := { name := "wideAdds", fn := fun _ => fun
  | [d1, d2] => { results := [.lit (.bool false)], args := [d1, d2] }
  | _ => none }
def WideAddsWrongFalsely : Prop := wideAddsRow.holds Try.pinned (OpenSpec.ofChange wideAddsWrong)

/-- 'tesseractlaw04.WideOrder': WHATEVER THE INPUT: true; the input reads as it did. -/
def wideOrderSpec : ChangeSpec := { name := "wideOrder", fn := fun _ => fun
  | [d1, d2] => { results := [.lit (.bool true)], args := [d1, d2] }
  | _ => none }
def wideOrderRow : OpenClaim := { program := "ytekngocjojfomaa", sum := "c3ca7f682f238082dd334e00b0f8a128a5e2796066468326d0a615b8a32c97be", func := "tesseract/tesseractlaw04.WideOrder", spec := "wideOrder", apart := false }
def WideOrderSaid : Prop := wideOrderRow.holds Try.pinned (OpenSpec.ofChange wideOrderSpec)

/-- ITS FALSE NEIGHBOUR: 'it returns false'. Refute it at one input. -/
def wideOrderWrong : ChangeSpec := { name := "wideOrder", fn := fun _ => fun
  | [d1, d2] => { results := [.lit (.bool false)], args := [d1, d2] }
  | _ => none }
def WideOrderWrongFalsely : Prop := wideOrderRow.holds Try.pinned (OpenSpec.ofChange wideOrderWrong)

/-- 'tesseractlaw04.WideCompares': WHATEVER THE INPUT: true; the input reads as it did. -/
def wideComparesSpec : ChangeSpec := { name := "wideCompares", fn := fun _ => fun
  | [d1, d2] => { results := [.lit (.bool true)], args := [d1, d2] }
  | _ => none }
def wideComparesRow : OpenClaim := { program := "ytekngocjojfomaa", sum := "c3ca7f682f238082dd334e00b0f8a128a5e2796066468326d0a615b8a32c97be", func := "tesseract/tesseractlaw04.WideCompares", spec := "wideCompares", apart := false }
def WideComparesSaid : Prop := wideComparesRow.holds Try.pinned (OpenSpec.ofChange wideComparesSpec)

/-- ITS FALSE NEIGHBOUR: 'it returns false'. Refute it at one input. -/
def wideComparesWrong : ChangeSpec := { name := "wideCompares", fn := fun _ => fun
  | [d1, d2] => { results := [.lit (.bool false)], args := [d1, d2] }
  | _ => none }
def WideComparesWrongFalsely : Prop := wideComparesRow.holds Try.pinned (OpenSpec.ofChange wideComparesWrong)

/-- 'tesseractlaw02.WireGets': WHATEVER THE INPUT: true; the input reads as it did. -/
def wireGetsSpec : ChangeSpec := { name := "wireGets", fn := fun _ => fun
  | [d] => { results := [.lit (.bool true)], args := [d] }
  | _ => none }
def wireGetsRow : OpenClaim := { program := "ytekngocjojfomaa", sum := "c3ca7f682f238082dd334e00b0f8a128a5e2796066468326d0a615b8a32c97be", func := "tesseract/tesseractlaw02.WireGets", spec := "wireGets", apart := false }
def WireGetsSaid : Prop := wireGetsRow.holds Try.pinned (OpenSpec.ofChange wireGetsSpec)

/-- ITS FALSE NEIGHBOUR: 'it returns false'. Refute it at one input. -/
def wireGetsWrong : ChangeSpec := { name := "wireGets", fn := fun _ => fun
  | [d] => { results := [.lit (.bool false)], args := [d] }
  | _ => none }
def WireGetsWrongFalsely : Prop := wireGetsRow.holds Try.pinned (OpenSpec.ofChange wireGetsWrong)

/-- 'tesseractlaw02.WireRound': WHATEVER THE INPUT: true; the input reads as it did. -/
def wireRoundSpec : ChangeSpec := { name := "wireRound", fn := fun _ => fun
  | [d1, d2, d3] => { results := [.lit (.bool true)], args := [d1, d2, d3] }
  | _ => none }
def wireRoundRow : OpenClaim := { program := "ytekngocjojfomaa", sum := "c3ca7f682f238082dd334e00b0f8a128a5e2796066468326d0a615b8a32c97be", func := "tesseract/tesseractlaw02.WireRound", spec := "wireRound", apart := false }
def WireRoundSaid : Prop := wireRoundRow.holds Try.pinned (OpenSpec.ofChange wireRoundSpec)

/-- ITS FALSE NEIGHBOUR: 'it returns false'. Refute it at one input. -/
def wireRoundWrong : ChangeSpec := { name := "wireRound", fn := fun _ => fun
  | [d1, d2, d3] => { results := [.lit (.bool false)], args := [d1, d2, d3] }
  | _ => none }
def WireRoundWrongFalsely : Prop := wireRoundRow.holds Try.pinned (OpenSpec.ofChange wireRoundWrong)

/-- 'tesseractlaw02.WireOne': WHATEVER THE INPUT: true; the input reads as it did. -/
def wireOneSpec : ChangeSpec := { name := "wireOne", fn := fun _ => fun
  | [d] => { results := [.lit (.bool true)], args := [d] }
  | _ => none }
def wireOneRow : OpenClaim := { program := "ytekngocjojfomaa", sum := "c3ca7f682f238082dd334e00b0f8a128a5e2796066468326d0a615b8a32c97be", func := "tesseract/tesseractlaw02.WireOne", spec := "wireOne", apart := false }
def WireOneSaid : Prop := wireOneRow.holds Try.pinned (OpenSpec.ofChange wireOneSpec)

/-- ITS FALSE NEIGHBOUR: 'it returns false'. Refute it at one input. -/
def wireOneWrong : ChangeSpec := { name := "wireOne", fn := fun _ => fun
  | [d] => { results := [.lit (.bool false)], args := [d] }
  | _ => none }
def WireOneWrongFalsely : Prop := wireOneRow.holds Try.pinned (OpenSpec.ofChange wireOneWrong)

/-- 'tesseractlaw02.WireSizes': WHATEVER THE INPUT: true; the input reads as it did. -/
def wireSizesSpec : ChangeSpec := { name := "wireSizes", fn := fun _ => fun
  | [d1, d2] => { results := [.lit (.bool true)], args := [d1, d2] }
  | _ => none }
def wireSizesRow : OpenClaim := { program := "ytekngocjojfomaa", sum := "c3ca7f682f238082dd334e00b0f8a128a5e2796066468326d0a615b8a32c97be", func := "tesseract/tesseractlaw02.WireSizes", spec := "wireSizes", apart := false }
def WireSizesSaid : Prop := wireSizesRow.holds Try.pinned (OpenSpec.ofChange wireSizesSpec)

/-- ITS FALSE NEIGHBOUR: 'it returns false'. Refute it at one input. -/
def wireSizesWrong : ChangeSpec := { name := "wireSizes", fn := fun _ => fun
  | [d1, d2] => { results := [.lit (.bool false)], args := [d1, d2] }
  | _ => none }
def WireSizesWrongFalsely : Prop := wireSizesRow.holds Try.pinned (OpenSpec.ofChange wireSizesWrong)

/-- 'tesseractlaw02.WirePuts': WHATEVER THE INPUT: true; the input reads as it did. -/
def wirePutsSpec : ChangeSpec := { name := "wirePuts", fn := fun _ => fun
  | [d1, d2, d3] => { results := [.lit (.bool true)], args := [d1, d2, d3] }
  | _ => none }
def wirePutsRow : OpenClaim := { program := "ytekngocjojfomaa", sum := "c3ca7f682f238082dd334e00b0f8a128a5e2796066468326d0a615b8a32c97be", func := "tesseract/tesseractlaw02.WirePuts", spec := "wirePuts", apart := false }
def WirePutsSaid : Prop := wirePutsRow.holds Try.pinned (OpenSpec.ofChange wirePutsSpec)

/-- ITS FALSE NEIGHBOUR: 'it returns false'. Refute it at one input. -/
def wirePutsWrong : ChangeSpec := { name := "wirePuts", fn := fun _ => fun
  | [d1, d2, d3] => { results := [.lit (.bool false)], args := [d1, d2, d3] }
  | _ => none }
def WirePutsWrongFalsely : Prop := wirePutsRow.holds Try.pinned (OpenSpec.ofChange wirePutsWrong)

/-- 'tesseractlaw02.WireOwns': WHATEVER THE INPUT: true; the input reads as it did. -/
def wireOwnsSpec : ChangeSpec := { name := "wireOwns", fn := fun _ => fun
  | [d1, d2] => { results := [.lit (.bool true)], args := [d1, d2] }
  | _ => none }
def wireOwnsRow : OpenClaim := { program := "ytekngocjojfomaa", sum := "c3ca7f682f238082dd334e00b0f8a128a5e2796066468326d0a615b8a32c97be", func := "tesseract/tesseractlaw02.WireOwns", spec := "wireOwns", apart := false }
def WireOwnsSaid : Prop := wireOwnsRow.holds Try.pinned (OpenSpec.ofChange wireOwnsSpec)

/-- ITS FALSE NEIGHBOUR: 'it returns false'. Refute it at one input. -/
def wireOwnsWrong : ChangeSpec := { name := "wireOwns", fn := fun _ => fun
  | [d1, d2] => { results := [.lit (.bool false)], args := [d1, d2] }
  | _ => none }
def WireOwnsWrongFalsely : Prop := wireOwnsRow.holds Try.pinned (OpenSpec.ofChange wireOwnsWrong)

/-- 'tesseractlaw02.WireReads': WHATEVER THE INPUT: true; the input reads as it did. -/
def wireReadsSpec : ChangeSpec := { name := "wireReads", fn := fun _ => fun
  | [d1, d2] => { results := [.lit (.bool true)], args := [d1, d2] }
  | _ => none }
def wireReadsRow : OpenClaim := { program := "ytekngocjojfomaa", sum := "c3ca7f682f238082dd334e00b0f8a128a5e2796066468326d0a615b8a32c97be", func := "tesseract/tesseractlaw02.WireReads", spec := "wireReads", apart := false }
def WireReadsSaid : Prop := wireReadsRow.holds Try.pinned (OpenSpec.ofChange wireReadsSpec)

/-- ITS FALSE NEIGHBOUR: 'it returns false'. Refute it at one input. -/
def wireReadsWrong : ChangeSpec := { name := "wireReads", fn := fun _ => fun
  | [d1, d2] => { results := [.lit (.bool false)], args := [d1, d2] }
  | _ => none }
def WireReadsWrongFalsely : Prop := wireReadsRow.holds Try.pinned (OpenSpec.ofChange wireReadsWrong)

/- THE SECOND FORM. 'bulk': how many values and letters a reading holds, each counted each time it is reached (what is shared counts as often as it is met; a slice's spare places count too). A statement '..UptoSaid' is the law's where the arguments, and the package variables that the reading takes, are together of bulk at most 1048576: NARROWER than '..Said'. Prove '..Said' where nothing that the law and all that it calls make is longer than what came in: it says more and counts as full. Else prove '..UptoSaid'. A law counts once. -/
mutual
def uptoBulk {H : Type} : DataW H → Nat
  | .lit (.string bytes) => bytes.length + 1
  | .lit _ => 1
  | .nil => 1
  | .ptr d => uptoBulk d + 1
  | .slice elems spare => uptoBulkAll elems + uptoBulkAll spare + 1
  | .agg parts => uptoBulkAll parts + 1
  | .iface _ d => uptoBulk d + 1
  | .map entries => uptoBulkEntries entries + 1
  | .held _ => 1
def uptoBulkAll {H : Type} : List (DataW H) → Nat
  | [] => 0
  | d :: r => uptoBulk d + uptoBulkAll r
def uptoBulkEntries {H : Type} : List (Lit × DataW H) → Nat
  | [] => 0
  | x :: r => uptoBulkEntry x + uptoBulkEntries r
def uptoBulkEntry {H : Type} : Lit × DataW H → Nat
  | (.string bytes, d) => bytes.length + uptoBulk d + 1
  | (_, d) => uptoBulk d + 1
 end
def uptoSmall : (H : Type) → List (DataW H) → Bool := fun _ ds => decide (uptoBulkAll ds ≤ 1048576)
def OpenSpec.upto (s : _root_.Go.ChangeSpec) : _root_.Go.OpenSpec := { _root_.Go.OpenSpec.ofChange s with cond := some uptoSmall }

/-- 'tesseractlaw04.WideOf', WHERE WHAT IT READS IS OF BULK AT MOST 1048576: true; the input reads as it did. -/
def wideOfUptoRow : OpenClaim := { program := "ytekngocjojfomaa", sum := "c3ca7f682f238082dd334e00b0f8a128a5e2796066468326d0a615b8a32c97be", func := "tesseract/tesseractlaw04.WideOf", spec := "wideOf", apart := false, narrowed := true }
def WideOfUptoSaid : Prop := wideOfUptoRow.holds Try.pinned (OpenSpec.upto wideOfSpec)

/-- 'tesseractlaw04.WideInts', WHERE WHAT IT READS IS OF BULK AT MOST 1048576: true; the input reads as it did. -/
def wideIntsUptoRow : OpenClaim := { program := "ytekngocjojfomaa", sum := "c3ca7f682f238082dd334e00b0f8a128a5e2796066468326d0a615b8a32c97be", func := "tesseract/tesseractlaw04.WideInts", spec := "wideInts", apart := false, narrowed := true }
def WideIntsUptoSaid : Prop := wideIntsUptoRow.holds Try.pinned (OpenSpec.upto wideIntsSpec)

/-- 'tesseractlaw04.WideTotals', WHERE WHAT IT READS IS OF BULK AT MOST 1048576: true; the input reads as it did. -/
def wideTotalsUptoRow : OpenClaim := { program := "ytekngocjojfomaa", sum := "c3ca7f682f238082dd334e00b0f8a128a5e2796066468326d0a615b8a32c97be", func := "tesseract/tesseractlaw04.WideTotals", spec := "wideTotals", apart := false, narrowed := true }
def WideTotalsUptoSaid : Prop := wideTotalsUptoRow.holds Try.pinned (OpenSpec.upto wideTotalsSpec)

/-- 'tesseractlaw04.WideAdds', WHERE WHAT IT READS IS OF BULK AT MOST 1048576: true; the input reads as it did. -/
def wideAddsUptoRow : OpenClaim := { program := "ytekngocjojfomaa", sum := "c3ca7f682f238082dd334e00b0f8a128a5e2796066468326d0a615b8a32c97be", func := "tesseract/tesseractlaw04.WideAdds", spec := "wideAdds", apart := false, narrowed := true }
def WideAddsUptoSaid : Prop := wideAddsUptoRow.holds Try.pinned (OpenSpec.upto wideAddsSpec)

/-- 'tesseractlaw04.WideOrder', WHERE WHAT IT READS IS OF BULK AT MOST 1048576: true; the input reads as it did. -/
def wideOrderUptoRow : OpenClaim := { program := "ytekngocjojfomaa", sum := "c3ca7f682f238082dd334e00b0f8a128a5e2796066468326d0a615b8a32c97be", func := "tesseract/tesseractlaw04.WideOrder", spec := "wideOrder", apart := false, narrowed := true }
def WideOrderUptoSaid : Prop := wideOrderUptoRow.holds Try.pinned (OpenSpec.upto wideOrderSpec)

/-- 'tesseractlaw04.WideCompares', WHERE WHAT IT READS IS OF BULK AT MOST 1048576: true; the input reads as it did. -/
def wideComparesUptoRow : OpenClaim := { program := "ytekngocjojfomaa", sum := "c3ca7f682f238082dd334e00b0f8a128a5e2796066468326d0a615b8a32c97be", func := "tesseract/tesseractlaw04.WideCompares", spec := "wideCompares", apart := false, narrowed := true }
def WideComparesUptoSaid : Prop := wideComparesUptoRow.holds Try.pinned (OpenSpec.upto wideComparesSpec)

/-- 'tesseractlaw02.WireGets', WHERE WHAT IT READS IS OF BULK AT MOST 1048576: true; the input reads as it did. -/
def wireGetsUptoRow : OpenClaim := { program := "ytekngocjojfomaa", sum := "c3ca7f682f238082dd334e00b0f8a128a5e2796066468326d0a615b8a32c97be", func := "tesseract/tesseractlaw02.WireGets", spec := "wireGets", apart := false, narrowed := true }
def WireGetsUptoSaid : Prop := wireGetsUptoRow.holds Try.pinned (OpenSpec.upto wireGetsSpec)

/-- 'tesseractlaw02.WireRound', WHERE WHAT IT READS IS OF BULK AT MOST 1048576: true; the input reads as it did. -/
def wireRoundUptoRow : OpenClaim := { program := "ytekngocjojfomaa", sum := "c3ca7f682f238082dd334e00b0f8a128a5e2796066468326d0a615b8a32c97be", func := "tesseract/tesseractlaw02.WireRound", spec := "wireRound", apart := false, narrowed := true }
def WireRoundUptoSaid : Prop := wireRoundUptoRow.holds Try.pinned (OpenSpec.upto wireRoundSpec)

/-- 'tesseractlaw02.WireOne', WHERE WHAT IT READS IS OF BULK AT MOST 1048576: true; the input reads as it did. -/
def wireOneUptoRow : OpenClaim := { program := "ytekngocjojfomaa", sum := "c3ca7f682f238082dd334e00b0f8a128a5e2796066468326d0a615b8a32c97be", func := "tesseract/tesseractlaw02.WireOne", spec := "wireOne", apart := false, narrowed := true }
def WireOneUptoSaid : Prop := wireOneUptoRow.holds Try.pinned (OpenSpec.upto wireOneSpec)

/-- 'tesseractlaw02.WireSizes', WHERE WHAT IT READS IS OF BULK AT MOST 1048576: true; the input reads as it did. -/
def wireSizesUptoRow : OpenClaim := { program := "ytekngocjojfomaa", sum := "c3ca7f682f238082dd334e00b0f8a128a5e2796066468326d0a615b8a32c97be", func := "tesseract/tesseractlaw02.WireSizes", spec := "wireSizes", apart := false, narrowed := true }
def WireSizesUptoSaid : Prop := wireSizesUptoRow.holds Try.pinned (OpenSpec.upto wireSizesSpec)

/-- 'tesseractlaw02.WirePuts', WHERE WHAT IT READS IS OF BULK AT MOST 1048576: true; the input reads as it did. -/
def wirePutsUptoRow : OpenClaim := { program := "ytekngocjojfomaa", sum := "c3ca7f682f238082dd334e00b0f8a128a5e2796066468326d0a615b8a32c97be", func := "tesseract/tesseractlaw02.WirePuts", spec := "wirePuts", apart := false, narrowed := true }
def WirePutsUptoSaid : Prop := wirePutsUptoRow.holds Try.pinned (OpenSpec.upto wirePutsSpec)

/-- 'tesseractlaw02.WireOwns', WHERE WHAT IT READS IS OF BULK AT MOST 1048576: true; the input reads as it did. -/
def wireOwnsUptoRow : OpenClaim := { program := "ytekngocjojfomaa", sum := "c3ca7f682f238082dd334e00b0f8a128a5e2796066468326d0a615b8a32c97be", func := "tesseract/tesseractlaw02.WireOwns", spec := "wireOwns", apart := false, narrowed := true }
def WireOwnsUptoSaid : Prop := wireOwnsUptoRow.holds Try.pinned (OpenSpec.upto wireOwnsSpec)

/-- 'tesseractlaw02.WireReads', WHERE WHAT IT READS IS OF BULK AT MOST 1048576: true; the input reads as it did. -/
def wireReadsUptoRow : OpenClaim := { program := "ytekngocjojfomaa", sum := "c3ca7f682f238082dd334e00b0f8a128a5e2796066468326d0a615b8a32c97be", func := "tesseract/tesseractlaw02.WireReads", spec := "wireReads", apart := false, narrowed := true }
def WireReadsUptoSaid : Prop := wireReadsUptoRow.holds Try.pinned (OpenSpec.upto wireReadsSpec)

end Rows
end Go.Proofs.Ytekngocjojfomaa
