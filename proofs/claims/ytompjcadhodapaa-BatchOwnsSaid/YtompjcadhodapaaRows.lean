/-
  No cell of these rows narrows 'for every input' (looked for: loops, veiled, ifaces, maps, wideKeys, modest, calm, conditions, laid).
  DERIVED. THE GIVEN ROWS OF THIS SEAT. 4 by the template 'for every input the law returns true; each argument reads behind the call as it read before'; 0 by the template 'total and deterministic' (their statements: YtompjcadhodapaaTotals.lean).
  GIVEN WITH THE SEED: the statements are not yours to turn. If you find one false, say at which input.
  Laid BY PROGRAM, IN A SANDBOX (cutbox-rows.mjs): the forced cells as the released guide's own fill.sh prints them over the translation 1f4c7f9039e7b6d7… (all of the seat's roots in one cut). By AI agents, Wed Nov 11 2026. No macro, syntax, notation, axiom, sorry.
-/
import Derived.Test.YtompjcadhodapaaChecked
import GoSem.Claim
import GoSem.ClaimJoined
import GoSem.ClaimMapViews
import Derived.JoinedTies
import Derived.KernelRfl
namespace Go.Proofs.Ytompjcadhodapaa
/- THE CELL 'sum', in the pinned program and in every row, IS THE sha256 OF THE DUMP (.gsa) THAT YtompjcadhodapaaProg.lean LOADS. Nothing in Lean hashes anything: it is a label: what it is worth is what the hold of that sum in a sandbox is worth. -/
noncomputable def Try.pinned : Pinned := { name := "ytompjcadhodapaa", sum := "1f4c7f9039e7b6d753616ca4084b32241fda5def68a98cd6b8e0d85243f19c56", checked := Try.checked }
namespace Rows
def none {H : Type} : Left H := { results := [], args := [] }

/-- 'tesseractlaw09.BatchMay': WHATEVER THE INPUT: true; the input reads as it did. -/
def batchMaySpec : ChangeSpec := { name := "batchMay", fn := fun _ => fun
  | [d1, d2] => { results := [.lit (.bool true)], args := [d1, d2] }
  | _ => none }
def batchMayRow : OpenClaim := { program := "ytompjcadhodapaa", sum := "1f4c7f9039e7b6d753616ca4084b32241fda5def68a98cd6b8e0d85243f19c56", func := "tesseract/tesseractlaw09.BatchMay", spec := "batchMay", inPlace := ["internal/abi.NoEscape", "internal/bytealg.MakeNoZero"], unfollowed := true, recurses := true, apart := false }
def BatchMaySaid : Prop := batchMayRow.holds Try.pinned (OpenSpec.ofChange batchMaySpec)

/-- ITS FALSE NEIGHBOUR: 'it returns false'. Refute it at one input. -/
def batchMayWrong : ChangeSpec := { name := "batchMay", fn := fun _ => fun
  | [d1, d2] => { results := [.lit (.bool false)], args := [d1, d2] }
  | _ => none }
def BatchMayWrongFalsely : Prop := batchMayRow.holds Try.pinned (OpenSpec.ofChange batchMayWrong)

/-- 'tesseractlaw09.BatchPuts': WHATEVER THE INPUT: true; the input reads as it did. -/
def batchPutsSpec : ChangeSpec := { name := "batchPuts", fn := fun _ => fun
  | [d1, d2] => { results := [.lit (.bool true)], args := [d1, d2] }
  | _ => none }
def batchPutsRow : OpenClaim := { program := "ytompjcadhodapaa", sum := "1f4c7f9039e7b6d753616ca4084b32241fda5def68a98cd6b8e0d85243f19c56", func := "tesseract/tesseractlaw09.BatchPuts", spec := "batchPuts", inPlace := ["internal/abi.NoEscape", "internal/bytealg.MakeNoZero"], unfollowed := true, recurses := true, apart := false }
def BatchPutsSaid : Prop := batchPutsRow.holds Try.pinned (OpenSpec.ofChange batchPutsSpec)

/-- ITS FALSE NEIGHBOUR: 'it returns false'. Refute it at one input. -/
def batchPutsWrong : ChangeSpec := { name := "batchPuts", fn := fun _ => fun
  | [d1, d2] => { results := [.lit (.bool false)], args := [d1, d2] }
  | _ => none }
def BatchPutsWrongFalsely : Prop := batchPutsRow.holds Try.pinned (OpenSpec.ofChange batchPutsWrong)

/-- 'tesseractlaw09.BatchPlain': WHATEVER THE INPUT: true; the input reads as it did. -/
def batchPlainSpec : ChangeSpec := { name := "batchPlain", fn := fun _ => fun
  | [d1, d2] => { results := [.lit (.bool true)], args := [d1, d2] }
  | _ => none }
def batchPlainRow : OpenClaim := { program := "ytompjcadhodapaa", sum := "1f4c7f9039e7b6d753616ca4084b32241fda5def68a98cd6b8e0d85243f19c56", func := "tesseract/tesseractlaw09.BatchPlain", spec := "batchPlain", inPlace := ["internal/abi.NoEscape", "internal/bytealg.MakeNoZero"], unfollowed := true, recurses := true, apart := false }
def BatchPlainSaid : Prop := batchPlainRow.holds Try.pinned (OpenSpec.ofChange batchPlainSpec)

/-- ITS FALSE NEIGHBOUR: 'it returns false'. Refute it at one input. -/
def batchPlainWrong : ChangeSpec := { name := "batchPlain", fn := fun _ => fun
  | [d1, d2] => { results := [.lit (.bool false)], args := [d1, d2] }
  | _ => none }
def BatchPlainWrongFalsely : Prop := batchPlainRow.holds Try.pinned (OpenSpec.ofChange batchPlainWrong)

/-- 'tesseractlaw09.BatchOwns': WHATEVER THE INPUT: true; the input reads as it did. -/
def batchOwnsSpec : ChangeSpec := { name := "batchOwns", fn := fun _ => fun
  | [d] => { results := [.lit (.bool true)], args := [d] }
  | _ => none }
def batchOwnsRow : OpenClaim := { program := "ytompjcadhodapaa", sum := "1f4c7f9039e7b6d753616ca4084b32241fda5def68a98cd6b8e0d85243f19c56", func := "tesseract/tesseractlaw09.BatchOwns", spec := "batchOwns", inPlace := ["internal/abi.NoEscape", "internal/bytealg.MakeNoZero"], unfollowed := true, recurses := true, apart := false }
def BatchOwnsSaid : Prop := batchOwnsRow.holds Try.pinned (OpenSpec.ofChange batchOwnsSpec)

/-- ITS FALSE NEIGHBOUR: 'it returns false'. Refute it at one input. -/
def batchOwnsWrong : ChangeSpec := { name := "batchOwns", fn := fun _ => fun
  | [d] => { results := [.lit (.bool false)], args := [d] }
  | _ => none }
def BatchOwnsWrongFalsely : Prop := batchOwnsRow.holds Try.pinned (OpenSpec.ofChange batchOwnsWrong)

/- THE SECOND FORM. 'bulk': how many values and letters a reading holds, each counted each time it is reached (what is shared counts as often as it is met; a slice's spare places count too). A statement '..UptoSaid' is the law's where the arguments, and the package variables that the reading takes, are together of bulk at most 1048576: NARROWER than '..Said'. Prove '..Said' where nothing that the law and all that it calls make is longer than what came in: it says more and counts as full. Else prove '..UptoSaid'. A law counts once. -/
mutual
def uptoBulk {H : Type} : DataW H → Nat
  | .lit (.string bytes) => bytes.length + 1
  | .lit _ => 1
  | .nil => 1
  | .ptr d => uptoBulk d + 1
  | .slice elems spare => uptoBulkAll elems + uptoBulkAll spare + 1
  | .agg parts => uptoBulkAll parts + 1
  | .iface _ d => uptoBulk d + 1
  | .map entries => uptoBulkEntries entries + 1
  | .held _ => 1
def uptoBulkAll {H : Type} : List (DataW H) → Nat
  | [] => 0
  | d :: r => uptoBulk d + uptoBulkAll r
def uptoBulkEntries {H : Type} : List (Lit × DataW H) → Nat
  | [] => 0
  | x :: r => uptoBulkEntry x + uptoBulkEntries r
def uptoBulkEntry {H : Type} : Lit × DataW H → Nat
  | (.string bytes, d) => bytes.length + uptoBulk d + 1
  | (_, d) => uptoBulk d + 1
 end
def uptoSmall : (H : Type) → List (DataW H) → Bool := fun _ ds => decide (uptoBulkAll ds ≤ 1048576)
def OpenSpec.upto (s : _root_.Go.ChangeSpec) : _root_.Go.OpenSpec := { _root_.Go.OpenSpec.ofChange s with cond := some uptoSmall }

/-- 'tesseractlaw09.BatchMay', WHERE WHAT IT READS IS OF BULK AT MOST 1048576: true; the input reads as it did. -/
def batchMayUptoRow : OpenClaim := { program := "ytompjcadhodapaa", sum := "1f4c7f9039e7b6d753616ca4084b32241fda5def68a98cd6b8e0d85243f19c56", func := "tesseract/tesseractlaw09.BatchMay", spec := "batchMay", inPlace := ["internal/abi.NoEscape", "internal/bytealg.MakeNoZero"], unfollowed := true, recurses := true, apart := false, narrowed := true }
def BatchMayUptoSaid : Prop := batchMayUptoRow.holds Try.pinned (OpenSpec.upto batchMaySpec)

/-- 'tesseractlaw09.BatchPuts', WHERE WHAT IT READS IS OF BULK AT MOST 1048576: true; the input reads as it did. -/
def batchPutsUptoRow : OpenClaim := { program := "ytompjcadhodapaa", sum := "1f4c7f9039e7b6d753616ca4084b32241fda5def68a98cd6b8e0d85243f19c56", func := "tesseract/tesseractlaw09.BatchPuts", spec := "batchPuts", inPlace := ["internal/abi.NoEscape", "internal/bytealg.MakeNoZero"], unfollowed := true, recurses := true, apart := false, narrowed := true }
def BatchPutsUptoSaid : Prop := batchPutsUptoRow.holds Try.pinned (OpenSpec.upto batchPutsSpec)

/-- 'tesseractlaw09.BatchPlain', WHERE WHAT IT READS IS OF BULK AT MOST 1048576: true; the input reads as it did. -/
def batchPlainUptoRow : OpenClaim := { program := "ytompjcadhodapaa", sum := "1f4c7f9039e7b6d753616ca4084b32241fda5def68a98cd6b8e0d85243f19c56", func := "tesseract/tesseractlaw09.BatchPlain", spec := "batchPlain", inPlace := ["internal/abi.NoEscape", "internal/bytealg.MakeNoZero"], unfollowed := true, recurses := true, apart := false, narrowed := true }
def BatchPlainUptoSaid : Prop := batchPlainUptoRow.holds Try.pinned (OpenSpec.upto batchPlainSpec)

/-- 'tesseractlaw09.BatchOwns', WHERE WHAT IT READS IS OF BULK AT MOST 1048576: true; the input reads as it did. -/
def batchOwnsUptoRow : OpenClaim := { program := "ytompjcadhodapaa", sum := "1f4c7f9039e7b6d753616ca4084b32241fda5def68a98cd6b8e0d85243f19c56", func := "tesseract/tesseractlaw09.BatchOwns", spec := "batchOwns", inPlace := ["internal/abi.NoEscape", "internal/bytealg.MakeNoZero"], unfollowed := true, recurses := true, apart := false, narrowed := true }
def BatchOwnsUptoSaid : Prop := batchOwnsUptoRow.holds Try.pinned (OpenSpec.upto batchOwnsSpec)

end Rows
end Go.Proofs.Ytompjcadhodapaa
