/-
  No cell of these rows narrows 'for every input' (looked for: loops, veiled, ifaces, maps, wideKeys, modest, calm, conditions, laid).
  DERIVED. THE GIVEN ROWS OF THIS SEAT. 5 by the template 'for every input the law returns true; each argument reads behind the call as it read before'; 0 by the template 'total and deterministic' (their statements: YtbledkffkckjbaaTotals.lean).
  GIVEN WITH THE SEED: the statements are not yours to turn. If you find one false, say at which input.
  Laid BY PROGRAM, IN A SANDBOX (cutbox-rows.mjs): the forced cells as the released guide's own fill.sh prints them over the translation c5cee2101e5e8d2b… (all of the seat's roots in one cut). By AI agents, Wed Nov 11 2026. No macro, syntax, notation, axiom, sorry.
-/
import Derived.Test.YtbledkffkckjbaaChecked
import GoSem.Claim
import GoSem.ClaimJoined
import GoSem.ClaimMapViews
import Derived.JoinedTies
import Derived.KernelRfl
namespace Go.Proofs.Ytbledkffkckjbaa
/- THE CELL 'sum', in the pinned program and in every row, IS THE sha256 OF THE DUMP (.gsa) THAT YtbledkffkckjbaaProg.lean LOADS. Nothing in Lean hashes anything: it is a label: what it is worth is what the hold of that sum in a sandbox is worth. -/
noncomputable def Try.pinned : Pinned := { name := "ytbledkffkckjbaa", sum := "c5cee2101e5e8d2b75b54f44cbb5ec2f166f3ecb30587ad318dfc359c808e468", checked := Try.checked }
namespace Rows
def none {H : Type} : Left H := { results := [], args := [] }

/-- 'tesseractlaw07.DictPlays': WHATEVER THE INPUT: true; the input reads as it did. -/
def dictPlaysSpec : ChangeSpec := { name := "dictPlays", fn := fun _ => fun
  | [d1, d2, d3] => { results := [.lit (.bool true)], args := [d1, d2, d3] }
  | _ => none }
def dictPlaysRow : OpenClaim := { program := "ytbledkffkckjbaa", sum := "c5cee2101e5e8d2b75b54f44cbb5ec2f166f3ecb30587ad318dfc359c808e468", func := "tesseract/tesseractlaw07.DictPlays", spec := "dictPlays", unfollowed := true, recurses := true, plainKeys := false, apart := false }
def DictPlaysSaid : Prop := dictPlaysRow.holds Try.pinned (OpenSpec.ofChange dictPlaysSpec)

/-- ITS FALSE NEIGHBOUR: 'it returns false'. Refute it at one input. -/
def dictPlaysWrong : ChangeSpec := { name := "dictPlays", fn := fun _ => fun
  | [d1, d2, d3] => { results := [.lit (.bool false)], args := [d1, d2, d3] }
  | _ => none }
def DictPlaysWrongFalsely : Prop := dictPlaysRow.holds Try.pinned (OpenSpec.ofChange dictPlaysWrong)

/-- 'tesseractlaw07.DictStays': WHATEVER THE INPUT: true; the input reads as it did. -/
def dictStaysSpec : ChangeSpec := { name := "dictStays", fn := fun _ => fun
  | [d1, d2] => { results := [.lit (.bool true)], args := [d1, d2] }
  | _ => none }
def dictStaysRow : OpenClaim := { program := "ytbledkffkckjbaa", sum := "c5cee2101e5e8d2b75b54f44cbb5ec2f166f3ecb30587ad318dfc359c808e468", func := "tesseract/tesseractlaw07.DictStays", spec := "dictStays", unfollowed := true, recurses := true, plainKeys := false, apart := false }
def DictStaysSaid : Prop := dictStaysRow.holds Try.pinned (OpenSpec.ofChange dictStaysSpec)

/-- ITS FALSE NEIGHBOUR: 'it returns false'. Refute it at one input. -/
def dictStaysWrong : ChangeSpec := { name := "dictStays", fn := fun _ => fun
  | [d1, d2] => { results := [.lit (.bool false)], args := [d1, d2] }
  | _ => none }
def DictStaysWrongFalsely : Prop := dictStaysRow.holds Try.pinned (OpenSpec.ofChange dictStaysWrong)

/-- 'tesseractlaw07.DictCopies': WHATEVER THE INPUT: true; the input reads as it did. -/
def dictCopiesSpec : ChangeSpec := { name := "dictCopies", fn := fun _ => fun
  | [d1, d2, d3] => { results := [.lit (.bool true)], args := [d1, d2, d3] }
  | _ => none }
def dictCopiesRow : OpenClaim := { program := "ytbledkffkckjbaa", sum := "c5cee2101e5e8d2b75b54f44cbb5ec2f166f3ecb30587ad318dfc359c808e468", func := "tesseract/tesseractlaw07.DictCopies", spec := "dictCopies", unfollowed := true, recurses := true, plainKeys := false, apart := false }
def DictCopiesSaid : Prop := dictCopiesRow.holds Try.pinned (OpenSpec.ofChange dictCopiesSpec)

/-- ITS FALSE NEIGHBOUR: 'it returns false'. Refute it at one input. -/
def dictCopiesWrong : ChangeSpec := { name := "dictCopies", fn := fun _ => fun
  | [d1, d2, d3] => { results := [.lit (.bool false)], args := [d1, d2, d3] }
  | _ => none }
def DictCopiesWrongFalsely : Prop := dictCopiesRow.holds Try.pinned (OpenSpec.ofChange dictCopiesWrong)

/-- 'tesseractlaw07.DictRound': WHATEVER THE INPUT: true; the input reads as it did. -/
def dictRoundSpec : ChangeSpec := { name := "dictRound", fn := fun _ => fun
  | [d1, d2, d3] => { results := [.lit (.bool true)], args := [d1, d2, d3] }
  | _ => none }
def dictRoundRow : OpenClaim := { program := "ytbledkffkckjbaa", sum := "c5cee2101e5e8d2b75b54f44cbb5ec2f166f3ecb30587ad318dfc359c808e468", func := "tesseract/tesseractlaw07.DictRound", spec := "dictRound", unfollowed := true, recurses := true, plainKeys := false, apart := false }
def DictRoundSaid : Prop := dictRoundRow.holds Try.pinned (OpenSpec.ofChange dictRoundSpec)

/-- ITS FALSE NEIGHBOUR: 'it returns false'. Refute it at one input. -/
def dictRoundWrong : ChangeSpec := { name := "dictRound", fn := fun _ => fun
  | [d1, d2, d3] => { results := [.lit (.bool false)], args := [d1, d2, d3] }
  | _ => none }
def DictRoundWrongFalsely : Prop := dictRoundRow.holds Try.pinned (OpenSpec.ofChange dictRoundWrong)

/-- 'tesseractlaw07.DictReads': WHATEVER THE INPUT: true; the input reads as it did. -/
def dictReadsSpec : ChangeSpec := { name := "dictReads", fn := fun _ => fun
  | [d1, d2] => { results := [.lit (.bool true)], args := [d1, d2] }
  | _ => none }
def dictReadsRow : OpenClaim := { program := "ytbledkffkckjbaa", sum := "c5cee2101e5e8d2b75b54f44cbb5ec2f166f3ecb30587ad318dfc359c808e468", func := "tesseract/tesseractlaw07.DictReads", spec := "dictReads", unfollowed := true, recurses := true, plainKeys := false, apart := false }
def DictReadsSaid : Prop := dictReadsRow.holds Try.pinned (OpenSpec.ofChange dictReadsSpec)

/-- ITS FALSE NEIGHBOUR: 'it returns false'. Refute it at one input. -/
def dictReadsWrong : ChangeSpec := { name := "dictReads", fn := fun _ => fun
  | [d1, d2] => { results := [.lit (.bool false)], args := [d1, d2] }
  | _ => none }
def DictReadsWrongFalsely : Prop := dictReadsRow.holds Try.pinned (OpenSpec.ofChange dictReadsWrong)

/- THE SECOND FORM. 'bulk': how many values and letters a reading holds, each counted each time it is reached (what is shared counts as often as it is met; a slice's spare places count too). A statement '..UptoSaid' is the law's where the arguments, and the package variables that the reading takes, are together of bulk at most 1048576: NARROWER than '..Said'. Prove '..Said' where nothing that the law and all that it calls make is longer than what came in: it says more and counts as full. Else prove '..UptoSaid'. A law counts once. -/
mutual
def uptoBulk {H : Type} : DataW H → Nat
  | .lit (.string bytes) => bytes.length + 1
  | .lit _ => 1
  | .nil => 1
  | .ptr d => uptoBulk d + 1
  | .slice elems spare => uptoBulkAll elems + uptoBulkAll spare + 1
  | .agg parts => uptoBulkAll parts + 1
  | .iface _ d => uptoBulk d + 1
  | .map entries => uptoBulkEntries entries + 1
  | .held _ => 1
def uptoBulkAll {H : Type} : List (DataW H) → Nat
  | [] => 0
  | d :: r => uptoBulk d + uptoBulkAll r
def uptoBulkEntries {H : Type} : List (Lit × DataW H) → Nat
  | [] => 0
  | x :: r => uptoBulkEntry x + uptoBulkEntries r
def uptoBulkEntry {H : Type} : Lit × DataW H → Nat
  | (.string bytes, d) => bytes.length + uptoBulk d + 1
  | (_, d) => uptoBulk d + 1
 end
def uptoSmall : (H : Type) → List (DataW H) → Bool := fun _ ds => decide (uptoBulkAll ds ≤ 1048576)
def OpenSpec.upto (s : _root_.Go.ChangeSpec) : _root_.Go.OpenSpec := { _root_.Go.OpenSpec.ofChange s with cond := some uptoSmall }

/-- 'tesseractlaw07.DictPlays', WHERE WHAT IT READS IS OF BULK AT MOST 1048576: true; the input reads as it did. -/
def dictPlaysUptoRow : OpenClaim := { program := "ytbledkffkckjbaa", sum := "c5cee2101e5e8d2b75b54f44cbb5ec2f166f3ecb30587ad318dfc359c808e468", func := "tesseract/tesseractlaw07.DictPlays", spec := "dictPlays", unfollowed := true, recurses := true, plainKeys := false, apart := false, narrowed := true }
def DictPlaysUptoSaid : Prop := dictPlaysUptoRow.holds Try.pinned (OpenSpec.upto dictPlaysSpec)

/-- 'tesseractlaw07.DictStays', WHERE WHAT IT READS IS OF BULK AT MOST 1048576: true; the input reads as it did. -/
def dictStaysUptoRow : OpenClaim := { program := "ytbledkffkckjbaa", sum := "c5cee2101e5e8d2b75b54f44cbb5ec2f166f3ecb30587ad318dfc359c808e468", func := "tesseract/tesseractlaw07.DictStays", spec := "dictStays", unfollowed := true, recurses := true, plainKeys := false, apart := false, narrowed := true }
def DictStaysUptoSaid : Prop := dictStaysUptoRow.holds Try.pinned (OpenSpec.upto dictStaysSpec)

/-- 'tesseractlaw07.DictCopies', WHERE WHAT IT READS IS OF BULK AT MOST 1048576: true; the input reads as it did. -/
def dictCopiesUptoRow : OpenClaim := { program := "ytbledkffkckjbaa", sum := "c5cee2101e5e8d2b75b54f44cbb5ec2f166f3ecb30587ad318dfc359c808e468", func := "tesseract/tesseractlaw07.DictCopies", spec := "dictCopies", unfollowed := true, recurses := true, plainKeys := false, apart := false, narrowed := true }
def DictCopiesUptoSaid : Prop := dictCopiesUptoRow.holds Try.pinned (OpenSpec.upto dictCopiesSpec)

/-- 'tesseractlaw07.DictRound', WHERE WHAT IT READS IS OF BULK AT MOST 1048576: true; the input reads as it did. -/
def dictRoundUptoRow : OpenClaim := { program := "ytbledkffkckjbaa", sum := "c5cee2101e5e8d2b75b54f44cbb5ec2f166f3ecb30587ad318dfc359c808e468", func := "tesseract/tesseractlaw07.DictRound", spec := "dictRound", unfollowed := true, recurses := true, plainKeys := false, apart := false, narrowed := true }
def DictRoundUptoSaid : Prop := dictRoundUptoRow.holds Try.pinned (OpenSpec.upto dictRoundSpec)

/-- 'tesseractlaw07.DictReads', WHERE WHAT IT READS IS OF BULK AT MOST 1048576: true; the input reads as it did. -/
def dictReadsUptoRow : OpenClaim := { program := "ytbledkffkckjbaa", sum := "c5cee2101e5e8d2b75b54f44cbb5ec2f166f3ecb30587ad318dfc359c808e468", func := "tesseract/tesseractlaw07.DictReads", spec := "dictReads", unfollowed := true, recurses := true, plainKeys := false, apart := false, narrowed := true }
def DictReadsUptoSaid : Prop := dictReadsUptoRow.holds Try.pinned (OpenSpec.upto dictReadsSpec)

end Rows
end Go.Proofs.Ytbledkffkckjbaa
