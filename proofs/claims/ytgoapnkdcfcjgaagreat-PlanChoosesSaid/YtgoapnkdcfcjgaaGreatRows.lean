/-
  No cell of these rows narrows 'for every input' (looked for: loops, veiled, ifaces, maps, wideKeys, modest, calm, conditions, laid).
  DERIVED. THE GIVEN ROWS OF THIS SEAT. 4 by the template 'for every input the law returns true; each argument reads behind the call as it read before'; 0 by the template 'total and deterministic' (their statements: YtgoapnkdcfcjgaaGreatTotals.lean).
  GIVEN WITH THE SEED: the statements are not yours to turn. If you find one false, say at which input.
  Laid BY PROGRAM, IN A SANDBOX (cutbox-rows.mjs): the forced cells as the released guide's own fill.sh prints them over the translation aefd48a05b35152d… (all of the seat's roots in one cut). By AI agents, Wed Nov 11 2026. No macro, syntax, notation, axiom, sorry.
-/
import Derived.Test.YtgoapnkdcfcjgaaGreatChecked
import GoSem.Claim
import GoSem.ClaimJoined
import GoSem.ClaimMapViews
import Derived.JoinedTies
import Derived.KernelRfl
namespace Go.Proofs.YtgoapnkdcfcjgaaGreat
/- THE CELL 'sum', in the pinned program and in every row, IS THE sha256 OF THE DUMP (.gsa) THAT YtgoapnkdcfcjgaaGreatProg.lean LOADS. Nothing in Lean hashes anything: it is a label: what it is worth is what the hold of that sum in a sandbox is worth. -/
noncomputable def Tryz.pinned : Pinned := { name := "ytgoapnkdcfcjgaagreat", sum := "aefd48a05b35152de8ad3a3b8791e3d0f6c6ae07fbfacd4779e1e110f9eb1cf2", checked := Tryz.checked }
namespace Rows
def none {H : Type} : Left H := { results := [], args := [] }

/-- 'tesseractlaw13.PlanCovers': WHATEVER THE INPUT: true; the input reads as it did. -/
def planCoversSpec : ChangeSpec := { name := "planCovers", fn := fun _ => fun
  | [d1, d2] => { results := [.lit (.bool true)], args := [d1, d2] }
  | _ => none }
def planCoversRow : OpenClaim := { program := "ytgoapnkdcfcjgaagreat", sum := "aefd48a05b35152de8ad3a3b8791e3d0f6c6ae07fbfacd4779e1e110f9eb1cf2", func := "tesseract/tesseractlaw13.PlanCovers", spec := "planCovers", unfollowed := true, recurses := true, plainKeys := false, apart := false }
def PlanCoversSaid : Prop := planCoversRow.holds Tryz.pinned (OpenSpec.ofChange planCoversSpec)

/-- ITS FALSE NEIGHBOUR: 'it returns false'. Refute it at one input. -/
def planCoversWrong : ChangeSpec := { name := "planCovers", fn := fun _ => fun
  | [d1, d2] => { results := [.lit (.bool false)], args := [d1, d2] }
  | _ => none }
def PlanCoversWrongFalsely : Prop := planCoversRow.holds Tryz.pinned (OpenSpec.ofChange planCoversWrong)

/-- 'tesseractlaw13.PlanChooses': WHATEVER THE INPUT: true; the input reads as it did. -/
def planChoosesSpec : ChangeSpec := { name := "planChooses", fn := fun _ => fun
  | [d1, d2, d3] => { results := [.lit (.bool true)], args := [d1, d2, d3] }
  | _ => none }
def planChoosesRow : OpenClaim := { program := "ytgoapnkdcfcjgaagreat", sum := "aefd48a05b35152de8ad3a3b8791e3d0f6c6ae07fbfacd4779e1e110f9eb1cf2", func := "tesseract/tesseractlaw13.PlanChooses", spec := "planChooses", unfollowed := true, recurses := true, plainKeys := false, apart := false }
def PlanChoosesSaid : Prop := planChoosesRow.holds Tryz.pinned (OpenSpec.ofChange planChoosesSpec)

/-- ITS FALSE NEIGHBOUR: 'it returns false'. Refute it at one input. -/
def planChoosesWrong : ChangeSpec := { name := "planChooses", fn := fun _ => fun
  | [d1, d2, d3] => { results := [.lit (.bool false)], args := [d1, d2, d3] }
  | _ => none }
def PlanChoosesWrongFalsely : Prop := planChoosesRow.holds Tryz.pinned (OpenSpec.ofChange planChoosesWrong)

/-- 'tesseractlaw13.PlanBest': WHATEVER THE INPUT: true; the input reads as it did. -/
def planBestSpec : ChangeSpec := { name := "planBest", fn := fun _ => fun
  | [d1, d2, d3] => { results := [.lit (.bool true)], args := [d1, d2, d3] }
  | _ => none }
def planBestRow : OpenClaim := { program := "ytgoapnkdcfcjgaagreat", sum := "aefd48a05b35152de8ad3a3b8791e3d0f6c6ae07fbfacd4779e1e110f9eb1cf2", func := "tesseract/tesseractlaw13.PlanBest", spec := "planBest", unfollowed := true, recurses := true, plainKeys := false, apart := false }
def PlanBestSaid : Prop := planBestRow.holds Tryz.pinned (OpenSpec.ofChange planBestSpec)

/-- ITS FALSE NEIGHBOUR: 'it returns false'. Refute it at one input. -/
def planBestWrong : ChangeSpec := { name := "planBest", fn := fun _ => fun
  | [d1, d2, d3] => { results := [.lit (.bool false)], args := [d1, d2, d3] }
  | _ => none }
def PlanBestWrongFalsely : Prop := planBestRow.holds Tryz.pinned (OpenSpec.ofChange planBestWrong)

/-- 'tesseractlaw13.PlanLess': WHATEVER THE INPUT: true; the input reads as it did. -/
def planLessSpec : ChangeSpec := { name := "planLess", fn := fun _ => fun
  | [d1, d2, d3] => { results := [.lit (.bool true)], args := [d1, d2, d3] }
  | _ => none }
def planLessRow : OpenClaim := { program := "ytgoapnkdcfcjgaagreat", sum := "aefd48a05b35152de8ad3a3b8791e3d0f6c6ae07fbfacd4779e1e110f9eb1cf2", func := "tesseract/tesseractlaw13.PlanLess", spec := "planLess", unfollowed := true, recurses := true, plainKeys := false, apart := false }
def PlanLessSaid : Prop := planLessRow.holds Tryz.pinned (OpenSpec.ofChange planLessSpec)

/-- ITS FALSE NEIGHBOUR: 'it returns false'. Refute it at one input. -/
def planLessWrong : ChangeSpec := { name := "planLess", fn := fun _ => fun
  | [d1, d2, d3] => { results := [.lit (.bool false)], args := [d1, d2, d3] }
  | _ => none }
def PlanLessWrongFalsely : Prop := planLessRow.holds Tryz.pinned (OpenSpec.ofChange planLessWrong)

/- THE SECOND FORM. 'bulk': how many values and letters a reading holds, each counted each time it is reached (what is shared counts as often as it is met; a slice's spare places count too). A statement '..UptoSaid' is the law's where the arguments, and the package variables that the reading takes, are together of bulk at most 1048576: NARROWER than '..Said'. Prove '..Said' where nothing that the law and all that it calls make is longer than what came in: it says more and counts as full. Else prove '..UptoSaid'. A law counts once. -/
mutual
def uptoBulk {H : Type} : DataW H → Nat
  | .lit (.string bytes) => bytes.length + 1
  | .lit _ => 1
  | .nil => 1
  | .ptr d => uptoBulk d + 1
  | .slice elems spare => uptoBulkAll elems + uptoBulkAll spare + 1
  | .agg parts => uptoBulkAll parts + 1
  | .iface _ d => uptoBulk d + 1
  | .map entries => uptoBulkEntries entries + 1
  | .held _ => 1
def uptoBulkAll {H : Type} : List (DataW H) → Nat
  | [] => 0
  | d :: r => uptoBulk d + uptoBulkAll r
def uptoBulkEntries {H : Type} : List (Lit × DataW H) → Nat
  | [] => 0
  | x :: r => uptoBulkEntry x + uptoBulkEntries r
def uptoBulkEntry {H : Type} : Lit × DataW H → Nat
  | (.string bytes, d) => bytes.length + uptoBulk d + 1
  | (_, d) => uptoBulk d + 1
 end
def uptoSmall : (H : Type) → List (DataW H) → Bool := fun _ ds => decide (uptoBulkAll ds ≤ 1048576)
def OpenSpec.upto (s : _root_.Go.ChangeSpec) : _root_.Go.OpenSpec := { _root_.Go.OpenSpec.ofChange s with cond := some uptoSmall }

/-- 'tesseractlaw13.PlanCovers', WHERE WHAT IT READS IS OF BULK AT MOST 1048576: true; the input reads as it did. -/
def planCoversUptoRow : OpenClaim := { program := "ytgoapnkdcfcjgaagreat", sum := "aefd48a05b35152de8ad3a3b8791e3d0f6c6ae07fbfacd4779e1e110f9eb1cf2", func := "tesseract/tesseractlaw13.PlanCovers", spec := "planCovers", unfollowed := true, recurses := true, plainKeys := false, apart := false, narrowed := true }
def PlanCoversUptoSaid : Prop := planCoversUptoRow.holds Tryz.pinned (OpenSpec.upto planCoversSpec)

/-- 'tesseractlaw13.PlanChooses', WHERE WHAT IT READS IS OF BULK AT MOST 1048576: true; the input reads as it did. -/
def planChoosesUptoRow : OpenClaim := { program := "ytgoapnkdcfcjgaagreat", sum := "aefd48a05b35152de8ad3a3b8791e3d0f6c6ae07fbfacd4779e1e110f9eb1cf2", func := "tesseract/tesseractlaw13.PlanChooses", spec := "planChooses", unfollowed := true, recurses := true, plainKeys := false, apart := false, narrowed := true }
def PlanChoosesUptoSaid : Prop := planChoosesUptoRow.holds Tryz.pinned (OpenSpec.upto planChoosesSpec)

/-- 'tesseractlaw13.PlanBest', WHERE WHAT IT READS IS OF BULK AT MOST 1048576: true; the input reads as it did. -/
def planBestUptoRow : OpenClaim := { program := "ytgoapnkdcfcjgaagreat", sum := "aefd48a05b35152de8ad3a3b8791e3d0f6c6ae07fbfacd4779e1e110f9eb1cf2", func := "tesseract/tesseractlaw13.PlanBest", spec := "planBest", unfollowed := true, recurses := true, plainKeys := false, apart := false, narrowed := true }
def PlanBestUptoSaid : Prop := planBestUptoRow.holds Tryz.pinned (OpenSpec.upto planBestSpec)

/-- 'tesseractlaw13.PlanLess', WHERE WHAT IT READS IS OF BULK AT MOST 1048576: true; the input reads as it did. -/
def planLessUptoRow : OpenClaim := { program := "ytgoapnkdcfcjgaagreat", sum := "aefd48a05b35152de8ad3a3b8791e3d0f6c6ae07fbfacd4779e1e110f9eb1cf2", func := "tesseract/tesseractlaw13.PlanLess", spec := "planLess", unfollowed := true, recurses := true, plainKeys := false, apart := false, narrowed := true }
def PlanLessUptoSaid : Prop := planLessUptoRow.holds Tryz.pinned (OpenSpec.upto planLessSpec)

end Rows
end Go.Proofs.YtgoapnkdcfcjgaaGreat
