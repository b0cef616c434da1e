/-
  No cell of these rows narrows 'for every input' (looked for: loops, veiled, ifaces, maps, wideKeys, modest, calm, conditions, laid).
  DERIVED. THE GIVEN ROWS OF THIS SEAT. 5 by the template 'for every input the law returns true; each argument reads behind the call as it read before'; 0 by the template 'total and deterministic' (their statements: YtafmdpnfigkbfabTotals.lean).
  GIVEN WITH THE SEED: the statements are not yours to turn. If you find one false, say at which input.
  Laid BY PROGRAM, IN A SANDBOX (cutbox-rows.mjs): the forced cells as the released guide's own fill.sh prints them over the translation 12b120fe029d5354… (all of the seat's roots in one cut). By AI agents, Wed Nov 11 2026. No macro, syntax, notation, axiom, sorry.
-/
import Derived.Test.YtafmdpnfigkbfabChecked
import GoSem.Claim
import GoSem.ClaimJoined
import GoSem.ClaimMapViews
import Derived.JoinedTies
import Derived.KernelRfl
namespace Go.Proofs.Ytafmdpnfigkbfab
/- THE CELL 'sum', in the pinned program and in every row, IS THE sha256 OF THE DUMP (.gsa) THAT YtafmdpnfigkbfabProg.lean LOADS. Nothing in Lean hashes anything: it is a label: what it is worth is what the hold of that sum in a sandbox is worth. -/
noncomputable def Try.pinned : Pinned := { name := "ytafmdpnfigkbfab", sum := "12b120fe029d535488832fd243d95b8dc77c8cb111a48817acf5062079cd6024", checked := Try.checked }
namespace Rows
def none {H : Type} : Left H := { results := [], args := [] }

/-- 'tesseractlaw12.QueryMay': WHATEVER THE INPUT: true; the input reads as it did. -/
def queryMaySpec : ChangeSpec := { name := "queryMay", fn := fun _ => fun
  | [d1, d2] => { results := [.lit (.bool true)], args := [d1, d2] }
  | _ => none }
def queryMayRow : OpenClaim := { program := "ytafmdpnfigkbfab", sum := "12b120fe029d535488832fd243d95b8dc77c8cb111a48817acf5062079cd6024", func := "tesseract/tesseractlaw12.QueryMay", spec := "queryMay", unfollowed := true, recurses := true, apart := false }
def QueryMaySaid : Prop := queryMayRow.holds Try.pinned (OpenSpec.ofChange queryMaySpec)

/-- ITS FALSE NEIGHBOUR: 'it returns false'. Refute it at one input. -/
def queryMayWrong : ChangeSpec := { name := "queryMay", fn := fun _ => fun
  | [d1, d2] => { results := [.lit (.bool false)], args := [d1, d2] }
  | _ => none }
def QueryMayWrongFalsely : Prop := queryMayRow.holds Try.pinned (OpenSpec.ofChange queryMayWrong)

/-- 'tesseractlaw12.QueryPasses': WHATEVER THE INPUT: true; the input reads as it did. -/
def queryPassesSpec : ChangeSpec := { name := "queryPasses", fn := fun _ => fun
  | [d1, d2] => { results := [.lit (.bool true)], args := [d1, d2] }
  | _ => none }
def queryPassesRow : OpenClaim := { program := "ytafmdpnfigkbfab", sum := "12b120fe029d535488832fd243d95b8dc77c8cb111a48817acf5062079cd6024", func := "tesseract/tesseractlaw12.QueryPasses", spec := "queryPasses", unfollowed := true, recurses := true, apart := false }
def QueryPassesSaid : Prop := queryPassesRow.holds Try.pinned (OpenSpec.ofChange queryPassesSpec)

/-- ITS FALSE NEIGHBOUR: 'it returns false'. Refute it at one input. -/
def queryPassesWrong : ChangeSpec := { name := "queryPasses", fn := fun _ => fun
  | [d1, d2] => { results := [.lit (.bool false)], args := [d1, d2] }
  | _ => none }
def QueryPassesWrongFalsely : Prop := queryPassesRow.holds Try.pinned (OpenSpec.ofChange queryPassesWrong)

/-- 'tesseractlaw12.QueryNeeds': WHATEVER THE INPUT: true; the input reads as it did. -/
def queryNeedsSpec : ChangeSpec := { name := "queryNeeds", fn := fun _ => fun
  | [d1, d2, d3] => { results := [.lit (.bool true)], args := [d1, d2, d3] }
  | _ => none }
def queryNeedsRow : OpenClaim := { program := "ytafmdpnfigkbfab", sum := "12b120fe029d535488832fd243d95b8dc77c8cb111a48817acf5062079cd6024", func := "tesseract/tesseractlaw12.QueryNeeds", spec := "queryNeeds", unfollowed := true, recurses := true, apart := false }
def QueryNeedsSaid : Prop := queryNeedsRow.holds Try.pinned (OpenSpec.ofChange queryNeedsSpec)

/-- ITS FALSE NEIGHBOUR: 'it returns false'. Refute it at one input. -/
def queryNeedsWrong : ChangeSpec := { name := "queryNeeds", fn := fun _ => fun
  | [d1, d2, d3] => { results := [.lit (.bool false)], args := [d1, d2, d3] }
  | _ => none }
def QueryNeedsWrongFalsely : Prop := queryNeedsRow.holds Try.pinned (OpenSpec.ofChange queryNeedsWrong)

/-- 'tesseractlaw12.QueryOwns': WHATEVER THE INPUT: true; the input reads as it did. -/
def queryOwnsSpec : ChangeSpec := { name := "queryOwns", fn := fun _ => fun
  | [d1, d2, d3] => { results := [.lit (.bool true)], args := [d1, d2, d3] }
  | _ => none }
def queryOwnsRow : OpenClaim := { program := "ytafmdpnfigkbfab", sum := "12b120fe029d535488832fd243d95b8dc77c8cb111a48817acf5062079cd6024", func := "tesseract/tesseractlaw12.QueryOwns", spec := "queryOwns", unfollowed := true, recurses := true, apart := false }
def QueryOwnsSaid : Prop := queryOwnsRow.holds Try.pinned (OpenSpec.ofChange queryOwnsSpec)

/-- ITS FALSE NEIGHBOUR: 'it returns false'. Refute it at one input. -/
def queryOwnsWrong : ChangeSpec := { name := "queryOwns", fn := fun _ => fun
  | [d1, d2, d3] => { results := [.lit (.bool false)], args := [d1, d2, d3] }
  | _ => none }
def QueryOwnsWrongFalsely : Prop := queryOwnsRow.holds Try.pinned (OpenSpec.ofChange queryOwnsWrong)

/-- 'tesseractlaw12.QueryPuts': WHATEVER THE INPUT: true; the input reads as it did. -/
def queryPutsSpec : ChangeSpec := { name := "queryPuts", fn := fun _ => fun
  | [d1, d2] => { results := [.lit (.bool true)], args := [d1, d2] }
  | _ => none }
def queryPutsRow : OpenClaim := { program := "ytafmdpnfigkbfab", sum := "12b120fe029d535488832fd243d95b8dc77c8cb111a48817acf5062079cd6024", func := "tesseract/tesseractlaw12.QueryPuts", spec := "queryPuts", inPlace := ["internal/abi.NoEscape", "internal/bytealg.MakeNoZero"], unfollowed := true, recurses := true, apart := false }
def QueryPutsSaid : Prop := queryPutsRow.holds Try.pinned (OpenSpec.ofChange queryPutsSpec)

/-- ITS FALSE NEIGHBOUR: 'it returns false'. Refute it at one input. -/
def queryPutsWrong : ChangeSpec := { name := "queryPuts", fn := fun _ => fun
  | [d1, d2] => { results := [.lit (.bool false)], args := [d1, d2] }
  | _ => none }
def QueryPutsWrongFalsely : Prop := queryPutsRow.holds Try.pinned (OpenSpec.ofChange queryPutsWrong)

/- THE SECOND FORM. 'bulk': how many values and letters a reading holds, each counted each time it is reached (what is shared counts as often as it is met; a slice's spare places count too). A statement '..UptoSaid' is the law's where the arguments, and the package variables that the reading takes, are together of bulk at most 1048576: NARROWER than '..Said'. Prove '..Said' where nothing that the law and all that it calls make is longer than what came in: it says more and counts as full. Else prove '..UptoSaid'. A law counts once. -/
mutual
def uptoBulk {H : Type} : DataW H → Nat
  | .lit (.string bytes) => bytes.length + 1
  | .lit _ => 1
  | .nil => 1
  | .ptr d => uptoBulk d + 1
  | .slice elems spare => uptoBulkAll elems + uptoBulkAll spare + 1
  | .agg parts => uptoBulkAll parts + 1
  | .iface _ d => uptoBulk d + 1
  | .map entries => uptoBulkEntries entries + 1
  | .held _ => 1
def uptoBulkAll {H : Type} : List (DataW H) → Nat
  | [] => 0
  | d :: r => uptoBulk d + uptoBulkAll r
def uptoBulkEntries {H : Type} : List (Lit × DataW H) → Nat
  | [] => 0
  | x :: r => uptoBulkEntry x + uptoBulkEntries r
def uptoBulkEntry {H : Type} : Lit × DataW H → Nat
  | (.string bytes, d) => bytes.length + uptoBulk d + 1
  | (_, d) => uptoBulk d + 1
 end
def uptoSmall : (H : Type) → List (DataW H) → Bool := fun _ ds => decide (uptoBulkAll ds ≤ 1048576)
def OpenSpec.upto (s : _root_.Go.ChangeSpec) : _root_.Go.OpenSpec := { _root_.Go.OpenSpec.ofChange s with cond := some uptoSmall }

/-- 'tesseractlaw12.QueryMay', WHERE WHAT IT READS IS OF BULK AT MOST 1048576: true; the input reads as it did. -/
def queryMayUptoRow : OpenClaim := { program := "ytafmdpnfigkbfab", sum := "12b120fe029d535488832fd243d95b8dc77c8cb111a48817acf5062079cd6024", func := "tesseract/tesseractlaw12.QueryMay", spec := "queryMay", unfollowed := true, recurses := true, apart := false, narrowed := true }
def QueryMayUptoSaid : Prop := queryMayUptoRow.holds Try.pinned (OpenSpec.upto queryMaySpec)

/-- 'tesseractlaw12.QueryPasses', WHERE WHAT IT READS IS OF BULK AT MOST 1048576: true; the input reads as it did. -/
def queryPassesUptoRow : OpenClaim := { program := "ytafmdpnfigkbfab", sum := "12b120fe029d535488832fd243d95b8dc77c8cb111a48817acf5062079cd6024", func := "tesseract/tesseractlaw12.QueryPasses", spec := "queryPasses", unfollowed := true, recurses := true, apart := false, narrowed := true }
def QueryPassesUptoSaid : Prop := queryPassesUptoRow.holds Try.pinned (OpenSpec.upto queryPassesSpec)

/-- 'tesseractlaw12.QueryNeeds', WHERE WHAT IT READS IS OF BULK AT MOST 1048576: true; the input reads as it did. -/
def queryNeedsUptoRow : OpenClaim := { program := "ytafmdpnfigkbfab", sum := "12b120fe029d535488832fd243d95b8dc77c8cb111a48817acf5062079cd6024", func := "tesseract/tesseractlaw12.QueryNeeds", spec := "queryNeeds", unfollowed := true, recurses := true, apart := false, narrowed := true }
def QueryNeedsUptoSaid : Prop := queryNeedsUptoRow.holds Try.pinned (OpenSpec.upto queryNeedsSpec)

/-- 'tesseractlaw12.QueryOwns', WHERE WHAT IT READS IS OF BULK AT MOST 1048576: true; the input reads as it did. -/
def queryOwnsUptoRow : OpenClaim := { program := "ytafmdpnfigkbfab", sum := "12b120fe029d535488832fd243d95b8dc77c8cb111a48817acf5062079cd6024", func := "tesseract/tesseractlaw12.QueryOwns", spec := "queryOwns", unfollowed := true, recurses := true, apart := false, narrowed := true }
def QueryOwnsUptoSaid : Prop := queryOwnsUptoRow.holds Try.pinned (OpenSpec.upto queryOwnsSpec)

/-- 'tesseractlaw12.QueryPuts', WHERE WHAT IT READS IS OF BULK AT MOST 1048576: true; the input reads as it did. -/
def queryPutsUptoRow : OpenClaim := { program := "ytafmdpnfigkbfab", sum := "12b120fe029d535488832fd243d95b8dc77c8cb111a48817acf5062079cd6024", func := "tesseract/tesseractlaw12.QueryPuts", spec := "queryPuts", inPlace := ["internal/abi.NoEscape", "internal/bytealg.MakeNoZero"], unfollowed := true, recurses := true, apart := false, narrowed := true }
def QueryPutsUptoSaid : Prop := queryPutsUptoRow.holds Try.pinned (OpenSpec.upto queryPutsSpec)

end Rows
end Go.Proofs.Ytafmdpnfigkbfab
