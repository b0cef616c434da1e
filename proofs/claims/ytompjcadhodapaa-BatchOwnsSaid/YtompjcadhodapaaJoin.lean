/- strings.Join off the shelf (the layings are the kit's own command's print, in plain words; shelf.py put names for numbers). -/
import Derived.Shelf.Strings.OnBuilder
import Derived.Test.YtompjcadhodapaaProg
namespace Go.Proofs.Ytompjcadhodapaa
open Go.Shelf
def lays156_ren : Go.Shelf.Ren := ⟨fun | 156 => 54 | 165 => 68 | 166 => 69 | 169 => 70 | 240 => 72 | 241 => 73 | 276 => 74 | 277 => 75 | n => n, fun | 31 => 23 | 9 => 9 | 3 => 3 | 4 => 4 | 0 => 0 | 20 => 20 | 72 => 84 | 76 => 88 | 70 => 82 | 37 => 40 | 75 => 87 | 127 => 94 | 164 => 95 | 5 => 5 | 80 => 90 | n => n, fun | n => n⟩
theorem lays156 : Go.Proofs.Lays.n156 Try.prog lays156_ren := {
  mixed := by kernel_rfl
  f156 := Try.func54.trans (congrArg some (by kernel_rfl))
  f165 := Try.func68.trans (congrArg some (by kernel_rfl))
  f166 := Try.func69.trans (congrArg some (by kernel_rfl))
  f169 := Try.func70.trans (congrArg some (by kernel_rfl))
  f240 := Try.func72.trans (congrArg some (by kernel_rfl))
  f241 := Try.func73.trans (congrArg some (by kernel_rfl))
  f276 := Try.func74.trans (congrArg some (by kernel_rfl))
  f277 := Try.func75.trans (congrArg some (by kernel_rfl))
  t0 := Try.underlying0
  a0 := Try.isAgg0
  z0 := Try.sizeOf0
  v0 := Try.zeroValue0
  t3 := Try.underlying3
  a3 := Try.isAgg3
  z3 := Try.sizeOf3
  v3 := Try.zeroValue3
  t4 := Try.underlying4
  a4 := Try.isAgg4
  z4 := Try.sizeOf4
  v4 := Try.zeroValue4
  t9 := Try.underlying9
  a9 := Try.isAgg9
  z9 := Try.sizeOf9
  v9 := Try.zeroValue9
  t20 := Try.underlying20
  a20 := Try.isAgg20
  z20 := Try.sizeOf20
  v20 := Try.zeroValue20
  t31 := Try.underlying23
  a31 := Try.isAgg23
  z31 := Try.sizeOf23
  v31 := Try.zeroValue23
  t37 := Try.underlying40
  a37 := Try.isAgg40
  z37 := Try.sizeOf40
  v37 := Try.zeroValue40
  t70 := Try.underlying82
  a70 := Try.isAgg82
  z70 := Try.sizeOf82
  v70 := Try.zeroValue82
  t72 := Try.underlying84
  a72 := Try.isAgg84
  z72 := Try.sizeOf84
  v72 := Try.zeroValue84
  t75 := Try.underlying87
  a75 := Try.isAgg87
  z75 := Try.sizeOf87
  v75 := Try.zeroValue87
  t76 := Try.underlying88
  a76 := Try.isAgg88
  z76 := Try.sizeOf88
  v76 := Try.zeroValue88
  t127 := Try.underlying94
  a127 := Try.isAgg94
  z127 := Try.sizeOf94
  v127 := Try.zeroValue94
  t164 := Try.underlying95
  a164 := Try.isAgg95
  z164 := Try.sizeOf95
  v164 := Try.zeroValue95 }
theorem Builder_Extra_156 : Builder.Extra Try.prog lays156_ren := {
  sizeBuilder := by kernel_rfl
  liesBuilder := by kernel_rfl
  t5 := Try.underlying5
  a5 := Try.isAgg5
  z5 := Try.sizeOf5
  v5 := Try.zeroValue5
  infoByte := by kernel_rfl
  cellsByte := by kernel_rfl
  sizeByte := by kernel_rfl
  neB5 := by decide }
open Go.RowKit in
theorem strings_Join_none (a : Option Addr) (c : Nat) (sep : ByteArray) (w : World) :
    Calls Try.prog 54 #[.slice a 0 c, .string sep] w fun e w' => e = .returned (.string ⟨#[]⟩) ∧ w' = w := Any.strings_Join_none lays156 Builder_Extra_156 a c sep w
open Go.RowKit in
theorem strings_Join (bk o c : Nat) (xs : List ByteArray) (sep : ByteArray) (w : World) (hcells : ∀ (j : Nat) x, xs[j]? = some x → w.cell? ⟨bk, o + j, none⟩ = some (.string x)) (hbk : bk < w.heap.size) (hN : xs.length ≤ 140737488355328) (hcap : xs.length ≤ c) (hlen : (Lib.join (xs.map (·.data.toList)) sep.data.toList).length ≤ 140737488355328) :
    Calls Try.prog 54 #[.slice (some ⟨bk, o, none⟩) xs.length c, .string sep] w fun e w' => e = .returned (.string ⟨(Lib.join (xs.map (·.data.toList)) sep.data.toList).toArray⟩) ∧ Below w.heap.size w w' := Any.strings_Join lays156 Builder_Extra_156 bk o c xs sep w hcells hbk hN hcap hlen
end Go.Proofs.Ytompjcadhodapaa
