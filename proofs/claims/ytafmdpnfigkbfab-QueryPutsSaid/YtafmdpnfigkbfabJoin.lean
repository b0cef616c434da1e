/- strings.Join off the shelf (the layings are the kit's own command's print, in plain words; shelf.py put names for numbers). -/
import Derived.Shelf.Strings.OnBuilder
import Derived.Test.YtafmdpnfigkbfabProg
namespace Go.Proofs.Ytafmdpnfigkbfab
open Go.Shelf
def lays156_ren : Go.Shelf.Ren := ⟨fun | 156 => 65 | 165 => 74 | 166 => 75 | 169 => 76 | 240 => 78 | 241 => 79 | 276 => 80 | 277 => 81 | n => n, fun | 31 => 23 | 9 => 9 | 3 => 3 | 4 => 4 | 0 => 0 | 20 => 20 | 72 => 88 | 76 => 92 | 70 => 86 | 37 => 48 | 75 => 91 | 127 => 98 | 164 => 99 | 5 => 5 | 80 => 94 | n => n, fun | n => n⟩
theorem lays156 : Go.Proofs.Lays.n156 Try.prog lays156_ren := {
  mixed := by kernel_rfl
  f156 := Try.func65.trans (congrArg some (by kernel_rfl))
  f165 := Try.func74.trans (congrArg some (by kernel_rfl))
  f166 := Try.func75.trans (congrArg some (by kernel_rfl))
  f169 := Try.func76.trans (congrArg some (by kernel_rfl))
  f240 := Try.func78.trans (congrArg some (by kernel_rfl))
  f241 := Try.func79.trans (congrArg some (by kernel_rfl))
  f276 := Try.func80.trans (congrArg some (by kernel_rfl))
  f277 := Try.func81.trans (congrArg some (by kernel_rfl))
  t0 := Try.underlying0
  a0 := Try.isAgg0
  z0 := Try.sizeOf0
  v0 := Try.zeroValue0
  t3 := Try.underlying3
  a3 := Try.isAgg3
  z3 := Try.sizeOf3
  v3 := Try.zeroValue3
  t4 := Try.underlying4
  a4 := Try.isAgg4
  z4 := Try.sizeOf4
  v4 := Try.zeroValue4
  t9 := Try.underlying9
  a9 := Try.isAgg9
  z9 := Try.sizeOf9
  v9 := Try.zeroValue9
  t20 := Try.underlying20
  a20 := Try.isAgg20
  z20 := Try.sizeOf20
  v20 := Try.zeroValue20
  t31 := Try.underlying23
  a31 := Try.isAgg23
  z31 := Try.sizeOf23
  v31 := Try.zeroValue23
  t37 := Try.underlying48
  a37 := Try.isAgg48
  z37 := Try.sizeOf48
  v37 := Try.zeroValue48
  t70 := Try.underlying86
  a70 := Try.isAgg86
  z70 := Try.sizeOf86
  v70 := Try.zeroValue86
  t72 := Try.underlying88
  a72 := Try.isAgg88
  z72 := Try.sizeOf88
  v72 := Try.zeroValue88
  t75 := Try.underlying91
  a75 := Try.isAgg91
  z75 := Try.sizeOf91
  v75 := Try.zeroValue91
  t76 := Try.underlying92
  a76 := Try.isAgg92
  z76 := Try.sizeOf92
  v76 := Try.zeroValue92
  t127 := Try.underlying98
  a127 := Try.isAgg98
  z127 := Try.sizeOf98
  v127 := Try.zeroValue98
  t164 := Try.underlying99
  a164 := Try.isAgg99
  z164 := Try.sizeOf99
  v164 := Try.zeroValue99 }
theorem Builder_Extra_156 : Builder.Extra Try.prog lays156_ren := {
  sizeBuilder := by kernel_rfl
  liesBuilder := by kernel_rfl
  t5 := Try.underlying5
  a5 := Try.isAgg5
  z5 := Try.sizeOf5
  v5 := Try.zeroValue5
  infoByte := by kernel_rfl
  cellsByte := by kernel_rfl
  sizeByte := by kernel_rfl
  neB5 := by decide }
open Go.RowKit in
theorem strings_Join_none (a : Option Addr) (c : Nat) (sep : ByteArray) (w : World) :
    Calls Try.prog 65 #[.slice a 0 c, .string sep] w fun e w' => e = .returned (.string ⟨#[]⟩) ∧ w' = w := Any.strings_Join_none lays156 Builder_Extra_156 a c sep w
open Go.RowKit in
theorem strings_Join (bk o c : Nat) (xs : List ByteArray) (sep : ByteArray) (w : World) (hcells : ∀ (j : Nat) x, xs[j]? = some x → w.cell? ⟨bk, o + j, none⟩ = some (.string x)) (hbk : bk < w.heap.size) (hN : xs.length ≤ 140737488355328) (hcap : xs.length ≤ c) (hlen : (Lib.join (xs.map (·.data.toList)) sep.data.toList).length ≤ 140737488355328) :
    Calls Try.prog 65 #[.slice (some ⟨bk, o, none⟩) xs.length c, .string sep] w fun e w' => e = .returned (.string ⟨(Lib.join (xs.map (·.data.toList)) sep.data.toList).toArray⟩) ∧ Below w.heap.size w w' := Any.strings_Join lays156 Builder_Extra_156 bk o c xs sep w hcells hbk hN hcap hlen
end Go.Proofs.Ytafmdpnfigkbfab
