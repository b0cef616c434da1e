/- Cells handed in. -/
import Derived.Test.YtclhnnidbhchnaaCellLives
import Derived.Test.YtclhnnidbhchnaaReads
namespace Go.Proofs.Ytclhnnidbhchnaa
open Go.ChangeShapes Go.WideShapes Go.ChangeAt Go.RowKit
set_option linter.unusedVariables false
set_option linter.unusedSimpArgs false

abbrev CellX := Int × List Int × List Int × List Int
def CellX.cell (x : CellX) : CellM := ⟨x.1, x.2.1, x.2.2.1, x.2.2.2⟩
def rdCell : Rd CellX := rdPair 1 rdInt (rdPair 1 (rdSlice 1 rdInt) (rdPair 1 (rdSlice 1 rdInt) (rdSlice 1 rdInt)))
theorem opens_intsI : Opens Try.prog 23 1 (rdSlice 1 rdInt) := opens_slice (e := 3) good_int Try.underlying23 (opens_int Try.underlying3 (by kernel_rfl)) (by kernel_rfl) (by omega)
theorem opens_cell : Opens Try.prog 25 4 rdCell := by
  refine opens_struct (k := 4) Try.underlying25 (by kernel_rfl) ?_
  exact opensF_cons (k2 := 3) (by rfl) (opens_int Try.underlying3 (by kernel_rfl)) (opensF_cons (k2 := 2) (by rfl) opens_intsI (opensF_cons (k2 := 1) (by rfl) opens_intsI (opensF_one (by rfl) opens_intsI)))
theorem ints_sl {w : World} {B : Nat} {cs : List Value} {l : List Int} (h : rdSlice 1 rdInt w B cs l) : ∃ v, cs = [v] ∧ Sl w B v (ivals l) := by
  have h' := h
  obtain ⟨A, c, rfl, -, -, -⟩ := h
  exact ⟨_, rfl, rdSlice.sl (Value.int .i64) (fun es x hx => hx.1) h'⟩
theorem cell_of_rd {w : World} {B : Nat} {cs : Array Value} {x : CellX} (h : rdCell w B cs.toList x) : CellR w B (.agg cs) x.cell := by
  obtain ⟨l1, ⟨e1, -⟩, l2, h2, l3, h3, h4⟩ := h
  obtain ⟨v1, e2, s1⟩ := ints_sl h2
  obtain ⟨v2, e3, s2⟩ := ints_sl h3
  obtain ⟨v3, e4, s3⟩ := ints_sl h4
  refine ⟨v1, v2, v3, ?_, s1, s2, s3⟩
  have : cs.toList = [.int .i64 x.1, v1, v2, v3] := by
    rw [← List.take_append_drop 1 cs.toList, e1, ← List.take_append_drop 1 (cs.toList.drop 1), e2, ← List.take_append_drop 1 ((cs.toList.drop 1).drop 1), e3, e4]
    rfl
  rw [show cs = #[.int .i64 x.1, v1, v2, v3] from Array.toList_inj.1 this]
  rfl
theorem MOwnPost.lit {r : CellM × Int} {w : World} {e : Ending} {w' : World} (hp : MOwnPost r w e w') : FLit r.1 r.2 w e w' := flit_of rfl hp
theorem MergePost.lit {r : CellM × Int} {w : World} {e : Ending} {w' : World} (hp : MergePost r w e w') : FLit r.1 r.2 w e w' := by
  obtain ⟨v, rfl, hr, hb⟩ := hp
  have hr' := hr
  obtain ⟨v1, v2, v3, rfl, s1, s2, s3⟩ := hr
  obtain ⟨A1, c1, rfl, -, -⟩ := s1.formI
  obtain ⟨A2, c2, rfl, -, -⟩ := s2.formI
  obtain ⟨A3, c3, rfl, -, -⟩ := s3.formI
  exact ⟨A1, c1, A2, c2, A3, c3, rfl, hr', hb⟩
end Go.Proofs.Ytclhnnidbhchnaa
