/- 3 texts of this claim, in build order. -/
import Derived.Shelf.Strings.Split
import Derived.Test.YtkdpclllenbgfaaDoorProg
import Derived.Test.YtkdpclllenbgfaaDoorPmgnfelgh
import Derived.Test.YtkdpclllenbgfaaDoorPjobeecjl
import Derived.Test.YtkdpclllenbgfaaDoorPgaaijehl
/- strings.SplitN off the shelf (the layings are the kit's own command's print, in plain words; shelf.py put names for numbers). -/
namespace Go.Proofs.YtkdpclllenbgfaaDoor
open Go.Shelf
def lays147_ren : Go.Shelf.Ren := ⟨fun | 147 => 42 | 221 => 64 | 268 => 78 | 138 => 79 | 143 => 80 | 195 => 84 | 197 => 85 | 218 => 86 | 219 => 87 | 260 => 90 | 217 => 91 | 225 => 92 | 224 => 93 | 267 => 94 | 266 => 95 | 314 => 96 | n => n, fun | 9 => 9 | 3 => 3 | 31 => 41 | 4 => 4 | 0 => 0 | 105 => 118 | 21 => 21 | 5 => 5 | 46 => 89 | 119 => 125 | 139 => 128 | 138 => 127 | 146 => 130 | 51 => 129 | n => n, fun | 1 => 0 | 3 => 1 | 4 => 2 | n => n⟩
theorem lays147 : Go.Proofs.Lays.n147 Tryd.prog lays147_ren := {
  mixed := by kernel_rfl
  f138 := Tryd.func79.trans (congrArg some (by kernel_rfl))
  f143 := Tryd.func80.trans (congrArg some (by kernel_rfl))
  f147 := Tryd.func42.trans (congrArg some (by kernel_rfl))
  f195 := Tryd.func84.trans (congrArg some (by kernel_rfl))
  f197 := Tryd.func85.trans (congrArg some (by kernel_rfl))
  f217 := Tryd.func91.trans (congrArg some (by kernel_rfl))
  f218 := Tryd.func86.trans (congrArg some (by kernel_rfl))
  f219 := Tryd.func87.trans (congrArg some (by kernel_rfl))
  f221 := Tryd.func64.trans (congrArg some (by kernel_rfl))
  f224 := Tryd.func93.trans (congrArg some (by kernel_rfl))
  f225 := Tryd.func92.trans (congrArg some (by kernel_rfl))
  f260 := Tryd.func90.trans (congrArg some (by kernel_rfl))
  f266 := Tryd.func95.trans (congrArg some (by kernel_rfl))
  f267 := Tryd.func94.trans (congrArg some (by kernel_rfl))
  f268 := Tryd.func78.trans (congrArg some (by kernel_rfl))
  f314 := Tryd.func96.trans (congrArg some (by kernel_rfl))
  t0 := Tryd.underlying0
  a0 := Tryd.isAgg0
  z0 := Tryd.sizeOf0
  v0 := Tryd.zeroValue0
  t3 := Tryd.underlying3
  a3 := Tryd.isAgg3
  z3 := Tryd.sizeOf3
  v3 := Tryd.zeroValue3
  t4 := Tryd.underlying4
  a4 := Tryd.isAgg4
  z4 := Tryd.sizeOf4
  v4 := Tryd.zeroValue4
  t5 := Tryd.underlying5
  a5 := Tryd.isAgg5
  z5 := Tryd.sizeOf5
  v5 := Tryd.zeroValue5
  t9 := Tryd.underlying9
  a9 := Tryd.isAgg9
  z9 := Tryd.sizeOf9
  v9 := Tryd.zeroValue9
  t21 := Tryd.underlying21
  a21 := Tryd.isAgg21
  z21 := Tryd.sizeOf21
  v21 := Tryd.zeroValue21
  t31 := Tryd.underlying41
  a31 := Tryd.isAgg41
  z31 := Tryd.sizeOf41
  v31 := Tryd.zeroValue41
  t46 := Tryd.underlying89
  a46 := Tryd.isAgg89
  z46 := Tryd.sizeOf89
  v46 := Tryd.zeroValue89
  t51 := Tryd.underlying129
  a51 := Tryd.isAgg129
  z51 := Tryd.sizeOf129
  v51 := Tryd.zeroValue129
  t105 := Tryd.underlying118
  a105 := Tryd.isAgg118
  z105 := Tryd.sizeOf118
  v105 := Tryd.zeroValue118
  t119 := Tryd.underlying125
  a119 := Tryd.isAgg125
  z119 := Tryd.sizeOf125
  t138 := Tryd.underlying127
  a138 := Tryd.isAgg127
  z138 := Tryd.sizeOf127
  v138 := Tryd.zeroValue127
  t139 := Tryd.underlying128
  a139 := Tryd.isAgg128
  z139 := Tryd.sizeOf128
  v139 := Tryd.zeroValue128
  t146 := Tryd.underlying130
  a146 := Tryd.isAgg130
  z146 := Tryd.sizeOf130
  v146 := Tryd.zeroValue130
  g1 := by kernel_rfl
  g3 := by kernel_rfl
  g4 := by kernel_rfl }
open Go.RowKit Go.Lib in
theorem strings_SplitN (s sep : ByteArray) (n : Nat) (m : Int) (w : World) (hs : s.size < 4294967281) (hm : w.cell? ⟨0, 0, none⟩ = some (.int .i64 m)) (h1 : 1 ≤ sep.size) (hn : 1 ≤ n) (hn63 : n ≤ 9223372036854775807) :
    Calls Tryd.prog 42 #[.string s, .string sep, .int .i64 n] w fun e w' =>
      e = .returned (.slice (some ⟨w.heap.size, 0, none⟩) (Lib.splitB sep 0 (min n (s.size + 1) - 1) s).length (min n (s.size + 1))) ∧ w' = w.alloc (.cells (Lib.cellsOf (Lib.splitB sep 0 (min n (s.size + 1) - 1) s) (min n (s.size + 1))) 9) := Any.strings_SplitN lays147 (by kernel_rfl) s sep n m w hs hm h1 hn hn63
end Go.Proofs.YtkdpclllenbgfaaDoor
/- The words of a search with a function value. -/
namespace Go.Proofs.YtkdpclllenbgfaaDoor
open Go.ChangeShapes Go.WideShapes Go.ChangeAt Go.RowKit
set_option linter.unusedVariables false
set_option linter.unusedSimpArgs false

def IdxRelG {α : Type} (p : α → Bool) (l : List α) (w : World) (i : Value) (wr : World) : Prop := ∃ k : Nat, k ≤ l.length ∧ i = .int .i64 k ∧ (l.take k).any p = false ∧ Below w.heap.size w wr
def IdxG {α : Type} (p : α → Bool) (l : List α) (w : World) (e : Ending) (w' : World) : Prop := ∃ i : Int, e = .returned (.int .i64 i) ∧ decide (0 ≤ i) = l.any p ∧ Below w.heap.size w w'
theorem any_take_succ {α : Type} {p : α → Bool} {l : List α} {k : Nat} (hk : k < l.length) : (l.take (k + 1)).any p = ((l.take k).any p || p l[k]) := by
  rw [List.take_succ_eq_append_getElem hk, List.any_append]; simp
theorem any_of_at {α : Type} {p : α → Bool} {l : List α} {k : Nat} (hk : k < l.length) (h : p l[k] = true) : l.any p = true := List.any_eq_true.2 ⟨_, List.getElem_mem hk, h⟩
/-- A function of the program is entered. -/
def Enters (F : FuncId) : Prop := ∀ args W, Sem.run Tryd.prog (callFunc F args) W = .ok (.enter F args) W
/-- What a function value tells of elements that read by R. -/
def Tells {α : Type} (R : Rd α) (F : FuncId) (caps : Array Value) (p : α → Bool) (l : List α) (w : World) : Prop :=
  ∀ x u W, x ∈ l → R W W.heap.size [u] x → Below w.heap.size w W → Calls Tryd.prog F (#[u] ++ caps) W (Gives (.bool (p x)) W)
end Go.Proofs.YtkdpclllenbgfaaDoor
/- Schemas and queries in plain words, and how they read. -/
namespace Go.Proofs.YtkdpclllenbgfaaDoor
open Go.ChangeShapes Go.WideShapes Go.ChangeAt Go.RowKit Go.Deep
set_option linter.unusedVariables false

abbrev DimX := ByteArray × List ByteArray
abbrev SchemaX := List DimX × List ByteArray × List (List Int)
abbrev FilterX := Int × Int × List (List ByteArray)
abbrev QueryX := List Int × List FilterX
abbrev rdStrs : Rd (List ByteArray) := rdSlice 1 rdStr
abbrev rdInts : Rd (List Int) := rdSlice 1 rdInt
abbrev rdDim : Rd DimX := rdPair 1 rdStr rdStrs
abbrev rdSchema : Rd SchemaX := rdPair 1 (rdSlice 2 rdDim) (rdPair 1 rdStrs (rdSlice 1 rdInts))
abbrev rdFilter : Rd FilterX := rdPair 1 rdInt (rdPair 1 rdInt (rdSlice 1 rdStrs))
abbrev rdQuery : Rd QueryX := rdPair 1 rdInts (rdSlice 3 rdFilter)
theorem good_strs : Good rdStrs := good_slice good_str
theorem good_ints : Good rdInts := good_slice good_int
theorem good_dim : Good rdDim := good_pair good_str good_strs
theorem good_dims : Good (rdSlice 2 rdDim) := good_slice good_dim
theorem good_rows : Good (rdSlice 1 rdInts) := good_slice good_ints
theorem good_paths : Good (rdSlice 1 rdStrs) := good_slice good_strs
theorem good_filter : Good rdFilter := good_pair good_int (good_pair good_int good_paths)
theorem good_filters : Good (rdSlice 3 rdFilter) := good_slice good_filter
def SchemaV (w : World) (B : Nat) (v : Value) (s : SchemaX) : Prop :=
  ∃ A1 c1 A2 c2 A3 c3, v = .agg #[.slice A1 s.1.length c1, .slice A2 s.2.1.length c2, .slice A3 s.2.2.length c3] ∧ rdSlice 2 rdDim w B [.slice A1 s.1.length c1] s.1 ∧ rdStrs w B [.slice A2 s.2.1.length c2] s.2.1 ∧ rdSlice 1 rdInts w B [.slice A3 s.2.2.length c3] s.2.2
def QueryV (w : World) (B : Nat) (v : Value) (q : QueryX) : Prop :=
  ∃ A1 c1 A2 c2, v = .agg #[.slice A1 q.1.length c1, .slice A2 q.2.length c2] ∧ rdInts w B [.slice A1 q.1.length c1] q.1 ∧ rdSlice 3 rdFilter w B [.slice A2 q.2.length c2] q.2
theorem SchemaV.below {w w' : World} {B : Nat} {v : Value} {s : SchemaX} (h : SchemaV w B v s) (hb : Below B w w') : SchemaV w' B v s := by
  obtain ⟨A1, c1, A2, c2, A3, c3, e, h1, h2, h3⟩ := h
  exact ⟨A1, c1, A2, c2, A3, c3, e, good_dims.stays h1 hb, good_strs.stays h2 hb, good_rows.stays h3 hb⟩
theorem SchemaV.more {w : World} {B B' : Nat} {v : Value} {s : SchemaX} (h : SchemaV w B v s) (hb : B ≤ B') : SchemaV w B' v s := by
  obtain ⟨A1, c1, A2, c2, A3, c3, e, h1, h2, h3⟩ := h
  exact ⟨A1, c1, A2, c2, A3, c3, e, good_dims.more h1 hb, good_strs.more h2 hb, good_rows.more h3 hb⟩
theorem SchemaV.on {w w' : World} {v : Value} {s : SchemaX} (h : SchemaV w w.heap.size v s) (hb : Below w.heap.size w w') : SchemaV w' w'.heap.size v s := (h.below hb).more hb.size
theorem QueryV.below {w w' : World} {B : Nat} {v : Value} {q : QueryX} (h : QueryV w B v q) (hb : Below B w w') : QueryV w' B v q := by
  obtain ⟨A1, c1, A2, c2, e, h1, h2⟩ := h
  exact ⟨A1, c1, A2, c2, e, good_ints.stays h1 hb, good_filters.stays h2 hb⟩
theorem QueryV.more {w : World} {B B' : Nat} {v : Value} {q : QueryX} (h : QueryV w B v q) (hb : B ≤ B') : QueryV w B' v q := by
  obtain ⟨A1, c1, A2, c2, e, h1, h2⟩ := h
  exact ⟨A1, c1, A2, c2, e, good_ints.more h1 hb, good_filters.more h2 hb⟩
theorem QueryV.on {w w' : World} {v : Value} {q : QueryX} (h : QueryV w w.heap.size v q) (hb : Below w.heap.size w w') : QueryV w' w'.heap.size v q := (h.below hb).more hb.size
theorem Good.on {α : Type} {R : Rd α} (hg : Good R) {w w' : World} {cs : List Value} {x : α} (h : R w w.heap.size cs x) (hb : Below w.heap.size w w') : R w' w'.heap.size cs x := hg.more (hg.stays h hb) hb.size
theorem rdSlice.open_ {α : Type} {k : Nat} {R : Rd α} {w : World} {B : Nat} {cs : List Value} {l : List α} (h : rdSlice k R w B cs l) : ∃ A c, cs = [.slice A l.length c] ∧ l.length ≤ c ∧ c ≤ 9223372036854775807 := by
  obtain ⟨A, c, h1, h2, h3, -⟩ := h
  unfold maxLen at h3
  exact ⟨A, c, h1, h2, by omega⟩
theorem schema_of_rd {w : World} {B : Nat} {cs : Array Value} {s : SchemaX} (h : rdSchema w B cs.toList s) : SchemaV w B (.agg cs) s := by
  obtain ⟨l1, h1, l2, h2, h3⟩ := h
  obtain ⟨A1, c1, e1, -, -⟩ := h1.open_
  obtain ⟨A2, c2, e2, -, -⟩ := h2.open_
  obtain ⟨A3, c3, e3, -, -⟩ := h3.open_
  rw [e1] at h1; rw [e2] at h2; rw [e3] at h3
  refine ⟨A1, c1, A2, c2, A3, c3, ?_, h1, h2, h3⟩
  have : cs.toList = [.slice A1 s.1.length c1, .slice A2 s.2.1.length c2, .slice A3 s.2.2.length c3] := by
    rw [← List.take_append_drop 1 cs.toList, e1, ← List.take_append_drop 1 (cs.toList.drop 1), e2, e3]
    rfl
  rw [show cs = #[.slice A1 s.1.length c1, .slice A2 s.2.1.length c2, .slice A3 s.2.2.length c3] from Array.toList_inj.1 this]
theorem query_of_rd {w : World} {B : Nat} {cs : Array Value} {q : QueryX} (h : rdQuery w B cs.toList q) : QueryV w B (.agg cs) q := by
  obtain ⟨l1, h1, h2⟩ := h
  obtain ⟨A1, c1, e1, -, -⟩ := h1.open_
  obtain ⟨A2, c2, e2, -, -⟩ := h2.open_
  rw [e1] at h1; rw [e2] at h2
  refine ⟨A1, c1, A2, c2, ?_, h1, h2⟩
  have : cs.toList = [.slice A1 q.1.length c1, .slice A2 q.2.length c2] := by
    rw [← List.take_append_drop 1 cs.toList, e1, e2]
    rfl
  rw [show cs = #[.slice A1 q.1.length c1, .slice A2 q.2.length c2] from Array.toList_inj.1 this]
/-- What lists of texts and of numbers are as slices of values. -/
theorem strs_sl {w : World} {B : Nat} {v : Value} {p : List ByteArray} (h : rdStrs w B [v] p) : Sl w B v (svals p) ∧ StrOk p := by
  refine ⟨rdSlice.sl Value.string (fun es x hx => hx.1) h, fun s hs => ?_⟩
  obtain ⟨i, hi, rfl⟩ := List.mem_iff_getElem.1 hs
  obtain ⟨A, c, e, -, -⟩ := h.open_
  rw [e] at h
  obtain ⟨b, off, -, -, es, -, -, g⟩ := h.at_ hi
  have := g.2
  unfold maxLen at this; omega

/-! ### Plain words -/
def namedB (l : List ByteArray) (most : Nat) : Bool := decide (1 ≤ l.length) && decide (l.length ≤ most) && l.all nameB && decide l.Nodup
def baseX (s : SchemaX) : List Int := s.1.map fun d => (d.2.length : Int)
def coversB (v w : List Int) : Bool := decide (v.length = w.length) && (List.zipWith (fun a b => decide (b ≤ a)) v w).all id
def cornerB (s : SchemaX) (v : List Int) : Bool := coversB (baseX s) v && !(v.any fun n => decide (n < 0))
def mayS (s : SchemaX) : Bool :=
  s.1.all (fun d => namedB d.2 3) && (namedB (s.1.map (·.1)) 3 && namedB s.2.1 2 && decide (s.2.2.length ≤ 6)) && ((List.range s.2.2.length).all fun i => cornerB s (s.2.2.getD i []) && !(decide (s.2.2.getD i [] = baseX s)) && !((s.2.2.take i).any fun x => decide (s.2.2.getD i [] = x)))
def inQ (n m : Int) : Bool := decide (0 ≤ n) && decide (n ≤ m)
def plainF (f : FilterX) : Bool := (inQ f.1 2 && inQ f.2.1 3 && decide (f.2.2.length ≤ 6)) && !(f.2.2.any fun p => !mayB p)
def plainQ (q : QueryX) : Bool := (decide (q.1.length ≤ 3) && decide (q.2.length ≤ 3) && !(q.1.any fun n => !inQ n 3)) && q.2.all plainF
def levelsAt (s : SchemaX) (d : Int) : Int := ((s.1.getD d.toNat (ByteArray.empty, [])).2.length : Int)
def okF (s : SchemaX) (f : FilterX) : Bool := (decide (f.1 < s.1.length) && decide (1 ≤ f.2.1) && decide (f.2.1 ≤ levelsAt s f.1) && decide (f.2.2 ≠ [])) && !(f.2.2.any fun p => decide ((p.length : Int) ≠ f.2.1))
def mayQ (s : SchemaX) (q : QueryX) : Int := if !mayS s then 11 else if !(plainQ q && cornerB s q.1) then 16 else if q.2.all (okF s) then 0 else 16
def underB (p q : List ByteArray) : Bool := decide (q.length ≤ p.length) && decide (p.take q.length = q)
def passF (paths : List (List ByteArray)) (f : FilterX) : Bool := inQ f.1 ((paths.length : Int) - 1) && f.2.2.any (fun m => underB (paths.getD f.1.toNat []) m)
def passesB (q : QueryX) (paths : List (List ByteArray)) : Bool := q.2.all (passF paths)
def upS (p : List ByteArray) (n : Int) : List ByteArray := p.take n.toNat
def keyQ (q : QueryX) (paths : List (List ByteArray)) : List (List ByteArray) := (List.range q.1.length).map fun i => if i < paths.length then upS (paths.getD i []) (q.1.getD i 0) else []
def setMax (l : List Int) (f : FilterX) : List Int := l.set f.1.toNat (max (l.getD f.1.toNat 0) f.2.1)
def needQ (q : QueryX) : List Int := q.2.foldl setMax q.1
end Go.Proofs.YtkdpclllenbgfaaDoor
