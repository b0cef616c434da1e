/- 1 text of this claim, in build order. -/
import Derived.Test.YtkdpclllenbgfaaDoorPnggccfji
import Derived.Test.YtkdpclllenbgfaaDoorPkjkncdho
/- Schemas and queries in plain words, and how they read. -/
namespace Go.Proofs.YtkdpclllenbgfaaDoor
open Go.ChangeShapes Go.WideShapes Go.ChangeAt Go.RowKit Go.Deep
set_option linter.unusedVariables false

abbrev DimX := ByteArray × List ByteArray
abbrev SchemaX := List DimX × List ByteArray × List (List Int)
abbrev FilterX := Int × Int × List (List ByteArray)
abbrev QueryX := List Int × List FilterX
abbrev rdStrs : Rd (List ByteArray) := rdSlice 1 rdStr
abbrev rdInts : Rd (List Int) := rdSlice 1 rdInt
abbrev rdDim : Rd DimX := rdPair 1 rdStr rdStrs
abbrev rdSchema : Rd SchemaX := rdPair 1 (rdSlice 2 rdDim) (rdPair 1 rdStrs (rdSlice 1 rdInts))
abbrev rdFilter : Rd FilterX := rdPair 1 rdInt (rdPair 1 rdInt (rdSlice 1 rdStrs))
abbrev rdQuery : Rd QueryX := rdPair 1 rdInts (rdSlice 3 rdFilter)
theorem good_strs : Good rdStrs := good_slice good_str
theorem good_ints : Good rdInts := good_slice good_int
theorem good_dim : Good rdDim := good_pair good_str good_strs
theorem good_dims : Good (rdSlice 2 rdDim) := good_slice good_dim
theorem good_rows : Good (rdSlice 1 rdInts) := good_slice good_ints
theorem good_paths : Good (rdSlice 1 rdStrs) := good_slice good_strs
theorem good_filter : Good rdFilter := good_pair good_int (good_pair good_int good_paths)
theorem good_filters : Good (rdSlice 3 rdFilter) := good_slice good_filter
def SchemaV (w : World) (B : Nat) (v : Value) (s : SchemaX) : Prop :=
  ∃ A1 c1 A2 c2 A3 c3, v = .agg #[.slice A1 s.1.length c1, .slice A2 s.2.1.length c2, .slice A3 s.2.2.length c3] ∧ rdSlice 2 rdDim w B [.slice A1 s.1.length c1] s.1 ∧ rdStrs w B [.slice A2 s.2.1.length c2] s.2.1 ∧ rdSlice 1 rdInts w B [.slice A3 s.2.2.length c3] s.2.2
def QueryV (w : World) (B : Nat) (v : Value) (q : QueryX) : Prop :=
  ∃ A1 c1 A2 c2, v = .agg #[.slice A1 q.1.length c1, .slice A2 q.2.length c2] ∧ rdInts w B [.slice A1 q.1.length c1] q.1 ∧ rdSlice 3 rdFilter w B [.slice A2 q.2.length c2] q.2
theorem SchemaV.below {w w' : World} {B : Nat} {v : Value} {s : SchemaX} (h : SchemaV w B v s) (hb : Below B w w') : SchemaV w' B v s := by
  obtain ⟨A1, c1, A2, c2, A3, c3, e, h1, h2, h3⟩ := h
  exact ⟨A1, c1, A2, c2, A3, c3, e, good_dims.stays h1 hb, good_strs.stays h2 hb, good_rows.stays h3 hb⟩
theorem SchemaV.more {w : World} {B B' : Nat} {v : Value} {s : SchemaX} (h : SchemaV w B v s) (hb : B ≤ B') : SchemaV w B' v s := by
  obtain ⟨A1, c1, A2, c2, A3, c3, e, h1, h2, h3⟩ := h
  exact ⟨A1, c1, A2, c2, A3, c3, e, good_dims.more h1 hb, good_strs.more h2 hb, good_rows.more h3 hb⟩
theorem SchemaV.on {w w' : World} {v : Value} {s : SchemaX} (h : SchemaV w w.heap.size v s) (hb : Below w.heap.size w w') : SchemaV w' w'.heap.size v s := (h.below hb).more hb.size
theorem QueryV.below {w w' : World} {B : Nat} {v : Value} {q : QueryX} (h : QueryV w B v q) (hb : Below B w w') : QueryV w' B v q := by
  obtain ⟨A1, c1, A2, c2, e, h1, h2⟩ := h
  exact ⟨A1, c1, A2, c2, e, good_ints.stays h1 hb, good_filters.stays h2 hb⟩
theorem QueryV.more {w : World} {B B' : Nat} {v : Value} {q : QueryX} (h : QueryV w B v q) (hb : B ≤ B') : QueryV w B' v q := by
  obtain ⟨A1, c1, A2, c2, e, h1, h2⟩ := h
  exact ⟨A1, c1, A2, c2, e, good_ints.more h1 hb, good_filters.more h2 hb⟩
theorem QueryV.on {w w' : World} {v : Value} {q : QueryX} (h : QueryV w w.heap.size v q) (hb : Below w.heap.size w w') : QueryV w' w'.heap.size v q := (h.below hb).more hb.size
theorem Good.on {α : Type} {R : Rd α} (hg : Good R) {w w' : World} {cs : List Value} {x : α} (h : R w w.heap.size cs x) (hb : Below w.heap.size w w') : R w' w'.heap.size cs x := hg.more (hg.stays h hb) hb.size
theorem rdSlice.open_ {α : Type} {k : Nat} {R : Rd α} {w : World} {B : Nat} {cs : List Value} {l : List α} (h : rdSlice k R w B cs l) : ∃ A c, cs = [.slice A l.length c] ∧ l.length ≤ c ∧ c ≤ 9223372036854775807 := by
  obtain ⟨A, c, h1, h2, h3, -⟩ := h
  unfold maxLen at h3
  exact ⟨A, c, h1, h2, by omega⟩
theorem schema_of_rd {w : World} {B : Nat} {cs : Array Value} {s : SchemaX} (h : rdSchema w B cs.toList s) : SchemaV w B (.agg cs) s := by
  obtain ⟨l1, h1, l2, h2, h3⟩ := h
  obtain ⟨A1, c1, e1, -, -⟩ := h1.open_
  obtain ⟨A2, c2, e2, -, -⟩ := h2.open_
  obtain ⟨A3, c3, e3, -, -⟩ := h3.open_
  rw [e1] at h1; rw [e2] at h2; rw [e3] at h3
  refine ⟨A1, c1, A2, c2, A3, c3, ?_, h1, h2, h3⟩
  have : cs.toList = [.slice A1 s.1.length c1, .slice A2 s.2.1.length c2, .slice A3 s.2.2.length c3] := by
    rw [← List.take_append_drop 1 cs.toList, e1, ← List.take_append_drop 1 (cs.toList.drop 1), e2, e3]
    rfl
  rw [show cs = #[.slice A1 s.1.length c1, .slice A2 s.2.1.length c2, .slice A3 s.2.2.length c3] from Array.toList_inj.1 this]
theorem query_of_rd {w : World} {B : Nat} {cs : Array Value} {q : QueryX} (h : rdQuery w B cs.toList q) : QueryV w B (.agg cs) q := by
  obtain ⟨l1, h1, h2⟩ := h
  obtain ⟨A1, c1, e1, -, -⟩ := h1.open_
  obtain ⟨A2, c2, e2, -, -⟩ := h2.open_
  rw [e1] at h1; rw [e2] at h2
  refine ⟨A1, c1, A2, c2, ?_, h1, h2⟩
  have : cs.toList = [.slice A1 q.1.length c1, .slice A2 q.2.length c2] := by
    rw [← List.take_append_drop 1 cs.toList, e1, e2]
    rfl
  rw [show cs = #[.slice A1 q.1.length c1, .slice A2 q.2.length c2] from Array.toList_inj.1 this]
/-- What lists of texts and of numbers are as slices of values. -/
theorem strs_sl {w : World} {B : Nat} {v : Value} {p : List ByteArray} (h : rdStrs w B [v] p) : Sl w B v (svals p) ∧ StrOk p := by
  refine ⟨rdSlice.sl Value.string (fun es x hx => hx.1) h, fun s hs => ?_⟩
  obtain ⟨i, hi, rfl⟩ := List.mem_iff_getElem.1 hs
  obtain ⟨A, c, e, -, -⟩ := h.open_
  rw [e] at h
  obtain ⟨b, off, -, -, es, -, -, g⟩ := h.at_ hi
  have := g.2
  unfold maxLen at this; omega

/-! ### Plain words -/
def namedB (l : List ByteArray) (most : Nat) : Bool := decide (1 ≤ l.length) && decide (l.length ≤ most) && l.all nameB && decide l.Nodup
def baseX (s : SchemaX) : List Int := s.1.map fun d => (d.2.length : Int)
def coversB (v w : List Int) : Bool := decide (v.length = w.length) && (List.zipWith (fun a b => decide (b ≤ a)) v w).all id
def cornerB (s : SchemaX) (v : List Int) : Bool := coversB (baseX s) v && !(v.any fun n => decide (n < 0))
def mayS (s : SchemaX) : Bool :=
  s.1.all (fun d => namedB d.2 3) && (namedB (s.1.map (·.1)) 3 && namedB s.2.1 2 && decide (s.2.2.length ≤ 6)) && ((List.range s.2.2.length).all fun i => cornerB s (s.2.2.getD i []) && !(decide (s.2.2.getD i [] = baseX s)) && !((s.2.2.take i).any fun x => decide (s.2.2.getD i [] = x)))
def inQ (n m : Int) : Bool := decide (0 ≤ n) && decide (n ≤ m)
def plainF (f : FilterX) : Bool := (inQ f.1 2 && inQ f.2.1 3 && decide (f.2.2.length ≤ 6)) && !(f.2.2.any fun p => !mayB p)
def plainQ (q : QueryX) : Bool := (decide (q.1.length ≤ 3) && decide (q.2.length ≤ 3) && !(q.1.any fun n => !inQ n 3)) && q.2.all plainF
def levelsAt (s : SchemaX) (d : Int) : Int := ((s.1.getD d.toNat (ByteArray.empty, [])).2.length : Int)
def okF (s : SchemaX) (f : FilterX) : Bool := (decide (f.1 < s.1.length) && decide (1 ≤ f.2.1) && decide (f.2.1 ≤ levelsAt s f.1) && decide (f.2.2 ≠ [])) && !(f.2.2.any fun p => decide ((p.length : Int) ≠ f.2.1))
def mayQ (s : SchemaX) (q : QueryX) : Int := if !mayS s then 11 else if !(plainQ q && cornerB s q.1) then 16 else if q.2.all (okF s) then 0 else 16
def underB (p q : List ByteArray) : Bool := decide (q.length ≤ p.length) && decide (p.take q.length = q)
def passF (paths : List (List ByteArray)) (f : FilterX) : Bool := inQ f.1 ((paths.length : Int) - 1) && f.2.2.any (fun m => underB (paths.getD f.1.toNat []) m)
def passesB (q : QueryX) (paths : List (List ByteArray)) : Bool := q.2.all (passF paths)
def upS (p : List ByteArray) (n : Int) : List ByteArray := p.take n.toNat
def keyQ (q : QueryX) (paths : List (List ByteArray)) : List (List ByteArray) := (List.range q.1.length).map fun i => if i < paths.length then upS (paths.getD i []) (q.1.getD i 0) else []
def setMax (l : List Int) (f : FilterX) : List Int := l.set f.1.toNat (max (l.getD f.1.toNat 0) f.2.1)
def needQ (q : QueryX) : List Int := q.2.foldl setMax q.1
end Go.Proofs.YtkdpclllenbgfaaDoor
