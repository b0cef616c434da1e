/- 11 texts of this claim, in build order. -/
import Derived.Test.YtgoapnkdcfcjgaaGreatPgahndijd
import Derived.Test.YtgoapnkdcfcjgaaGreatPhdggccfa
import Derived.Test.YtgoapnkdcfcjgaaGreatPgpmhdfmh
import Derived.Test.YtgoapnkdcfcjgaaGreatPacmmcljk
import Derived.Shelf.Strings.OnBuilder
import Derived.Test.YtgoapnkdcfcjgaaGreatProg
import Derived.Test.YtgoapnkdcfcjgaaGreatPndjfjgie
import Derived.Test.YtgoapnkdcfcjgaaGreatPlhikkigo
import Derived.Maps.AppendAt
import Derived.OwnWalk
/- The dictionary: what the program holds and what the reference holds tell the same. -/
namespace Go.Proofs.YtgoapnkdcfcjgaaGreat
open Go.ChangeShapes Go.WideShapes Go.ChangeAt Go.RowKit Go.Maps
set_option linter.unusedVariables false

structure DOk (ns : List DNode) : Prop where
  inv : DInv ns
  len : ns.length ≤ 40
  name : ∀ x ∈ ns, NameOk x.2
theorem dok_nil : DOk [] := ⟨dinv_nil, by simp, by simp⟩
theorem DOk.small {ns : List DNode} (h : DOk ns) : ∀ x ∈ ns, x.1 ≤ 1000000 ∧ x.2.size ≤ 12 := by
  intro x hx
  obtain ⟨i, hi, rfl⟩ := List.mem_iff_getElem.1 hx
  have := h.inv.up i _ (List.getElem?_eq_getElem hi)
  have := h.len
  exact ⟨by omega, (h.name _ hx).2.1⟩
theorem putAll_names (ns : List DNode) (u : Nat) (r : List ByteArray) (hr : ∀ s ∈ r, NameOk s) (h : ∀ x ∈ ns, NameOk x.2) : ∀ x ∈ (putAll ns u r).1, NameOk x.2 := by
  induction r generalizing ns u with
  | nil => exact h
  | cons s r ih =>
    refine ih _ _ (fun t ht => hr t (List.mem_cons_of_mem _ ht)) (fun x hx => ?_)
    rcases List.mem_append.1 hx with hx | hx
    · exact h x hx
    · rw [List.mem_singleton] at hx; subst hx; exact hr s List.mem_cons_self
theorem may_names {p : List ByteArray} (h : mayB p = true) : ∀ s ∈ p, NameOk s := by
  unfold mayB at h
  rw [Bool.and_eq_true, List.all_eq_true] at h
  intro s hs
  have := h.2 s hs
  unfold nameB at this
  rwa [decide_eq_true_eq] at this
theorem link_add {ns : List DNode} (h : DOk ns) (L : Int) (p : List ByteArray) : addR (paths ns) L p = (paths (addDR ns L p).1, (addDR ns L p).2.1, (addDR ns L p).2.2) ∧ DOk (addDR ns L p).1 := by
  obtain ⟨a1, a2, a3, a4, a5⟩ := addD_says h.inv p
  unfold addR addDR
  rw [paths_len, a4]
  by_cases hno : mayB p = false ∨ (p.length : Int) ≠ L
  · rw [if_pos hno, if_pos hno]; exact ⟨rfl, h⟩
  · rw [if_neg hno, if_neg hno]
    by_cases h40 : 40 < ns.length + (p.length - (known ns 0 p).1.length)
    · rw [if_pos h40, if_pos h40]; exact ⟨rfl, h⟩
    · rw [if_neg h40, if_neg h40]
      refine ⟨?_, a1, by simp only [a5]; omega, ?_⟩
      · rw [← a2, a3]
      · have hm : mayB p = true := by
          cases hm : mayB p with
          | true => rfl
          | false => exact absurd (.inl hm) hno
        exact putAll_names ns _ _ (fun s hs => may_names hm s (List.mem_of_mem_drop hs)) h.name
end Go.Proofs.YtgoapnkdcfcjgaaGreat
/- The words of a search with a function value. -/
namespace Go.Proofs.YtgoapnkdcfcjgaaGreat
open Go.ChangeShapes Go.WideShapes Go.ChangeAt Go.RowKit
set_option linter.unusedVariables false
set_option linter.unusedSimpArgs false

def IdxRelG {α : Type} (p : α → Bool) (l : List α) (w : World) (i : Value) (wr : World) : Prop := ∃ k : Nat, k ≤ l.length ∧ i = .int .i64 k ∧ (l.take k).any p = false ∧ Below w.heap.size w wr
def IdxG {α : Type} (p : α → Bool) (l : List α) (w : World) (e : Ending) (w' : World) : Prop := ∃ i : Int, e = .returned (.int .i64 i) ∧ decide (0 ≤ i) = l.any p ∧ Below w.heap.size w w'
theorem any_take_succ {α : Type} {p : α → Bool} {l : List α} {k : Nat} (hk : k < l.length) : (l.take (k + 1)).any p = ((l.take k).any p || p l[k]) := by
  rw [List.take_succ_eq_append_getElem hk, List.any_append]; simp
theorem any_of_at {α : Type} {p : α → Bool} {l : List α} {k : Nat} (hk : k < l.length) (h : p l[k] = true) : l.any p = true := List.any_eq_true.2 ⟨_, List.getElem_mem hk, h⟩
/-- A function of the program is entered. -/
def Enters (F : FuncId) : Prop := ∀ args W, Sem.run Tryz.prog (callFunc F args) W = .ok (.enter F args) W
/-- What a function value tells of elements that read by R. -/
def Tells {α : Type} (R : Rd α) (F : FuncId) (caps : Array Value) (p : α → Bool) (l : List α) (w : World) : Prop :=
  ∀ x u W, x ∈ l → R W W.heap.size [u] x → Below w.heap.size w W → Calls Tryz.prog F (#[u] ++ caps) W (Gives (.bool (p x)) W)
end Go.Proofs.YtgoapnkdcfcjgaaGreat
/- Schemas and queries in plain words, and how they read. -/
namespace Go.Proofs.YtgoapnkdcfcjgaaGreat
open Go.ChangeShapes Go.WideShapes Go.ChangeAt Go.RowKit Go.Deep
set_option linter.unusedVariables false

abbrev DimX := ByteArray × List ByteArray
abbrev SchemaX := List DimX × List ByteArray × List (List Int)
abbrev FilterX := Int × Int × List (List ByteArray)
abbrev QueryX := List Int × List FilterX
abbrev rdStrs : Rd (List ByteArray) := rdSlice 1 rdStr
abbrev rdInts : Rd (List Int) := rdSlice 1 rdInt
abbrev rdDim : Rd DimX := rdPair 1 rdStr rdStrs
abbrev rdSchema : Rd SchemaX := rdPair 1 (rdSlice 2 rdDim) (rdPair 1 rdStrs (rdSlice 1 rdInts))
abbrev rdFilter : Rd FilterX := rdPair 1 rdInt (rdPair 1 rdInt (rdSlice 1 rdStrs))
abbrev rdQuery : Rd QueryX := rdPair 1 rdInts (rdSlice 3 rdFilter)
theorem good_strs : Good rdStrs := good_slice good_str
theorem good_ints : Good rdInts := good_slice good_int
theorem good_dim : Good rdDim := good_pair good_str good_strs
theorem good_dims : Good (rdSlice 2 rdDim) := good_slice good_dim
theorem good_rows : Good (rdSlice 1 rdInts) := good_slice good_ints
theorem good_paths : Good (rdSlice 1 rdStrs) := good_slice good_strs
theorem good_filter : Good rdFilter := good_pair good_int (good_pair good_int good_paths)
theorem good_filters : Good (rdSlice 3 rdFilter) := good_slice good_filter
def SchemaV (w : World) (B : Nat) (v : Value) (s : SchemaX) : Prop :=
  ∃ A1 c1 A2 c2 A3 c3, v = .agg #[.slice A1 s.1.length c1, .slice A2 s.2.1.length c2, .slice A3 s.2.2.length c3] ∧ rdSlice 2 rdDim w B [.slice A1 s.1.length c1] s.1 ∧ rdStrs w B [.slice A2 s.2.1.length c2] s.2.1 ∧ rdSlice 1 rdInts w B [.slice A3 s.2.2.length c3] s.2.2
def QueryV (w : World) (B : Nat) (v : Value) (q : QueryX) : Prop :=
  ∃ A1 c1 A2 c2, v = .agg #[.slice A1 q.1.length c1, .slice A2 q.2.length c2] ∧ rdInts w B [.slice A1 q.1.length c1] q.1 ∧ rdSlice 3 rdFilter w B [.slice A2 q.2.length c2] q.2
theorem SchemaV.below {w w' : World} {B : Nat} {v : Value} {s : SchemaX} (h : SchemaV w B v s) (hb : Below B w w') : SchemaV w' B v s := by
  obtain ⟨A1, c1, A2, c2, A3, c3, e, h1, h2, h3⟩ := h
  exact ⟨A1, c1, A2, c2, A3, c3, e, good_dims.stays h1 hb, good_strs.stays h2 hb, good_rows.stays h3 hb⟩
theorem SchemaV.more {w : World} {B B' : Nat} {v : Value} {s : SchemaX} (h : SchemaV w B v s) (hb : B ≤ B') : SchemaV w B' v s := by
  obtain ⟨A1, c1, A2, c2, A3, c3, e, h1, h2, h3⟩ := h
  exact ⟨A1, c1, A2, c2, A3, c3, e, good_dims.more h1 hb, good_strs.more h2 hb, good_rows.more h3 hb⟩
theorem SchemaV.on {w w' : World} {v : Value} {s : SchemaX} (h : SchemaV w w.heap.size v s) (hb : Below w.heap.size w w') : SchemaV w' w'.heap.size v s := (h.below hb).more hb.size
theorem QueryV.below {w w' : World} {B : Nat} {v : Value} {q : QueryX} (h : QueryV w B v q) (hb : Below B w w') : QueryV w' B v q := by
  obtain ⟨A1, c1, A2, c2, e, h1, h2⟩ := h
  exact ⟨A1, c1, A2, c2, e, good_ints.stays h1 hb, good_filters.stays h2 hb⟩
theorem QueryV.more {w : World} {B B' : Nat} {v : Value} {q : QueryX} (h : QueryV w B v q) (hb : B ≤ B') : QueryV w B' v q := by
  obtain ⟨A1, c1, A2, c2, e, h1, h2⟩ := h
  exact ⟨A1, c1, A2, c2, e, good_ints.more h1 hb, good_filters.more h2 hb⟩
theorem QueryV.on {w w' : World} {v : Value} {q : QueryX} (h : QueryV w w.heap.size v q) (hb : Below w.heap.size w w') : QueryV w' w'.heap.size v q := (h.below hb).more hb.size
theorem Good.on {α : Type} {R : Rd α} (hg : Good R) {w w' : World} {cs : List Value} {x : α} (h : R w w.heap.size cs x) (hb : Below w.heap.size w w') : R w' w'.heap.size cs x := hg.more (hg.stays h hb) hb.size
theorem rdSlice.open_ {α : Type} {k : Nat} {R : Rd α} {w : World} {B : Nat} {cs : List Value} {l : List α} (h : rdSlice k R w B cs l) : ∃ A c, cs = [.slice A l.length c] ∧ l.length ≤ c ∧ c ≤ 9223372036854775807 := by
  obtain ⟨A, c, h1, h2, h3, -⟩ := h
  unfold maxLen at h3
  exact ⟨A, c, h1, h2, by omega⟩
theorem schema_of_rd {w : World} {B : Nat} {cs : Array Value} {s : SchemaX} (h : rdSchema w B cs.toList s) : SchemaV w B (.agg cs) s := by
  obtain ⟨l1, h1, l2, h2, h3⟩ := h
  obtain ⟨A1, c1, e1, -, -⟩ := h1.open_
  obtain ⟨A2, c2, e2, -, -⟩ := h2.open_
  obtain ⟨A3, c3, e3, -, -⟩ := h3.open_
  rw [e1] at h1; rw [e2] at h2; rw [e3] at h3
  refine ⟨A1, c1, A2, c2, A3, c3, ?_, h1, h2, h3⟩
  have : cs.toList = [.slice A1 s.1.length c1, .slice A2 s.2.1.length c2, .slice A3 s.2.2.length c3] := by
    rw [← List.take_append_drop 1 cs.toList, e1, ← List.take_append_drop 1 (cs.toList.drop 1), e2, e3]
    rfl
  rw [show cs = #[.slice A1 s.1.length c1, .slice A2 s.2.1.length c2, .slice A3 s.2.2.length c3] from Array.toList_inj.1 this]
theorem query_of_rd {w : World} {B : Nat} {cs : Array Value} {q : QueryX} (h : rdQuery w B cs.toList q) : QueryV w B (.agg cs) q := by
  obtain ⟨l1, h1, h2⟩ := h
  obtain ⟨A1, c1, e1, -, -⟩ := h1.open_
  obtain ⟨A2, c2, e2, -, -⟩ := h2.open_
  rw [e1] at h1; rw [e2] at h2
  refine ⟨A1, c1, A2, c2, ?_, h1, h2⟩
  have : cs.toList = [.slice A1 q.1.length c1, .slice A2 q.2.length c2] := by
    rw [← List.take_append_drop 1 cs.toList, e1, e2]
    rfl
  rw [show cs = #[.slice A1 q.1.length c1, .slice A2 q.2.length c2] from Array.toList_inj.1 this]
/-- What lists of texts and of numbers are as slices of values. -/
theorem strs_sl {w : World} {B : Nat} {v : Value} {p : List ByteArray} (h : rdStrs w B [v] p) : Sl w B v (svals p) ∧ StrOk p := by
  refine ⟨rdSlice.sl Value.string (fun es x hx => hx.1) h, fun s hs => ?_⟩
  obtain ⟨i, hi, rfl⟩ := List.mem_iff_getElem.1 hs
  obtain ⟨A, c, e, -, -⟩ := h.open_
  rw [e] at h
  obtain ⟨b, off, -, -, es, -, -, g⟩ := h.at_ hi
  have := g.2
  unfold maxLen at this; omega

/-! ### Plain words -/
def namedB (l : List ByteArray) (most : Nat) : Bool := decide (1 ≤ l.length) && decide (l.length ≤ most) && l.all nameB && decide l.Nodup
def baseX (s : SchemaX) : List Int := s.1.map fun d => (d.2.length : Int)
def coversB (v w : List Int) : Bool := decide (v.length = w.length) && (List.zipWith (fun a b => decide (b ≤ a)) v w).all id
def cornerB (s : SchemaX) (v : List Int) : Bool := coversB (baseX s) v && !(v.any fun n => decide (n < 0))
def mayS (s : SchemaX) : Bool :=
  s.1.all (fun d => namedB d.2 3) && (namedB (s.1.map (·.1)) 3 && namedB s.2.1 2 && decide (s.2.2.length ≤ 6)) && ((List.range s.2.2.length).all fun i => cornerB s (s.2.2.getD i []) && !(decide (s.2.2.getD i [] = baseX s)) && !((s.2.2.take i).any fun x => decide (s.2.2.getD i [] = x)))
def inQ (n m : Int) : Bool := decide (0 ≤ n) && decide (n ≤ m)
def plainF (f : FilterX) : Bool := (inQ f.1 2 && inQ f.2.1 3 && decide (f.2.2.length ≤ 6)) && !(f.2.2.any fun p => !mayB p)
def plainQ (q : QueryX) : Bool := (decide (q.1.length ≤ 3) && decide (q.2.length ≤ 3) && !(q.1.any fun n => !inQ n 3)) && q.2.all plainF
def levelsAt (s : SchemaX) (d : Int) : Int := ((s.1.getD d.toNat (ByteArray.empty, [])).2.length : Int)
def okF (s : SchemaX) (f : FilterX) : Bool := (decide (f.1 < s.1.length) && decide (1 ≤ f.2.1) && decide (f.2.1 ≤ levelsAt s f.1) && decide (f.2.2 ≠ [])) && !(f.2.2.any fun p => decide ((p.length : Int) ≠ f.2.1))
def mayQ (s : SchemaX) (q : QueryX) : Int := if !mayS s then 11 else if !(plainQ q && cornerB s q.1) then 16 else if q.2.all (okF s) then 0 else 16
def underB (p q : List ByteArray) : Bool := decide (q.length ≤ p.length) && decide (p.take q.length = q)
def passF (paths : List (List ByteArray)) (f : FilterX) : Bool := inQ f.1 ((paths.length : Int) - 1) && f.2.2.any (fun m => underB (paths.getD f.1.toNat []) m)
def upS (p : List ByteArray) (n : Int) : List ByteArray := p.take n.toNat
def keyQ (q : QueryX) (paths : List (List ByteArray)) : List (List ByteArray) := (List.range q.1.length).map fun i => if i < paths.length then upS (paths.getD i []) (q.1.getD i 0) else []
def setMax (l : List Int) (f : FilterX) : List Int := l.set f.1.toNat (max (l.getD f.1.toNat 0) f.2.1)
def needQ (q : QueryX) : List Int := q.2.foldl setMax q.1
end Go.Proofs.YtgoapnkdcfcjgaaGreat
/- strings.Join off the shelf (the layings are the kit's own command's print, in plain words; shelf.py put names for numbers). -/
namespace Go.Proofs.YtgoapnkdcfcjgaaGreat
open Go.Shelf
end Go.Proofs.YtgoapnkdcfcjgaaGreat
/- A path's text: the program's and the reference's. -/
namespace Go.Proofs.YtgoapnkdcfcjgaaGreat
open Go.ChangeShapes Go.WideShapes Go.ChangeAt Go.RowKit
set_option linter.unusedVariables false
set_option linter.unusedSimpArgs false

end Go.Proofs.YtgoapnkdcfcjgaaGreat
/- Bytes that are put, one behind the other. -/
namespace Go.Proofs.YtgoapnkdcfcjgaaGreat
open Go.ChangeShapes Go.WideShapes Go.ChangeAt Go.RowKit
set_option linter.unusedVariables false

end Go.Proofs.YtgoapnkdcfcjgaaGreat
/- Facts: readings, and what may be, plainly. -/
namespace Go.Proofs.YtgoapnkdcfcjgaaGreat
open Go.ChangeShapes Go.WideShapes Go.ChangeAt Go.RowKit
set_option linter.unusedVariables false

abbrev FactX := List (List ByteArray) × List Int
abbrev rdFact : Rd FactX := rdPair 1 (rdSlice 1 rdStrs) rdInts
theorem good_fact : Good rdFact := good_pair good_paths good_ints
theorem good_facts : Good (rdSlice 2 rdFact) := good_slice good_fact
/-- A fact as a value. -/
def FactV (w : World) (B : Nat) (v : Value) (f : FactX) : Prop :=
  ∃ A1 c1 A2 c2, v = .agg #[.slice A1 f.1.length c1, .slice A2 f.2.length c2] ∧ rdSlice 1 rdStrs w B [.slice A1 f.1.length c1] f.1 ∧ rdInts w B [.slice A2 f.2.length c2] f.2
theorem FactV.below {w w' : World} {B : Nat} {v : Value} {f : FactX} (h : FactV w B v f) (hb : Below B w w') : FactV w' B v f := by
  obtain ⟨A1, c1, A2, c2, e, h1, h2⟩ := h
  exact ⟨A1, c1, A2, c2, e, good_paths.stays h1 hb, good_ints.stays h2 hb⟩
theorem FactV.more {w : World} {B B' : Nat} {v : Value} {f : FactX} (h : FactV w B v f) (hb : B ≤ B') : FactV w B' v f := by
  obtain ⟨A1, c1, A2, c2, e, h1, h2⟩ := h
  exact ⟨A1, c1, A2, c2, e, good_paths.more h1 hb, good_ints.more h2 hb⟩
theorem FactV.on {w w' : World} {v : Value} {f : FactX} (h : FactV w w.heap.size v f) (hb : Below w.heap.size w w') : FactV w' w'.heap.size v f := (h.below hb).more hb.size
theorem fact_of_rd {w : World} {B : Nat} {cs : List Value} {f : FactX} (h : rdFact w B cs f) : ∃ A1 c1 A2 c2, cs = [.slice A1 f.1.length c1, .slice A2 f.2.length c2] ∧ rdSlice 1 rdStrs w B [.slice A1 f.1.length c1] f.1 ∧ rdInts w B [.slice A2 f.2.length c2] f.2 := by
  obtain ⟨l1, h1, h2⟩ := h
  obtain ⟨A1, c1, e1, -, -⟩ := h1.open_
  obtain ⟨A2, c2, e2, -, -⟩ := h2.open_
  rw [e1] at h1; rw [e2] at h2
  refine ⟨A1, c1, A2, c2, ?_, h1, h2⟩
  rw [← List.take_append_drop 1 cs, e1, e2]
  rfl
theorem facts_at {w : World} {B : Nat} {A : Option Addr} {n c : Nat} {l : List FactX} (h : rdSlice 2 rdFact w B [.slice A n c] l) {k : Nat} (hk : k < l.length) :
    ∃ b off AP cP AV cV, A = some ⟨b, off, none⟩ ∧ b < B ∧ w.cell? ⟨b, off + k * 2, none⟩ = some (.slice AP l[k].1.length cP) ∧ w.cell? ⟨b, off + k * 2 + 1, none⟩ = some (.slice AV l[k].2.length cV) ∧
      rdSlice 1 rdStrs w B [.slice AP l[k].1.length cP] l[k].1 ∧ rdInts w B [.slice AV l[k].2.length cV] l[k].2 := by
  obtain ⟨b, off, rfl, hb, es, hel, hcell, hr⟩ := h.at_ hk
  obtain ⟨AP, cP, AV, cV, rfl, h1, h2⟩ := fact_of_rd hr
  exact ⟨b, off, AP, cP, AV, cV, rfl, hb, hcell 0 _ rfl, hcell 1 _ rfl, h1, h2⟩
/-! ### Plain words -/
def valB (n : Int) : Bool := decide (-2305843009213693952 ≤ n) && decide (n ≤ 2305843009213693952)
def plainFt (f : FactX) : Bool := (!(f.1.any fun p => !mayB p) && !(f.2.any fun n => !valB n)) && decide (f.1.length ≤ 3) && decide (f.2.length ≤ 2)
def fitsB (s : SchemaX) (f : FactX) : Bool := (plainFt f && decide (f.1.length = s.1.length) && decide (f.2.length = s.2.1.length)) && (List.range f.1.length).all fun i => decide ((f.1.getD i []).length = (s.1.getD i (⟨#[]⟩, [])).2.length)
def mayBt (s : SchemaX) (l : List FactX) : Int := if !mayS s then 11 else if l.length = 0 ∨ 8 < l.length then 13 else if l.any (fun f => !fitsB s f) then 12 else 0
end Go.Proofs.YtgoapnkdcfcjgaaGreat
/- Layer 11, plain: a lattice (its schema, dictionaries, cuboids, how many facts), and what Apply makes of it. -/
namespace Go.Proofs.YtgoapnkdcfcjgaaGreat
open Go.ChangeShapes Go.WideShapes Go.ChangeAt Go.RowKit
set_option linter.unusedVariables false
set_option linter.unusedSimpArgs false

structure LatX where
  s : SchemaX
  ds : List (List DNode)
  cs : List (List KC)
  n : Int
def viewsX (s : SchemaX) : List (List Int) := baseX s :: s.2.2
def lat0 (s : SchemaX) : LatX := ⟨s, s.1.map (fun _ => []), (viewsX s).map (fun _ => []), 0⟩
def dimL (s : SchemaX) (i : Nat) : Int := ((s.1.getD i (ByteArray.empty, [])).2.length : Int)
def NUM : Int := 1099511627776
/-- What is kept of a lattice. -/
structure OkLat (l : LatX) : Prop where
  may : mayS l.s = true
  dlen : l.ds.length = l.s.1.length
  dok : ∀ ns ∈ l.ds, DOk ns
  clen : l.cs.length = (viewsX l.s).length
  cok : ∀ L ∈ l.cs, OkL l.s.1.length l.s.2.1.length L
  n0 : 0 ≤ l.n
  n1 : l.n ≤ NUM
theorem lat0_ok {s : SchemaX} (h : mayS s = true) : OkLat (lat0 s) where
  may := h
  dlen := by simp [lat0]
  dok := fun ns hn => by
    obtain ⟨x, -, rfl⟩ := List.mem_map.1 hn
    exact dok_nil
  clen := by simp [lat0]
  cok := fun L hL => by
    obtain ⟨x, -, rfl⟩ := List.mem_map.1 hL
    exact OkL.nil_ _ _
  n0 := by simp [lat0]
  n1 := by simp [lat0, NUM]
end Go.Proofs.YtgoapnkdcfcjgaaGreat
/- Rows of one's own, of lists of texts that were handed in. -/
namespace Go.Proofs.YtgoapnkdcfcjgaaGreat
open Go.ChangeShapes Go.WideShapes Go.ChangeAt Go.RowKit
set_option linter.unusedVariables false
set_option linter.unusedSimpArgs false

end Go.Proofs.YtgoapnkdcfcjgaaGreat
/- Rows of one's own, of facts whose paths are rows of one's own. -/
namespace Go.Proofs.YtgoapnkdcfcjgaaGreat
open Go.ChangeShapes Go.WideShapes Go.ChangeAt Go.RowKit
set_option linter.unusedVariables false
set_option linter.unusedSimpArgs false

def fv2 (p : Value × Value) : List Value := [p.1, p.2]
def fvs (vs : List (Value × Value)) : List Value := vs.flatMap fv2
end Go.Proofs.YtgoapnkdcfcjgaaGreat
/- Small general facts: a function value entered, cells of slices, rows of one's own read. -/
namespace Go.Proofs.YtgoapnkdcfcjgaaGreat
open Go.ChangeShapes Go.WideShapes Go.ChangeAt Go.RowKit
set_option linter.unusedVariables false
set_option linter.unusedSimpArgs false

theorem enters_of {F : FuncId} {fn : Func} {c : Code} (hf : Tryz.prog.funcs[F]? = some fn) (hname : (fn.name == "runtime.NumGoroutine") = false) (hb : fn.body = some c) : Enters F := fun args w => by
  have h1 : fn.name ≠ "runtime.NumGoroutine" := by simpa using hname
  simp [callFunc, hf, h1, hb]
theorem nodup_snoc {l : List ByteArray} {x : ByteArray} : (l ++ [x]).Nodup ↔ l.Nodup ∧ x ∉ l := by
  rw [List.nodup_append]
  constructor
  · rintro ⟨h1, -, h3⟩; exact ⟨h1, fun h => h3 x h x (by simp) rfl⟩
  · rintro ⟨h1, h2⟩; exact ⟨h1, by simp, fun a ha b hb => by simp at hb; rw [hb]; rintro rfl; exact h2 ha⟩
theorem cell_one_at' (w : World) (x : Value) (t : TypeId) {N : Nat} (hN : w.heap.size = N) : ∀ j u, [x][j]? = some u → (w.alloc (.cells #[x] t)).cell? ((⟨N, 0, none⟩ : Addr).add j) = some u := by
  subst hN; exact cell_one_new w x t
def RowPost (l : List Int) (w : World) (e : Ending) (w' : World) : Prop := ∃ r, e = .returned r ∧ w'.ownsRow w.heap.size 3 1 r l.length (ivals l) ∧ Below w.heap.size w w'
theorem ints_at {w : World} {B : Nat} {A : Option Addr} {n c : Nat} {l : List Int} (h : rdInts w B [.slice A n c] l) {k : Nat} (hk : k < l.length) : ∃ b off, A = some ⟨b, off, none⟩ ∧ b < B ∧ w.cell? ⟨b, off + k, none⟩ = some (.int .i64 (l.getD k 0)) ∧ InI64 (l.getD k 0) := by
  obtain ⟨b, off, rfl, hb, es, hel, hcell, hr⟩ := h.at_ hk
  obtain ⟨rfl, hi⟩ := hr
  have := hcell 0 _ rfl
  rw [Nat.mul_one, Nat.add_zero] at this
  rw [List.getD_eq_getElem?_getD, List.getElem?_eq_getElem hk]
  exact ⟨b, off, rfl, hb, this, hi⟩
def SameRelG {α : Type} (l r : List α) (w : World) (i : Value) (wr : World) : Prop := ∃ k : Nat, k ≤ l.length ∧ i = .int .i64 k ∧ l.take k = r.take k ∧ Qu w wr
theorem strs_at {w : World} {B : Nat} {A : Option Addr} {n c : Nat} {l : List ByteArray} (h : rdStrs w B [.slice A n c] l) {k : Nat} (hk : k < l.length) : ∃ b off, A = some ⟨b, off, none⟩ ∧ b < B ∧ w.cell? ⟨b, off + k, none⟩ = some (.string l[k]) ∧ (l[k]).size ≤ maxLen := by
  obtain ⟨b, off, rfl, hb, es, hel, hcell, hr⟩ := h.at_ hk
  obtain ⟨rfl, hi⟩ := hr
  have := hcell 0 _ rfl
  rw [Nat.mul_one, Nat.add_zero] at this
  exact ⟨b, off, rfl, hb, this, hi⟩
theorem ints_at' {w : World} {B : Nat} {A : Option Addr} {n c : Nat} {l : List Int} (h : rdInts w B [.slice A n c] l) {k : Nat} (hk : k < l.length) : ∃ b off, A = some ⟨b, off, none⟩ ∧ b < B ∧ w.cell? ⟨b, off + k, none⟩ = some (.int .i64 l[k]) ∧ InI64 l[k] := by
  obtain ⟨b, off, rfl, hb, es, hel, hcell, hr⟩ := h.at_ hk
  obtain ⟨rfl, hi⟩ := hr
  have := hcell 0 _ rfl
  rw [Nat.mul_one, Nat.add_zero] at this
  exact ⟨b, off, rfl, hb, this, hi⟩
theorem rdInts_of_own {w : World} {base : Nat} {v : Value} {l : List Int} {n : Nat} (hn : n = l.length) (h : w.ownsRow base 3 1 v n (ivals l)) (hl : ∀ x ∈ l, InI64 x) : rdInts w w.heap.size [v] l := by
  subst hn
  obtain ⟨A, c, rfl, h1, h2, h3⟩ := own_cells h
  refine ⟨A, c, rfl, h1, h2, fun h0 => ?_⟩
  obtain ⟨g, rfl, -, hg, -⟩ := h3 h0
  refine ⟨g, 0, rfl, hg, fun i x hx => ⟨[.int .i64 x], rfl, fun j u hu => ?_, rfl, hl x (List.mem_of_getElem? hx)⟩⟩
  have hil := (List.getElem?_eq_some_iff.1 hx).1
  have hc2 := h.cellAt (g := g) i (by omega)
  cases j with
  | succ j => simp at hu
  | zero =>
    simp at hu; subst hu
    rw [Nat.mul_one, Nat.add_zero, Nat.zero_add, hc2]
    simp [ivals, hx]
theorem rdStrs_of_own {w : World} {base : Nat} {v : Value} {l : List ByteArray} {n : Nat} (hn : n = l.length) (h : w.ownsRow base 9 1 v n (svals l)) (hl : ∀ x ∈ l, x.size ≤ maxLen) : rdStrs w w.heap.size [v] l := by
  subst hn
  obtain ⟨A, c, rfl, h1, h2, h3⟩ := own_cells h
  refine ⟨A, c, rfl, h1, h2, fun h0 => ?_⟩
  obtain ⟨g, rfl, -, hg, -⟩ := h3 h0
  refine ⟨g, 0, rfl, hg, fun i x hx => ⟨[.string x], rfl, fun j u hu => ?_, rfl, hl x (List.mem_of_getElem? hx)⟩⟩
  have hil := (List.getElem?_eq_some_iff.1 hx).1
  have hc2 := h.cellAt (g := g) i (by omega)
  cases j with
  | succ j => simp at hu
  | zero =>
    simp at hu; subst hu
    rw [Nat.mul_one, Nat.add_zero, Nat.zero_add, hc2]
    simp [svals, hx]
theorem info_strQ : (Tryz.prog.info? 9).map (fun i => (i.zero, i.size, i.bytes)) = some (some (.string ByteArray.empty), 1, 16) := by kernel_rfl
theorem svals_snoc (p : List ByteArray) (x : ByteArray) : svals (p ++ [x]) = svals p ++ [.string x] := by simp [svals]
theorem rdSlice.head_ {α : Type} {k : Nat} {R : Rd α} {w : World} {B : Nat} {A : Option Addr} {n c m : Nat} {l : List α} (h : rdSlice k R w B [.slice A n c] l) (hm : m ≤ n) : rdSlice k R w B [.slice A m c] (l.take m) := by
  obtain ⟨A', c', e, h1, h2, h3⟩ := h
  simp only [List.cons.injEq, and_true] at e
  injection e with e1 e2 e3
  subst e1; subst e2; subst e3
  have hl : (l.take m).length = m := by rw [List.length_take]; omega
  refine ⟨A, c, by rw [hl], by omega, h2, fun h0 => ?_⟩
  obtain ⟨b, off, e5, e6, e7⟩ := h3 (by omega)
  refine ⟨b, off, e5, e6, fun i x hx => e7 i x ?_⟩
  rw [List.getElem?_take] at hx
  split at hx
  · exact hx
  · cases hx
theorem rdSlice.cap {α : Type} {k : Nat} {R : Rd α} {w : World} {B : Nat} {A : Option Addr} {n c : Nat} {l : List α} (h : rdSlice k R w B [.slice A n c] l) : n ≤ c ∧ c ≤ 9223372036854775807 := by
  obtain ⟨A', c', e, h1, h2, h3⟩ := h
  simp only [List.cons.injEq, and_true] at e
  injection e with e1 e2 e3
  unfold maxLen at h2
  omega
end Go.Proofs.YtgoapnkdcfcjgaaGreat
