/- 4 texts of this claim, in build order. -/
import Derived.Shelf.Strings.Split
import Derived.Test.YtkgifbnkkmeoiaaGreatDoorProg
import Derived.Test.YtkgifbnkkmeoiaaGreatDoorPdhonageh
import Derived.Test.YtkgifbnkkmeoiaaGreatDoorPcononjpe
import Derived.Test.YtkgifbnkkmeoiaaGreatDoorPlnplcbck
import Derived.Maps.AppendAt
import Derived.OwnWalk
/- strings.SplitN off the shelf (the layings are the kit's own command's print, in plain words; shelf.py put names for numbers). -/
namespace Go.Proofs.YtkgifbnkkmeoiaaGreatDoor
open Go.Shelf
def lays147_ren : Go.Shelf.Ren := ⟨fun | 147 => 113 | 221 => 131 | 268 => 136 | 138 => 137 | 143 => 138 | 195 => 141 | 197 => 142 | 218 => 143 | 219 => 144 | 260 => 145 | 217 => 146 | 225 => 147 | 224 => 148 | 267 => 149 | 266 => 150 | 314 => 151 | n => n, fun | 9 => 9 | 3 => 3 | 31 => 129 | 4 => 4 | 0 => 0 | 105 => 187 | 21 => 21 | 5 => 5 | 46 => 84 | 119 => 191 | 139 => 194 | 138 => 193 | 146 => 195 | 51 => 37 | n => n, fun | 1 => 0 | 3 => 1 | 4 => 2 | n => n⟩
theorem lays147 : Go.Proofs.Lays.n147 Tryz.prog lays147_ren := {
  mixed := by kernel_rfl
  f138 := Tryz.func137.trans (congrArg some (by kernel_rfl))
  f143 := Tryz.func138.trans (congrArg some (by kernel_rfl))
  f147 := Tryz.func113.trans (congrArg some (by kernel_rfl))
  f195 := Tryz.func141.trans (congrArg some (by kernel_rfl))
  f197 := Tryz.func142.trans (congrArg some (by kernel_rfl))
  f217 := Tryz.func146.trans (congrArg some (by kernel_rfl))
  f218 := Tryz.func143.trans (congrArg some (by kernel_rfl))
  f219 := Tryz.func144.trans (congrArg some (by kernel_rfl))
  f221 := Tryz.func131.trans (congrArg some (by kernel_rfl))
  f224 := Tryz.func148.trans (congrArg some (by kernel_rfl))
  f225 := Tryz.func147.trans (congrArg some (by kernel_rfl))
  f260 := Tryz.func145.trans (congrArg some (by kernel_rfl))
  f266 := Tryz.func150.trans (congrArg some (by kernel_rfl))
  f267 := Tryz.func149.trans (congrArg some (by kernel_rfl))
  f268 := Tryz.func136.trans (congrArg some (by kernel_rfl))
  f314 := Tryz.func151.trans (congrArg some (by kernel_rfl))
  t0 := Tryz.underlying0
  a0 := Tryz.isAgg0
  z0 := Tryz.sizeOf0
  v0 := Tryz.zeroValue0
  t3 := Tryz.underlying3
  a3 := Tryz.isAgg3
  z3 := Tryz.sizeOf3
  v3 := Tryz.zeroValue3
  t4 := Tryz.underlying4
  a4 := Tryz.isAgg4
  z4 := Tryz.sizeOf4
  v4 := Tryz.zeroValue4
  t5 := Tryz.underlying5
  a5 := Tryz.isAgg5
  z5 := Tryz.sizeOf5
  v5 := Tryz.zeroValue5
  t9 := Tryz.underlying9
  a9 := Tryz.isAgg9
  z9 := Tryz.sizeOf9
  v9 := Tryz.zeroValue9
  t21 := Tryz.underlying21
  a21 := Tryz.isAgg21
  z21 := Tryz.sizeOf21
  v21 := Tryz.zeroValue21
  t31 := Tryz.underlying129
  a31 := Tryz.isAgg129
  z31 := Tryz.sizeOf129
  v31 := Tryz.zeroValue129
  t46 := Tryz.underlying84
  a46 := Tryz.isAgg84
  z46 := Tryz.sizeOf84
  v46 := Tryz.zeroValue84
  t51 := Tryz.underlying37
  a51 := Tryz.isAgg37
  z51 := Tryz.sizeOf37
  v51 := Tryz.zeroValue37
  t105 := Tryz.underlying187
  a105 := Tryz.isAgg187
  z105 := Tryz.sizeOf187
  v105 := Tryz.zeroValue187
  t119 := Tryz.underlying191
  a119 := Tryz.isAgg191
  z119 := Tryz.sizeOf191
  t138 := Tryz.underlying193
  a138 := Tryz.isAgg193
  z138 := Tryz.sizeOf193
  v138 := Tryz.zeroValue193
  t139 := Tryz.underlying194
  a139 := Tryz.isAgg194
  z139 := Tryz.sizeOf194
  v139 := Tryz.zeroValue194
  t146 := Tryz.underlying195
  a146 := Tryz.isAgg195
  z146 := Tryz.sizeOf195
  v146 := Tryz.zeroValue195
  g1 := by kernel_rfl
  g3 := by kernel_rfl
  g4 := by kernel_rfl }
open Go.RowKit Go.Lib in
theorem strings_SplitN (s sep : ByteArray) (n : Nat) (m : Int) (w : World) (hs : s.size < 4294967281) (hm : w.cell? ⟨0, 0, none⟩ = some (.int .i64 m)) (h1 : 1 ≤ sep.size) (hn : 1 ≤ n) (hn63 : n ≤ 9223372036854775807) :
    Calls Tryz.prog 113 #[.string s, .string sep, .int .i64 n] w fun e w' =>
      e = .returned (.slice (some ⟨w.heap.size, 0, none⟩) (Lib.splitB sep 0 (min n (s.size + 1) - 1) s).length (min n (s.size + 1))) ∧ w' = w.alloc (.cells (Lib.cellsOf (Lib.splitB sep 0 (min n (s.size + 1) - 1) s) (min n (s.size + 1))) 9) := Any.strings_SplitN lays147 (by kernel_rfl) s sep n m w hs hm h1 hn hn63
end Go.Proofs.YtkgifbnkkmeoiaaGreatDoor
/- The words of a search with a function value. -/
namespace Go.Proofs.YtkgifbnkkmeoiaaGreatDoor
open Go.ChangeShapes Go.WideShapes Go.ChangeAt Go.RowKit
set_option linter.unusedVariables false
set_option linter.unusedSimpArgs false

def IdxRelG {α : Type} (p : α → Bool) (l : List α) (w : World) (i : Value) (wr : World) : Prop := ∃ k : Nat, k ≤ l.length ∧ i = .int .i64 k ∧ (l.take k).any p = false ∧ Below w.heap.size w wr
def IdxG {α : Type} (p : α → Bool) (l : List α) (w : World) (e : Ending) (w' : World) : Prop := ∃ i : Int, e = .returned (.int .i64 i) ∧ decide (0 ≤ i) = l.any p ∧ Below w.heap.size w w'
theorem any_take_succ {α : Type} {p : α → Bool} {l : List α} {k : Nat} (hk : k < l.length) : (l.take (k + 1)).any p = ((l.take k).any p || p l[k]) := by
  rw [List.take_succ_eq_append_getElem hk, List.any_append]; simp
theorem any_of_at {α : Type} {p : α → Bool} {l : List α} {k : Nat} (hk : k < l.length) (h : p l[k] = true) : l.any p = true := List.any_eq_true.2 ⟨_, List.getElem_mem hk, h⟩
/-- A function of the program is entered. -/
def Enters (F : FuncId) : Prop := ∀ args W, Sem.run Tryz.prog (callFunc F args) W = .ok (.enter F args) W
/-- What a function value tells of elements that read by R. -/
def Tells {α : Type} (R : Rd α) (F : FuncId) (caps : Array Value) (p : α → Bool) (l : List α) (w : World) : Prop :=
  ∀ x u W, x ∈ l → R W W.heap.size [u] x → Below w.heap.size w W → Calls Tryz.prog F (#[u] ++ caps) W (Gives (.bool (p x)) W)
end Go.Proofs.YtkgifbnkkmeoiaaGreatDoor
/- Schemas and queries in plain words, and how they read. -/
namespace Go.Proofs.YtkgifbnkkmeoiaaGreatDoor
open Go.ChangeShapes Go.WideShapes Go.ChangeAt Go.RowKit Go.Deep
set_option linter.unusedVariables false

abbrev DimX := ByteArray × List ByteArray
abbrev SchemaX := List DimX × List ByteArray × List (List Int)
abbrev FilterX := Int × Int × List (List ByteArray)
abbrev QueryX := List Int × List FilterX
abbrev rdStrs : Rd (List ByteArray) := rdSlice 1 rdStr
abbrev rdInts : Rd (List Int) := rdSlice 1 rdInt
abbrev rdDim : Rd DimX := rdPair 1 rdStr rdStrs
abbrev rdSchema : Rd SchemaX := rdPair 1 (rdSlice 2 rdDim) (rdPair 1 rdStrs (rdSlice 1 rdInts))
abbrev rdFilter : Rd FilterX := rdPair 1 rdInt (rdPair 1 rdInt (rdSlice 1 rdStrs))
abbrev rdQuery : Rd QueryX := rdPair 1 rdInts (rdSlice 3 rdFilter)
theorem good_strs : Good rdStrs := good_slice good_str
theorem good_ints : Good rdInts := good_slice good_int
theorem good_dim : Good rdDim := good_pair good_str good_strs
theorem good_dims : Good (rdSlice 2 rdDim) := good_slice good_dim
theorem good_rows : Good (rdSlice 1 rdInts) := good_slice good_ints
theorem good_paths : Good (rdSlice 1 rdStrs) := good_slice good_strs
theorem good_filter : Good rdFilter := good_pair good_int (good_pair good_int good_paths)
theorem good_filters : Good (rdSlice 3 rdFilter) := good_slice good_filter
def SchemaV (w : World) (B : Nat) (v : Value) (s : SchemaX) : Prop :=
  ∃ A1 c1 A2 c2 A3 c3, v = .agg #[.slice A1 s.1.length c1, .slice A2 s.2.1.length c2, .slice A3 s.2.2.length c3] ∧ rdSlice 2 rdDim w B [.slice A1 s.1.length c1] s.1 ∧ rdStrs w B [.slice A2 s.2.1.length c2] s.2.1 ∧ rdSlice 1 rdInts w B [.slice A3 s.2.2.length c3] s.2.2
def QueryV (w : World) (B : Nat) (v : Value) (q : QueryX) : Prop :=
  ∃ A1 c1 A2 c2, v = .agg #[.slice A1 q.1.length c1, .slice A2 q.2.length c2] ∧ rdInts w B [.slice A1 q.1.length c1] q.1 ∧ rdSlice 3 rdFilter w B [.slice A2 q.2.length c2] q.2
theorem SchemaV.below {w w' : World} {B : Nat} {v : Value} {s : SchemaX} (h : SchemaV w B v s) (hb : Below B w w') : SchemaV w' B v s := by
  obtain ⟨A1, c1, A2, c2, A3, c3, e, h1, h2, h3⟩ := h
  exact ⟨A1, c1, A2, c2, A3, c3, e, good_dims.stays h1 hb, good_strs.stays h2 hb, good_rows.stays h3 hb⟩
theorem SchemaV.more {w : World} {B B' : Nat} {v : Value} {s : SchemaX} (h : SchemaV w B v s) (hb : B ≤ B') : SchemaV w B' v s := by
  obtain ⟨A1, c1, A2, c2, A3, c3, e, h1, h2, h3⟩ := h
  exact ⟨A1, c1, A2, c2, A3, c3, e, good_dims.more h1 hb, good_strs.more h2 hb, good_rows.more h3 hb⟩
theorem SchemaV.on {w w' : World} {v : Value} {s : SchemaX} (h : SchemaV w w.heap.size v s) (hb : Below w.heap.size w w') : SchemaV w' w'.heap.size v s := (h.below hb).more hb.size
theorem QueryV.below {w w' : World} {B : Nat} {v : Value} {q : QueryX} (h : QueryV w B v q) (hb : Below B w w') : QueryV w' B v q := by
  obtain ⟨A1, c1, A2, c2, e, h1, h2⟩ := h
  exact ⟨A1, c1, A2, c2, e, good_ints.stays h1 hb, good_filters.stays h2 hb⟩
theorem QueryV.more {w : World} {B B' : Nat} {v : Value} {q : QueryX} (h : QueryV w B v q) (hb : B ≤ B') : QueryV w B' v q := by
  obtain ⟨A1, c1, A2, c2, e, h1, h2⟩ := h
  exact ⟨A1, c1, A2, c2, e, good_ints.more h1 hb, good_filters.more h2 hb⟩
theorem QueryV.on {w w' : World} {v : Value} {q : QueryX} (h : QueryV w w.heap.size v q) (hb : Below w.heap.size w w') : QueryV w' w'.heap.size v q := (h.below hb).more hb.size
theorem Good.on {α : Type} {R : Rd α} (hg : Good R) {w w' : World} {cs : List Value} {x : α} (h : R w w.heap.size cs x) (hb : Below w.heap.size w w') : R w' w'.heap.size cs x := hg.more (hg.stays h hb) hb.size
theorem rdSlice.open_ {α : Type} {k : Nat} {R : Rd α} {w : World} {B : Nat} {cs : List Value} {l : List α} (h : rdSlice k R w B cs l) : ∃ A c, cs = [.slice A l.length c] ∧ l.length ≤ c ∧ c ≤ 9223372036854775807 := by
  obtain ⟨A, c, h1, h2, h3, -⟩ := h
  unfold maxLen at h3
  exact ⟨A, c, h1, h2, by omega⟩
theorem schema_of_rd {w : World} {B : Nat} {cs : Array Value} {s : SchemaX} (h : rdSchema w B cs.toList s) : SchemaV w B (.agg cs) s := by
  obtain ⟨l1, h1, l2, h2, h3⟩ := h
  obtain ⟨A1, c1, e1, -, -⟩ := h1.open_
  obtain ⟨A2, c2, e2, -, -⟩ := h2.open_
  obtain ⟨A3, c3, e3, -, -⟩ := h3.open_
  rw [e1] at h1; rw [e2] at h2; rw [e3] at h3
  refine ⟨A1, c1, A2, c2, A3, c3, ?_, h1, h2, h3⟩
  have : cs.toList = [.slice A1 s.1.length c1, .slice A2 s.2.1.length c2, .slice A3 s.2.2.length c3] := by
    rw [← List.take_append_drop 1 cs.toList, e1, ← List.take_append_drop 1 (cs.toList.drop 1), e2, e3]
    rfl
  rw [show cs = #[.slice A1 s.1.length c1, .slice A2 s.2.1.length c2, .slice A3 s.2.2.length c3] from Array.toList_inj.1 this]
theorem query_of_rd {w : World} {B : Nat} {cs : Array Value} {q : QueryX} (h : rdQuery w B cs.toList q) : QueryV w B (.agg cs) q := by
  obtain ⟨l1, h1, h2⟩ := h
  obtain ⟨A1, c1, e1, -, -⟩ := h1.open_
  obtain ⟨A2, c2, e2, -, -⟩ := h2.open_
  rw [e1] at h1; rw [e2] at h2
  refine ⟨A1, c1, A2, c2, ?_, h1, h2⟩
  have : cs.toList = [.slice A1 q.1.length c1, .slice A2 q.2.length c2] := by
    rw [← List.take_append_drop 1 cs.toList, e1, e2]
    rfl
  rw [show cs = #[.slice A1 q.1.length c1, .slice A2 q.2.length c2] from Array.toList_inj.1 this]
/-- What lists of texts and of numbers are as slices of values. -/
theorem strs_sl {w : World} {B : Nat} {v : Value} {p : List ByteArray} (h : rdStrs w B [v] p) : Sl w B v (svals p) ∧ StrOk p := by
  refine ⟨rdSlice.sl Value.string (fun es x hx => hx.1) h, fun s hs => ?_⟩
  obtain ⟨i, hi, rfl⟩ := List.mem_iff_getElem.1 hs
  obtain ⟨A, c, e, -, -⟩ := h.open_
  rw [e] at h
  obtain ⟨b, off, -, -, es, -, -, g⟩ := h.at_ hi
  have := g.2
  unfold maxLen at this; omega

/-! ### Plain words -/
def namedB (l : List ByteArray) (most : Nat) : Bool := decide (1 ≤ l.length) && decide (l.length ≤ most) && l.all nameB && decide l.Nodup
def baseX (s : SchemaX) : List Int := s.1.map fun d => (d.2.length : Int)
def coversB (v w : List Int) : Bool := decide (v.length = w.length) && (List.zipWith (fun a b => decide (b ≤ a)) v w).all id
def cornerB (s : SchemaX) (v : List Int) : Bool := coversB (baseX s) v && !(v.any fun n => decide (n < 0))
def mayS (s : SchemaX) : Bool :=
  s.1.all (fun d => namedB d.2 3) && (namedB (s.1.map (·.1)) 3 && namedB s.2.1 2 && decide (s.2.2.length ≤ 6)) && ((List.range s.2.2.length).all fun i => cornerB s (s.2.2.getD i []) && !(decide (s.2.2.getD i [] = baseX s)) && !((s.2.2.take i).any fun x => decide (s.2.2.getD i [] = x)))
def inQ (n m : Int) : Bool := decide (0 ≤ n) && decide (n ≤ m)
def plainF (f : FilterX) : Bool := (inQ f.1 2 && inQ f.2.1 3 && decide (f.2.2.length ≤ 6)) && !(f.2.2.any fun p => !mayB p)
def plainQ (q : QueryX) : Bool := (decide (q.1.length ≤ 3) && decide (q.2.length ≤ 3) && !(q.1.any fun n => !inQ n 3)) && q.2.all plainF
def levelsAt (s : SchemaX) (d : Int) : Int := ((s.1.getD d.toNat (ByteArray.empty, [])).2.length : Int)
def okF (s : SchemaX) (f : FilterX) : Bool := (decide (f.1 < s.1.length) && decide (1 ≤ f.2.1) && decide (f.2.1 ≤ levelsAt s f.1) && decide (f.2.2 ≠ [])) && !(f.2.2.any fun p => decide ((p.length : Int) ≠ f.2.1))
def mayQ (s : SchemaX) (q : QueryX) : Int := if !mayS s then 11 else if !(plainQ q && cornerB s q.1) then 16 else if q.2.all (okF s) then 0 else 16
def underB (p q : List ByteArray) : Bool := decide (q.length ≤ p.length) && decide (p.take q.length = q)
def passF (paths : List (List ByteArray)) (f : FilterX) : Bool := inQ f.1 ((paths.length : Int) - 1) && f.2.2.any (fun m => underB (paths.getD f.1.toNat []) m)
def passesB (q : QueryX) (paths : List (List ByteArray)) : Bool := q.2.all (passF paths)
def upS (p : List ByteArray) (n : Int) : List ByteArray := p.take n.toNat
def keyQ (q : QueryX) (paths : List (List ByteArray)) : List (List ByteArray) := (List.range q.1.length).map fun i => if i < paths.length then upS (paths.getD i []) (q.1.getD i 0) else []
def setMax (l : List Int) (f : FilterX) : List Int := l.set f.1.toNat (max (l.getD f.1.toNat 0) f.2.1)
def needQ (q : QueryX) : List Int := q.2.foldl setMax q.1
end Go.Proofs.YtkgifbnkkmeoiaaGreatDoor
/- Small general facts: a function value entered, cells of slices, rows of one's own read. -/
namespace Go.Proofs.YtkgifbnkkmeoiaaGreatDoor
open Go.ChangeShapes Go.WideShapes Go.ChangeAt Go.RowKit
set_option linter.unusedVariables false
set_option linter.unusedSimpArgs false

theorem enters_of {F : FuncId} {fn : Func} {c : Code} (hf : Tryz.prog.funcs[F]? = some fn) (hname : (fn.name == "runtime.NumGoroutine") = false) (hb : fn.body = some c) : Enters F := fun args w => by
  have h1 : fn.name ≠ "runtime.NumGoroutine" := by simpa using hname
  simp [callFunc, hf, h1, hb]
theorem nodup_snoc {l : List ByteArray} {x : ByteArray} : (l ++ [x]).Nodup ↔ l.Nodup ∧ x ∉ l := by
  rw [List.nodup_append]
  constructor
  · rintro ⟨h1, -, h3⟩; exact ⟨h1, fun h => h3 x h x (by simp) rfl⟩
  · rintro ⟨h1, h2⟩; exact ⟨h1, by simp, fun a ha b hb => by simp at hb; rw [hb]; rintro rfl; exact h2 ha⟩
theorem cell_one_at' (w : World) (x : Value) (t : TypeId) {N : Nat} (hN : w.heap.size = N) : ∀ j u, [x][j]? = some u → (w.alloc (.cells #[x] t)).cell? ((⟨N, 0, none⟩ : Addr).add j) = some u := by
  subst hN; exact cell_one_new w x t
def RowPost (l : List Int) (w : World) (e : Ending) (w' : World) : Prop := ∃ r, e = .returned r ∧ w'.ownsRow w.heap.size 3 1 r l.length (ivals l) ∧ Below w.heap.size w w'
theorem ints_at {w : World} {B : Nat} {A : Option Addr} {n c : Nat} {l : List Int} (h : rdInts w B [.slice A n c] l) {k : Nat} (hk : k < l.length) : ∃ b off, A = some ⟨b, off, none⟩ ∧ b < B ∧ w.cell? ⟨b, off + k, none⟩ = some (.int .i64 (l.getD k 0)) ∧ InI64 (l.getD k 0) := by
  obtain ⟨b, off, rfl, hb, es, hel, hcell, hr⟩ := h.at_ hk
  obtain ⟨rfl, hi⟩ := hr
  have := hcell 0 _ rfl
  rw [Nat.mul_one, Nat.add_zero] at this
  rw [List.getD_eq_getElem?_getD, List.getElem?_eq_getElem hk]
  exact ⟨b, off, rfl, hb, this, hi⟩
def SameRelG {α : Type} (l r : List α) (w : World) (i : Value) (wr : World) : Prop := ∃ k : Nat, k ≤ l.length ∧ i = .int .i64 k ∧ l.take k = r.take k ∧ Qu w wr
theorem strs_at {w : World} {B : Nat} {A : Option Addr} {n c : Nat} {l : List ByteArray} (h : rdStrs w B [.slice A n c] l) {k : Nat} (hk : k < l.length) : ∃ b off, A = some ⟨b, off, none⟩ ∧ b < B ∧ w.cell? ⟨b, off + k, none⟩ = some (.string l[k]) ∧ (l[k]).size ≤ maxLen := by
  obtain ⟨b, off, rfl, hb, es, hel, hcell, hr⟩ := h.at_ hk
  obtain ⟨rfl, hi⟩ := hr
  have := hcell 0 _ rfl
  rw [Nat.mul_one, Nat.add_zero] at this
  exact ⟨b, off, rfl, hb, this, hi⟩
theorem ints_at' {w : World} {B : Nat} {A : Option Addr} {n c : Nat} {l : List Int} (h : rdInts w B [.slice A n c] l) {k : Nat} (hk : k < l.length) : ∃ b off, A = some ⟨b, off, none⟩ ∧ b < B ∧ w.cell? ⟨b, off + k, none⟩ = some (.int .i64 l[k]) ∧ InI64 l[k] := by
  obtain ⟨b, off, rfl, hb, es, hel, hcell, hr⟩ := h.at_ hk
  obtain ⟨rfl, hi⟩ := hr
  have := hcell 0 _ rfl
  rw [Nat.mul_one, Nat.add_zero] at this
  exact ⟨b, off, rfl, hb, this, hi⟩
theorem rdInts_of_own {w : World} {base : Nat} {v : Value} {l : List Int} {n : Nat} (hn : n = l.length) (h : w.ownsRow base 3 1 v n (ivals l)) (hl : ∀ x ∈ l, InI64 x) : rdInts w w.heap.size [v] l := by
  subst hn
  obtain ⟨A, c, rfl, h1, h2, h3⟩ := own_cells h
  refine ⟨A, c, rfl, h1, h2, fun h0 => ?_⟩
  obtain ⟨g, rfl, -, hg, -⟩ := h3 h0
  refine ⟨g, 0, rfl, hg, fun i x hx => ⟨[.int .i64 x], rfl, fun j u hu => ?_, rfl, hl x (List.mem_of_getElem? hx)⟩⟩
  have hil := (List.getElem?_eq_some_iff.1 hx).1
  have hc2 := h.cellAt (g := g) i (by omega)
  cases j with
  | succ j => simp at hu
  | zero =>
    simp at hu; subst hu
    rw [Nat.mul_one, Nat.add_zero, Nat.zero_add, hc2]
    simp [ivals, hx]
theorem rdStrs_of_own {w : World} {base : Nat} {v : Value} {l : List ByteArray} {n : Nat} (hn : n = l.length) (h : w.ownsRow base 9 1 v n (svals l)) (hl : ∀ x ∈ l, x.size ≤ maxLen) : rdStrs w w.heap.size [v] l := by
  subst hn
  obtain ⟨A, c, rfl, h1, h2, h3⟩ := own_cells h
  refine ⟨A, c, rfl, h1, h2, fun h0 => ?_⟩
  obtain ⟨g, rfl, -, hg, -⟩ := h3 h0
  refine ⟨g, 0, rfl, hg, fun i x hx => ⟨[.string x], rfl, fun j u hu => ?_, rfl, hl x (List.mem_of_getElem? hx)⟩⟩
  have hil := (List.getElem?_eq_some_iff.1 hx).1
  have hc2 := h.cellAt (g := g) i (by omega)
  cases j with
  | succ j => simp at hu
  | zero =>
    simp at hu; subst hu
    rw [Nat.mul_one, Nat.add_zero, Nat.zero_add, hc2]
    simp [svals, hx]
theorem info_strQ : (Tryz.prog.info? 9).map (fun i => (i.zero, i.size, i.bytes)) = some (some (.string ByteArray.empty), 1, 16) := by kernel_rfl
theorem svals_snoc (p : List ByteArray) (x : ByteArray) : svals (p ++ [x]) = svals p ++ [.string x] := by simp [svals]
theorem rdSlice.head_ {α : Type} {k : Nat} {R : Rd α} {w : World} {B : Nat} {A : Option Addr} {n c m : Nat} {l : List α} (h : rdSlice k R w B [.slice A n c] l) (hm : m ≤ n) : rdSlice k R w B [.slice A m c] (l.take m) := by
  obtain ⟨A', c', e, h1, h2, h3⟩ := h
  simp only [List.cons.injEq, and_true] at e
  injection e with e1 e2 e3
  subst e1; subst e2; subst e3
  have hl : (l.take m).length = m := by rw [List.length_take]; omega
  refine ⟨A, c, by rw [hl], by omega, h2, fun h0 => ?_⟩
  obtain ⟨b, off, e5, e6, e7⟩ := h3 (by omega)
  refine ⟨b, off, e5, e6, fun i x hx => e7 i x ?_⟩
  rw [List.getElem?_take] at hx
  split at hx
  · exact hx
  · cases hx
theorem rdSlice.cap {α : Type} {k : Nat} {R : Rd α} {w : World} {B : Nat} {A : Option Addr} {n c : Nat} {l : List α} (h : rdSlice k R w B [.slice A n c] l) : n ≤ c ∧ c ≤ 9223372036854775807 := by
  obtain ⟨A', c', e, h1, h2, h3⟩ := h
  simp only [List.cons.injEq, and_true] at e
  injection e with e1 e2 e3
  unfold maxLen at h2
  omega
end Go.Proofs.YtkgifbnkkmeoiaaGreatDoor
