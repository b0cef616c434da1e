/- 4 texts of this claim, in build order. -/
import Derived.Test.YtkdpclllenbgfaaDoorPckcmpmog
import Derived.Test.YtkdpclllenbgfaaDoorPgeebagdj
import Derived.Test.YtkdpclllenbgfaaDoorPfgdaeadl
/- Arguments opened: lists of texts and of numbers, schemas. -/
namespace Go.Proofs.YtkdpclllenbgfaaDoor
open Go.ChangeShapes Go.WideShapes Go.ChangeAt Go.RowKit Go.Deep
set_option linter.unusedVariables false
set_option linter.unusedSimpArgs false

theorem opens_intsQ : Opens Tryd.prog 29 1 rdInts := opens_slice (e := 3) good_int Tryd.underlying29 (opens_int Tryd.underlying3 (by kernel_rfl)) (by kernel_rfl) (by omega)
theorem opens_pathsQ : Opens Tryd.prog 55 1 (rdSlice 1 rdStrs) := opens_slice (e := 41) good_strs Tryd.underlying55 opens_strsQ (by kernel_rfl) (by omega)
theorem opens_rowsQ : Opens Tryd.prog 42 1 (rdSlice 1 rdInts) := opens_slice (e := 29) good_ints Tryd.underlying42 opens_intsQ (by kernel_rfl) (by omega)
theorem opens_dim : Opens Tryd.prog 64 2 rdDim := by
  refine opens_struct (k := 2) Tryd.underlying64 (by kernel_rfl) ?_
  exact opensF_cons (k2 := 1) (by rfl) (opens_str Tryd.underlying9 (by kernel_rfl)) (opensF_one (by rfl) opens_strsQ)
theorem opens_dims : Opens Tryd.prog 40 1 (rdSlice 2 rdDim) := opens_slice (e := 64) good_dim Tryd.underlying40 opens_dim (by kernel_rfl) (by omega)
theorem opens_schema : Opens Tryd.prog 44 3 rdSchema := by
  refine opens_struct (k := 3) Tryd.underlying44 (by kernel_rfl) ?_
  exact opensF_cons (k2 := 2) (by rfl) opens_dims (opensF_cons (k2 := 1) (by rfl) opens_strsQ (opensF_one (by rfl) opens_rowsQ))
theorem strs_sz {w : World} {B : Nat} {cs : List Value} {p : List ByteArray} (h : rdStrs w B cs p) : ∀ s ∈ p, s.size ≤ maxLen := by
  intro s hs
  obtain ⟨i, hi, rfl⟩ := List.mem_iff_getElem.1 hs
  obtain ⟨A, c, e, -, -⟩ := h.open_
  rw [e] at h
  exact (strs_at h hi).elim fun b h => h.elim fun off h => h.2.2.2
theorem paths_sz {w : World} {B : Nat} {cs : List Value} {l : List (List ByteArray)} (h : rdSlice 1 rdStrs w B cs l) : ∀ p ∈ l, ∀ s ∈ p, s.size ≤ maxLen := by
  intro p hp
  obtain ⟨i, hi, rfl⟩ := List.mem_iff_getElem.1 hp
  obtain ⟨A, c, e, -, -⟩ := h.open_
  rw [e] at h
  obtain ⟨b, off, AM, cM, -, -, -, h3⟩ := paths_at h hi
  exact strs_sz h3
end Go.Proofs.YtkdpclllenbgfaaDoor
/- Queries as arguments; few and what comes of it. -/
namespace Go.Proofs.YtkdpclllenbgfaaDoor
open Go.ChangeShapes Go.WideShapes Go.ChangeAt Go.RowKit
set_option linter.unusedVariables false
set_option linter.unusedSimpArgs false

theorem opens_filter : Opens Tryd.prog 57 3 rdFilter := by
  refine opens_struct (k := 3) Tryd.underlying57 (by kernel_rfl) ?_
  exact opensF_cons (k2 := 2) (by rfl) (opens_int Tryd.underlying3 (by kernel_rfl)) (opensF_cons (k2 := 1) (by rfl) (opens_int Tryd.underlying3 (by kernel_rfl)) (opensF_one (by rfl) opens_pathsQ))
theorem opens_filters : Opens Tryd.prog 30 1 (rdSlice 3 rdFilter) := opens_slice (e := 57) good_filter Tryd.underlying30 opens_filter (by kernel_rfl) (by omega)
theorem opens_query : Opens Tryd.prog 32 2 rdQuery := by
  refine opens_struct (k := 2) Tryd.underlying32 (by kernel_rfl) ?_
  exact opensF_cons (k2 := 1) (by rfl) opens_intsQ (opensF_one (by rfl) opens_filters)
theorem few_v {w1 W1 : World} {base B : Nat} {q : QueryX} {A1 A2 : Option Addr} {c1 c2 : Nat} (hr : rdInts w1 B [.slice A1 q.1.length c1] q.1) (hf : FRow w1 base B (.slice A2 q.2.length c2) q.2) (hi : ∀ f ∈ q.2, InI64 f.1 ∧ InI64 f.2.1)
    (hb : Below B w1 W1) (k : ∀ g, base ≤ g → g < w1.heap.size → W1.heap[g]? = w1.heap[g]?) (hB : B ≤ W1.heap.size) : QueryV W1 W1.heap.size (.agg #[.slice A1 q.1.length c1, .slice A2 q.2.length c2]) q :=
  ⟨A1, c1, A2, c2, rfl, good_ints.more (good_ints.stays hr hb) hB, ((hf.kept hb k).rows hB (Nat.le_refl _) hi).1⟩
theorem few_len (q : QueryX) : (fewQ q).1.length ≤ 6 ∧ (fewQ q).2.length ≤ 5 := by
  unfold fewQ; simp only [List.length_take, List.length_map]; omega
end Go.Proofs.YtkdpclllenbgfaaDoor
/- The laws' small: a schema with few of all. -/
namespace Go.Proofs.YtkdpclllenbgfaaDoor
open Go.ChangeShapes Go.WideShapes Go.ChangeAt Go.RowKit
set_option linter.unusedVariables false
set_option linter.unusedSimpArgs false

def smallS (s : SchemaX) : SchemaX := (s.1.take 6, s.2.1.take 6, s.2.2.take 9)
def SmallPost (s : SchemaX) (B : Nat) (w : World) (e : Ending) (w' : World) : Prop :=
  ∃ A1 c1 A2 c2 A3 c3, e = .returned (.agg #[.slice A1 s.1.length c1, .slice A2 s.2.1.length c2, .slice A3 s.2.2.length c3]) ∧ SchemaV w' B (.agg #[.slice A1 s.1.length c1, .slice A2 s.2.1.length c2, .slice A3 s.2.2.length c3]) s ∧ Below w.heap.size w w'
set_option maxRecDepth 100000 in
set_option maxHeartbeats 3200000 in
theorem small_any (v : Value) (s : SchemaX) (w : World) (B : Nat) (hB : B ≤ w.heap.size) (hv : SchemaV w B v s) :
    Calls Tryd.prog 13 #[v] w (SmallPost (smallS s) B w) := by
  obtain ⟨A1, c1, A2, c2, A3, c3, rfl, h1, h2, h3⟩ := hv
  obtain ⟨hc1, hm1⟩ := h1.cap
  obtain ⟨hc2, hm2⟩ := h2.cap
  obtain ⟨hc3, hm3⟩ := h3.cap
  obtain ⟨n1, e1, r1, w1⟩ := cut_ways (m := 6) h1
  obtain ⟨n2, e2, r2, w2⟩ := cut_ways (m := 6) h2
  obtain ⟨n3, e3, r3, w3⟩ := cut_ways (m := 9) h3
  have hfin : ∀ W', Below w.heap.size w W' → SmallPost (smallS s) B w (.returned (.agg #[.slice A1 n1 c1, .slice A2 n2 c2, .slice A3 n3 c3])) W' := fun W' hb => by
    refine ⟨A1, c1, A2, c2, A3, c3, ?_, ?_, hb⟩
    · unfold smallS; rw [← e1, ← e2, ← e3]
    · refine ⟨A1, c1, A2, c2, A3, c3, rfl, ?_, ?_, ?_⟩
      · have := good_dims.stays r1 (hb.mono hB); unfold smallS; rwa [← e1]
      · have := good_strs.stays r2 (hb.mono hB); unfold smallS; rwa [← e2]
      · have := good_rows.stays r3 (hb.mono hB); unfold smallS; rwa [← e3]
  have HFIN := hid hfin
  generalize s.1.length = k1 at *
  generalize s.2.1.length = k2 at *
  generalize s.2.2.length = k3 at *
  clear h1 h2 h3 e1 e2 e3 r1 r2 r3 hfin
  go_enter Tryd.func13, Tryd.ntmps13
  rcases w1 with ⟨a1, b1, rfl⟩ | ⟨a1, rfl⟩ <;> rcases w2 with ⟨a2, b2, rfl⟩ | ⟨a2, rfl⟩ <;> rcases w3 with ⟨a3, b3, rfl⟩ | ⟨a3, rfl⟩
  all_goals
    go_wp2
    exact bodyPost_ret (by simp [results, Tryd.results13, go_sem]; done) rfl (HFIN.out _ ((bl1 w _).alloc (by simp) _))
end Go.Proofs.YtkdpclllenbgfaaDoor
/- Behind small and few: the two boxes. -/
namespace Go.Proofs.YtkdpclllenbgfaaDoor
open Go.ChangeShapes Go.WideShapes Go.ChangeAt Go.RowKit
set_option linter.unusedVariables false
set_option linter.unusedSimpArgs false

/-- Behind small and few: the two boxes, what lies in them. -/
structure Two (w W : World) (s : SchemaX) (q : QueryX) (S1 S2 S3 Q1 Q2 : Value) : Prop where
  lt : w.heap.size + 1 < W.heap.size
  b : Below w.heap.size w W
  s0 : W.cell? ⟨w.heap.size, 0, none⟩ = some S1
  s1 : W.cell? ⟨w.heap.size, 1, none⟩ = some S2
  s2 : W.cell? ⟨w.heap.size, 2, none⟩ = some S3
  q0 : W.cell? ⟨w.heap.size + 1, 0, none⟩ = some Q1
  q1 : W.cell? ⟨w.heap.size + 1, 1, none⟩ = some Q2
  sv : SchemaV W W.heap.size (.agg #[S1, S2, S3]) s
  qv : QueryV W W.heap.size (.agg #[Q1, Q2]) q
theorem Two.on {w W W' : World} {s : SchemaX} {q : QueryX} {S1 S2 S3 Q1 Q2 : Value} (h : Two w W s q S1 S2 S3 Q1 Q2) (hb : Below W.heap.size W W') : Two w W' s q S1 S2 S3 Q1 Q2 :=
  ⟨Nat.lt_of_lt_of_le h.lt hb.size, h.b.trans (hb.mono h.b.size), cellK hb (by have := h.lt; omega) h.s0, cellK hb (by have := h.lt; omega) h.s1, cellK hb (by have := h.lt; omega) h.s2, cellK hb h.lt h.q0, cellK hb h.lt h.q1, h.sv.on hb, h.qv.on hb⟩
theorem small_len (s : SchemaX) : (smallS s).1.length ≤ 6 := by unfold smallS; simp only [List.length_take]; omega
end Go.Proofs.YtkdpclllenbgfaaDoor
