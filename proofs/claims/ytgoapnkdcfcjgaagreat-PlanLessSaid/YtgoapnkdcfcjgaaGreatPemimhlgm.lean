/- 1 text of this claim, in build order. -/
import Derived.Test.YtgoapnkdcfcjgaaGreatPaobnkaai
import Derived.Test.YtgoapnkdcfcjgaaGreatPcfkjodbd
/- What is read of a lattice: Len, Schema, a fact's key. -/
namespace Go.Proofs.YtgoapnkdcfcjgaaGreat
open Go.ChangeShapes Go.WideShapes Go.ChangeAt Go.RowKit
set_option linter.unusedVariables false
set_option linter.unusedSimpArgs false

theorem LatW.csAt {w : World} {H p : Nat} {Y : Lay} {l : LatX} (h : LatW w H p Y l) {v : Nat} (hv : v < l.cs.length) :
    ∃ g c, Y.CS = .slice (some ⟨g, 0, none⟩) l.cs.length c ∧ l.cs.length ≤ c ∧ c ≤ maxLen ∧ H ≤ g ∧ g < w.heap.size ∧ w.cell? ⟨g, v, none⟩ = some (.pointer (some ⟨Y.cq v, 0, none⟩)) ∧ w.frozen? ⟨g, v, none⟩ = false := by
  have h0 := h.cs
  obtain ⟨A, c, e, h1, h2, h3⟩ := own_cells2 h0
  obtain ⟨g, rfl, hg, hgs, -, hc⟩ := h3 (by omega)
  rw [e] at h0
  refine ⟨g, c, e, h1, h2, hg, hgs, ?_, h0.frozenAt v⟩
  rw [hc v (by omega), ptrs_at hv]
theorem LatW.dsAt {w : World} {H p : Nat} {Y : Lay} {l : LatX} (h : LatW w H p Y l) {v : Nat} (hv : v < l.ds.length) :
    ∃ g c, Y.DS = .slice (some ⟨g, 0, none⟩) l.ds.length c ∧ l.ds.length ≤ c ∧ c ≤ maxLen ∧ H ≤ g ∧ g < w.heap.size ∧ w.cell? ⟨g, v, none⟩ = some (.pointer (some ⟨Y.dp v, 0, none⟩)) ∧ w.frozen? ⟨g, v, none⟩ = false := by
  have h0 := h.ds
  obtain ⟨A, c, e, h1, h2, h3⟩ := own_cells2 h0
  obtain ⟨g, rfl, hg, hgs, -, hc⟩ := h3 (by omega)
  rw [e] at h0
  refine ⟨g, c, e, h1, h2, hg, hgs, ?_, h0.frozenAt v⟩
  rw [hc v (by omega), ptrs_at hv]
def LenLP (n : Nat) (w : World) (e : Ending) (w' : World) : Prop := e = .returned (.tuple #[.int .i64 n, .int .i64 0]) ∧ Below w.heap.size w w'
set_option maxRecDepth 100000 in
set_option maxHeartbeats 1600000 in
theorem lenL_any (H p : Nat) (Y : Lay) (l : LatX) (v : Nat) (w : World) (h : LatW w H p Y l) (hv : v < l.cs.length) (hc : l.cs.length = (viewsX l.s).length) (hv9 : v ≤ 1000) :
    Calls Tryz.prog 16 #[.pointer (some ⟨p, 0, none⟩), .int .i64 (v : Int)] w (LenLP (l.cs.getD v []).length w) := by
  obtain ⟨g, c, hCS, hc1, hc2, hg, hgs, hcell, -⟩ := h.csAt hv
  obtain ⟨AV, cV, hV, hcV, hmV⟩ := h.views.open_
  simp only [List.cons.injEq, and_true] at hV
  have c3 := h.c3; have c5 := h.c5
  rw [hV] at c3
  rw [hCS] at c5
  rw [← hc] at c3 hcV
  have HLN := hid (fun W (hq : Below w.heap.size w W) => len_any (Y.cD v) (Y.cq v) (Y.cm v) l.s.1.length l.s.2.1.length (l.cs.getD v []) W ((h.cub v hv).below hq))
  unfold maxLen at hc2
  generalize (l.cs.getD v []).length = n at *
  clear h hCS hV
  generalize l.cs.length = m at *
  go_enter Tryz.func16, Tryz.ntmps16
  go_wp2_with fail
  (with_reducible refine (HLN.out _ (Below.refl _ _)).mono ?_)
  rintro e w2 ⟨rfl, hq⟩
  have HB := hid (hq.below w.heap.size)
  clear hq
  go_wp2
  go_ret2
  exact ⟨rfl, HB.out⟩
def OwnLP (l : LatX) (w : World) (e : Ending) (w' : World) : Prop :=
  ∃ v, e = .returned v ∧ SchemaV w' w'.heap.size v l.s ∧ Below w.heap.size w w'
set_option maxRecDepth 100000 in
set_option maxHeartbeats 1600000 in
theorem schemaL_any (H p : Nat) (Y : Lay) (l : LatX) (w : World) (h : LatW w H p Y l) (hm : mayS l.s = true) :
    Calls Tryz.prog 28 #[.pointer (some ⟨p, 0, none⟩)] w (OwnLP l w) := by
  obtain ⟨⟨hd1, hd3⟩, ⟨hm1, hm2⟩, hdl⟩ := mayS_sizes hm
  obtain ⟨hv6, hvl⟩ := mayS_views hm
  obtain ⟨A1, c1, A2, c2, A3, c3, e, h1, h2, h3⟩ := h.sch.rd h.sin
  have hv := h.sch.rd h.sin
  rw [e] at hv
  injection e with e
  have e1 : Y.S1 = .slice A1 l.s.1.length c1 := by have := congrArg (fun a : Array Value => a[0]?) e; simpa using this
  have e2 : Y.S2 = .slice A2 l.s.2.1.length c2 := by have := congrArg (fun a : Array Value => a[1]?) e; simpa using this
  have e3 : Y.S3 = .slice A3 l.s.2.2.length c3 := by have := congrArg (fun a : Array Value => a[2]?) e; simpa using this
  obtain ⟨W1, hW1⟩ : ∃ W, W = w.alloc (.cells #[.slice none 0 0, .slice none 0 0, .slice none 0 0] 26) := ⟨_, rfl⟩
  obtain ⟨K, hK⟩ : ∃ K, K = w.heap.size := ⟨_, rfl⟩
  have g1 : Below K w W1 := by rw [hW1, hK]; exact bl1 _ _
  have z1 : W1.heap.size = K + 1 := by rw [hW1, hK]; simp
  have p0 : W1.cell? ⟨K, 0, none⟩ = some (.slice none 0 0) := by rw [hW1, hK]; simp [go_sem]
  have p1 : W1.cell? ⟨K, 1, none⟩ = some (.slice none 0 0) := by rw [hW1, hK]; simp [go_sem]
  have p2 : W1.cell? ⟨K, 2, none⟩ = some (.slice none 0 0) := by rw [hW1, hK]; simp [go_sem]
  have f0 : W1.frozen? ⟨K, 0, none⟩ = false := by rw [hW1, hK]; simp [go_sem]
  have f1 : W1.frozen? ⟨K, 1, none⟩ = false := by rw [hW1, hK]; simp [go_sem]
  have f2 : W1.frozen? ⟨K, 2, none⟩ = false := by rw [hW1, hK]; simp [go_sem]
  rw [← hK] at hv
  have hp : p < K := by rw [hK]; exact h.pl
  have q0 := cellK g1 hp h.c0; have q1 := cellK g1 hp h.c1; have q2 := cellK g1 hp h.c2
  rw [e1] at q0; rw [e2] at q1; rw [e3] at q2
  have HOWN := hid (own_any _ l.s W1 ((hv.below g1).more (by omega)) (by omega) (by omega) (fun x hx => by rw [hvl x hx]; omega) (by omega) (fun d hd => by have := hdl d hd; omega))
  have HIN := hid h.sin
  have HW1 := hid hW1; have G1 := hid g1; have HK := hid hK; have Z1 := hid z1
  unfold OwnLP
  rw [← hK]
  clear h e e1 e2 e3 h1 h2 h3 hv hW1 g1 hK z1 hdl hvl hm
  generalize hs : l.s = s at *
  clear hs
  go_enter Tryz.func28, Tryz.ntmps28
  go_upto_region 1 with (fail)
  rw [← HW1.out, ← HK.out]
  go_wp2_with fail
  (with_reducible refine HOWN.out.mono ?_)
  rintro e w2 ⟨O1, d1, O2, d2, O3, d3, rfl, ho, hb⟩
  have hlt : K < W1.heap.size := by rw [Z1.out]; omega
  have k0 := cellK hb hlt p0; have k1 := cellK hb hlt p1; have k2 := cellK hb hlt p2
  have y0 := frozenK hb hlt f0; have y1 := frozenK hb hlt f1; have y2 := frozenK hb hlt f2
  have HO := hid ho; have HB := hid hb
  have Z2 := hid (show K + 1 ≤ w2.heap.size by have := hb.size; have h := Z1.out; omega)
  clear ho hb p0 p1 p2 f0 f1 f2 q0 q1 q2
  go_wp2
  obtain ⟨W8, hW8⟩ : ∃ W, W = ((w2.setCell ⟨K, 0, none⟩ (.slice O1 s.1.length d1)).setCell ⟨K, 1, none⟩ (.slice O2 s.2.1.length d2)).setCell ⟨K, 2, none⟩ (.slice O3 s.2.2.length d3) := ⟨_, rfl⟩
  rw [← hW8]
  have s0 : W8.cell? ⟨K, 0, none⟩ = some (.slice O1 s.1.length d1) := by rw [hW8]; exact cell_beside (by omega) (cell_beside (by omega) (cell_here k0))
  have s1 : W8.cell? ⟨K, 1, none⟩ = some (.slice O2 s.2.1.length d2) := by rw [hW8]; exact cell_beside (by omega) (cell_here (cell_beside (by omega) k1))
  have s2 : W8.cell? ⟨K, 2, none⟩ = some (.slice O3 s.2.2.length d3) := by rw [hW8]; exact cell_here (cell_beside (by omega) (cell_beside (by omega) k2))
  have b8 : Below K w W8 := by
    rw [hW8]
    exact (((G1.out.trans (HB.out.mono (Nat.le_of_lt hlt))).setCell (Nat.le_refl K) _).setCell (Nat.le_refl K) _).setCell (Nat.le_refl K) _
  have hkeep : ∀ g, W1.heap.size ≤ g → g < w2.heap.size → W8.heap[g]? = w2.heap[g]? := fun g h1 h2 => by
    have := Z1.out
    rw [hW8]
    exact (Below.heap_setCell _ _ _ g (by simp; omega)).trans ((Below.heap_setCell _ _ _ g (by simp; omega)).trans (Below.heap_setCell _ _ _ g (by simp; omega)))
  have hrd : SchemaV W8 W8.heap.size (.agg #[.slice O1 s.1.length d1, .slice O2 s.2.1.length d2, .slice O3 s.2.2.length d3]) s :=
    SchO.rd ⟨HO.out.1.range hkeep, own_range HO.out.2.1 hkeep, HO.out.2.2.range hkeep⟩ HIN.out
  refine bodyPost_ret (v := .agg #[.slice O1 s.1.length d1, .slice O2 s.2.1.length d2, .slice O3 s.2.2.length d3]) ?_ rfl ?_
  · simp [results, Tryz.results28, go_sem, s0, s1, s2]
  · exact ⟨_, rfl, hrd, b8⟩
end Go.Proofs.YtgoapnkdcfcjgaaGreat
