/- The laws' small: a schema with few of all. -/
import Derived.Test.YtompjcadhodapaaQAt
import Derived.Test.YtompjcadhodapaaOpens
namespace Go.Proofs.Ytompjcadhodapaa
open Go.ChangeShapes Go.WideShapes Go.ChangeAt Go.RowKit
set_option linter.unusedVariables false
set_option linter.unusedSimpArgs false

def smallS (s : SchemaX) : SchemaX := (s.1.take 6, s.2.1.take 6, s.2.2.take 9)
def SmallPost (s : SchemaX) (B : Nat) (w : World) (e : Ending) (w' : World) : Prop :=
  ∃ A1 c1 A2 c2 A3 c3, e = .returned (.agg #[.slice A1 s.1.length c1, .slice A2 s.2.1.length c2, .slice A3 s.2.2.length c3]) ∧ SchemaV w' B (.agg #[.slice A1 s.1.length c1, .slice A2 s.2.1.length c2, .slice A3 s.2.2.length c3]) s ∧ Below w.heap.size w w'
set_option maxRecDepth 100000 in
set_option maxHeartbeats 3200000 in
theorem small_any (v : Value) (s : SchemaX) (w : World) (B : Nat) (hB : B ≤ w.heap.size) (hv : SchemaV w B v s) :
    Calls Try.prog 7 #[v] w (SmallPost (smallS s) B w) := by
  obtain ⟨A1, c1, A2, c2, A3, c3, rfl, h1, h2, h3⟩ := hv
  obtain ⟨hc1, hm1⟩ := h1.cap
  obtain ⟨hc2, hm2⟩ := h2.cap
  obtain ⟨hc3, hm3⟩ := h3.cap
  obtain ⟨n1, e1, r1, w1⟩ := cut_ways (m := 6) h1
  obtain ⟨n2, e2, r2, w2⟩ := cut_ways (m := 6) h2
  obtain ⟨n3, e3, r3, w3⟩ := cut_ways (m := 9) h3
  have hfin : ∀ W', Below w.heap.size w W' → SmallPost (smallS s) B w (.returned (.agg #[.slice A1 n1 c1, .slice A2 n2 c2, .slice A3 n3 c3])) W' := fun W' hb => by
    refine ⟨A1, c1, A2, c2, A3, c3, ?_, ?_, hb⟩
    · unfold smallS; rw [← e1, ← e2, ← e3]
    · refine ⟨A1, c1, A2, c2, A3, c3, rfl, ?_, ?_, ?_⟩
      · have := good_dims.stays r1 (hb.mono hB); unfold smallS; rwa [← e1]
      · have := good_strs.stays r2 (hb.mono hB); unfold smallS; rwa [← e2]
      · have := good_rows.stays r3 (hb.mono hB); unfold smallS; rwa [← e3]
  have HFIN := hid hfin
  generalize s.1.length = k1 at *
  generalize s.2.1.length = k2 at *
  generalize s.2.2.length = k3 at *
  clear h1 h2 h3 e1 e2 e3 r1 r2 r3 hfin
  go_enter Try.func7, Try.ntmps7
  rcases w1 with ⟨a1, b1, rfl⟩ | ⟨a1, rfl⟩ <;> rcases w2 with ⟨a2, b2, rfl⟩ | ⟨a2, rfl⟩ <;> rcases w3 with ⟨a3, b3, rfl⟩ | ⟨a3, rfl⟩
  all_goals
    go_wp2
    exact bodyPost_ret (by simp [results, Try.results7, go_sem]; done) rfl (HFIN.out _ ((bl1 w _).alloc (by simp) _))
end Go.Proofs.Ytompjcadhodapaa
