/- The program's Busy. -/
import Derived.Test.YtkgifbnkkmeoiaaLnkWay
import Derived.Test.YtkgifbnkkmeoiaaLnkSort
namespace Go.Proofs.Ytkgifbnkkmeoiaa
open Go.ChangeShapes Go.WideShapes Go.ChangeAt Go.RowKit Go.Sort
set_option linter.unusedVariables false
set_option linter.unusedSimpArgs false

def okP (p : PK) : Prop := 1 ≤ p.1 ∧ p.1 ≤ 7 ∧ 1 ≤ p.2.1 ∧ p.2.1 ≤ 7 ∧ p.1 ≠ p.2.1
def lnkG (p : PK) : G2 := (p.1.toNat, p.2.1.toNat)
theorem okP.inG {p : PK} (h : okP p) : inG (lnkG p) := by
  obtain ⟨h1, h2, h3, h4, -⟩ := h
  unfold Go.Proofs.Ytkgifbnkkmeoiaa.inG lnkG
  simp only
  omega
def gridS : List GS := (List.range 49).map fun i => if h : i < 49 then ⟨(i / 7 + 1, i % 7 + 1), by unfold inG; simp only; omega⟩ else default
theorem gridS_sorted : gridS.Pairwise fun x y => ltG x.1 y.1 = true := by
  unfold gridS
  rw [List.pairwise_map]
  refine List.Pairwise.imp_of_mem ?_ List.pairwise_lt_range
  intro a b ha hb hab
  rw [List.mem_range] at ha hb
  rw [dif_pos ha, dif_pos hb, ltG_iff]
  simp only
  omega
theorem gridS_mem (x : GS) : x ∈ gridS := by
  obtain ⟨⟨a, b⟩, h⟩ := x
  have h' := h
  unfold inG at h'
  simp only at h'
  refine List.mem_map.2 ⟨(a - 1) * 7 + (b - 1), List.mem_range.2 (by omega), ?_⟩
  rw [dif_pos (by omega)]
  refine Subtype.ext (Prod.ext ?_ ?_)
  · show ((a - 1) * 7 + (b - 1)) / 7 + 1 = a
    omega
  · show ((a - 1) * 7 + (b - 1)) % 7 + 1 = b
    omega
def busyS (L : List PK) : List GS := gridS.filter fun x => decide (x.1 ∈ L.map lnkG)
theorem busyS_sorted (L : List PK) : (busyS L).Pairwise fun x y => ltG x.1 y.1 = true := gridS_sorted.filter _
theorem busyS_mem (L : List PK) (x : GS) : x ∈ busyS L ↔ x.1 ∈ L.map lnkG := by
  unfold busyS
  rw [List.mem_filter, decide_eq_true_eq]
  exact ⟨fun h => h.2, fun h => ⟨gridS_mem x, h⟩⟩
theorem busyS_len (L : List PK) : (busyS L).length ≤ 49 := by
  unfold busyS
  refine Nat.le_trans (List.length_filter_le _ _) ?_
  unfold gridS
  simp
set_option maxRecDepth 100000 in
theorem link_any (f t : Nat) (A : Option Addr) (n c : Nat) (w : World) (h : inG (f, t)) : Calls Try.prog 26 #[.agg #[.int .i64 f, .int .i64 t, .slice A n c]] w fun e w' => e = .returned (CV (f, t)) ∧ Below w.heap.size w w' := by
  have h1 := fun w => conv_to h.1.1 h.1.2 w
  have h2 := fun w => conv_to h.2.1 h.2.2 w
  unfold CV
  simp only at h1 h2 ⊢
  generalize FB f = a at *
  generalize FB t = b at *
  go_enter Try.func26, Try.ntmps26
  go_wp2_with (simp only [h1, h2])
  go_ret
  exact ⟨rfl, bl1 _ _⟩
end Go.Proofs.Ytkgifbnkkmeoiaa
