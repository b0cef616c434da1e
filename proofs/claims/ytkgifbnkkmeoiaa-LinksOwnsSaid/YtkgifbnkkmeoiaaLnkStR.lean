/- The reference's net in memory. -/
import Derived.Test.YtkgifbnkkmeoiaaLnkSt
namespace Go.Proofs.Ytkgifbnkkmeoiaa
open Go.ChangeShapes Go.WideShapes Go.ChangeAt Go.RowKit
set_option linter.unusedVariables false
set_option linter.unusedSimpArgs false

/-- The reference's. -/
def NetR (w : World) (D : Nat → Prop) (n : Nat) (L : List PK) : Prop :=
  D n ∧ (∀ k, D k → k < w.heap.size) ∧ w.frozen? ⟨n, 0, none⟩ = false ∧ ∃ v es, w.cell? ⟨n, 0, none⟩ = some v ∧ RowA w 0 55 3 v L.length (flatP es) ∧ (∀ g, v.ownBlock = some g → D g ∧ g ≠ n) ∧ RowPk w (fun k => D k ∧ k ≠ n ∧ v.ownBlock ≠ some k) es L
theorem NetR.kept {w w' : World} {D : Nat → Prop} {n : Nat} {L : List PK} (h : NetR w D n L) (k : Kept D w w') (hs : w.heap.size ≤ w'.heap.size) : NetR w' D n L := by
  obtain ⟨h1, h2, h3, v, es, h4, h5, h6, h7⟩ := h
  exact ⟨h1, fun i hi => Nat.lt_of_lt_of_le (h2 i hi) hs, k.frozen h1 h3, v, es, k.cell h1 h4, h5.kept (fun g hg => k g (h6 g hg).1), h6, h7.kept (fun i hi => k i hi.1)⟩
theorem NetR.below {w w' : World} {D : Nat → Prop} {n : Nat} {L : List PK} (h : NetR w D n L) (hb : Below w.heap.size w w') : NetR w' D n L := h.kept (fun k hk => hb.block k (h.2.1 k hk)) hb.size
theorem NetR.qu {w w' : World} {D : Nat → Prop} {n : Nat} {L : List PK} (h : NetR w D n L) (hq : Qu w w') : NetR w' D n L := h.below (hq.below _)
theorem info_pkR : (Try.prog.info? 55).map (fun i => (i.zero, i.size, i.bytes)) = some (some (.agg #[.int .i64 0, .int .i64 0, .slice none 0 0]), 3, 40) := by kernel_rfl
end Go.Proofs.Ytkgifbnkkmeoiaa
