/- An argument that is a slice of bytes. -/
import Derived.Test.YtompjcadhodapaaLift
import Derived.Test.YtompjcadhodapaaWirePut
namespace Go.Proofs.Ytompjcadhodapaa
open Go.ChangeShapes Go.WideShapes Go.ChangeAt Go.RowKit Go.WideMaps Go.WideElems Go.Joins
set_option linter.unusedVariables false
section
variable {H : Type} {enc : TypeId × Value → H} {P : Program}
theorem bvals_of (zs : List Int) (h : ∀ z ∈ zs, 0 ≤ z ∧ z ≤ 255) : bvals (zs.map fun z => UInt8.ofNat z.toNat) = zs.map (fun z => .int .u8 z) := by
  induction zs with
  | nil => rfl
  | cons z zs ih =>
    have hz := h z (by simp)
    have := ih (fun y hy => h y (by simp [hy]))
    simp only [bvals, List.map_map] at this ⊢
    rw [List.map_cons, List.map_cons, this]
    congr 2
    simp [UInt8.toNat_ofNat']
    omega
theorem open_bytes_sl {W : World} {t e : TypeId} {v : Value} {d : DataW H} {ps : List MemPlace} (ht : P.underlying t = some (.slice e)) (he : P.underlying e = some (.int .u8)) (hc : P.cellsOf e = 1)
    (hv : Value.okWide P W .any 0 t v) (h : DataW.Trod enc P W 0 (fun _ => true) true t v d ps) :
    ∃ l : List UInt8, Sl W W.heap.size v (bvals l) ∧ l.length ≤ maxLen := by
  obtain ⟨a0, len, cap, rfl⟩ := okWide_slice ht hv
  obtain ⟨fuel, hf⟩ := h
  rcases open_ints ht he hc hf with ⟨hcs, _⟩ | ⟨a, len', cap', zs, hcs, _, hl, hm, hz, _, hcell, hwz⟩
  · simp [Value.cells] at hcs
    obtain ⟨rfl, rfl, rfl⟩ := hcs
    exact ⟨[], Sl.nil_, by simp⟩
  · simp [Value.cells] at hcs
    obtain ⟨rfl, rfl, rfl⟩ := hcs
    simp only [if_true] at hz
    have hb : ∀ z ∈ zs, 0 ≤ z ∧ z ≤ 255 := fun z hz => by
      have := hwz z hz
      simp [Lit.wf, IntKind.min, IntKind.max] at this
      simpa [IntKind.signed, IntKind.bits] using this
    refine ⟨(zs.take len).map fun z => UInt8.ofNat z.toNat, ?_, by simp; omega⟩
    rw [bvals_of _ (fun z hz => hb z (List.mem_of_mem_take hz))]
    refine ⟨some a, cap, by rw [List.length_map, List.length_take, Nat.min_eq_left (by omega)], by rw [List.length_map, List.length_take]; omega, hm, fun h0 => ?_⟩
    rw [List.length_map, List.length_take] at h0
    have h00 := hcell 0 (by omega)
    have ha : a = ⟨a.block, a.off, none⟩ := addr_of_cell (a := a) (by simpa [Addr.add] using h00)
    refine ⟨a.block, a.off, congrArg some ha, World.block_lt_of_cell? W a (by simpa [Addr.add] using h00), fun j u hu => ?_⟩
    simp only [List.getElem?_map, Option.map_eq_some_iff] at hu
    obtain ⟨x, hx, rfl⟩ := hu
    obtain ⟨hj, hx'⟩ := List.getElem?_eq_some_iff.1 hx
    have hj' : j < zs.length := by rw [List.length_take] at hj; omega
    have := hcell j hj'
    rw [ha, add_eq] at this
    rw [this, List.getD_eq_getElem?_getD, List.getElem?_eq_getElem hj']
    rw [List.getElem_take] at hx'
    rw [← hx']; rfl
end
end Go.Proofs.Ytompjcadhodapaa
