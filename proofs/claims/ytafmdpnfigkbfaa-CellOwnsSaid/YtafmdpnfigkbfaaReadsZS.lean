/- Readings of structs with their size. -/
import Derived.Test.YtafmdpnfigkbfaaReadsZ
namespace Go.Proofs.Ytafmdpnfigkbfaa
open Go.ChangeShapes Go.WideShapes Go.ChangeAt Go.RowKit Go.WideMaps Go.WideElems Go.Joins Go.Deep
set_option linter.unusedVariables false

section
variable {P : Program}
/-- A struct's fields from offset o on, none greater than the reach. -/
def OpensFZ {α : Type} (P : Program) (fs : List Field) (o k : Nat) (R : Rd α) : Prop :=
  ∀ (H : Type) (enc : TypeId × Value → H) (W : World) (n : Nat) (cs : List Value) (xs : List (DataW H × List MemPlace)), xs.length = fs.length →
    (∀ (i : Nat) (f : Field), fs[i]? = some f → DataW.trod enc P W 0 (fun _ => true) true n f.type ((cs.drop f.offset).take (P.cellsOf f.type)) = xs[i]?) →
    (∀ m ∈ DataW.weightsEach P (fs.map (·.type)) (xs.map (·.1)), m ≤ reachBytes) → cs.length = o + k → ∃ d : α, R W W.heap.size (cs.drop o) d
theorem opensFZ_one {α : Type} {f : Field} {o k : Nat} {R : Rd α} (ho : f.offset = o) (h : OpensZ P f.type k R) : OpensFZ P [f] o k R := by
  intro H enc W n cs xs hl hx hz hcs
  match xs, hl with
  | [x], _ =>
    have := hx 0 f rfl
    rw [ho, h.1, List.take_of_length_le (by rw [List.length_drop]; omega)] at this
    exact h.2 _ _ _ _ _ _ this (fun m hm => hz m (by simp [DataW.weightsEach, hm]))
theorem opensFZ_cons {α β : Type} {f : Field} {fs : List Field} {o k1 k2 : Nat} {R : Rd α} {S : Rd β} (ho : f.offset = o) (h : OpensZ P f.type k1 R) (hs : OpensFZ P fs (o + k1) k2 S) : OpensFZ P (f :: fs) o (k1 + k2) (rdPair k1 R S) := by
  intro H enc W n cs xs hl hx hz hcs
  match xs, hl with
  | x :: xs, hl =>
    have h0 := hx 0 f rfl
    rw [ho, h.1] at h0
    obtain ⟨d, hd⟩ := h.2 _ _ _ _ _ _ h0 (fun m hm => hz m (by simp [DataW.weightsEach, hm]))
    obtain ⟨e, he⟩ := hs H enc W n cs xs (by simpa using hl) (fun i g hg => hx (i + 1) g (by simpa using hg)) (fun m hm => hz m (by
      simp only [List.map_cons, DataW.weightsEach, List.mem_append]; exact .inr hm)) (by omega)
    refine ⟨(d, e), ?_, hd, ?_⟩
    · rw [List.length_take, List.length_drop]; omega
    · rw [List.drop_drop]; exact he
theorem opensZ_struct {α : Type} {t : TypeId} {fs : Array Field} {k : Nat} {R : Rd α} (ht : P.underlying t = some (.struct fs)) (hk : P.cellsOf t = k) (h : OpensFZ P fs.toList 0 k R) : OpensZ P t k R := by
  refine ⟨hk, fun H enc W fuel cs x hx hz => ?_⟩
  obtain ⟨xs, n, _, ex, hc, hl, hf⟩ := DataW.trod_struct ht hx
  have hw : x.1.weights P t = DataW.weightsEach P (fs.toList.map (·.type)) (xs.map (·.1)) := by rw [ex]; simp [DataW.weights, ht]
  rw [hw] at hz
  have := h H enc W n cs xs (by simpa using hl) (fun i f hi => hf i f (by simpa using hi)) hz (by omega)
  simpa using this
variable {H : Type} {enc : TypeId × Value → H}
theorem open_read_structZ {α : Type} {k : Nat} {R : Rd α} {W : World} {t : TypeId} {fs : Array Field} {v : Value} {d : DataW H} {ps : List MemPlace} (ht : P.underlying t = some (.struct fs)) (ho : OpensZ P t k R)
    (hv : Value.okWide P W .any 0 t v) (h : DataW.Trod enc P W 0 (fun _ => true) true t v d ps) (hz : ∀ n ∈ d.weights P t, n ≤ reachBytes) : ∃ (cs : Array Value) (x : α), v = .agg cs ∧ cs.size = k ∧ R W W.heap.size cs.toList x := by
  obtain ⟨cs, rfl, hsz⟩ := okWide_struct ht hv
  obtain ⟨fuel, hf⟩ := h
  obtain ⟨x, hx⟩ := ho.2 _ _ _ _ _ _ hf hz
  exact ⟨cs, x, rfl, hsz.trans ho.1, hx⟩
end
end Go.Proofs.Ytafmdpnfigkbfaa
