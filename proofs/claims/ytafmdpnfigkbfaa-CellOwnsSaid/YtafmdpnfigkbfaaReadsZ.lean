/- Readings with their size: what is handed in is no greater than the reach. -/
import Derived.Test.YtafmdpnfigkbfaaReads
import Derived.SizedLaws
namespace Go.Proofs.Ytafmdpnfigkbfaa
open Go.ChangeShapes Go.WideShapes Go.ChangeAt Go.RowKit Go.WideMaps Go.WideElems Go.Joins Go.Deep
set_option linter.unusedVariables false

def rdSliceZ {α : Type} (k b : Nat) (R : Rd α) : Rd (List α) := fun w B cs l => rdSlice k R w B cs l ∧ l.length * b ≤ reachBytes
theorem good_sliceZ {α : Type} {k b : Nat} {R : Rd α} (h1 : Good R) : Good (rdSliceZ k b R) :=
  ⟨fun h hb => ⟨(good_slice h1).stays h.1 hb, h.2⟩, fun h hb => ⟨(good_slice h1).more h.1 hb, h.2⟩⟩
section
variable {P : Program}
theorem mem_weightsAll {H : Type} {e : TypeId} {l : List (DataW H)} {d : DataW H} (hd : d ∈ l) {n : Nat} (hn : n ∈ d.weights P e) : n ∈ DataW.weightsAll P e l := by
  induction l with
  | nil => cases hd
  | cons x l ih =>
    simp only [DataW.weightsAll, List.mem_append]
    rcases List.mem_cons.1 hd with h | h
    · exact .inl (h ▸ hn)
    · exact .inr (ih h)
def OpensZ {α : Type} (P : Program) (t : TypeId) (k : Nat) (R : Rd α) : Prop :=
  P.cellsOf t = k ∧ ∀ (H : Type) (enc : TypeId × Value → H) (W : World) (fuel : Nat) (cs : List Value) (x : DataW H × List MemPlace), DataW.trod enc P W 0 (fun _ => true) true fuel t cs = some x → (∀ n ∈ x.1.weights P t, n ≤ reachBytes) → ∃ d : α, R W W.heap.size cs d
theorem Opens.z {α : Type} {t : TypeId} {k : Nat} {R : Rd α} (h : Opens P t k R) : OpensZ P t k R := ⟨h.1, fun H enc W fuel cs x hx _ => h.2 H enc W fuel cs x hx⟩
theorem opensZ_slice {α : Type} {k b : Nat} {R : Rd α} {t e : TypeId} (hg : Good R) (ht : P.underlying t = some (.slice e)) (he : OpensZ P e k R) (hk : P.cellsOf t = 1) (hk0 : 0 < k) (hb0 : P.bytesOf e = b) : OpensZ P t 1 (rdSliceZ k b R) := by
  refine ⟨hk, fun H enc W fuel cs x h hz => ?_⟩
  obtain ⟨hke, he⟩ := he
  rcases open_slice ht h with ⟨rfl, _⟩ | ⟨a, len, cap, m, n, D, Pl, rfl, hb, hl, hm, hmm, hx, hi⟩
  · exact ⟨[], ⟨none, 0, rfl, by simp, by simp [maxLen], by simp⟩, by simp⟩
  · simp only [if_true] at hmm
    subst hmm
    rw [hke] at hi
    have hw : x.1.weights P t = (len + (m - len)) * b :: (DataW.weightsAll P e ((List.range len).map D) ++ DataW.weightsAll P e ((List.range (m - len)).map fun j => D (len + j))) := by
      rw [hx]; simp [DataW.weights, ht, hb0]
    rw [hw] at hz
    have hz0 := hz _ List.mem_cons_self
    obtain ⟨l, e1, e2⟩ := choose_list (fun i (x : α) => ∃ es : List Value, es.length = k ∧ (∀ j u, es[j]? = some u → W.cell? (a.add (i * k + j)) = some u) ∧ R W W.heap.size es x) len (fun i hil => by
      obtain ⟨cs', g1, g2⟩ := hi i (by omega)
      obtain ⟨_, g3, g4⟩ := World.cells?_some g1
      obtain ⟨d, hd⟩ := he _ _ _ _ _ _ g2 (fun n hn => hz n (List.mem_cons_of_mem _ (List.mem_append_left _ (mem_weightsAll (List.mem_map.2 ⟨i, List.mem_range.2 hil, rfl⟩) hn))))
      refine ⟨d, cs', g3, fun j u hj => ?_, hd⟩
      have hj' : j < k := by have := (List.getElem?_eq_some_iff.1 hj).1; omega
      rw [← add_add, g4 j hj', hj])
    refine ⟨l, ⟨some a, m, by rw [e1], by omega, hm, fun h0 => ?_⟩, ?_⟩
    · obtain ⟨es0, q1, q2, q3⟩ := e2 0 (l[0]'h0) (List.getElem?_eq_getElem h0)
      have h00 := q2 0 (es0[0]'(by omega)) (List.getElem?_eq_getElem (by omega))
      simp only [Nat.zero_mul, Nat.zero_add] at h00
      have ha0 : a.add 0 = a := by simp [Addr.add]
      rw [ha0] at h00
      have ha := addr_of_cell h00
      refine ⟨a.block, a.off, congrArg some ha, World.block_lt_of_cell? W a h00, fun i x hx => ?_⟩
      obtain ⟨es, q1, q2, q3⟩ := e2 i x hx
      refine ⟨es, q1, fun j u hj => ?_, q3⟩
      have := q2 j u hj
      rw [ha, add_eq, ← Nat.add_assoc] at this
      exact this
    · exact Nat.le_trans (Nat.mul_le_mul_right b (by omega)) hz0
variable {H : Type} {enc : TypeId × Value → H}
theorem open_read_sliceZ {α : Type} {k b : Nat} {R : Rd α} {W : World} {t e : TypeId} {v : Value} {d : DataW H} {ps : List MemPlace} (ht : P.underlying t = some (.slice e)) (ho : OpensZ P t 1 (rdSliceZ k b R))
    (hv : Value.okWide P W .any 0 t v) (h : DataW.Trod enc P W 0 (fun _ => true) true t v d ps) (hz : ∀ n ∈ d.weights P t, n ≤ reachBytes) : ∃ l : List α, rdSliceZ k b R W W.heap.size [v] l := by
  obtain ⟨a0, len, cap, rfl⟩ := okWide_slice ht hv
  obtain ⟨fuel, hf⟩ := h
  exact ho.2 _ _ _ _ _ _ hf hz
/-- What each argument weighs. -/
theorem weights_at {ts : List TypeId} {ds : List (DataW H)} (h : (DataW.weightsEach P ts ds).all (· ≤ reachBytes) = true) (j : Nat) {t : TypeId} {d : DataW H} (ht : ts[j]? = some t) (hd : ds[j]? = some d) : ∀ n ∈ d.weights P t, n ≤ reachBytes := fun n hn => by
  have := List.all_eq_true.1 h _ (DataW.weights_mem_each ht hd n hn)
  simpa using this
end
end Go.Proofs.Ytafmdpnfigkbfaa
