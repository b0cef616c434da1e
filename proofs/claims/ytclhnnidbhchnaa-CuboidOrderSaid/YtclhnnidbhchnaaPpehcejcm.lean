/- 2 texts of this claim, in build order. -/
import Derived.Test.YtclhnnidbhchnaaPgbomfjgi
import Derived.WideKeyEntry
import Derived.Test.YtclhnnidbhchnaaPpmbahhjc
import Derived.Test.YtclhnnidbhchnaaPbmmihbib
import Derived.Laws.IdiomCopy
/- An entry of the map of groups: read, and stored. -/
namespace Go.Proofs.Ytclhnnidbhchnaa
open Go.ChangeShapes Go.WideShapes Go.ChangeAt Go.RowKit Go.Maps
open Go.ChangeMaps Go.MapKept
set_option linter.unusedVariables false
set_option linter.unusedSimpArgs false

theorem key_klaw : Go.WideMaps.KeyLaw Try.prog 99 := deep_law_laid laidOut (m := 3) (by omega) (of_decide_eq_true (by kernel_rfl)) (by kernel_rfl) (by rw [Try.underlying99])
theorem zero_cells (w : World) : (zeroValue 22).run Try.prog w = .ok (.slice none 0 0) w := by kernel_rfl
theorem upd_block {w : World} {m : Nat} {es0 : Array MapEntry} {c0 : Nat} {Y : Obj} (hb : w.heap[m]? = some (.map es0 c0)) : Upd m w (setBlock w m Y) :=
  ⟨rfl, rfl, rfl, by simp [setBlock], fun k hk hne => heap_setBlock_other hb _ (fun e => hne (by rw [e]))⟩
theorem entry_own {w : World} {m n : Nat} {D : DataW Value} (h : w.ownsMap Try.prog 99 heldR m n D) (hn : n < maxLen) {key : Value} {kl : Lit} (hkey : keyOf Try.prog 99 key = some kl) :
    ∃ (v0 : Value) (st : Nat) (w1 : World), (Instr.mapEntry 95 (.map (some m)) key).run Try.prog w = .ok (.tuple #[v0, .int .i64 st]) w1 ∧ Upd m w w1 ∧ w1.heap.size = w.heap.size ∧
      ((Maps.has D kl = true ∧ ∀ z, D.atKey kl z = .held v0) ∨ (Maps.has D kl = false ∧ v0 = .slice none 0 0)) ∧
      ∀ (w2 : World) (v' : Value), w2.heap[m]? = w1.heap[m]? → ∃ w3, (Instr.entryStore 95 (.map (some m)) (.int .i64 st) v').run Try.prog w2 = .ok () w3 ∧
        w3.ownsMap Try.prog 99 heldR m (n + 1) (D.put kl (.held v')) ∧ Upd m w2 w3 ∧ w3.heap.size = w2.heap.size := by
  have h' := h
  obtain ⟨es, clock, hb, F, hs, rfl⟩ := h
  obtain ⟨v0, st, es1, c1, hrun, hv0, hst⟩ := WideElems.entry_then_store key_klaw Try.underlying95 zero_cells hb F hkey
  refine ⟨v0, st, _, hrun, upd_block hb, by simp [setBlock], ?_, fun w2 v' h2 => ?_⟩
  · rcases Maps.fit_look (c := false) key_law Try.underlying95 (zero_cells w) hb F hkey with ⟨-, hno, hat⟩ | ⟨e0, y, he0, hek, -, hRv, hat, -⟩
    · refine .inr ⟨Maps.has_false_of_atKey hat, ?_⟩
      rcases hv0 with ⟨e1, he1, hk1, -⟩ | ⟨-, rfl⟩
      · exact absurd hk1 (hno e1 he1)
      · rfl
    · rcases hv0 with ⟨e1, he1, hk1, rfl⟩ | ⟨hno, -⟩
      · have e01 : e1 = e0 := by
          exact entry_eq_of_key (List.pairwise_map.1 F.stamped.2.2) he1 he0 (hk1.trans hek.symm)
        subst e01
        refine .inl ⟨?_, fun z => ?_⟩
        · exact Maps.has_true_of_atKey hat
        · rw [hat]
          unfold heldR at hRv
          have := congrArg Prod.fst (Option.some.inj hRv)
          exact this.symm
      · exact absurd hek (hno e0 he0)
  · rw [heap_setBlock_same hb] at h2
    obtain ⟨es', cl', hrun2, hupd⟩ := hst w2 v' h2
    obtain ⟨w', hrun', ho, ht⟩ := h'.store key_law Try.underlying95 hn hkey (show heldR v' = some (.held v', []) from rfl)
    rw [hupd] at hrun'
    injection hrun' with _ hw'
    subst hw'
    obtain ⟨es'', cl'', hb'', r⟩ := ho
    refine ⟨_, hrun2, ⟨es'', cl'', ?_, r⟩, upd_block h2, by simp [setBlock]⟩
    rw [heap_setBlock_same hb] at hb''
    rw [heap_setBlock_same h2]
    exact hb''
end Go.Proofs.Ytclhnnidbhchnaa
/- Lists of cells in memory. -/
namespace Go.Proofs.Ytclhnnidbhchnaa
open Go.ChangeShapes Go.WideShapes Go.ChangeAt Go.RowKit
set_option linter.unusedVariables false
set_option linter.unusedSimpArgs false

/-- A cell as it lies in memory. -/
abbrev E4 := Int × Value × Value × Value
def e4 (x : E4) : List Value := [.int .i64 x.1, x.2.1, x.2.2.1, x.2.2.2]
def z4 : E4 := (0, .slice none 0 0, .slice none 0 0, .slice none 0 0)
/-- The cells of the elements, four each. -/
def At4 (w : World) (b off k : Nat) (x : E4) : Prop :=
  w.cell? ⟨b, off + k * 4, none⟩ = some (.int .i64 x.1) ∧ w.cell? ⟨b, off + k * 4 + 1, none⟩ = some x.2.1 ∧ w.cell? ⟨b, off + k * 4 + 2, none⟩ = some x.2.2.1 ∧ w.cell? ⟨b, off + k * 4 + 3, none⟩ = some x.2.2.2
theorem At4.of_block {w w' : World} {b off k : Nat} {x : E4} (h : At4 w b off k x) (hb : w'.heap[b]? = w.heap[b]?) : At4 w' b off k x :=
  ⟨(World.cell?_of_block (a := ⟨b, off + k * 4, none⟩) hb).trans h.1, (World.cell?_of_block (a := ⟨b, off + k * 4 + 1, none⟩) hb).trans h.2.1, (World.cell?_of_block (a := ⟨b, off + k * 4 + 2, none⟩) hb).trans h.2.2.1, (World.cell?_of_block (a := ⟨b, off + k * 4 + 3, none⟩) hb).trans h.2.2.2⟩
/-- A list of cells that is read: where its elements lie, and what they read as. -/
def RowC (w : World) (B : Nat) (v : Value) (L : List CellM) : Prop :=
  ∃ (A : Option Addr) (c : Nat) (es : List E4), v = .slice A L.length c ∧ es.length = L.length ∧ L.length ≤ c ∧ c ≤ maxLen ∧
    (0 < L.length → ∃ b off, A = some ⟨b, off, none⟩ ∧ b < B ∧ ∀ k, k < L.length → At4 w b off k (es.getD k z4)) ∧
    ∀ k, k < L.length → CellR w B (.agg #[.int .i64 (es.getD k z4).1, (es.getD k z4).2.1, (es.getD k z4).2.2.1, (es.getD k z4).2.2.2]) (L.getD k nilC)
theorem RowC.below {w w' : World} {B : Nat} {v : Value} {L : List CellM} (h : RowC w B v L) (hb : Below B w w') : RowC w' B v L := by
  obtain ⟨A, c, es, h1, h2, h3, h4, h5, h6⟩ := h
  refine ⟨A, c, es, h1, h2, h3, h4, fun h0 => ?_, fun k hk => (h6 k hk).below hb⟩
  obtain ⟨b, off, e, hlt, hc⟩ := h5 h0
  exact ⟨b, off, e, hlt, fun k hk => (hc k hk).of_block (hb.block b hlt)⟩
theorem RowC.more {w : World} {B B' : Nat} {v : Value} {L : List CellM} (h : RowC w B v L) (hB : B ≤ B') : RowC w B' v L := by
  obtain ⟨A, c, es, h1, h2, h3, h4, h5, h6⟩ := h
  refine ⟨A, c, es, h1, h2, h3, h4, fun h0 => ?_, fun k hk => (h6 k hk).more hB⟩
  obtain ⟨b, off, e, hlt, hc⟩ := h5 h0
  exact ⟨b, off, e, by omega, hc⟩
theorem RowC.on {w w' : World} {v : Value} {L : List CellM} (h : RowC w w.heap.size v L) (hb : Below w.heap.size w w') : RowC w' w'.heap.size v L := (h.below hb).more hb.size
/-! ### As values side by side -/
def flat4 (es : List E4) : List Value := es.flatMap e4
theorem flat4_len (es : List E4) : (flat4 es).length = es.length * 4 := by
  unfold flat4
  induction es with
  | nil => rfl
  | cons x es ih => rw [List.flatMap_cons, List.length_append, ih]; simp [e4]; omega
theorem flat4_at : ∀ {es : List E4} {k j : Nat}, k < es.length → j < 4 → (flat4 es)[k * 4 + j]? = (e4 (es.getD k z4))[j]? := by
  intro es
  induction es with
  | nil => intro k j hk; simp at hk
  | cons x es ih =>
    intro k j hk hj
    unfold flat4
    rw [List.flatMap_cons]
    cases k with
    | zero => rw [List.getElem?_append_left (by simp [e4]; omega)]; simp
    | succ k =>
      rw [List.getElem?_append_right (by simp [e4]; omega), show (k + 1) * 4 + j - (e4 x).length = k * 4 + j by simp [e4]; omega]
      have := ih (k := k) (j := j) (by simpa using hk) hj
      unfold flat4 at this
      rw [this]
      simp
theorem At4.val {w : World} {b off k : Nat} {x : E4} (h : At4 w b off k x) {j : Nat} {u : Value} (hu : (e4 x)[j]? = some u) : w.cell? ⟨b, off + k * 4 + j, none⟩ = some u := by
  have hj : j < 4 := (List.getElem?_eq_some_iff.1 hu).1
  rcases j with _ | _ | _ | _ | j
  · simp [e4] at hu; subst hu; exact h.1
  · simp [e4] at hu; subst hu; exact h.2.1
  · simp [e4] at hu; subst hu; exact h.2.2.1
  · simp [e4] at hu; subst hu; exact h.2.2.2
  · omega
/-- Elements that lie side by side, as one list of values. -/
theorem flat4_cells {w : World} {b off : Nat} {es : List E4} (h : ∀ k, k < es.length → At4 w b off k (es.getD k z4)) : ∀ j u, (flat4 es)[j]? = some u → w.cell? ⟨b, off + j, none⟩ = some u := by
  intro j u hu
  have hj := (List.getElem?_eq_some_iff.1 hu).1
  rw [flat4_len] at hj
  have e : j = j / 4 * 4 + j % 4 := by omega
  rw [e] at hu
  rw [flat4_at (by omega) (by omega)] at hu
  have := (h (j / 4) (by omega)).val hu
  rw [e, ← Nat.add_assoc]
  exact this
theorem flat4_back {w : World} {b off : Nat} {es : List E4} (h : ∀ j, j < es.length * 4 → w.cell? ⟨b, off + j, none⟩ = (flat4 es)[j]?) : ∀ k, k < es.length → At4 w b off k (es.getD k z4) := by
  intro k hk
  have q : ∀ j, j < 4 → w.cell? ⟨b, off + k * 4 + j, none⟩ = (e4 (es.getD k z4))[j]? := fun j hj => by
    rw [← flat4_at hk hj, Nat.add_assoc]
    exact h _ (by omega)
  exact ⟨q 0 (by omega), q 1 (by omega), q 2 (by omega), q 3 (by omega)⟩
end Go.Proofs.Ytclhnnidbhchnaa
