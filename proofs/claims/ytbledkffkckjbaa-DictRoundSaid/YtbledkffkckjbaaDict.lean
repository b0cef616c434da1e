/- The program's dictionary: its state; New, Len, put. -/
import Derived.Test.YtbledkffkckjbaaDictRef3
import Derived.Maps.OwnSet
import Derived.DeepKeys4
namespace Go.Proofs.Ytbledkffkckjbaa
open Go.ChangeShapes Go.WideShapes Go.ChangeAt Go.RowKit Go.Maps
set_option linter.unusedVariables false

def nodeV (x : DNode) : Value := .agg #[.int .i64 (x.1 : Int), .string x.2]
def nodeVals (ns : List DNode) : List Value := ns.flatMap fun x => [.int .i64 (x.1 : Int), .string x.2]
theorem nodeVals_len (ns : List DNode) : (nodeVals ns).length = ns.length * 2 := by
  induction ns with
  | nil => rfl
  | cons x ns ih => unfold nodeVals at ih ⊢; rw [List.flatMap_cons, List.length_append, ih]; simp; omega
theorem nodeVals_snoc (ns : List DNode) (x : DNode) : nodeVals (ns ++ [x]) = nodeVals ns ++ [.int .i64 (x.1 : Int), .string x.2] := by simp [nodeVals]
theorem nodeVals_at (ns : List DNode) (k : Nat) (hk : k < ns.length) : (nodeVals ns)[k * 2]? = some (.int .i64 (ns[k].1 : Int)) ∧ (nodeVals ns)[k * 2 + 1]? = some (.string ns[k].2) := by
  induction ns generalizing k with
  | nil => simp at hk
  | cons x ns ih =>
    have e : nodeVals (x :: ns) = .int .i64 (x.1 : Int) :: .string x.2 :: nodeVals ns := by simp [nodeVals]
    rw [e]
    cases k with
    | zero => simp
    | succ k =>
      have := ih k (by simpa using hk)
      rw [show (k + 1) * 2 = k * 2 + 2 by omega]
      simpa using this
theorem node_law : Keyed Try.prog 67 := Keyed.of_law (deep_law_laid laidOut (m := 3) (by omega) (of_decide_eq_true (by kernel_rfl)) (by kernel_rfl) (by rw [Try.underlying67]))
theorem info_node : (Try.prog.info? 67).map (fun i => (i.zero, i.size, i.bytes)) = some (some (.agg #[.int .i64 0, .string ByteArray.empty]), 2, 24) := by kernel_rfl
theorem zero_int (w : World) : (zeroValue 3).run Try.prog w = .ok (.int .i64 0) w := by kernel_rfl
/-- Block m is the map of the nodes' codes. -/
def MapC (w : World) (m : Nat) (ns : List DNode) : Prop :=
  ∃ (n : Nat) (Dm : DataW Unit), w.ownsMap Try.prog 67 (plainElem Try.prog 3) m n Dm ∧ n ≤ ns.length ∧
    ∀ (x : DNode) (kl : Lit), keyOf Try.prog 67 (nodeV x) = some kl → Maps.has Dm kl = decide (code ns x ≠ 0) ∧ Dm.atKey kl (.lit (.int .i64 0)) = .lit (.int .i64 (code ns x : Nat))
theorem node_key (x : DNode) (h1 : x.1 ≤ 1000000) (h2 : x.2.size ≤ 9223372036854775807) : ∃ kl, keyOf Try.prog 67 (nodeV x) = some kl := by
  have hk : Try.prog.keyType 67 = true := by kernel_rfl
  have hc : Try.prog.cellsOf 67 = 2 := by kernel_rfl
  have hci : Try.prog.cellsOf 3 = 1 := by kernel_rfl
  have hcs : Try.prog.cellsOf 9 = 1 := by kernel_rfl
  have hf : (nodeV x).formed Try.prog 67 = true := by simp [Value.formed, nodeV, Try.underlying67, hc]
  have hw : (Lit.int .i64 (x.1 : Int)).wf = true := WalkArith.wf_i64 (by omega)
  have hl : ∃ ls, Try.prog.keyLits (Try.prog.types.size + 1) 67 (nodeV x).cells.toList = some ls := by
    obtain ⟨n, hn⟩ : ∃ n, Try.prog.types.size = n + 1 := ⟨Try.prog.types.size - 1, by
      have : 0 < Try.prog.types.size := of_decide_eq_true (by kernel_rfl)
      omega⟩
    rw [hn]
    refine ⟨[.int .i64 (x.1 : Int), .string x.2.data.toList], ?_⟩
    have e0 : (nodeV x).cells.toList = [.int .i64 (x.1 : Int), .string x.2] := rfl
    rw [e0]
    unfold Program.keyLits
    rw [Try.underlying67]
    simp only
    rw [if_pos ⟨by rw [hc]; rfl, by kernel_rfl⟩]
    simp only [List.mapM_cons, List.mapM_nil]
    unfold Program.keyLits
    simp [Try.underlying3, Try.underlying9, hci, hcs, hw, maxLen, h2]
  obtain ⟨ls, hl⟩ := hl
  refine ⟨.string (keyBytes ls), ?_⟩
  unfold keyOf
  rw [Try.underlying67]
  simp only [hk, hf, hl]
  rfl
/-- At d lies a dictionary of L levels with the nodes ns; it owns the blocks D. -/
def DictW (w : World) (D : Nat → Prop) (d : Nat) (L : Int) (ns : List DNode) : Prop :=
  D d ∧ (∀ k, D k → k < w.heap.size) ∧ (∀ i, i < 3 → w.frozen? ⟨d, i, none⟩ = false) ∧ w.cell? ⟨d, 0, none⟩ = some (.int .i64 L) ∧
  ∃ (v : Value) (m : Nat), w.cell? ⟨d, 1, none⟩ = some v ∧ w.cell? ⟨d, 2, none⟩ = some (.map (some m)) ∧ D m ∧ m ≠ d ∧ v.ownBlock ≠ some m ∧ w.ownsRow 0 67 2 v ns.length (nodeVals ns) ∧ (∀ g, v.ownBlock = some g → D g ∧ g ≠ d) ∧ MapC w m ns
theorem MapC.kept {w w' : World} {m : Nat} {ns : List DNode} (h : MapC w m ns) (hk : w'.heap[m]? = w.heap[m]?) : MapC w' m ns := by
  obtain ⟨n, Dm, ⟨es, clock, hb, r⟩, h2, h3⟩ := h
  exact ⟨n, Dm, ⟨es, clock, hk.trans hb, r⟩, h2, h3⟩
theorem DictW.kept {w w' : World} {D : Nat → Prop} {d : Nat} {L : Int} {ns : List DNode} (h : DictW w D d L ns) (k : Kept D w w') (hs : w.heap.size ≤ w'.heap.size) : DictW w' D d L ns := by
  obtain ⟨h1, h2, h3, h4, v, m, h5, h6, h7, h8, h9, h10, h11, h12⟩ := h
  exact ⟨h1, fun i hi => Nat.lt_of_lt_of_le (h2 i hi) hs, fun i hi => k.frozen h1 (h3 i hi), k.cell h1 h4, v, m, k.cell h1 h5, k.cell h1 h6, h7, h8, h9, own_kept h10 (fun g hg => k g (h11 g hg).1), h11, h12.kept (k m h7)⟩
theorem DictW.below {w w' : World} {D : Nat → Prop} {d : Nat} {L : Int} {ns : List DNode} (h : DictW w D d L ns) (hb : Below w.heap.size w w') : DictW w' D d L ns :=
  h.kept (fun k hk => hb.block k (h.2.1 k hk)) hb.size
theorem mapC_nil (w : World) : MapC (w.alloc (.map #[] 0)) w.heap.size [] :=
  ⟨0, .map [], World.ownsMap_made _ _ _ _, by simp, fun x kl _ => ⟨by simp [Maps.has, code], by simp [code, DataW.atKey]⟩⟩
def NewDPost (L : Int) (w : World) (e : Ending) (w' : World) : Prop := ∃ d D, e = .returned (.pointer (some ⟨d, 0, none⟩)) ∧ DictW w' D d L [] ∧ (∀ k, D k → w.heap.size ≤ k) ∧ Below w.heap.size w w'
theorem newD_yes (L : Int) (w : World) (h1 : 1 ≤ L) (h3 : L ≤ 3) : Calls Try.prog 12 #[.int .i64 L] w (NewDPost L w) := by
  have hmm := @run_makeMap Try.prog
  go_enter Try.func12, Try.ntmps12
  go_wp2
  go_ret
  refine ⟨w.heap.size + 1, (fun k => k = w.heap.size ∨ k = w.heap.size + 1), rfl, ⟨.inr rfl, ?_, fun i hi => by simp [go_sem], by simp [go_sem], .slice none 0 0, w.heap.size, by simp [go_sem], by simp [go_sem], .inl rfl, by omega, by simp [Value.ownBlock], World.ownsRow_nil _ _ _ _, fun g hg => by simp [Value.ownBlock] at hg, ?_⟩, ?_, (by repeat' first | with_reducible exact Below.refl _ _ | assumption | (with_reducible refine Below.alloc ?_ ?_ _) | (with_reducible refine Below.setCell ?_ ?_ _) | (with_reducible refine Below.drew ?_) | (with_reducible refine below_drewN ?_ _) | (with_reducible refine Below.trans ?_ (Below.mono ‹_› ?_)) | omega | (with_reducible refine le_alloc ?_) | (with_reducible refine le_setCell ?_) | (with_reducible refine le_drew ?_) | (with_reducible refine le_drewN ?_) | (with_reducible refine Nat.le_trans ?_ (Below.size ‹_›)) | (simp <;> omega))⟩
  · rintro k (rfl | rfl) <;> simp <;> omega
  · refine (mapC_nil w).kept ?_
    exact ((Below.refl (w.alloc (.map #[] 0)).heap.size (w.alloc (.map #[] 0))).alloc (Nat.le_refl _) _).block _ (by simp)
  · rintro k (rfl | rfl) <;> omega
theorem newD_no (L : Int) (w : World) (h : L < 1 ∨ 3 < L) : Calls Try.prog 12 #[.int .i64 L] w (Stays (.pointer none) w) := by
  rcases Int.lt_or_le L 1 with h1 | h1
  · clear h
    go_enter Try.func12, Try.ntmps12
    go_wp2
    go_ret
    exact ⟨rfl, Qu.refl _⟩
  · have h3 : 3 < L := by omega
    clear h
    go_enter Try.func12, Try.ntmps12
    go_wp2
    go_ret
    exact ⟨rfl, Qu.refl _⟩
theorem lenD_any (D : Nat → Prop) (d : Nat) (L : Int) (ns : List DNode) (w : World) (h : DictW w D d L ns) :
    Calls Try.prog 19 #[.pointer (some ⟨d, 0, none⟩)] w (Stays (.int .i64 (ns.length : Nat)) w) := by
  obtain ⟨h1, h2, h3, h4, v, m, h5, h6, h7, h8, h9, h10, h11, h12⟩ := h
  obtain ⟨A, c, rfl, -, -, -⟩ : ∃ A c, v = .slice A ns.length c ∧ True ∧ True ∧ True := by
    rcases h10.2 with ⟨rfl, e⟩ | ⟨g, cap, cur, rfl, _⟩
    · exact ⟨none, 0, by rw [e], trivial, trivial, trivial⟩
    · exact ⟨_, _, rfl, trivial, trivial, trivial⟩
  clear h3 h4 h6 h9 h10 h11 h12
  go_enter Try.func19, Try.ntmps19
  go_wp2
  go_ret
  exact ⟨rfl, Qu.refl _⟩
end Go.Proofs.Ytbledkffkckjbaa
