/- 7 texts of this claim, in build order. -/
import Derived.Test.YtgoapnkdcfcjgaaGreatPmmljdcfd
import Derived.Test.YtgoapnkdcfcjgaaGreatPlhikkigo
import Derived.Maps.OwnSet
import Derived.Maps.RangeWalk
import Derived.DeepKeys4
import Derived.Test.YtgoapnkdcfcjgaaGreatPlemnpflp
import Derived.Test.YtgoapnkdcfcjgaaGreatPflgpmhfi
import Derived.Test.YtgoapnkdcfcjgaaGreatPnglcpkmp
import Derived.Test.YtgoapnkdcfcjgaaGreatPkohgbcdn
/- The program's cuboid in memory: the map of its cells. -/
namespace Go.Proofs.YtgoapnkdcfcjgaaGreat
open Go.ChangeShapes Go.WideShapes Go.ChangeAt Go.RowKit Go.Maps
set_option linter.unusedVariables false
set_option linter.unusedSimpArgs false

/-- A key of the program: three codes. -/
def keyV (a b c : Int) : Value := .agg #[.int .i64 a, .int .i64 b, .int .i64 c]
def keyT (k : List Int) : Value := keyV (k.getD 0 0) (k.getD 1 0) (k.getD 2 0)
theorem key_law : Keyed Tryz.prog 149 := Keyed.of_law (deep_law_laid laidOut (m := 3) (by omega) (of_decide_eq_true (by kernel_rfl)) (by kernel_rfl) (by rw [Tryz.underlying149]))
def keyL (a b c : Int) : Lit := .string (keyBytes [.int .i64 a, .int .i64 b, .int .i64 c])
theorem wf64 {a : Int} (h : -9223372036854775808 ≤ a ∧ a ≤ 9223372036854775807) : (Lit.int .i64 a).wf = true := WalkArith.wf_i64 h
theorem keyLits_arr (a b c : Value) (d : Nat) : Tryz.prog.keyLits (d + 1) 149 [a, b, c] = ((Tryz.prog.keyLits d 3 [a]).bind fun x => (Tryz.prog.keyLits d 3 [b]).bind fun y => (Tryz.prog.keyLits d 3 [c]).bind fun z => some (x ++ (y ++ z))) := by
  have hc : Tryz.prog.cellsOf 149 = 3 := by kernel_rfl
  have hci : Tryz.prog.cellsOf 3 = 1 := by kernel_rfl
  conv => lhs; unfold Program.keyLits
  rw [Tryz.underlying149]
  simp only
  rw [if_pos (by rw [hc]; rfl), hci]
  have hr : List.range 3 = [0, 1, 2] := by decide
  rw [hr]
  simp only [List.mapM_cons, List.mapM_nil]
  simp
  cases Tryz.prog.keyLits d 3 [a] <;> cases Tryz.prog.keyLits d 3 [b] <;> cases Tryz.prog.keyLits d 3 [c] <;> simp
theorem keyLits_int (v : Value) (d : Nat) : Tryz.prog.keyLits (d + 1) 3 [v] = match v with | .int q' n => if q' = .i64 ∧ (Lit.int .i64 n).wf = true then some [.int .i64 n] else none | _ => none := by
  unfold Program.keyLits
  rw [Tryz.underlying3]
  cases v <;> rfl
theorem key_of {a b c : Int} (ha : -9223372036854775808 ≤ a ∧ a ≤ 9223372036854775807) (hb : -9223372036854775808 ≤ b ∧ b ≤ 9223372036854775807) (hc : -9223372036854775808 ≤ c ∧ c ≤ 9223372036854775807) : keyOf Tryz.prog 149 (keyV a b c) = some (keyL a b c) := by
  have hk : Tryz.prog.keyType 149 = true := by kernel_rfl
  have hcc : Tryz.prog.cellsOf 149 = 3 := by kernel_rfl
  have hf : (keyV a b c).formed Tryz.prog 149 = true := by simp [Value.formed, keyV, Tryz.underlying149, hcc]
  obtain ⟨n, hn⟩ : ∃ n, Tryz.prog.types.size + 1 = n + 1 + 1 := ⟨Tryz.prog.types.size - 1, by
    have : 0 < Tryz.prog.types.size := of_decide_eq_true (by kernel_rfl)
    omega⟩
  unfold keyOf
  rw [Tryz.underlying149]
  simp only [hk, hf, hn]
  have e0 : (keyV a b c).cells.toList = [.int .i64 a, .int .i64 b, .int .i64 c] := rfl
  rw [e0, keyLits_arr, keyLits_int, keyLits_int, keyLits_int]
  simp [wf64 ha, wf64 hb, wf64 hc, keyL]
set_option maxRecDepth 100000 in
/-- What is read as a key is one. -/
theorem key_inv {v : Value} {kl : Lit} (h : keyOf Tryz.prog 149 v = some kl) : ∃ a b c : Int, v = keyV a b c := by
  have hcc : Tryz.prog.cellsOf 149 = 3 := by kernel_rfl
  obtain ⟨n, hn⟩ : ∃ n, Tryz.prog.types.size + 1 = n + 1 + 1 := ⟨Tryz.prog.types.size - 1, by
    have : 0 < Tryz.prog.types.size := of_decide_eq_true (by kernel_rfl)
    omega⟩
  unfold keyOf at h
  rw [Tryz.underlying149] at h
  simp only at h
  rw [hn] at h
  by_cases hf : (Tryz.prog.keyType 149 && v.formed Tryz.prog 149) = true
  · rw [if_pos hf] at h
    rw [Bool.and_eq_true] at hf
    have hfo := hf.2
    cases v with
    | agg cs =>
      simp only [Value.formed, Tryz.underlying149, hcc] at hfo
      have hsz : cs.size = 3 := by simpa using hfo
      obtain ⟨x, y, z, rfl⟩ : ∃ x y z, cs = #[x, y, z] := by
        obtain ⟨l⟩ := cs
        match l, hsz with
        | [x, y, z], _ => exact ⟨x, y, z, rfl⟩
      have e0 : (Value.agg #[x, y, z]).cells.toList = [x, y, z] := rfl
      rw [e0, keyLits_arr, keyLits_int, keyLits_int, keyLits_int] at h
      cases x with
      | int qx a => cases y with
        | int qy b => cases z with
          | int qz c =>
            simp only at h
            by_cases h1 : qx = .i64 ∧ (Lit.int .i64 a).wf = true
            · by_cases h2 : qy = .i64 ∧ (Lit.int .i64 b).wf = true
              · by_cases h3 : qz = .i64 ∧ (Lit.int .i64 c).wf = true
                · exact ⟨a, b, c, by rw [h1.1, h2.1, h3.1]; rfl⟩
                · simp [h1, h2, h3] at h
              · simp [h1, h2] at h
            · simp [h1] at h
          | _ => simp at h
        | _ => simp at h
      | _ => simp at h
    | _ => simp [Value.formed, Tryz.underlying149] at hfo
  · rw [if_neg hf] at h
    cases h
end Go.Proofs.YtgoapnkdcfcjgaaGreat
/- The reference's cuboid: Less, Is. -/
namespace Go.Proofs.YtgoapnkdcfcjgaaGreat
open Go.ChangeShapes Go.WideShapes Go.ChangeAt Go.RowKit
set_option linter.unusedVariables false
set_option linter.unusedSimpArgs false

end Go.Proofs.YtgoapnkdcfcjgaaGreat
/- The reference's Same of numbers (layer 8), for slices that read as lists. -/
namespace Go.Proofs.YtgoapnkdcfcjgaaGreat
open Go.ChangeShapes Go.WideShapes Go.ChangeAt Go.RowKit
set_option linter.unusedVariables false
set_option linter.unusedSimpArgs false

end Go.Proofs.YtgoapnkdcfcjgaaGreat
/- The reference's cuboid: Is, Get. -/
namespace Go.Proofs.YtgoapnkdcfcjgaaGreat
open Go.ChangeShapes Go.WideShapes Go.ChangeAt Go.RowKit
set_option linter.unusedVariables false
set_option linter.unusedSimpArgs false

/-- A cell, written out. -/
theorem CellE.lit {w : World} {E : Nat → Prop} {v : Value} {c : CellM} (h : CellE w E v c) : ∃ A1 c1 A2 c2 A3 c3, v = .agg #[.int .i64 c.n, .slice A1 c.s.length c1, .slice A2 c.lo.length c2, .slice A3 c.hi.length c3] := by
  obtain ⟨v1, v2, v3, e, h1, h2, h3⟩ := h
  obtain ⟨A1, c1, rfl, -, -⟩ := h1.sl.formI
  obtain ⟨A2, c2, rfl, -, -⟩ := h2.sl.formI
  obtain ⟨A3, c3, rfl, -, -⟩ := h3.sl.formI
  exact ⟨A1, c1, A2, c2, A3, c3, e⟩
def getC (L : List KC) (k : List Int) : CellM := (getK L k).getD nilC
theorem CellE.nil_ {w : World} {E : Nat → Prop} : CellE w E (.agg #[.int .i64 0, .slice none 0 0, .slice none 0 0, .slice none 0 0]) nilC := by
  have h : SlE w E (.slice none 0 0) (ivals []) := ⟨none, 0, rfl, by simp [ivals], by simp [maxLen], by simp [ivals]⟩
  exact ⟨_, _, _, rfl, h, h, h⟩
end Go.Proofs.YtgoapnkdcfcjgaaGreat
/- The map of a cuboid's cells: look-up and store. -/
namespace Go.Proofs.YtgoapnkdcfcjgaaGreat
open Go.ChangeShapes Go.WideShapes Go.ChangeAt Go.RowKit Go.Maps
open Go.ChangeMaps Go.MapKept
set_option linter.unusedVariables false
set_option linter.unusedSimpArgs false

/-- A map's element as it is. -/
def heldR : Value → Option (DataW Value × List MemPlace) := fun v => some (.held v, [])
def keyLk (k : List Int) : Lit := keyL (k.getD 0 0) (k.getD 1 0) (k.getD 2 0)
theorem code_at {W : Nat} {k : List Int} (h : okK W k) (i : Nat) : 0 ≤ k.getD i 0 ∧ k.getD i 0 ≤ 40 := by
  rw [List.getD_eq_getElem?_getD]
  rcases Nat.lt_or_ge i k.length with hi | hi
  · rw [List.getElem?_eq_getElem hi]
    exact h.2 _ (List.getElem_mem hi)
  · rw [List.getElem?_eq_none hi]; simp
theorem key_of_k {W : Nat} {k : List Int} (h : okK W k) : keyOf Tryz.prog 149 (keyT k) = some (keyLk k) := by
  have h0 := code_at h 0; have h1 := code_at h 1; have h2 := code_at h 2
  exact key_of (by omega) (by omega) (by omega)
theorem keyT_inj {W : Nat} {k k' : List Int} (h : okK W k) (h' : okK W k') (hW : W ≤ 3) (e : keyT k = keyT k') : k = k' := by
  unfold keyT keyV at e
  simp only [Value.agg.injEq, Array.mk.injEq, List.cons.injEq, Value.int.injEq, true_and, and_true] at e
  obtain ⟨e0, e1, e2⟩ := e
  apply List.ext_getElem
  · rw [h.1, h'.1]
  · intro i h1 h2
    have hi : i < 3 := by have := h.1; omega
    have q : k.getD i 0 = k'.getD i 0 := by
      obtain rfl | rfl | rfl : i = 0 ∨ i = 1 ∨ i = 2 := by omega
      · exact e0
      · exact e1
      · exact e2
    rwa [List.getD_eq_getElem?_getD, List.getD_eq_getElem?_getD, List.getElem?_eq_getElem h1, List.getElem?_eq_getElem h2] at q
theorem keyLk_inj {W : Nat} {k k' : List Int} (h : okK W k) (h' : okK W k') (hW : W ≤ 3) (e : keyLk k = keyLk k') : k = k' :=
  keyT_inj h h' hW (key_law.inj (key_of_k h) (by rw [e]; exact key_of_k h'))
theorem keyLk_is {W : Nat} {k : List Int} (h : okK W k) : WideAt.IsKeyLit (keyLk k) := key_law.key (key_of_k h)
theorem zero_cellM (w : World) : (zeroValue 125).run Tryz.prog w = .ok (.agg #[.int .i64 0, .slice none 0 0, .slice none 0 0, .slice none 0 0]) w := by kernel_rfl
/-- The map holds just the cells of a list; these lie in blocks of E. -/
def MapK (w : World) (E : Nat → Prop) (m W : Nat) (L : List KC) : Prop :=
  ∃ D : DataW Value, w.ownsMap Tryz.prog 149 heldR m L.length D ∧ Maps.size D = L.length ∧
    (∀ k, okK W k → Maps.has D (keyLk k) = (getK L k).isSome) ∧ (∀ x ∈ L, ∃ v, (∀ z, D.atKey (keyLk x.1) z = .held v) ∧ CellE w E v x.2) ∧ ∀ kl, Maps.has D kl = true → ∃ x ∈ L, kl = keyLk x.1
theorem MapK.kept {w w' : World} {E : Nat → Prop} {m W : Nat} {L : List KC} (h : MapK w E m W L) (hm : w'.heap[m]? = w.heap[m]?) (hk : Kept E w w') : MapK w' E m W L := by
  obtain ⟨D, ⟨es, clock, hb, r⟩, h2, h3, h4, h5⟩ := h
  refine ⟨D, ⟨es, clock, hm.trans hb, r⟩, h2, h3, fun x hx => ?_, h5⟩
  obtain ⟨v, a, b⟩ := h4 x hx
  exact ⟨v, a, b.kept hk⟩
theorem MapK.mono {w : World} {E E' : Nat → Prop} {m W : Nat} {L : List KC} (h : MapK w E m W L) (hE : ∀ i, E i → E' i) : MapK w E' m W L := by
  obtain ⟨D, h1, h2, h3, h4, h5⟩ := h
  refine ⟨D, h1, h2, h3, fun x hx => ?_, h5⟩
  obtain ⟨v, a, b⟩ := h4 x hx
  exact ⟨v, a, b.mono hE⟩
theorem MapK.lt {w : World} {E : Nat → Prop} {m W : Nat} {L : List KC} (h : MapK w E m W L) : m < w.heap.size := by
  obtain ⟨D, h1, -⟩ := h
  exact h1.lt
theorem MapK.new (w : World) (E : Nat → Prop) (W : Nat) : MapK (w.alloc (.map #[] 0)) E w.heap.size W [] :=
  ⟨.map [], World.ownsMap_made _ _ _ _, rfl, (fun k _ => rfl), (fun x hx => (by cases hx)), (fun kl h => (by simp [Maps.has] at h))⟩
/-- `v, ok := m[k]`. -/
theorem MapK.look {w : World} {E : Nat → Prop} {m W : Nat} {L : List KC} (h : MapK w E m W L) {k : List Int} (hk : okK W k) :
    ∃ v, (Instr.lookup 102 (.map (some m)) (keyT k) true).run Tryz.prog w = .ok (.tuple #[v, .bool (getK L k).isSome]) w ∧ CellE w E v (getC L k) := by
  obtain ⟨D, h1, h2, h3, h4, h5⟩ := h
  obtain ⟨v, ps, hrun, hR⟩ := h1.look_ok key_law Tryz.underlying102 (zero_cellM w) (show heldR _ = some (.held _, []) from rfl) (key_of_k hk)
  rw [h3 k hk] at hrun
  refine ⟨v, hrun, ?_⟩
  have hv : DataW.held v = D.atKey (keyLk k) (.held (.agg #[.int .i64 0, .slice none 0 0, .slice none 0 0, .slice none 0 0])) := by
    unfold heldR at hR
    simpa using congrArg Prod.fst (Option.some.inj hR)
  cases hg : getK L k with
  | none =>
    rw [Maps.atKey_of_not_has (by rw [h3 k hk, hg]; rfl)] at hv
    injection hv with hv
    subst hv
    unfold getC; rw [hg]; exact CellE.nil_
  | some c =>
    obtain ⟨u, hu, hce⟩ := h4 _ (getK_mem hg)
    rw [hu] at hv
    injection hv with hv
    subst hv
    unfold getC; rw [hg]; exact hce
theorem own_tight {w : World} {m n : Nat} {D : DataW Value} (h : w.ownsMap Tryz.prog 149 heldR m n D) : w.ownsMap Tryz.prog 149 heldR m (Maps.size D) D := by
  obtain ⟨es, clock, hb, F, hs, rfl⟩ := h
  exact ⟨es, clock, hb, F, by simp [Maps.size, length_sorted], rfl⟩
theorem turned_upd {w w' : World} {m : Nat} (h : w.mapTurned w' m) : Upd m w w' := h.grown
/-- `m[k] = v`. -/
theorem MapK.store {w : World} {E : Nat → Prop} {m W : Nat} {L : List KC} (h : MapK w E m W L) (hok : ∀ x ∈ L, okK W x.1) (hs : SortK L) (hW : W ≤ 3) (hL : L.length ≤ 1000000) (hm : ¬ E m) {k : List Int} (hk : okK W k) {v : Value} {c : CellM} (hv : CellE w E v c) :
    ∃ w', (Instr.mapUpdate 102 (.map (some m)) (keyT k) v).run Tryz.prog w = .ok () w' ∧ MapK w' E m W (setK k c L) ∧ Upd m w w' ∧ w'.heap.size = w.heap.size ∧ ∀ a, w'.frozen? a = w.frozen? a := by
  obtain ⟨D, h1, h2, h3, h4, h5⟩ := h
  obtain ⟨w', hrun, ho, ht⟩ := h1.store key_law Tryz.underlying102 (by unfold maxLen; omega) (key_of_k hk) (show heldR v = some (.held v, []) from rfl)
  have hu := turned_upd ht
  have hkp : Kept E w w' := fun i hi => by
    obtain ⟨es, clock, es', clock', hb, rfl⟩ := ht
    exact heap_setBlock_other hb _ (fun e => hm (e ▸ hi))
  have hsz : Maps.size (D.put (keyLk k) (.held v)) = (setK k c L).length := by
    rw [Maps.size_put (h1.tidy key_law), h3 k hk, h2, setK_len hs]
  have ho' := own_tight ho
  rw [hsz] at ho'
  refine ⟨w', hrun, ⟨D.put (keyLk k) (.held v), ho', hsz, fun k' hk' => ?_, fun x hx => ?_, fun kl hkl => ?_⟩, hu, ?_, fun a => ht.frozen a⟩
  · rw [getK_set hs]
    by_cases e : k = k'
    · subst e
      rw [Maps.has_put_same h1.isMap (keyLk_is hk), if_pos rfl]; rfl
    · rw [Maps.has_put_other (fun e' => e (keyLk_inj hk hk' hW e'.symm)), if_neg e]
      exact h3 k' hk'
  · have hg := getK_of_mem (sortK_set hs k c) hx
    rw [getK_set hs] at hg
    by_cases e : k = x.1
    · rw [if_pos e] at hg
      injection hg with hg
      refine ⟨v, fun z => ?_, ?_⟩
      · rw [← e]; exact Maps.atKey_put_same h1.isMap (keyLk_is hk) _ _
      · rw [← hg]; exact hv.kept hkp
    · rw [if_neg e] at hg
      have hxm := getK_mem hg
      obtain ⟨u, hu', hce⟩ := h4 _ hxm
      exact ⟨u, fun z => by rw [Maps.atKey_put_other (fun e' => e (keyLk_inj hk (hok _ hxm) hW e'.symm))]; exact hu' z, hce.kept hkp⟩
  · by_cases e : kl = keyLk k
    · refine ⟨(k, c), ?_, e⟩
      have := getK_set hs k c k
      rw [if_pos rfl] at this
      exact getK_mem this
    · rw [Maps.has_put_other e] at hkl
      obtain ⟨x, hx, rfl⟩ := h5 kl hkl
      have hne : k ≠ x.1 := fun e' => e (by rw [e'])
      have hg := getK_set hs k c x.1
      rw [if_neg hne, getK_of_mem hs hx] at hg
      exact ⟨x, getK_mem hg, rfl⟩
  · obtain ⟨es, clock, es', clock', hb, rfl⟩ := ht
    simp [setBlock]
end Go.Proofs.YtgoapnkdcfcjgaaGreat
/- The program's cuboid: its state; New; the key of codes. -/
namespace Go.Proofs.YtgoapnkdcfcjgaaGreat
open Go.ChangeShapes Go.WideShapes Go.ChangeAt Go.RowKit Go.Maps
set_option linter.unusedVariables false
set_option linter.unusedSimpArgs false

def codeB (x : Int) : Bool := decide (0 ≤ x) && decide (x ≤ 40)
set_option maxRecDepth 100000 in
theorem code_any (x : Int) (w : World) : Calls Tryz.prog 126 #[.int .i64 x] w (Stays (.bool (codeB x)) w) := by
  unfold codeB
  go_enter Tryz.func126, Tryz.ntmps126
  go_wp2
  all_goals go_ret
  all_goals refine ⟨ret_bool ?_, Qu.refl _⟩
  all_goals simp [*] <;> omega
set_option maxRecDepth 100000 in
theorem keyAt_any (x : Int) (w : World) : Calls Tryz.prog 125 #[.int .i64 x] w (Stays (.bool (!codeB x)) w) := by
  go_enter Tryz.func125, Tryz.ntmps125
  go_wp2_with fail
  refine (code_any _ _).mono ?_
  rintro e w1 ⟨rfl, hq⟩
  go_wp2
  go_ret
  exact ⟨rfl, hq⟩
def AllKRel (l : List Int) (w : World) (i : Value) (wr : World) : Prop := ∃ k : Nat, k ≤ l.length ∧ i = .int .i64 k ∧ (∀ x ∈ l.take k, codeB x = true) ∧ Qu w wr
theorem allK_take_succ {l : List Int} {k : Nat} (h : ∀ x ∈ l.take k, codeB x = true) (hk : k < l.length) (hx : codeB (l.getD k 0) = true) : ∀ x ∈ l.take (k + 1), codeB x = true := by
  intro x hm
  rw [take_succ_getD l k hk] at hm
  rcases List.mem_append.1 hm with h' | h'
  · exact h x h'
  · simp at h'; rw [h']; exact hx
def IdxKP (l : List Int) (w : World) (e : Ending) (w' : World) : Prop := (∃ i : Int, e = .returned (.int .i64 i) ∧ (decide (0 ≤ i)) = !(l.all fun x => codeB x)) ∧ Qu w w'
set_option maxRecDepth 100000 in
set_option maxHeartbeats 800000 in
theorem indexKI_any (v : Value) (l : List Int) (w : World) (B : Nat) (hv : Sl w B v (ivals l)) :
    Calls Tryz.prog 119 #[v, .func (Fn.func 125) #[] #[]] w (IdxKP l w) := by
  obtain ⟨A1, c1, rfl, hc1, hm1⟩ := hv.formI
  unfold maxLen at hm1
  have S1 := hid hv; clear hv
  go_enter Tryz.func119, Tryz.ntmps119
  go_wp2
  go_loopw [8] (fun i wr => AllKRel l w i wr) (fun i _ => l.length - (intOf i).toNat)
  case atStart => exact ⟨0, by omega, rfl, by simp, Qu.refl _⟩
  case round =>
    obtain ⟨k, hk, rfl, hall, hq⟩ := hrel
    have HA := hid hall; clear hall
    by_cases hlt : k < l.length
    · obtain ⟨b1, o1, rfl, hb1, hx1⟩ := S1.out.int hlt
      have g1 : wr.cell? ⟨b1, o1 + k, none⟩ = _ := (hq.cell _).trans hx1
      clear hx1
      have hm := getD_mem hlt
      have hn := allK_take_succ HA.out hlt
      generalize l.getD k 0 = x at *
      have HM := hid hm; have HN := hid hn; clear hm hn
      have hf := keyAt_any x
      cases hb : codeB x
      · rw [hb] at hf
        have HF := hid hf; have HB := hid hb; clear hf hb
        go_wp2_with fail
        refine (HF.out _).mono ?_
        rintro e w1 ⟨rfl, hq1⟩
        go_wp2
        go_ret
        refine ⟨⟨_, rfl, ?_⟩, hq.trans hq1⟩
        rw [decide_eq_true (by omega)]
        symm
        rw [Bool.not_eq_true', ← Bool.not_eq_true, List.all_eq_true]
        intro h
        have := h x HM.out
        rw [HB.out] at this
        cases this
      · rw [hb] at hf
        have HF := hid hf; have HB := hid hb; clear hf hb
        go_wp2_with fail
        refine (HF.out _).mono ?_
        rintro e w1 ⟨rfl, hq1⟩
        go_wp2
        go_roundw
        case rel => exact ⟨k + 1, by omega, by go_num, HN.out HB.out, hq.trans hq1⟩
        case measure => simp [intOf]; omega
    · have := HA.out
      rw [List.take_of_length_le (by omega)] at this
      have HT := hid this; clear this
      go_wp2
      go_ret
      refine ⟨⟨_, rfl, ?_⟩, hq⟩
      rw [List.all_eq_true.2 (by simpa using HT.out)]
      rfl
set_option maxRecDepth 100000 in
theorem containsKI_any (v : Value) (l : List Int) (w : World) (B : Nat) (hv : Sl w B v (ivals l)) :
    Calls Tryz.prog 80 #[v, .func (Fn.func 125) #[] #[]] w (Stays (.bool (!(l.all fun x => codeB x))) w) := by
  have HI := hid (fun W (hq : Qu w W) => indexKI_any v l W B (hv.qu' hq))
  clear hv
  go_enter Tryz.func80, Tryz.ntmps80
  go_wp2_with fail
  refine (HI.out _ (Qu.refl _)).mono ?_
  rintro e w1 ⟨⟨i, rfl, hi⟩, hq⟩
  go_wp2
  go_ret
  exact ⟨ret_bool (by rw [← hi]), hq⟩
theorem okB_codes (W : Nat) (k : List Int) : okB W k = (decide (k.length = W) && k.all codeB) := by
  have h : okK W k ↔ (decide (k.length = W) && k.all codeB) = true := by
    unfold okK
    simp [codeB, List.all_eq_true]
  unfold okB
  cases hb : (decide (k.length = W) && k.all codeB)
  · exact decide_eq_false (fun e => by rw [h.1 e] at hb; cases hb)
  · exact decide_eq_true (h.2 hb)
/-- At p lies a cuboid of width W and M measures with the cells L; it owns the blocks D; its map is block m. -/
def CubW (w : World) (D : Nat → Prop) (p m W M : Nat) (L : List KC) : Prop :=
  D p ∧ D m ∧ p ≠ m ∧ (∀ k, D k → k < w.heap.size) ∧ w.cell? ⟨p, 0, none⟩ = some (.int .i64 W) ∧ w.cell? ⟨p, 1, none⟩ = some (.int .i64 M) ∧ w.cell? ⟨p, 2, none⟩ = some (.map (some m)) ∧ MapK w (fun i => D i ∧ i ≠ m) m W L
theorem CubW.kept {w w' : World} {D : Nat → Prop} {p m W M : Nat} {L : List KC} (h : CubW w D p m W M L) (k : Kept D w w') (hs : w.heap.size ≤ w'.heap.size) : CubW w' D p m W M L := by
  obtain ⟨h1, h2, h3, h4, h5, h6, h7, h8⟩ := h
  exact ⟨h1, h2, h3, fun i hi => Nat.lt_of_lt_of_le (h4 i hi) hs, k.cell h1 h5, k.cell h1 h6, k.cell h1 h7, h8.kept (k m h2) (fun i hi => k i hi.1)⟩
theorem CubW.below {w w' : World} {D : Nat → Prop} {p m W M : Nat} {L : List KC} (h : CubW w D p m W M L) (hb : Below w.heap.size w w') : CubW w' D p m W M L :=
  h.kept (fun k hk => hb.block k (h.2.2.2.1 k hk)) hb.size
theorem CubW.qu {w w' : World} {D : Nat → Prop} {p m W M : Nat} {L : List KC} (h : CubW w D p m W M L) (hq : Qu w w') : CubW w' D p m W M L := h.below (hq.below _)
theorem CubW.grow {w : World} {D D' : Nat → Prop} {p m W M : Nat} {L : List KC} (h : CubW w D p m W M L) (h1 : ∀ i, D i → D' i) (h2 : ∀ i, D' i → i < w.heap.size) : CubW w D' p m W M L := by
  obtain ⟨a1, a2, a3, a4, a5, a6, a7, a8⟩ := h
  exact ⟨h1 _ a1, h1 _ a2, a3, h2, a5, a6, a7, a8.mono (fun i hi => ⟨h1 _ hi.1, hi.2⟩)⟩
def NewCP (W M : Nat) (w : World) (e : Ending) (w' : World) : Prop := ∃ p m D, e = .returned (.pointer (some ⟨p, 0, none⟩)) ∧ CubW w' D p m W M [] ∧ (∀ k, D k → w.heap.size ≤ k) ∧ Below w.heap.size w w'
set_option maxRecDepth 100000 in
theorem newC_yes (W M : Nat) (w : World) (h1 : 1 ≤ W) (h2 : W ≤ 3) (h3 : 1 ≤ M) (h4 : M ≤ 2) : Calls Tryz.prog 43 #[.int .i64 W, .int .i64 M] w (NewCP W M w) := by
  have hmm := @run_makeMap Tryz.prog
  go_enter Tryz.func43, Tryz.ntmps43
  go_wp2
  go_ret
  refine ⟨w.heap.size + 1, w.heap.size, (fun k => k = w.heap.size ∨ k = w.heap.size + 1), rfl, ⟨.inr rfl, .inl rfl, by omega, ?_, by simp [go_sem], by simp [go_sem], by simp [go_sem], ?_⟩, ?_, (by repeat' first | with_reducible exact Below.refl _ _ | assumption | (with_reducible refine Below.alloc ?_ ?_ _) | (with_reducible refine Below.setCell ?_ ?_ _) | (with_reducible refine Below.drew ?_) | (with_reducible refine below_drewN ?_ _) | (with_reducible refine Below.trans ?_ (Below.mono ‹_› ?_)) | omega | (with_reducible refine le_alloc ?_) | (with_reducible refine le_setCell ?_) | (with_reducible refine le_drew ?_) | (with_reducible refine le_drewN ?_) | (with_reducible refine Nat.le_trans ?_ (Below.size ‹_›)) | (simp <;> omega))⟩
  · rintro k (rfl | rfl) <;> simp <;> omega
  · obtain ⟨D, ⟨es, clock, hb, r⟩, h2, h3, h4, h5⟩ := MapK.new w (fun _ => False) W
    exact ⟨D, ⟨es, clock, (((Below.refl (w.alloc (.map #[] 0)).heap.size (w.alloc (.map #[] 0))).alloc (Nat.le_refl _) _).block _ (by simp)).trans hb, r⟩, h2, h3, (fun x hx => (by cases hx)), h5⟩
  · rintro k (rfl | rfl) <;> omega
end Go.Proofs.YtgoapnkdcfcjgaaGreat
/- The program's dictionary: Copy. -/
namespace Go.Proofs.YtgoapnkdcfcjgaaGreat
open Go.ChangeShapes Go.WideShapes Go.ChangeAt Go.RowKit Go.Maps
set_option linter.unusedVariables false

def CopyPost (L : Int) (ns : List DNode) (w : World) (e : Ending) (w' : World) : Prop :=
  ∃ d D, e = .returned (.pointer (some ⟨d, 0, none⟩)) ∧ DictW w' D d L ns ∧ (∀ k, D k → w.heap.size ≤ k) ∧ Below w.heap.size w w'
set_option maxRecDepth 100000 in
set_option maxHeartbeats 1600000 in
theorem copyD_any (D : Nat → Prop) (d : Nat) (L : Int) (ns : List DNode) (w : World) (h : DictW w D d L ns) (hok : DOk ns) (h1 : 1 ≤ L) (h3 : L ≤ 3) :
    Calls Tryz.prog 66 #[.pointer (some ⟨d, 0, none⟩)] w (CopyPost L ns w) := by
  obtain ⟨A, c, h5, hc1, hc2, hrow⟩ := h.rows
  have hd := h.2.1 d h.1
  have hL := h.2.2.2.1
  have hlen := hok.len
  have HN := hid (newD_yes L w h1 h3)
  have HROW := hid hrow; have HOK := hid hok; clear h hrow hok
  unfold maxLen at hc2
  go_enter Tryz.func66, Tryz.ntmps66
  go_wp2_with fail
  refine HN.out.mono ?_
  rintro e w1 ⟨d1, D1, rfl, hd1, hD1, hb1⟩
  have h5' := cellK hb1 hd h5
  have HD1 := hid hd1; have HG1 := hid hD1; have HB1 := hid hb1; clear hd1 hD1 hb1
  go_wp2
  go_loopw [5, 16] (fun _ i wr => ∃ (k : Nat) (D' : Nat → Prop), i = .int .i64 k ∧ k ≤ ns.length ∧ DictW wr D' d1 L (ns.take k) ∧ (∀ k, D' k → w.heap.size ≤ k) ∧ Below w.heap.size w wr) (fun _ i _ => ns.length - (intOf i).toNat)
  case atStart => exact ⟨0, D1, rfl, by omega, HD1.out, HG1.out, HB1.out⟩
  case round =>
    obtain ⟨k, D', rfl, hk, hdw, hg, hb⟩ := hrel
    have HDW := hid hdw; have HG := hid hg; have HB := hid hb; clear hdw hg hb
    by_cases hlt : k < ns.length
    · obtain ⟨b, rfl, hbl, hcA, hcB⟩ := HROW.out k hlt
      replace hcA := cellK HB.out hbl hcA
      replace hcB := cellK HB.out hbl hcB
      obtain ⟨hx1, hx2⟩ := HOK.out.small _ (List.getElem_mem hlt)
      have e1 : ns.take (k + 1) = ns.take k ++ [ns[k]] := List.take_succ_eq_append_getElem hlt
      have hnot : ns[k] ∉ ns.take k := by
        intro hm
        obtain ⟨j, hj, he⟩ := List.mem_iff_getElem.1 hm
        rw [List.length_take] at hj
        rw [List.getElem_take] at he
        have c1 := code_of_get HOK.out.inv.nodup (List.getElem?_eq_getElem hlt)
        have c2 := code_of_get HOK.out.inv.nodup (List.getElem?_eq_getElem (show j < ns.length by omega))
        rw [he, c1] at c2
        omega
      have hb2 : Below w.heap.size w (wr.alloc (.cells #[.int .i64 (ns[k].1 : Int), .string ns[k].2] 146)) := HB.out.alloc HB.out.size _
      have hp := putD_any D' d1 L (ns.take k) ns[k].1 ns[k].2 (wr.alloc (.cells #[.int .i64 (ns[k].1 : Int), .string ns[k].2] 146)) (HDW.out.below (bl1 _ _)) (by rw [List.length_take]; omega) hx1 (by omega) hnot
      have e2 : ns.take k ++ [(ns[k].1, ns[k].2)] = ns.take (k + 1) := e1.symm
      rw [e2] at hp
      generalize ns[k].1 = up at *
      generalize ns[k].2 = s at *
      have HP := hid hp; have HB2 := hid hb2
      clear hp e1 e2 hnot hb2
      go_wp2_with fail
      refine HP.out.mono ?_
      rintro e w4 ⟨D2, rfl, hg2, hd4, hc4⟩
      have HD4 := hid hd4
      have HB4 := hid (HB2.out.trans (hc4.below HB2.out.size HG.out))
      have HG4 := hid (show ∀ k, D2 k → w.heap.size ≤ k from fun k hk => (hg2.2 k hk).elim (HG.out k) (fun h => Nat.le_trans HB2.out.size h))
      clear hg2 hd4 hc4
      go_wp2
      go_roundw
      case rel => exact ⟨k + 1, D2, by go_num, by omega, HD4.out, HG4.out, HB4.out⟩
      case measure => simp [intOf]; omega
    · obtain rfl : k = ns.length := by omega
      go_wp2
      go_ret
      refine ⟨d1, D', rfl, ?_, HG.out, HB.out⟩
      have := HDW.out
      rwa [List.take_length] at this
end Go.Proofs.YtgoapnkdcfcjgaaGreat
