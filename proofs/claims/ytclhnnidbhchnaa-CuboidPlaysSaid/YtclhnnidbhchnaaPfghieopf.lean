/- 2 texts of this claim, in build order. -/
import Derived.Test.YtclhnnidbhchnaaPecinfeik
import Derived.Test.YtclhnnidbhchnaaPigieaalm
import Derived.Test.YtclhnnidbhchnaaPfbddkeda
/- The map of a cuboid's cells: look-up and store. -/
namespace Go.Proofs.Ytclhnnidbhchnaa
open Go.ChangeShapes Go.WideShapes Go.ChangeAt Go.RowKit Go.Maps
open Go.ChangeMaps Go.MapKept
set_option linter.unusedVariables false
set_option linter.unusedSimpArgs false

/-- A map's element as it is. -/
def heldR : Value → Option (DataW Value × List MemPlace) := fun v => some (.held v, [])
def keyLk (k : List Int) : Lit := keyL (k.getD 0 0) (k.getD 1 0) (k.getD 2 0)
theorem code_at {W : Nat} {k : List Int} (h : okK W k) (i : Nat) : 0 ≤ k.getD i 0 ∧ k.getD i 0 ≤ 40 := by
  rw [List.getD_eq_getElem?_getD]
  rcases Nat.lt_or_ge i k.length with hi | hi
  · rw [List.getElem?_eq_getElem hi]
    exact h.2 _ (List.getElem_mem hi)
  · rw [List.getElem?_eq_none hi]; simp
theorem key_of_k {W : Nat} {k : List Int} (h : okK W k) : keyOf Try.prog 99 (keyT k) = some (keyLk k) := by
  have h0 := code_at h 0; have h1 := code_at h 1; have h2 := code_at h 2
  exact key_of (by omega) (by omega) (by omega)
theorem keyT_inj {W : Nat} {k k' : List Int} (h : okK W k) (h' : okK W k') (hW : W ≤ 3) (e : keyT k = keyT k') : k = k' := by
  unfold keyT keyV at e
  simp only [Value.agg.injEq, Array.mk.injEq, List.cons.injEq, Value.int.injEq, true_and, and_true] at e
  obtain ⟨e0, e1, e2⟩ := e
  apply List.ext_getElem
  · rw [h.1, h'.1]
  · intro i h1 h2
    have hi : i < 3 := by have := h.1; omega
    have q : k.getD i 0 = k'.getD i 0 := by
      obtain rfl | rfl | rfl : i = 0 ∨ i = 1 ∨ i = 2 := by omega
      · exact e0
      · exact e1
      · exact e2
    rwa [List.getD_eq_getElem?_getD, List.getD_eq_getElem?_getD, List.getElem?_eq_getElem h1, List.getElem?_eq_getElem h2] at q
theorem keyLk_inj {W : Nat} {k k' : List Int} (h : okK W k) (h' : okK W k') (hW : W ≤ 3) (e : keyLk k = keyLk k') : k = k' :=
  keyT_inj h h' hW (key_law.inj (key_of_k h) (by rw [e]; exact key_of_k h'))
theorem keyLk_is {W : Nat} {k : List Int} (h : okK W k) : WideAt.IsKeyLit (keyLk k) := key_law.key (key_of_k h)
theorem zero_cellM (w : World) : (zeroValue 25).run Try.prog w = .ok (.agg #[.int .i64 0, .slice none 0 0, .slice none 0 0, .slice none 0 0]) w := by kernel_rfl
/-- The map holds just the cells of a list; these lie in blocks of E. -/
def MapK (w : World) (E : Nat → Prop) (m W : Nat) (L : List KC) : Prop :=
  ∃ D : DataW Value, w.ownsMap Try.prog 99 heldR m L.length D ∧ Maps.size D = L.length ∧
    (∀ k, okK W k → Maps.has D (keyLk k) = (getK L k).isSome) ∧ (∀ x ∈ L, ∃ v, (∀ z, D.atKey (keyLk x.1) z = .held v) ∧ CellE w E v x.2) ∧ ∀ kl, Maps.has D kl = true → ∃ x ∈ L, kl = keyLk x.1
theorem MapK.kept {w w' : World} {E : Nat → Prop} {m W : Nat} {L : List KC} (h : MapK w E m W L) (hm : w'.heap[m]? = w.heap[m]?) (hk : Kept E w w') : MapK w' E m W L := by
  obtain ⟨D, ⟨es, clock, hb, r⟩, h2, h3, h4, h5⟩ := h
  refine ⟨D, ⟨es, clock, hm.trans hb, r⟩, h2, h3, fun x hx => ?_, h5⟩
  obtain ⟨v, a, b⟩ := h4 x hx
  exact ⟨v, a, b.kept hk⟩
theorem MapK.mono {w : World} {E E' : Nat → Prop} {m W : Nat} {L : List KC} (h : MapK w E m W L) (hE : ∀ i, E i → E' i) : MapK w E' m W L := by
  obtain ⟨D, h1, h2, h3, h4, h5⟩ := h
  refine ⟨D, h1, h2, h3, fun x hx => ?_, h5⟩
  obtain ⟨v, a, b⟩ := h4 x hx
  exact ⟨v, a, b.mono hE⟩
theorem MapK.lt {w : World} {E : Nat → Prop} {m W : Nat} {L : List KC} (h : MapK w E m W L) : m < w.heap.size := by
  obtain ⟨D, h1, -⟩ := h
  exact h1.lt
theorem MapK.new (w : World) (E : Nat → Prop) (W : Nat) : MapK (w.alloc (.map #[] 0)) E w.heap.size W [] :=
  ⟨.map [], World.ownsMap_made _ _ _ _, rfl, (fun k _ => rfl), (fun x hx => (by cases hx)), (fun kl h => (by simp [Maps.has] at h))⟩
/-- `v, ok := m[k]`. -/
theorem MapK.look {w : World} {E : Nat → Prop} {m W : Nat} {L : List KC} (h : MapK w E m W L) {k : List Int} (hk : okK W k) :
    ∃ v, (Instr.lookup 92 (.map (some m)) (keyT k) true).run Try.prog w = .ok (.tuple #[v, .bool (getK L k).isSome]) w ∧ CellE w E v (getC L k) := by
  obtain ⟨D, h1, h2, h3, h4, h5⟩ := h
  obtain ⟨v, ps, hrun, hR⟩ := h1.look_ok key_law Try.underlying92 (zero_cellM w) (show heldR _ = some (.held _, []) from rfl) (key_of_k hk)
  rw [h3 k hk] at hrun
  refine ⟨v, hrun, ?_⟩
  have hv : DataW.held v = D.atKey (keyLk k) (.held (.agg #[.int .i64 0, .slice none 0 0, .slice none 0 0, .slice none 0 0])) := by
    unfold heldR at hR
    simpa using congrArg Prod.fst (Option.some.inj hR)
  cases hg : getK L k with
  | none =>
    rw [Maps.atKey_of_not_has (by rw [h3 k hk, hg]; rfl)] at hv
    injection hv with hv
    subst hv
    unfold getC; rw [hg]; exact CellE.nil_
  | some c =>
    obtain ⟨u, hu, hce⟩ := h4 _ (getK_mem hg)
    rw [hu] at hv
    injection hv with hv
    subst hv
    unfold getC; rw [hg]; exact hce
theorem own_tight {w : World} {m n : Nat} {D : DataW Value} (h : w.ownsMap Try.prog 99 heldR m n D) : w.ownsMap Try.prog 99 heldR m (Maps.size D) D := by
  obtain ⟨es, clock, hb, F, hs, rfl⟩ := h
  exact ⟨es, clock, hb, F, by simp [Maps.size, length_sorted], rfl⟩
theorem turned_upd {w w' : World} {m : Nat} (h : w.mapTurned w' m) : Upd m w w' := h.grown
/-- `m[k] = v`. -/
theorem MapK.store {w : World} {E : Nat → Prop} {m W : Nat} {L : List KC} (h : MapK w E m W L) (hok : ∀ x ∈ L, okK W x.1) (hs : SortK L) (hW : W ≤ 3) (hL : L.length ≤ 1000000) (hm : ¬ E m) {k : List Int} (hk : okK W k) {v : Value} {c : CellM} (hv : CellE w E v c) :
    ∃ w', (Instr.mapUpdate 92 (.map (some m)) (keyT k) v).run Try.prog w = .ok () w' ∧ MapK w' E m W (setK k c L) ∧ Upd m w w' ∧ w'.heap.size = w.heap.size ∧ ∀ a, w'.frozen? a = w.frozen? a := by
  obtain ⟨D, h1, h2, h3, h4, h5⟩ := h
  obtain ⟨w', hrun, ho, ht⟩ := h1.store key_law Try.underlying92 (by unfold maxLen; omega) (key_of_k hk) (show heldR v = some (.held v, []) from rfl)
  have hu := turned_upd ht
  have hkp : Kept E w w' := fun i hi => by
    obtain ⟨es, clock, es', clock', hb, rfl⟩ := ht
    exact heap_setBlock_other hb _ (fun e => hm (e ▸ hi))
  have hsz : Maps.size (D.put (keyLk k) (.held v)) = (setK k c L).length := by
    rw [Maps.size_put (h1.tidy key_law), h3 k hk, h2, setK_len hs]
  have ho' := own_tight ho
  rw [hsz] at ho'
  refine ⟨w', hrun, ⟨D.put (keyLk k) (.held v), ho', hsz, fun k' hk' => ?_, fun x hx => ?_, fun kl hkl => ?_⟩, hu, ?_, fun a => ht.frozen a⟩
  · rw [getK_set hs]
    by_cases e : k = k'
    · subst e
      rw [Maps.has_put_same h1.isMap (keyLk_is hk), if_pos rfl]; rfl
    · rw [Maps.has_put_other (fun e' => e (keyLk_inj hk hk' hW e'.symm)), if_neg e]
      exact h3 k' hk'
  · have hg := getK_of_mem (sortK_set hs k c) hx
    rw [getK_set hs] at hg
    by_cases e : k = x.1
    · rw [if_pos e] at hg
      injection hg with hg
      refine ⟨v, fun z => ?_, ?_⟩
      · rw [← e]; exact Maps.atKey_put_same h1.isMap (keyLk_is hk) _ _
      · rw [← hg]; exact hv.kept hkp
    · rw [if_neg e] at hg
      have hxm := getK_mem hg
      obtain ⟨u, hu', hce⟩ := h4 _ hxm
      exact ⟨u, fun z => by rw [Maps.atKey_put_other (fun e' => e (keyLk_inj hk (hok _ hxm) hW e'.symm))]; exact hu' z, hce.kept hkp⟩
  · by_cases e : kl = keyLk k
    · refine ⟨(k, c), ?_, e⟩
      have := getK_set hs k c k
      rw [if_pos rfl] at this
      exact getK_mem this
    · rw [Maps.has_put_other e] at hkl
      obtain ⟨x, hx, rfl⟩ := h5 kl hkl
      have hne : k ≠ x.1 := fun e' => e (by rw [e'])
      have hg := getK_set hs k c x.1
      rw [if_neg hne, getK_of_mem hs hx] at hg
      exact ⟨x, getK_mem hg, rfl⟩
  · obtain ⟨es, clock, es', clock', hb, rfl⟩ := ht
    simp [setBlock]
end Go.Proofs.Ytclhnnidbhchnaa
/- The program's cuboid: its state; New; the key of codes. -/
namespace Go.Proofs.Ytclhnnidbhchnaa
open Go.ChangeShapes Go.WideShapes Go.ChangeAt Go.RowKit Go.Maps
set_option linter.unusedVariables false
set_option linter.unusedSimpArgs false

def codeB (x : Int) : Bool := decide (0 ≤ x) && decide (x ≤ 40)
set_option maxRecDepth 100000 in
theorem code_any (x : Int) (w : World) : Calls Try.prog 90 #[.int .i64 x] w (Stays (.bool (codeB x)) w) := by
  unfold codeB
  go_enter Try.func90, Try.ntmps90
  go_wp2
  all_goals go_ret
  all_goals refine ⟨ret_bool ?_, Qu.refl _⟩
  all_goals simp [*] <;> omega
set_option maxRecDepth 100000 in
theorem keyAt_any (x : Int) (w : World) : Calls Try.prog 91 #[.int .i64 x] w (Stays (.bool (!codeB x)) w) := by
  go_enter Try.func91, Try.ntmps91
  go_wp2_with fail
  refine (code_any _ _).mono ?_
  rintro e w1 ⟨rfl, hq⟩
  go_wp2
  go_ret
  exact ⟨rfl, hq⟩
def AllKRel (l : List Int) (w : World) (i : Value) (wr : World) : Prop := ∃ k : Nat, k ≤ l.length ∧ i = .int .i64 k ∧ (∀ x ∈ l.take k, codeB x = true) ∧ Qu w wr
theorem allK_take_succ {l : List Int} {k : Nat} (h : ∀ x ∈ l.take k, codeB x = true) (hk : k < l.length) (hx : codeB (l.getD k 0) = true) : ∀ x ∈ l.take (k + 1), codeB x = true := by
  intro x hm
  rw [take_succ_getD l k hk] at hm
  rcases List.mem_append.1 hm with h' | h'
  · exact h x h'
  · simp at h'; rw [h']; exact hx
def IdxKP (l : List Int) (w : World) (e : Ending) (w' : World) : Prop := (∃ i : Int, e = .returned (.int .i64 i) ∧ (decide (0 ≤ i)) = !(l.all fun x => codeB x)) ∧ Qu w w'
set_option maxRecDepth 100000 in
set_option maxHeartbeats 800000 in
theorem indexKI_any (v : Value) (l : List Int) (w : World) (B : Nat) (hv : Sl w B v (ivals l)) :
    Calls Try.prog 102 #[v, .func (Fn.func 91) #[] #[]] w (IdxKP l w) := by
  obtain ⟨A1, c1, rfl, hc1, hm1⟩ := hv.formI
  unfold maxLen at hm1
  have S1 := hid hv; clear hv
  go_enter Try.func102, Try.ntmps102
  go_wp2
  go_loopw [8] (fun i wr => AllKRel l w i wr) (fun i _ => l.length - (intOf i).toNat)
  case atStart => exact ⟨0, by omega, rfl, by simp, Qu.refl _⟩
  case round =>
    obtain ⟨k, hk, rfl, hall, hq⟩ := hrel
    have HA := hid hall; clear hall
    by_cases hlt : k < l.length
    · obtain ⟨b1, o1, rfl, hb1, hx1⟩ := S1.out.int hlt
      have g1 : wr.cell? ⟨b1, o1 + k, none⟩ = _ := (hq.cell _).trans hx1
      clear hx1
      have hm := getD_mem hlt
      have hn := allK_take_succ HA.out hlt
      generalize l.getD k 0 = x at *
      have HM := hid hm; have HN := hid hn; clear hm hn
      have hf := keyAt_any x
      cases hb : codeB x
      · rw [hb] at hf
        have HF := hid hf; have HB := hid hb; clear hf hb
        go_wp2_with fail
        refine (HF.out _).mono ?_
        rintro e w1 ⟨rfl, hq1⟩
        go_wp2
        go_ret
        refine ⟨⟨_, rfl, ?_⟩, hq.trans hq1⟩
        rw [decide_eq_true (by omega)]
        symm
        rw [Bool.not_eq_true', ← Bool.not_eq_true, List.all_eq_true]
        intro h
        have := h x HM.out
        rw [HB.out] at this
        cases this
      · rw [hb] at hf
        have HF := hid hf; have HB := hid hb; clear hf hb
        go_wp2_with fail
        refine (HF.out _).mono ?_
        rintro e w1 ⟨rfl, hq1⟩
        go_wp2
        go_roundw
        case rel => exact ⟨k + 1, by omega, by go_num, HN.out HB.out, hq.trans hq1⟩
        case measure => simp [intOf]; omega
    · have := HA.out
      rw [List.take_of_length_le (by omega)] at this
      have HT := hid this; clear this
      go_wp2
      go_ret
      refine ⟨⟨_, rfl, ?_⟩, hq⟩
      rw [List.all_eq_true.2 (by simpa using HT.out)]
      rfl
set_option maxRecDepth 100000 in
theorem containsKI_any (v : Value) (l : List Int) (w : World) (B : Nat) (hv : Sl w B v (ivals l)) :
    Calls Try.prog 82 #[v, .func (Fn.func 91) #[] #[]] w (Stays (.bool (!(l.all fun x => codeB x))) w) := by
  have HI := hid (fun W (hq : Qu w W) => indexKI_any v l W B (hv.qu' hq))
  clear hv
  go_enter Try.func82, Try.ntmps82
  go_wp2_with fail
  refine (HI.out _ (Qu.refl _)).mono ?_
  rintro e w1 ⟨⟨i, rfl, hi⟩, hq⟩
  go_wp2
  go_ret
  exact ⟨ret_bool (by rw [← hi]), hq⟩
theorem okB_codes (W : Nat) (k : List Int) : okB W k = (decide (k.length = W) && k.all codeB) := by
  have h : okK W k ↔ (decide (k.length = W) && k.all codeB) = true := by
    unfold okK
    simp [codeB, List.all_eq_true]
  unfold okB
  cases hb : (decide (k.length = W) && k.all codeB)
  · exact decide_eq_false (fun e => by rw [h.1 e] at hb; cases hb)
  · exact decide_eq_true (h.2 hb)
/-- At p lies a cuboid of width W and M measures with the cells L; it owns the blocks D; its map is block m. -/
def CubW (w : World) (D : Nat → Prop) (p m W M : Nat) (L : List KC) : Prop :=
  D p ∧ D m ∧ p ≠ m ∧ (∀ k, D k → k < w.heap.size) ∧ w.cell? ⟨p, 0, none⟩ = some (.int .i64 W) ∧ w.cell? ⟨p, 1, none⟩ = some (.int .i64 M) ∧ w.cell? ⟨p, 2, none⟩ = some (.map (some m)) ∧ MapK w (fun i => D i ∧ i ≠ m) m W L
theorem CubW.kept {w w' : World} {D : Nat → Prop} {p m W M : Nat} {L : List KC} (h : CubW w D p m W M L) (k : Kept D w w') (hs : w.heap.size ≤ w'.heap.size) : CubW w' D p m W M L := by
  obtain ⟨h1, h2, h3, h4, h5, h6, h7, h8⟩ := h
  exact ⟨h1, h2, h3, fun i hi => Nat.lt_of_lt_of_le (h4 i hi) hs, k.cell h1 h5, k.cell h1 h6, k.cell h1 h7, h8.kept (k m h2) (fun i hi => k i hi.1)⟩
theorem CubW.below {w w' : World} {D : Nat → Prop} {p m W M : Nat} {L : List KC} (h : CubW w D p m W M L) (hb : Below w.heap.size w w') : CubW w' D p m W M L :=
  h.kept (fun k hk => hb.block k (h.2.2.2.1 k hk)) hb.size
theorem CubW.qu {w w' : World} {D : Nat → Prop} {p m W M : Nat} {L : List KC} (h : CubW w D p m W M L) (hq : Qu w w') : CubW w' D p m W M L := h.below (hq.below _)
theorem CubW.grow {w : World} {D D' : Nat → Prop} {p m W M : Nat} {L : List KC} (h : CubW w D p m W M L) (h1 : ∀ i, D i → D' i) (h2 : ∀ i, D' i → i < w.heap.size) : CubW w D' p m W M L := by
  obtain ⟨a1, a2, a3, a4, a5, a6, a7, a8⟩ := h
  exact ⟨h1 _ a1, h1 _ a2, a3, h2, a5, a6, a7, a8.mono (fun i hi => ⟨h1 _ hi.1, hi.2⟩)⟩
def NewCP (W M : Nat) (w : World) (e : Ending) (w' : World) : Prop := ∃ p m D, e = .returned (.pointer (some ⟨p, 0, none⟩)) ∧ CubW w' D p m W M [] ∧ (∀ k, D k → w.heap.size ≤ k) ∧ Below w.heap.size w w'
set_option maxRecDepth 100000 in
theorem newC_yes (W M : Nat) (w : World) (h1 : 1 ≤ W) (h2 : W ≤ 3) (h3 : 1 ≤ M) (h4 : M ≤ 2) : Calls Try.prog 21 #[.int .i64 W, .int .i64 M] w (NewCP W M w) := by
  have hmm := @run_makeMap Try.prog
  go_enter Try.func21, Try.ntmps21
  go_wp2
  go_ret
  refine ⟨w.heap.size + 1, w.heap.size, (fun k => k = w.heap.size ∨ k = w.heap.size + 1), rfl, ⟨.inr rfl, .inl rfl, by omega, ?_, by simp [go_sem], by simp [go_sem], by simp [go_sem], ?_⟩, ?_, (by repeat' first | with_reducible exact Below.refl _ _ | assumption | (with_reducible refine Below.alloc ?_ ?_ _) | (with_reducible refine Below.setCell ?_ ?_ _) | (with_reducible refine Below.drew ?_) | (with_reducible refine below_drewN ?_ _) | (with_reducible refine Below.trans ?_ (Below.mono ‹_› ?_)) | omega | (with_reducible refine le_alloc ?_) | (with_reducible refine le_setCell ?_) | (with_reducible refine le_drew ?_) | (with_reducible refine le_drewN ?_) | (with_reducible refine Nat.le_trans ?_ (Below.size ‹_›)) | (simp <;> omega))⟩
  · rintro k (rfl | rfl) <;> simp <;> omega
  · obtain ⟨D, ⟨es, clock, hb, r⟩, h2, h3, h4, h5⟩ := MapK.new w (fun _ => False) W
    exact ⟨D, ⟨es, clock, (((Below.refl (w.alloc (.map #[] 0)).heap.size (w.alloc (.map #[] 0))).alloc (Nat.le_refl _) _).block _ (by simp)).trans hb, r⟩, h2, h3, (fun x hx => (by cases hx)), h5⟩
  · rintro k (rfl | rfl) <;> omega
end Go.Proofs.Ytclhnnidbhchnaa
