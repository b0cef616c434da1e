/- 5 texts of this claim, in build order. -/
import Derived.Test.YtclhnnidbhchnaaPgmfaoheo
import Derived.Test.YtclhnnidbhchnaaPfoojkoej
import Derived.Test.YtclhnnidbhchnaaPcbddibjm
import Derived.WideKeyEntry
import Derived.Test.YtclhnnidbhchnaaPebbpdehd
import Derived.Laws.IdiomCopy
/- The program's cuboid: its state; New; the key of codes. -/
namespace Go.Proofs.Ytclhnnidbhchnaa
open Go.ChangeShapes Go.WideShapes Go.ChangeAt Go.RowKit Go.Maps
set_option linter.unusedVariables false
set_option linter.unusedSimpArgs false

def codeB (x : Int) : Bool := decide (0 ≤ x) && decide (x ≤ 40)
set_option maxRecDepth 100000 in
theorem code_any (x : Int) (w : World) : Calls Try.prog 90 #[.int .i64 x] w (Stays (.bool (codeB x)) w) := by
  unfold codeB
  go_enter Try.func90, Try.ntmps90
  go_wp2
  all_goals go_ret
  all_goals refine ⟨ret_bool ?_, Qu.refl _⟩
  all_goals simp [*] <;> omega
set_option maxRecDepth 100000 in
theorem keyAt_any (x : Int) (w : World) : Calls Try.prog 91 #[.int .i64 x] w (Stays (.bool (!codeB x)) w) := by
  go_enter Try.func91, Try.ntmps91
  go_wp2_with fail
  refine (code_any _ _).mono ?_
  rintro e w1 ⟨rfl, hq⟩
  go_wp2
  go_ret
  exact ⟨rfl, hq⟩
def AllKRel (l : List Int) (w : World) (i : Value) (wr : World) : Prop := ∃ k : Nat, k ≤ l.length ∧ i = .int .i64 k ∧ (∀ x ∈ l.take k, codeB x = true) ∧ Qu w wr
theorem allK_take_succ {l : List Int} {k : Nat} (h : ∀ x ∈ l.take k, codeB x = true) (hk : k < l.length) (hx : codeB (l.getD k 0) = true) : ∀ x ∈ l.take (k + 1), codeB x = true := by
  intro x hm
  rw [take_succ_getD l k hk] at hm
  rcases List.mem_append.1 hm with h' | h'
  · exact h x h'
  · simp at h'; rw [h']; exact hx
def IdxKP (l : List Int) (w : World) (e : Ending) (w' : World) : Prop := (∃ i : Int, e = .returned (.int .i64 i) ∧ (decide (0 ≤ i)) = !(l.all fun x => codeB x)) ∧ Qu w w'
set_option maxRecDepth 100000 in
set_option maxHeartbeats 800000 in
theorem indexKI_any (v : Value) (l : List Int) (w : World) (B : Nat) (hv : Sl w B v (ivals l)) :
    Calls Try.prog 102 #[v, .func (Fn.func 91) #[] #[]] w (IdxKP l w) := by
  obtain ⟨A1, c1, rfl, hc1, hm1⟩ := hv.formI
  unfold maxLen at hm1
  have S1 := hid hv; clear hv
  go_enter Try.func102, Try.ntmps102
  go_wp2
  go_loopw [8] (fun i wr => AllKRel l w i wr) (fun i _ => l.length - (intOf i).toNat)
  case atStart => exact ⟨0, by omega, rfl, by simp, Qu.refl _⟩
  case round =>
    obtain ⟨k, hk, rfl, hall, hq⟩ := hrel
    have HA := hid hall; clear hall
    by_cases hlt : k < l.length
    · obtain ⟨b1, o1, rfl, hb1, hx1⟩ := S1.out.int hlt
      have g1 : wr.cell? ⟨b1, o1 + k, none⟩ = _ := (hq.cell _).trans hx1
      clear hx1
      have hm := getD_mem hlt
      have hn := allK_take_succ HA.out hlt
      generalize l.getD k 0 = x at *
      have HM := hid hm; have HN := hid hn; clear hm hn
      have hf := keyAt_any x
      cases hb : codeB x
      · rw [hb] at hf
        have HF := hid hf; have HB := hid hb; clear hf hb
        go_wp2_with fail
        refine (HF.out _).mono ?_
        rintro e w1 ⟨rfl, hq1⟩
        go_wp2
        go_ret
        refine ⟨⟨_, rfl, ?_⟩, hq.trans hq1⟩
        rw [decide_eq_true (by omega)]
        symm
        rw [Bool.not_eq_true', ← Bool.not_eq_true, List.all_eq_true]
        intro h
        have := h x HM.out
        rw [HB.out] at this
        cases this
      · rw [hb] at hf
        have HF := hid hf; have HB := hid hb; clear hf hb
        go_wp2_with fail
        refine (HF.out _).mono ?_
        rintro e w1 ⟨rfl, hq1⟩
        go_wp2
        go_roundw
        case rel => exact ⟨k + 1, by omega, by go_num, HN.out HB.out, hq.trans hq1⟩
        case measure => simp [intOf]; omega
    · have := HA.out
      rw [List.take_of_length_le (by omega)] at this
      have HT := hid this; clear this
      go_wp2
      go_ret
      refine ⟨⟨_, rfl, ?_⟩, hq⟩
      rw [List.all_eq_true.2 (by simpa using HT.out)]
      rfl
set_option maxRecDepth 100000 in
theorem containsKI_any (v : Value) (l : List Int) (w : World) (B : Nat) (hv : Sl w B v (ivals l)) :
    Calls Try.prog 82 #[v, .func (Fn.func 91) #[] #[]] w (Stays (.bool (!(l.all fun x => codeB x))) w) := by
  have HI := hid (fun W (hq : Qu w W) => indexKI_any v l W B (hv.qu' hq))
  clear hv
  go_enter Try.func82, Try.ntmps82
  go_wp2_with fail
  refine (HI.out _ (Qu.refl _)).mono ?_
  rintro e w1 ⟨⟨i, rfl, hi⟩, hq⟩
  go_wp2
  go_ret
  exact ⟨ret_bool (by rw [← hi]), hq⟩
theorem okB_codes (W : Nat) (k : List Int) : okB W k = (decide (k.length = W) && k.all codeB) := by
  have h : okK W k ↔ (decide (k.length = W) && k.all codeB) = true := by
    unfold okK
    simp [codeB, List.all_eq_true]
  unfold okB
  cases hb : (decide (k.length = W) && k.all codeB)
  · exact decide_eq_false (fun e => by rw [h.1 e] at hb; cases hb)
  · exact decide_eq_true (h.2 hb)
/-- At p lies a cuboid of width W and M measures with the cells L; it owns the blocks D; its map is block m. -/
def CubW (w : World) (D : Nat → Prop) (p m W M : Nat) (L : List KC) : Prop :=
  D p ∧ D m ∧ p ≠ m ∧ (∀ k, D k → k < w.heap.size) ∧ w.cell? ⟨p, 0, none⟩ = some (.int .i64 W) ∧ w.cell? ⟨p, 1, none⟩ = some (.int .i64 M) ∧ w.cell? ⟨p, 2, none⟩ = some (.map (some m)) ∧ MapK w (fun i => D i ∧ i ≠ m) m W L
theorem CubW.kept {w w' : World} {D : Nat → Prop} {p m W M : Nat} {L : List KC} (h : CubW w D p m W M L) (k : Kept D w w') (hs : w.heap.size ≤ w'.heap.size) : CubW w' D p m W M L := by
  obtain ⟨h1, h2, h3, h4, h5, h6, h7, h8⟩ := h
  exact ⟨h1, h2, h3, fun i hi => Nat.lt_of_lt_of_le (h4 i hi) hs, k.cell h1 h5, k.cell h1 h6, k.cell h1 h7, h8.kept (k m h2) (fun i hi => k i hi.1)⟩
theorem CubW.below {w w' : World} {D : Nat → Prop} {p m W M : Nat} {L : List KC} (h : CubW w D p m W M L) (hb : Below w.heap.size w w') : CubW w' D p m W M L :=
  h.kept (fun k hk => hb.block k (h.2.2.2.1 k hk)) hb.size
theorem CubW.qu {w w' : World} {D : Nat → Prop} {p m W M : Nat} {L : List KC} (h : CubW w D p m W M L) (hq : Qu w w') : CubW w' D p m W M L := h.below (hq.below _)
theorem CubW.grow {w : World} {D D' : Nat → Prop} {p m W M : Nat} {L : List KC} (h : CubW w D p m W M L) (h1 : ∀ i, D i → D' i) (h2 : ∀ i, D' i → i < w.heap.size) : CubW w D' p m W M L := by
  obtain ⟨a1, a2, a3, a4, a5, a6, a7, a8⟩ := h
  exact ⟨h1 _ a1, h1 _ a2, a3, h2, a5, a6, a7, a8.mono (fun i hi => ⟨h1 _ hi.1, hi.2⟩)⟩
def NewCP (W M : Nat) (w : World) (e : Ending) (w' : World) : Prop := ∃ p m D, e = .returned (.pointer (some ⟨p, 0, none⟩)) ∧ CubW w' D p m W M [] ∧ (∀ k, D k → w.heap.size ≤ k) ∧ Below w.heap.size w w'
set_option maxRecDepth 100000 in
theorem newC_yes (W M : Nat) (w : World) (h1 : 1 ≤ W) (h2 : W ≤ 3) (h3 : 1 ≤ M) (h4 : M ≤ 2) : Calls Try.prog 21 #[.int .i64 W, .int .i64 M] w (NewCP W M w) := by
  have hmm := @run_makeMap Try.prog
  go_enter Try.func21, Try.ntmps21
  go_wp2
  go_ret
  refine ⟨w.heap.size + 1, w.heap.size, (fun k => k = w.heap.size ∨ k = w.heap.size + 1), rfl, ⟨.inr rfl, .inl rfl, by omega, ?_, by simp [go_sem], by simp [go_sem], by simp [go_sem], ?_⟩, ?_, (by repeat' first | with_reducible exact Below.refl _ _ | assumption | (with_reducible refine Below.alloc ?_ ?_ _) | (with_reducible refine Below.setCell ?_ ?_ _) | (with_reducible refine Below.drew ?_) | (with_reducible refine below_drewN ?_ _) | (with_reducible refine Below.trans ?_ (Below.mono ‹_› ?_)) | omega | (with_reducible refine le_alloc ?_) | (with_reducible refine le_setCell ?_) | (with_reducible refine le_drew ?_) | (with_reducible refine le_drewN ?_) | (with_reducible refine Nat.le_trans ?_ (Below.size ‹_›)) | (simp <;> omega))⟩
  · rintro k (rfl | rfl) <;> simp <;> omega
  · obtain ⟨D, ⟨es, clock, hb, r⟩, h2, h3, h4, h5⟩ := MapK.new w (fun _ => False) W
    exact ⟨D, ⟨es, clock, (((Below.refl (w.alloc (.map #[] 0)).heap.size (w.alloc (.map #[] 0))).alloc (Nat.le_refl _) _).block _ (by simp)).trans hb, r⟩, h2, h3, (fun x hx => (by cases hx)), h5⟩
  · rintro k (rfl | rfl) <;> omega
end Go.Proofs.Ytclhnnidbhchnaa
/- Many cells together, as the two loops make it: plainly. -/
namespace Go.Proofs.Ytclhnnidbhchnaa
set_option linter.unusedVariables false
set_option linter.unusedSimpArgs false

/-- What the reference has of some full cells: no sums yet. -/
def accC (m : Nat) (F : List CellM) : CellM :=
  if F = [] then emptyC m else ⟨cntL F, List.replicate m 0, (List.range m).map fun i => minL (loCol F i), (List.range m).map fun i => maxL (hiCol F i)⟩
theorem accC_nil (m : Nat) : accC m [] = emptyC m := if_pos rfl
theorem accC_cons {m : Nat} {F : List CellM} (h : F ≠ []) : accC m F = ⟨cntL F, List.replicate m 0, (List.range m).map fun i => minL (loCol F i), (List.range m).map fun i => maxL (hiCol F i)⟩ := if_neg h
theorem accC_n (m : Nat) (F : List CellM) : (accC m F).n = cntL F := by
  by_cases h : F = []
  · rw [h, accC_nil]; rfl
  · rw [accC_cons h]
theorem accC_s (m : Nat) (F : List CellM) : (accC m F).s = List.replicate m 0 := by
  by_cases h : F = []
  · rw [h, accC_nil]; rfl
  · rw [accC_cons h]
theorem accC_lo_len (m : Nat) (F : List CellM) : (accC m F).lo.length = m := by
  by_cases h : F = []
  · rw [h, accC_nil]; simp [emptyC]
  · rw [accC_cons h]; simp
theorem accC_hi_len (m : Nat) (F : List CellM) : (accC m F).hi.length = m := by
  by_cases h : F = []
  · rw [h, accC_nil]; simp [emptyC]
  · rw [accC_cons h]; simp
def FullL (F : List CellM) : Prop := ∀ c ∈ F, 1 ≤ c.n
theorem cnt_zero {F : List CellM} (h : FullL F) : cntL F = 0 ↔ F = [] := by
  constructor
  · intro h0
    have := cntL_pos h
    cases F with
    | nil => rfl
    | cons x F => simp at this; omega
  · rintro rfl; rfl
theorem acc_lo_step {m k : Nat} {F : List CellM} (hF : FullL F) (hk : k < m) (x : CellM) :
    (accC m (F ++ [x])).lo.getD k 0 = if cntL F = 0 ∨ x.lo.getD k 0 < (accC m F).lo.getD k 0 then x.lo.getD k 0 else (accC m F).lo.getD k 0 := by
  rw [accC_cons (by simp)]
  simp only
  rw [getD_map_range hk, loCol_snoc]
  by_cases h : F = []
  · rw [if_pos (.inl ((cnt_zero hF).2 h)), h]
    exact minL_eq (by simp [loCol]) (fun y hy => by simp [loCol] at hy; rw [hy, List.getD_eq_getElem?_getD]; exact Int.le_refl _)
  · have h0 : cntL F ≠ 0 := fun e => h ((cnt_zero hF).1 e)
    rw [accC_cons h]
    simp only
    rw [getD_map_range hk, minL_snoc (by simp [loCol, h])]
    simp only [h0, false_or]
theorem acc_hi_step {m k : Nat} {F : List CellM} (hF : FullL F) (hk : k < m) (x : CellM) :
    (accC m (F ++ [x])).hi.getD k 0 = if cntL F = 0 ∨ (accC m F).hi.getD k 0 < x.hi.getD k 0 then x.hi.getD k 0 else (accC m F).hi.getD k 0 := by
  rw [accC_cons (by simp)]
  simp only
  rw [getD_map_range hk, hiCol_snoc]
  by_cases h : F = []
  · rw [if_pos (.inl ((cnt_zero hF).2 h)), h]
    exact maxL_eq (by simp [hiCol]) (fun y hy => by simp [hiCol] at hy; rw [hy, List.getD_eq_getElem?_getD]; exact Int.le_refl _)
  · have h0 : cntL F ≠ 0 := fun e => h ((cnt_zero hF).1 e)
    rw [accC_cons h]
    simp only
    rw [getD_map_range hk, maxL_snoc (by simp [hiCol, h])]
    simp only [h0, false_or]
/-- What comes of it. -/
def topC (m : Nat) (l : List CellM) : CellM := ⟨cntL (fullL l), (List.range m).map fun i => (sCol (fullL l) i).sum, (accC m (fullL l)).lo, (accC m (fullL l)).hi⟩
theorem topC_full {m : Nat} {l : List CellM} (h : fullL l ≠ []) : topC m l = sumsOf m (fullL l) := by
  unfold topC sumsOf
  rw [accC_cons h]
theorem topC_none {m : Nat} {l : List CellM} (h : fullL l = []) : topC m l = emptyC m := by
  unfold topC
  rw [h, accC_nil]
  unfold emptyC cntL sCol
  simp only [List.map_nil, List.sum_nil]
  congr 1
  apply List.ext_getElem
  · simp
  · intro i h1 h2; simp
theorem fullL_take (l : List CellM) (k : Nat) : ∃ r, fullL l = fullL (l.take k) ++ r := ⟨fullL (l.drop k), by unfold fullL; rw [← List.filter_append, List.take_append_drop]⟩
theorem fullL_pos {m : Nat} {l : List CellM} (h : ArgsP m l) : FullL (fullL l) := fun c hc => (full_p h c hc).1.1
theorem argsP_take {m : Nat} {l : List CellM} (h : ArgsP m l) (k : Nat) : ArgsP m (l.take k) := ⟨fun c hc => h.may c (List.mem_of_mem_take hc), fun c hc => h.len c (List.mem_of_mem_take hc)⟩
theorem cnt_take_le {m : Nat} {l : List CellM} (h : ArgsP m l) (k : Nat) : cntL (fullL (l.take k)) ≤ cntL (fullL l) := by
  obtain ⟨r, e⟩ := fullL_take l k
  have h2 := fullL_pos h
  rw [e] at h2 ⊢
  rw [cntL_append]
  have := cntL_pos (l := r) (fun c hc => h2 c (List.mem_append_right _ hc))
  omega
theorem cnt_nonneg {m : Nat} {l : List CellM} (h : ArgsP m l) : 0 ≤ cntL (fullL l) := by
  have := cntL_pos (fullL_pos h)
  omega
theorem full_take_succ {l : List CellM} {k : Nat} (hk : k < l.length) : fullL (l.take (k + 1)) = if (l.getD k nilC).n = 0 then fullL (l.take k) else fullL (l.take k) ++ [l.getD k nilC] := by
  rw [List.take_succ_eq_append_getElem hk, fullL_snoc, List.getD_eq_getElem?_getD, List.getElem?_eq_getElem hk]
  rfl
theorem sumC_far' {l : List CellM} (h0 : l ≠ []) (h1 : l.all (argB (l.headD nilC).s.length) = true) {k : Nat} (h3 : CNT < cntL (fullL (l.take k))) : sumC l = (nilC, 14) := by
  have ha := argsP_of h1
  have hle := cnt_take_le ha k
  refine sumC_many h0 h1 (fun e => ?_) (by omega)
  rw [e] at hle
  simp only [cntL, List.map_nil, List.sum_nil] at hle
  unfold cntL CNT at h3
  omega
theorem sumC_top {l : List CellM} (h0 : l ≠ []) (h1 : l.all (argB (l.headD nilC).s.length) = true) (h3 : cntL (fullL l) ≤ CNT) (h4 : ∀ i, i < (l.headD nilC).s.length → inB (sCol l i).sum SUM = true) : sumC l = (topC (l.headD nilC).s.length l, 0) := by
  by_cases h2 : fullL l = []
  · rw [sumC_empty h0 h1 h2, topC_none h2]
  · rw [sumC_yes h0 h1 h2 h3 (fun i hi => by rw [← sCol_full (argsP_of h1)]; exact h4 i hi), topC_full h2]
theorem sumC_off {l : List CellM} (h0 : l ≠ []) (h1 : l.all (argB (l.headD nilC).s.length) = true) {i : Nat} (hi : i < (l.headD nilC).s.length) (h3 : inB (sCol l i).sum SUM = false) : sumC l = (nilC, 14) := by
  rw [sCol_full (argsP_of h1)] at h3
  refine sumC_far h0 h1 (fun e => ?_) hi h3
  rw [e] at h3
  simp [sCol, inB, SUM] at h3
theorem sCol_len (l : List CellM) (i : Nat) : (sCol l i).length = l.length := by simp [sCol]
theorem sCol_take_succ {l : List CellM} {i j : Nat} (hj : j < l.length) : (sCol l i).take (j + 1) = (sCol l i).take j ++ [(l.getD j nilC).s.getD i 0] := by
  rw [List.take_succ_eq_append_getElem (by rw [sCol_len]; exact hj)]
  congr 2
  simp [sCol, List.getD_eq_getElem?_getD, List.getElem?_eq_getElem hj]
/-- Values of a column are in bounds. -/
theorem sCol_bnd {m : Nat} {l : List CellM} (h : ArgsP m l) {i : Nat} (hi : i < m) : ∀ x ∈ sCol l i, -SUM ≤ x ∧ x ≤ SUM := by
  intro x hx
  unfold sCol at hx
  obtain ⟨c, hc, rfl⟩ := List.mem_map.1 hx
  have hm := h.may c hc
  by_cases h0 : c.n = 0
  · have e := may_zero hm h0
    have : c.s.getD i 0 = 0 := by
      rw [e]; unfold emptyC
      simp only [List.getD_eq_getElem?_getD, List.getElem?_replicate]
      split <;> rfl
    rw [this]; unfold SUM; omega
  · exact ((may_full hm h0).2 i (by rw [h.len c hc]; exact hi)).2.2.2.1
end Go.Proofs.Ytclhnnidbhchnaa
/- A cuboid rolled up, plainly. -/
namespace Go.Proofs.Ytclhnnidbhchnaa
set_option linter.unusedVariables false
set_option linter.unusedSimpArgs false

def upV (ups : List (List Int)) (k : List Int) (i : Nat) : Int := (ups.getD i []).getD (k.getD i 0).toNat 0
def upOk (ups : List (List Int)) (k : List Int) (i : Nat) : Bool := decide (k.getD i 0 < ((ups.getD i []).length : Int)) && codeB (upV ups k i)
def upAll (ups : List (List Int)) (k : List Int) : Bool := (List.range ups.length).all (upOk ups k)
def upL (ups : List (List Int)) (k : List Int) : List Int := (List.range ups.length).map (upV ups k)
theorem upL_len (ups : List (List Int)) (k : List Int) : (upL ups k).length = ups.length := by simp [upL]
theorem upL_ok {ups : List (List Int)} {k : List Int} {W : Nat} (h : upAll ups k = true) (hW : ups.length = W) : okK W (upL ups k) := by
  refine ⟨by rw [upL_len]; exact hW, fun x hx => ?_⟩
  obtain ⟨i, hi, rfl⟩ := List.mem_map.1 hx
  have := List.all_eq_true.1 h i hi
  unfold upOk at this
  rw [Bool.and_eq_true] at this
  have h2 := this.2
  unfold codeB at h2
  simpa using h2
theorem upAll_no {ups : List (List Int)} {k : List Int} {i : Nat} (hi : i < ups.length) (h : upOk ups k i = false) : upAll ups k = false := by
  unfold upAll
  rw [List.all_eq_false]
  exact ⟨i, List.mem_range.2 hi, by rw [h]; decide⟩
theorem upAll_yes {ups : List (List Int)} {k : List Int} (h : ∀ i, i < ups.length → upOk ups k i = true) : upAll ups k = true := by
  unfold upAll
  rw [List.all_eq_true]
  exact fun i hi => h i (List.mem_range.1 hi)
end Go.Proofs.Ytclhnnidbhchnaa
/- An entry of the map of groups: read, and stored. -/
namespace Go.Proofs.Ytclhnnidbhchnaa
open Go.ChangeShapes Go.WideShapes Go.ChangeAt Go.RowKit Go.Maps
open Go.ChangeMaps Go.MapKept
set_option linter.unusedVariables false
set_option linter.unusedSimpArgs false

theorem key_klaw : Go.WideMaps.KeyLaw Try.prog 99 := deep_law_laid laidOut (m := 3) (by omega) (of_decide_eq_true (by kernel_rfl)) (by kernel_rfl) (by rw [Try.underlying99])
theorem zero_cells (w : World) : (zeroValue 22).run Try.prog w = .ok (.slice none 0 0) w := by kernel_rfl
theorem upd_block {w : World} {m : Nat} {es0 : Array MapEntry} {c0 : Nat} {Y : Obj} (hb : w.heap[m]? = some (.map es0 c0)) : Upd m w (setBlock w m Y) :=
  ⟨rfl, rfl, rfl, by simp [setBlock], fun k hk hne => heap_setBlock_other hb _ (fun e => hne (by rw [e]))⟩
theorem entry_own {w : World} {m n : Nat} {D : DataW Value} (h : w.ownsMap Try.prog 99 heldR m n D) (hn : n < maxLen) {key : Value} {kl : Lit} (hkey : keyOf Try.prog 99 key = some kl) :
    ∃ (v0 : Value) (st : Nat) (w1 : World), (Instr.mapEntry 95 (.map (some m)) key).run Try.prog w = .ok (.tuple #[v0, .int .i64 st]) w1 ∧ Upd m w w1 ∧ w1.heap.size = w.heap.size ∧
      ((Maps.has D kl = true ∧ ∀ z, D.atKey kl z = .held v0) ∨ (Maps.has D kl = false ∧ v0 = .slice none 0 0)) ∧
      ∀ (w2 : World) (v' : Value), w2.heap[m]? = w1.heap[m]? → ∃ w3, (Instr.entryStore 95 (.map (some m)) (.int .i64 st) v').run Try.prog w2 = .ok () w3 ∧
        w3.ownsMap Try.prog 99 heldR m (n + 1) (D.put kl (.held v')) ∧ Upd m w2 w3 ∧ w3.heap.size = w2.heap.size := by
  have h' := h
  obtain ⟨es, clock, hb, F, hs, rfl⟩ := h
  obtain ⟨v0, st, es1, c1, hrun, hv0, hst⟩ := WideElems.entry_then_store key_klaw Try.underlying95 zero_cells hb F hkey
  refine ⟨v0, st, _, hrun, upd_block hb, by simp [setBlock], ?_, fun w2 v' h2 => ?_⟩
  · rcases Maps.fit_look (c := false) key_law Try.underlying95 (zero_cells w) hb F hkey with ⟨-, hno, hat⟩ | ⟨e0, y, he0, hek, -, hRv, hat, -⟩
    · refine .inr ⟨Maps.has_false_of_atKey hat, ?_⟩
      rcases hv0 with ⟨e1, he1, hk1, -⟩ | ⟨-, rfl⟩
      · exact absurd hk1 (hno e1 he1)
      · rfl
    · rcases hv0 with ⟨e1, he1, hk1, rfl⟩ | ⟨hno, -⟩
      · have e01 : e1 = e0 := by
          exact entry_eq_of_key (List.pairwise_map.1 F.stamped.2.2) he1 he0 (hk1.trans hek.symm)
        subst e01
        refine .inl ⟨?_, fun z => ?_⟩
        · exact Maps.has_true_of_atKey hat
        · rw [hat]
          unfold heldR at hRv
          have := congrArg Prod.fst (Option.some.inj hRv)
          exact this.symm
      · exact absurd hek (hno e0 he0)
  · rw [heap_setBlock_same hb] at h2
    obtain ⟨es', cl', hrun2, hupd⟩ := hst w2 v' h2
    obtain ⟨w', hrun', ho, ht⟩ := h'.store key_law Try.underlying95 hn hkey (show heldR v' = some (.held v', []) from rfl)
    rw [hupd] at hrun'
    injection hrun' with _ hw'
    subst hw'
    obtain ⟨es'', cl'', hb'', r⟩ := ho
    refine ⟨_, hrun2, ⟨es'', cl'', ?_, r⟩, upd_block h2, by simp [setBlock]⟩
    rw [heap_setBlock_same hb] at hb''
    rw [heap_setBlock_same h2]
    exact hb''
end Go.Proofs.Ytclhnnidbhchnaa
/- Lists of cells in memory. -/
namespace Go.Proofs.Ytclhnnidbhchnaa
open Go.ChangeShapes Go.WideShapes Go.ChangeAt Go.RowKit
set_option linter.unusedVariables false
set_option linter.unusedSimpArgs false

/-- A cell as it lies in memory. -/
abbrev E4 := Int × Value × Value × Value
def e4 (x : E4) : List Value := [.int .i64 x.1, x.2.1, x.2.2.1, x.2.2.2]
def z4 : E4 := (0, .slice none 0 0, .slice none 0 0, .slice none 0 0)
/-- The cells of the elements, four each. -/
def At4 (w : World) (b off k : Nat) (x : E4) : Prop :=
  w.cell? ⟨b, off + k * 4, none⟩ = some (.int .i64 x.1) ∧ w.cell? ⟨b, off + k * 4 + 1, none⟩ = some x.2.1 ∧ w.cell? ⟨b, off + k * 4 + 2, none⟩ = some x.2.2.1 ∧ w.cell? ⟨b, off + k * 4 + 3, none⟩ = some x.2.2.2
theorem At4.of_block {w w' : World} {b off k : Nat} {x : E4} (h : At4 w b off k x) (hb : w'.heap[b]? = w.heap[b]?) : At4 w' b off k x :=
  ⟨(World.cell?_of_block (a := ⟨b, off + k * 4, none⟩) hb).trans h.1, (World.cell?_of_block (a := ⟨b, off + k * 4 + 1, none⟩) hb).trans h.2.1, (World.cell?_of_block (a := ⟨b, off + k * 4 + 2, none⟩) hb).trans h.2.2.1, (World.cell?_of_block (a := ⟨b, off + k * 4 + 3, none⟩) hb).trans h.2.2.2⟩
/-- A list of cells that is read: where its elements lie, and what they read as. -/
def RowC (w : World) (B : Nat) (v : Value) (L : List CellM) : Prop :=
  ∃ (A : Option Addr) (c : Nat) (es : List E4), v = .slice A L.length c ∧ es.length = L.length ∧ L.length ≤ c ∧ c ≤ maxLen ∧
    (0 < L.length → ∃ b off, A = some ⟨b, off, none⟩ ∧ b < B ∧ ∀ k, k < L.length → At4 w b off k (es.getD k z4)) ∧
    ∀ k, k < L.length → CellR w B (.agg #[.int .i64 (es.getD k z4).1, (es.getD k z4).2.1, (es.getD k z4).2.2.1, (es.getD k z4).2.2.2]) (L.getD k nilC)
theorem RowC.below {w w' : World} {B : Nat} {v : Value} {L : List CellM} (h : RowC w B v L) (hb : Below B w w') : RowC w' B v L := by
  obtain ⟨A, c, es, h1, h2, h3, h4, h5, h6⟩ := h
  refine ⟨A, c, es, h1, h2, h3, h4, fun h0 => ?_, fun k hk => (h6 k hk).below hb⟩
  obtain ⟨b, off, e, hlt, hc⟩ := h5 h0
  exact ⟨b, off, e, hlt, fun k hk => (hc k hk).of_block (hb.block b hlt)⟩
theorem RowC.more {w : World} {B B' : Nat} {v : Value} {L : List CellM} (h : RowC w B v L) (hB : B ≤ B') : RowC w B' v L := by
  obtain ⟨A, c, es, h1, h2, h3, h4, h5, h6⟩ := h
  refine ⟨A, c, es, h1, h2, h3, h4, fun h0 => ?_, fun k hk => (h6 k hk).more hB⟩
  obtain ⟨b, off, e, hlt, hc⟩ := h5 h0
  exact ⟨b, off, e, by omega, hc⟩
theorem RowC.on {w w' : World} {v : Value} {L : List CellM} (h : RowC w w.heap.size v L) (hb : Below w.heap.size w w') : RowC w' w'.heap.size v L := (h.below hb).more hb.size
/-! ### As values side by side -/
def flat4 (es : List E4) : List Value := es.flatMap e4
theorem flat4_len (es : List E4) : (flat4 es).length = es.length * 4 := by
  unfold flat4
  induction es with
  | nil => rfl
  | cons x es ih => rw [List.flatMap_cons, List.length_append, ih]; simp [e4]; omega
theorem flat4_at : ∀ {es : List E4} {k j : Nat}, k < es.length → j < 4 → (flat4 es)[k * 4 + j]? = (e4 (es.getD k z4))[j]? := by
  intro es
  induction es with
  | nil => intro k j hk; simp at hk
  | cons x es ih =>
    intro k j hk hj
    unfold flat4
    rw [List.flatMap_cons]
    cases k with
    | zero => rw [List.getElem?_append_left (by simp [e4]; omega)]; simp
    | succ k =>
      rw [List.getElem?_append_right (by simp [e4]; omega), show (k + 1) * 4 + j - (e4 x).length = k * 4 + j by simp [e4]; omega]
      have := ih (k := k) (j := j) (by simpa using hk) hj
      unfold flat4 at this
      rw [this]
      simp
theorem At4.val {w : World} {b off k : Nat} {x : E4} (h : At4 w b off k x) {j : Nat} {u : Value} (hu : (e4 x)[j]? = some u) : w.cell? ⟨b, off + k * 4 + j, none⟩ = some u := by
  have hj : j < 4 := (List.getElem?_eq_some_iff.1 hu).1
  rcases j with _ | _ | _ | _ | j
  · simp [e4] at hu; subst hu; exact h.1
  · simp [e4] at hu; subst hu; exact h.2.1
  · simp [e4] at hu; subst hu; exact h.2.2.1
  · simp [e4] at hu; subst hu; exact h.2.2.2
  · omega
/-- Elements that lie side by side, as one list of values. -/
theorem flat4_cells {w : World} {b off : Nat} {es : List E4} (h : ∀ k, k < es.length → At4 w b off k (es.getD k z4)) : ∀ j u, (flat4 es)[j]? = some u → w.cell? ⟨b, off + j, none⟩ = some u := by
  intro j u hu
  have hj := (List.getElem?_eq_some_iff.1 hu).1
  rw [flat4_len] at hj
  have e : j = j / 4 * 4 + j % 4 := by omega
  rw [e] at hu
  rw [flat4_at (by omega) (by omega)] at hu
  have := (h (j / 4) (by omega)).val hu
  rw [e, ← Nat.add_assoc]
  exact this
theorem flat4_back {w : World} {b off : Nat} {es : List E4} (h : ∀ j, j < es.length * 4 → w.cell? ⟨b, off + j, none⟩ = (flat4 es)[j]?) : ∀ k, k < es.length → At4 w b off k (es.getD k z4) := by
  intro k hk
  have q : ∀ j, j < 4 → w.cell? ⟨b, off + k * 4 + j, none⟩ = (e4 (es.getD k z4))[j]? := fun j hj => by
    rw [← flat4_at hk hj, Nat.add_assoc]
    exact h _ (by omega)
  exact ⟨q 0 (by omega), q 1 (by omega), q 2 (by omega), q 3 (by omega)⟩
end Go.Proofs.Ytclhnnidbhchnaa
