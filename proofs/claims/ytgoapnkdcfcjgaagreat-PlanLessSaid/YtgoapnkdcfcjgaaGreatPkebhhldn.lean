/- 3 texts of this claim, in build order. -/
import Derived.Test.YtgoapnkdcfcjgaaGreatPdgbecjcf
import Derived.Test.YtgoapnkdcfcjgaaGreatPgfegbefo
import Derived.Test.YtgoapnkdcfcjgaaGreatPkkjgfhaj
/- What a query needs, in plain words: cut there, paths are answered alike. -/
namespace Go.Proofs.YtgoapnkdcfcjgaaGreat
set_option linter.unusedVariables false

end Go.Proofs.YtgoapnkdcfcjgaaGreat
/- Plain: the base covers what a query needs; the view that is chosen. -/
namespace Go.Proofs.YtgoapnkdcfcjgaaGreat
open Go.ChangeShapes Go.WideShapes Go.ChangeAt Go.RowKit
set_option linter.unusedVariables false
set_option linter.unusedSimpArgs false

theorem coversB_of {v w : List Int} (hl : v.length = w.length) (h : ∀ i, i < v.length → w.getD i 0 ≤ v.getD i 0) : coversB v w = true := by
  unfold coversB
  rw [Bool.and_eq_true]
  refine ⟨decide_eq_true hl, List.all_eq_true.2 (fun b hb => ?_)⟩
  obtain ⟨i, hi, rfl⟩ := List.mem_iff_getElem.1 hb
  rw [List.length_zipWith] at hi
  rw [List.getElem_zipWith]
  have := h i (by omega)
  rw [List.getD_eq_getElem?_getD, List.getD_eq_getElem?_getD, List.getElem?_eq_getElem (by omega), List.getElem?_eq_getElem (by omega)] at this
  exact decide_eq_true this
theorem coversB_at {v w : List Int} (h : coversB v w = true) : v.length = w.length ∧ ∀ i, i < v.length → w.getD i 0 ≤ v.getD i 0 := by
  unfold coversB at h
  rw [Bool.and_eq_true] at h
  have hl := of_decide_eq_true h.1
  refine ⟨hl, fun i hi => ?_⟩
  have h2 := List.all_eq_true.1 h.2 _ (List.getElem_mem (l := List.zipWith (fun a b => decide (b ≤ a)) v w) (n := i) (by rw [List.length_zipWith]; omega))
  rw [List.getElem_zipWith] at h2
  rw [List.getD_eq_getElem?_getD, List.getD_eq_getElem?_getD, List.getElem?_eq_getElem (by omega), List.getElem?_eq_getElem (by omega)]
  exact of_decide_eq_true h2
theorem needQ_len (q : QueryX) : (needQ q).length = q.1.length := by
  unfold needQ
  generalize q.1 = l
  generalize q.2 = fs
  induction fs generalizing l with
  | nil => rfl
  | cons f fs ih => rw [List.foldl_cons, ih, setMax_len]
theorem base_atP (s : SchemaX) (i : Nat) : (baseX s).getD i 0 = ((s.1.getD i (ByteArray.empty, [])).2.length : Int) := by
  unfold baseX
  rw [List.getD_eq_getElem?_getD, List.getD_eq_getElem?_getD, List.getElem?_map]
  by_cases h : i < s.1.length
  · rw [List.getElem?_eq_getElem h]; rfl
  · rw [List.getElem?_eq_none (by omega)]; rfl
theorem setMax_le {l : List Int} {f : FilterX} {b : List Int} (h : ∀ i, i < l.length → l.getD i 0 ≤ b.getD i 0) (hf : f.2.1 ≤ b.getD f.1.toNat 0) : ∀ i, i < (setMax l f).length → (setMax l f).getD i 0 ≤ b.getD i 0 := by
  intro i hi
  rw [setMax_len] at hi
  unfold setMax
  by_cases e : f.1.toNat = i
  · subst e
    rw [List.getD_eq_getElem?_getD, List.getElem?_set_self hi]
    have := h _ hi
    simp only [Option.getD_some]
    omega
  · rw [List.getD_eq_getElem?_getD, List.getElem?_set_ne e, ← List.getD_eq_getElem?_getD]
    exact h i hi
theorem base_covers {s : SchemaX} {q : QueryX} (h : mayQ s q = 0) : coversB (baseX s) (needQ q) = true := by
  obtain ⟨-, -, h3, h4⟩ := mayQ_yes h
  have hcl := corner_len h3
  have hbl : (baseX s).length = s.1.length := by simp [baseX]
  have hc : coversB (baseX s) q.1 = true := by
    unfold cornerB at h3
    rw [Bool.and_eq_true] at h3
    exact h3.1
  obtain ⟨-, h5⟩ := coversB_at hc
  refine coversB_of (by rw [needQ_len]; omega) (fun i hi => ?_)
  have key : ∀ (fs : List FilterX) (l : List Int), (∀ i, i < l.length → l.getD i 0 ≤ (baseX s).getD i 0) → (∀ f ∈ fs, f.2.1 ≤ (baseX s).getD f.1.toNat 0) → ∀ i, i < (fs.foldl setMax l).length → (fs.foldl setMax l).getD i 0 ≤ (baseX s).getD i 0 := by
    intro fs
    induction fs with
    | nil => intro l h1 _; exact h1
    | cons f fs ih =>
      intro l h1 h2
      rw [List.foldl_cons]
      exact ih _ (setMax_le h1 (h2 f List.mem_cons_self)) (fun g hg => h2 g (List.mem_cons_of_mem _ hg))
  refine key q.2 q.1 (fun j hj => h5 j (by omega)) (fun f hf => ?_) i (by have := needQ_len q; unfold needQ at this; omega)
  have hok := List.all_eq_true.1 h4 f hf
  unfold okF at hok
  rw [Bool.and_eq_true, Bool.and_eq_true, Bool.and_eq_true, Bool.and_eq_true] at hok
  have := of_decide_eq_true hok.1.1.2
  unfold levelsAt at this
  rw [base_atP]
  exact this
def coverN (vs : List (List Int)) (need : List Int) (k : Nat) : List Nat := (List.range k).filter fun i => coversB (vs.getD i []) need
theorem coverI_N (vs : List (List Int)) (need : List Int) (k : Nat) : coverI vs need k = (coverN vs need k).map (fun n : Nat => (n : Int)) := rfl
theorem coverN_lt {vs : List (List Int)} {need : List Int} {k v : Nat} (h : v ∈ coverN vs need k) : v < k := by
  unfold coverN at h
  exact List.mem_range.1 (List.mem_filter.1 h).1
theorem cover_head {s : SchemaX} {q : QueryX} (h : mayQ s q = 0) : ∃ t, coverN (viewsX s) (needQ q) (viewsX s).length = 0 :: t := by
  have hb := base_covers h
  unfold viewsX coverN
  rw [List.length_cons, List.range_succ_eq_map, List.filter_cons, if_pos (by exact hb)]
  exact ⟨_, rfl⟩
end Go.Proofs.YtgoapnkdcfcjgaaGreat
/- Plain: what Apply makes and keeps. -/
namespace Go.Proofs.YtgoapnkdcfcjgaaGreat
open Go.ChangeShapes Go.WideShapes Go.ChangeAt Go.RowKit
set_option linter.unusedVariables false
set_option linter.unusedSimpArgs false

theorem addDR_out {ns : List DNode} (h : DOk ns) (L : Int) (p : List ByteArray) (he : (addDR ns L p).2.2 = 0) : (addDR ns L p).2.1.length = p.length ∧ ∀ n ∈ (addDR ns L p).2.1, n ≤ 40 := by
  obtain ⟨a1, a2, a3, a4, a5⟩ := addD_says h.inv p
  have hd := (link_add h L p).2.len
  unfold addDR at he hd ⊢
  by_cases hno : mayB p = false ∨ (p.length : Int) ≠ L
  · rw [if_pos hno] at he; simp at he
  · rw [if_neg hno] at he hd ⊢
    by_cases h40 : 40 < ns.length + (p.length - (known ns 0 p).1.length)
    · rw [if_pos h40] at he; simp at he
    · rw [if_neg h40] at hd ⊢
      show (addD ns p).2.length = p.length ∧ ∀ n ∈ (addD ns p).2, n ≤ 40
      rw [a3]
      refine ⟨by simp [outR], fun n hn => ?_⟩
      obtain ⟨i, -, rfl⟩ := List.mem_map.1 hn
      have := code_le (paths (addD ns p).1) (p.take (i + 1))
      rw [paths_len] at this
      exact Nat.le_trans this hd
theorem getD_snocQ {α : Type} (l : List α) (x d : α) (j : Nat) : (l ++ [x]).getD j d = if j = l.length then x else l.getD j d := by
  rw [List.getD_eq_getElem?_getD, List.getD_eq_getElem?_getD]
  by_cases h : j < l.length
  · rw [List.getElem?_append_left h, if_neg (by omega)]
  · rw [List.getElem?_append_right (by omega), List.getElem?_eq_none (l := l) (by omega)]
    by_cases e : j = l.length
    · subst e; rw [if_pos rfl, Nat.sub_self]; rfl
    · rw [if_neg e, List.getElem?_eq_none (by simp; omega)]
/-- The codes of paths. -/
def CodesOk (ps : List (List ByteArray)) (k : Nat) (cc : List (List Int)) : Prop := cc.length = k ∧ (∀ i, i < k → (cc.getD i []).length = (ps.getD i []).length) ∧ ∀ x ∈ cc, ∀ n ∈ x, 0 ≤ n ∧ n ≤ 40
theorem codesJ_out (s : SchemaX) (ds : List (List DNode)) (ps : List (List ByteArray)) (k : Nat) (h : ∀ ns ∈ ds, DOk ns) (hk : k ≤ ds.length) (he : (codesJ s ds ps k).2.2 = 0) : CodesOk ps k (codesJ s ds ps k).2.1 := by
  induction k with
  | zero => exact ⟨rfl, fun i hi => absurd hi (by omega), fun x hx => by cases hx⟩
  | succ k ih =>
    by_cases h0 : (codesJ s ds ps k).2.2 = 0
    · obtain ⟨b1, b2, b3⟩ := ih (by omega) h0
      have hl := (codesJ_len s ds ps k).1
      have hdk : DOk ((codesJ s ds ps k).1.getD k []) := by
        rw [List.getD_eq_getElem?_getD, List.getElem?_eq_getElem (by omega)]
        exact codesJ_dok s ds ps k h _ (List.getElem_mem (by omega))
      rw [codesJ_step h0] at he ⊢
      simp only at he ⊢
      obtain ⟨c1, c2⟩ := addDR_out hdk (dimL s k) (ps.getD k []) he
      refine ⟨by rw [List.length_append, b1]; rfl, fun i hi => ?_, fun x hx n hn => ?_⟩
      · rw [getD_snocQ, b1]
        by_cases e : i = k
        · subst e; rw [if_pos rfl, intsN_len, c1]
        · rw [if_neg e]; exact b2 i (by omega)
      · rcases List.mem_append.1 hx with hx | hx
        · exact b3 x hx n hn
        · obtain rfl : x = intsN _ := by simpa using hx
          unfold intsN at hn
          obtain ⟨m, hm, rfl⟩ := List.mem_map.1 hn
          have := c2 m hm
          exact ⟨by omega, by omega⟩
    · rw [codesJ_err h0 (Nat.le_succ k)] at he
      exact absurd he h0
theorem factsJ_err {s : SchemaX} {ds : List (List DNode)} {fs : List FactX} {k n : Nat} (h : (factsJ s ds fs k).2.2 ≠ 0) (hk : k ≤ n) : factsJ s ds fs n = factsJ s ds fs k := by
  induction n with
  | zero => obtain rfl : k = 0 := by omega
            rfl
  | succ n ih =>
    rcases Nat.lt_or_ge n k with h1 | h1
    · obtain rfl : k = n + 1 := by omega
      rfl
    · have e := ih h1
      show (if (factsJ s ds fs n).2.2 ≠ 0 then factsJ s ds fs n else _) = _
      rw [e, if_pos h]
theorem factsJ_step {s : SchemaX} {ds : List (List DNode)} {fs : List FactX} {k : Nat} (h : (factsJ s ds fs k).2.2 = 0) :
    factsJ s ds fs (k + 1) = ((codesJ s (factsJ s ds fs k).1 (fs.getD k ([], [])).1 (fs.getD k ([], [])).1.length).1, (factsJ s ds fs k).2.1 ++ [(codesJ s (factsJ s ds fs k).1 (fs.getD k ([], [])).1 (fs.getD k ([], [])).1.length).2.1], (codesJ s (factsJ s ds fs k).1 (fs.getD k ([], [])).1 (fs.getD k ([], [])).1.length).2.2) := by
  show (if (factsJ s ds fs k).2.2 ≠ 0 then factsJ s ds fs k else _) = _
  rw [if_neg (by simpa using h)]
theorem factsJ_ok (s : SchemaX) (ds : List (List DNode)) (fs : List FactX) (k : Nat) (h : ∀ ns ∈ ds, DOk ns) : (factsJ s ds fs k).1.length = ds.length ∧ (∀ ns ∈ (factsJ s ds fs k).1, DOk ns) ∧ ((factsJ s ds fs k).2.2 = 0 → (factsJ s ds fs k).2.1.length = k) := by
  induction k with
  | zero => exact ⟨rfl, h, fun _ => rfl⟩
  | succ k ih =>
    by_cases h0 : (factsJ s ds fs k).2.2 = 0
    · rw [factsJ_step h0]
      exact ⟨(codesJ_len _ _ _ _).1.trans ih.1, codesJ_dok _ _ _ _ ih.2.1, fun _ => by simp only [List.length_append, List.length_singleton]; rw [ih.2.2 h0]⟩
    · rw [factsJ_err h0 (Nat.le_succ k)]
      exact ⟨ih.1, ih.2.1, fun e => absurd e h0⟩
theorem factsJ_out (s : SchemaX) (ds : List (List DNode)) (fs : List FactX) (k : Nat) (h : ∀ ns ∈ ds, DOk ns) (hf : ∀ j, (fs.getD j ([], [])).1.length ≤ ds.length) (he : (factsJ s ds fs k).2.2 = 0) :
    ∀ j, j < k → CodesOk (fs.getD j ([], [])).1 (fs.getD j ([], [])).1.length ((factsJ s ds fs k).2.1.getD j []) := by
  induction k with
  | zero => exact fun j hj => absurd hj (by omega)
  | succ k ih =>
    by_cases h0 : (factsJ s ds fs k).2.2 = 0
    · have hok := factsJ_ok s ds fs k h
      rw [factsJ_step h0] at he ⊢
      simp only at he ⊢
      intro j hj
      rw [getD_snocQ, hok.2.2 h0]
      by_cases e : j = k
      · subst e; rw [if_pos rfl]
        exact codesJ_out s _ _ _ hok.2.1 (by rw [hok.1]; exact hf j) he
      · rw [if_neg e]; exact ih h0 j (by omega)
    · rw [factsJ_err h0 (Nat.le_succ k)] at he
      exact absurd he h0
theorem view_le {s : SchemaX} (h : mayS s = true) {v : Nat} (hv : v < (viewsX s).length) : ((viewsX s).getD v []).length = s.1.length ∧ ∀ i, i < s.1.length → ((viewsX s).getD v []).getD i 0 ≤ ((s.1.getD i (ByteArray.empty, [])).2.length : Int) := by
  have hm := h
  unfold mayS at h
  rw [Bool.and_eq_true, Bool.and_eq_true, Bool.and_eq_true, Bool.and_eq_true] at h
  obtain ⟨-, h4⟩ := h
  rcases v with _ | v
  · refine ⟨by show (baseX s).length = _; simp [baseX], fun i hi => ?_⟩
    show (baseX s).getD i 0 ≤ _
    rw [base_atP]
    exact Int.le_refl _
  · have hv2 : v < s.2.2.length := by unfold viewsX at hv; rw [List.length_cons] at hv; omega
    have e : (viewsX s).getD (v + 1) [] = s.2.2.getD v [] := rfl
    have := List.all_eq_true.1 h4 v (List.mem_range.2 hv2)
    rw [Bool.and_eq_true, Bool.and_eq_true] at this
    have hc := this.1.1
    unfold cornerB at hc
    rw [Bool.and_eq_true] at hc
    obtain ⟨c1, c2⟩ := coversB_at hc.1
    rw [e]
    have hbl : (baseX s).length = s.1.length := by simp [baseX]
    refine ⟨by omega, fun i hi => ?_⟩
    have := c2 i (by omega)
    rw [base_atP] at this
    exact this
theorem keyOk_of {s : SchemaX} {f : FactX} {cc : List (List Int)} (hm : mayS s = true) (hf : fitsB s f = true) (hc : CodesOk f.1 f.1.length cc) {v : Nat} (hv : v < (viewsX s).length) : KeyOk ((viewsX s).getD v []) cc := by
  obtain ⟨h1, h2⟩ := view_le hm hv
  unfold fitsB at hf
  rw [Bool.and_eq_true, Bool.and_eq_true, Bool.and_eq_true] at hf
  obtain ⟨⟨⟨-, f1⟩, -⟩, f2⟩ := hf
  have f1 := of_decide_eq_true f1
  intro i hi h0
  rw [h1] at hi
  refine ⟨by rw [hc.1]; omega, ?_⟩
  rw [hc.2.1 i (by omega)]
  have := of_decide_eq_true (List.all_eq_true.1 f2 i (List.mem_range.2 (by omega)))
  rw [this]
  exact h2 i hi
theorem fillF_ok {W M : Nat} {L : List KC} (h : OkL W M L) (ks vs : List (List Int)) : OkL W M (fillF W M L ks vs).1 ∧ (fillF W M L ks vs).1.length ≤ L.length + ks.length := by
  unfold fillF
  simp only
  have h1 := fillJ_ok W M L ks vs ks.length
  split
  · exact ⟨h, Nat.le_add_right _ _⟩
  · have h2 := restJ_ok (L0 := L) h1.1 L.length
    exact ⟨h2.1, by have := h2.2; have := h1.2; simp only; omega⟩
theorem viewsJ_err {s : SchemaX} {cs : List (List KC)} {codes : List (List (List Int))} {vs : List (List Int)} {k n : Nat} (h : (viewsJ s cs codes vs k).2 ≠ 0) (hk : k ≤ n) : viewsJ s cs codes vs n = viewsJ s cs codes vs k := by
  induction n with
  | zero => obtain rfl : k = 0 := by omega
            rfl
  | succ n ih =>
    rcases Nat.lt_or_ge n k with h1 | h1
    · obtain rfl : k = n + 1 := by omega
      rfl
    · have e := ih h1
      show (if (viewsJ s cs codes vs n).2 ≠ 0 then viewsJ s cs codes vs n else _) = _
      rw [e, if_pos h]
theorem viewsJ_step {s : SchemaX} {cs : List (List KC)} {codes : List (List (List Int))} {vs : List (List Int)} {v : Nat} (h : (viewsJ s cs codes vs v).2 = 0) :
    viewsJ s cs codes vs (v + 1) = if (fillF s.1.length s.2.1.length ((viewsJ s cs codes vs v).1.getD v []) (codes.map (keyF ((viewsX s).getD v []))) vs).2 ≠ 0 then ((viewsJ s cs codes vs v).1, (fillF s.1.length s.2.1.length ((viewsJ s cs codes vs v).1.getD v []) (codes.map (keyF ((viewsX s).getD v []))) vs).2)
      else ((viewsJ s cs codes vs v).1.set v (fillF s.1.length s.2.1.length ((viewsJ s cs codes vs v).1.getD v []) (codes.map (keyF ((viewsX s).getD v []))) vs).1, 0) := by
  show (if (viewsJ s cs codes vs v).2 ≠ 0 then viewsJ s cs codes vs v else _) = _
  rw [if_neg (by simpa using h)]
theorem viewsJ_ok (s : SchemaX) (cs : List (List KC)) (codes : List (List (List Int))) (vs : List (List Int)) (v : Nat) (h : ∀ L ∈ cs, OkL s.1.length s.2.1.length L) :
    (viewsJ s cs codes vs v).1.length = cs.length ∧ (∀ L ∈ (viewsJ s cs codes vs v).1, OkL s.1.length s.2.1.length L) ∧ (∀ j, ((viewsJ s cs codes vs v).1.getD j []).length ≤ (cs.getD j []).length + codes.length) ∧ ∀ j, v ≤ j → (viewsJ s cs codes vs v).1.getD j [] = cs.getD j [] := by
  induction v with
  | zero => exact ⟨rfl, h, fun j => Nat.le_add_right _ _, fun j _ => rfl⟩
  | succ v ih =>
    obtain ⟨a1, a2, a3, a4⟩ := ih
    by_cases h0 : (viewsJ s cs codes vs v).2 = 0
    · rw [viewsJ_step h0]
      split
      · exact ⟨a1, a2, a3, fun j hj => a4 j (by omega)⟩
      · have hL : OkL s.1.length s.2.1.length ((viewsJ s cs codes vs v).1.getD v []) := by
          by_cases hv : v < (viewsJ s cs codes vs v).1.length
          · rw [List.getD_eq_getElem?_getD, List.getElem?_eq_getElem hv]; exact a2 _ (List.getElem_mem hv)
          · rw [List.getD_eq_getElem?_getD, List.getElem?_eq_none (by omega)]; exact OkL.nil_ _ _
        have hf := fillF_ok hL (codes.map (keyF ((viewsX s).getD v []))) vs
        rw [List.length_map, a4 v (Nat.le_refl _)] at hf
        rw [a4 v (Nat.le_refl _)]
        refine ⟨by rw [List.length_set]; exact a1, fun L hL => ?_, fun j => ?_, fun j hj => ?_⟩
        · rcases List.mem_or_eq_of_mem_set hL with hL | rfl
          · exact a2 L hL
          · exact hf.1
        · rw [List.getD_eq_getElem?_getD, List.getElem?_set]
          by_cases e : v = j
          · subst e
            rw [if_pos rfl]
            split
            · exact hf.2
            · simp
          · rw [if_neg e, ← List.getD_eq_getElem?_getD]; exact a3 j
        · rw [List.getD_eq_getElem?_getD, List.getElem?_set_ne (by omega), ← List.getD_eq_getElem?_getD]
          exact a4 j (by omega)
    · rw [viewsJ_err h0 (Nat.le_succ v)]
      exact ⟨a1, a2, a3, fun j hj => a4 j (by omega)⟩
theorem mayBt_zero {s : SchemaX} {fs : List FactX} (h : mayBt s fs = 0) : mayS s = true ∧ 1 ≤ fs.length ∧ fs.length ≤ 8 ∧ ∀ f ∈ fs, fitsB s f = true := by
  unfold mayBt at h
  by_cases h1 : mayS s = true
  · rw [h1, if_neg (by simp)] at h
    by_cases h2 : fs.length = 0 ∨ 8 < fs.length
    · rw [if_pos h2] at h; simp at h
    · rw [if_neg h2] at h
      by_cases h3 : (fs.any fun f => !fitsB s f) = true
      · rw [if_pos h3] at h; simp at h
      · refine ⟨h1, by omega, by omega, fun f hf => ?_⟩
        cases hb : fitsB s f
        · exact absurd (List.any_eq_true.2 ⟨f, hf, by rw [hb]; rfl⟩) h3
        · rfl
  · rw [if_pos (by simpa using h1)] at h; simp at h
theorem fitsB_len {s : SchemaX} {f : FactX} (h : fitsB s f = true) : f.1.length = s.1.length ∧ f.2.length = s.2.1.length := by
  unfold fitsB at h
  rw [Bool.and_eq_true, Bool.and_eq_true, Bool.and_eq_true] at h
  exact ⟨of_decide_eq_true h.1.1.2, of_decide_eq_true h.1.2⟩
theorem applyJ_ok {l : LatX} (h : OkLat l) (fs : List FactX) : OkLat (applyJ l fs).1 ∧ (applyJ l fs).1.s = l.s ∧ ∀ v, ((applyJ l fs).1.cs.getD v []).length ≤ (l.cs.getD v []).length + 8 := by
  unfold applyJ
  have hn : OkLat l ∧ l.s = l.s ∧ ∀ v, (l.cs.getD v []).length ≤ (l.cs.getD v []).length + 8 := ⟨h, rfl, fun v => Nat.le_add_right _ _⟩
  by_cases h1 : mayBt l.s fs ≠ 0
  · rw [if_pos h1]; exact hn
  · rw [if_neg h1]
    simp only
    obtain ⟨b1, b2, b3, b4⟩ := mayBt_zero (by simpa using h1)
    have hf := factsJ_ok l.s l.ds fs fs.length h.dok
    by_cases h2 : (factsJ l.s l.ds fs fs.length).2.2 ≠ 0
    · rw [if_pos h2]; exact hn
    · rw [if_neg h2]
      by_cases h3 : NUM < l.n + fs.length
      · rw [if_pos h3]; exact hn
      · rw [if_neg h3]
        split
        · exact hn
        · have hv := viewsJ_ok l.s l.cs (factsJ l.s l.ds fs fs.length).2.1 (fs.map Prod.snd) (viewsX l.s).length h.cok
          have hl := hf.2.2 (by simpa using h2)
          refine ⟨⟨h.may, hf.1.trans h.dlen, hf.2.1, hv.1.trans h.clen, hv.2.1, ?_, ?_⟩, rfl, fun v => ?_⟩
          · have := h.n0; show 0 ≤ l.n + (fs.length : Int); omega
          · show l.n + (fs.length : Int) ≤ NUM; omega
          · have := hv.2.2.1 v
            rw [hl] at this
            show ((viewsJ _ _ _ _ _).1.getD v []).length ≤ _
            omega
end Go.Proofs.YtgoapnkdcfcjgaaGreat
