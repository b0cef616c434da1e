/- 2 texts of this claim, in build order. -/
import Derived.Test.YtclhnnidbhchnaaPogeelhih
import Derived.Test.YtclhnnidbhchnaaPpanpdidk
/- Rolled up twice is rolled up once, plainly. -/
namespace Go.Proofs.Ytclhnnidbhchnaa
set_option linter.unusedVariables false
set_option linter.unusedSimpArgs false

/-- Cells that are all full, of M measures. -/
structure FulP (M : Nat) (l : List CellM) : Prop where
  may : ∀ c ∈ l, MayP c
  full : ∀ c ∈ l, c.n ≠ 0
  len : ∀ c ∈ l, c.s.length = M
theorem sumC_ful {M : Nat} {l : List CellM} (h : FulP M l) (hne : l ≠ []) :
    sumC l = if CNT < cntL l then (nilC, 14) else if (List.range M).all (fun i => inB (sCol l i).sum SUM) = false then (nilC, 14) else (sumsOf M l, 0) := by
  have hfull := fullL_all h.full
  have hhd : (l.headD nilC).s.length = M := by
    cases l with
    | nil => exact absurd rfl hne
    | cons c l => exact h.len c List.mem_cons_self
  have hall : l.all (argB M) = true := by
    rw [List.all_eq_true]
    intro c hc
    unfold argB
    rw [mayC_iff.2 (h.may c hc), h.len c hc]
    simp
  unfold sumC
  rw [hhd, if_neg hne, if_neg (by rw [hall]; decide), hfull, if_neg hne]
theorem sumC_okE {M : Nat} {l : List CellM} (h : FulP M l) (hne : l ≠ []) (h0 : (sumC l).2 = 0) : (sumC l).1 = sumsOf M l := by
  rw [sumC_ful h hne] at h0 ⊢
  split at h0
  · cases h0
  · rename_i h1
    rw [if_neg h1]
    split at h0
    · cases h0
    · rename_i h2
      rw [if_neg h2]
theorem minL_eqT {l : List Int} {m : Int} (h1 : m ∈ l) (h2 : ∀ y ∈ l, m ≤ y) : minL l = m := by
  have hne : l ≠ [] := by intro e; subst e; cases h1
  obtain ⟨a, b⟩ := minL_spec hne
  have := b m h1
  have := h2 _ a
  omega
theorem maxL_eqT {l : List Int} {m : Int} (h1 : m ∈ l) (h2 : ∀ y ∈ l, y ≤ m) : maxL l = m := by
  have hne : l ≠ [] := by intro e; subst e; cases h1
  obtain ⟨a, b⟩ := maxL_spec hne
  have := b m h1
  have := h2 _ a
  omega
/-- The cells under one of the keys. -/
def kcells (P : List KC) (K : List (List Int)) : List CellM := (P.filter fun x => decide (x.1 ∈ K)).map Prod.snd
theorem kcells_mem {P : List KC} {K : List (List Int)} {c : CellM} : c ∈ kcells P K ↔ ∃ x ∈ P, x.1 ∈ K ∧ x.2 = c := by
  unfold kcells
  rw [List.mem_map]
  constructor
  · rintro ⟨x, hx, rfl⟩
    rw [List.mem_filter] at hx
    exact ⟨x, hx.1, by simpa using hx.2, rfl⟩
  · rintro ⟨x, hx, hk, rfl⟩
    exact ⟨x, List.mem_filter.2 ⟨hx, by simpa using hk⟩, rfl⟩
theorem gcells_mem' {P : List KC} {x : KC} (hx : x ∈ P) : x.2 ∈ gcells P x.1 := by
  unfold gcells
  exact List.mem_map.2 ⟨x, List.mem_filter.2 ⟨hx, by simp⟩, rfl⟩
theorem sum_add (K : List (List Int)) (f g : List Int → Int) : (K.map fun k => f k + g k).sum = (K.map f).sum + (K.map g).sum := by
  induction K with
  | nil => rfl
  | cons k K ih => simp only [List.map_cons, List.sum_cons, ih]; omega
theorem sum_none (K : List (List Int)) (g : List Int) (a : Int) (h : g ∉ K) : (K.map fun k => if g = k then a else 0).sum = 0 := by
  induction K with
  | nil => rfl
  | cons k K ih =>
    rw [List.mem_cons, not_or] at h
    rw [List.map_cons, List.sum_cons, ih h.2, if_neg h.1]; rfl
theorem sum_one (K : List (List Int)) (hK : K.Nodup) (g : List Int) (a : Int) : (K.map fun k => if g = k then a else 0).sum = if g ∈ K then a else 0 := by
  induction K with
  | nil => rfl
  | cons k K ih =>
    obtain ⟨h1, h2⟩ := List.nodup_cons.1 hK
    rw [List.map_cons, List.sum_cons]
    by_cases e : g = k
    · subst e
      rw [if_pos rfl, sum_none K g a h1, if_pos List.mem_cons_self]; omega
    · rw [if_neg e, ih h2]
      by_cases hm : g ∈ K
      · rw [if_pos hm, if_pos (List.mem_cons_of_mem _ hm)]; omega
      · rw [if_neg hm, if_neg (by rw [List.mem_cons, not_or]; exact ⟨e, hm⟩)]; omega
theorem sum_zero (K : List (List Int)) : (K.map fun _ => (0 : Int)).sum = 0 := by
  induction K with
  | nil => rfl
  | cons k K ih => rw [List.map_cons, List.sum_cons, ih]; rfl
/-- The sum over the groups is the sum over all. -/
theorem sum_parts (φ : CellM → Int) (K : List (List Int)) (hK : K.Nodup) (P : List KC) : (K.map fun k => ((gcells P k).map φ).sum).sum = ((kcells P K).map φ).sum := by
  induction P with
  | nil => exact sum_zero K
  | cons x P ih =>
    have h1 : ∀ k, ((gcells (x :: P) k).map φ).sum = (if x.1 = k then φ x.2 else 0) + ((gcells P k).map φ).sum := fun k => by
      unfold gcells
      by_cases e : x.1 = k
      · rw [List.filter_cons_of_pos (by simpa using e), if_pos e]; simp
      · rw [List.filter_cons_of_neg (by simpa using e), if_neg e]; simp
    rw [show (fun k => ((gcells (x :: P) k).map φ).sum) = fun k => (if x.1 = k then φ x.2 else 0) + ((gcells P k).map φ).sum from funext h1, sum_add, ih, sum_one K hK]
    unfold kcells
    by_cases e : x.1 ∈ K
    · rw [List.filter_cons_of_pos (by simpa using e), if_pos e]; simp
    · rw [List.filter_cons_of_neg (by simpa using e), if_neg e]; simp
theorem getD_map_rangeT {f : Nat → Int} {n i : Nat} (h : i < n) : ((List.range n).map f).getD i 0 = f i := getD_map_range h
/-- The sum of the groups' sums. -/
theorem sums_parts {M : Nat} {P : List KC} {K : List (List Int)} (hK : K.Nodup) (hne : ∀ k ∈ K, ∃ x ∈ P, x.1 = k) (hKn : K ≠ []) :
    cntL (K.map fun k => sumsOf M (gcells P k)) = cntL (kcells P K) ∧ (∀ i, i < M → (sCol (K.map fun k => sumsOf M (gcells P k)) i).sum = (sCol (kcells P K) i).sum) ∧ sumsOf M (K.map fun k => sumsOf M (gcells P k)) = sumsOf M (kcells P K) := by
  have h1 : cntL (K.map fun k => sumsOf M (gcells P k)) = cntL (kcells P K) := by
    rw [cntL, List.map_map]
    exact sum_parts CellM.n K hK P
  have h2 : ∀ i, i < M → (sCol (K.map fun k => sumsOf M (gcells P k)) i).sum = (sCol (kcells P K) i).sum := fun i hi => by
    rw [sCol, List.map_map]
    refine Eq.trans ?_ (sum_parts (fun c => c.s.getD i 0) K hK P)
    congr 1
    refine List.map_congr_left fun k _ => ?_
    show (sumsOf M (gcells P k)).s.getD i 0 = _
    exact getD_map_rangeT hi
  refine ⟨h1, h2, ?_⟩
  have h3 : ∀ i, i < M → minL (loCol (K.map fun k => sumsOf M (gcells P k)) i) = minL (loCol (kcells P K) i) := fun i hi => by
    have hv : ∀ k, (sumsOf M (gcells P k)).lo.getD i 0 = minL (loCol (gcells P k) i) := fun k => getD_map_rangeT hi
    have hn1 : loCol (kcells P K) i ≠ [] := by
      obtain ⟨k, hk⟩ := List.exists_mem_of_ne_nil K hKn
      obtain ⟨x, hx, rfl⟩ := hne k hk
      exact List.ne_nil_of_mem (List.mem_map.2 ⟨x.2, kcells_mem.2 ⟨x, hx, hk, rfl⟩, rfl⟩)
    obtain ⟨a, b⟩ := minL_spec hn1
    have hin : ∀ k ∈ K, minL (loCol (kcells P K) i) ≤ minL (loCol (gcells P k) i) := fun k hk => by
      obtain ⟨x, hx, rfl⟩ := hne k hk
      have hn2 : loCol (gcells P x.1) i ≠ [] := List.ne_nil_of_mem (List.mem_map.2 ⟨x.2, gcells_mem' hx, rfl⟩)
      obtain ⟨c, hc, e⟩ := List.mem_map.1 (minL_spec hn2).1
      obtain ⟨y, hy, ey, rfl⟩ := gcells_mem hc
      exact b _ (List.mem_map.2 ⟨y.2, kcells_mem.2 ⟨y, hy, by rw [ey]; exact hk, rfl⟩, e⟩)
    refine minL_eqT ?_ ?_
    · obtain ⟨c, hc, e⟩ := List.mem_map.1 a
      obtain ⟨x, hx, hk, rfl⟩ := kcells_mem.1 hc
      refine List.mem_map.2 ⟨sumsOf M (gcells P x.1), List.mem_map.2 ⟨x.1, hk, rfl⟩, ?_⟩
      rw [hv]
      have hmem : x.2.lo.getD i 0 ∈ loCol (gcells P x.1) i := List.mem_map.2 ⟨x.2, gcells_mem' hx, rfl⟩
      have h4 := (minL_spec (List.ne_nil_of_mem hmem)).2 _ hmem
      have h5 := hin x.1 hk
      omega
    · intro y hy
      obtain ⟨c, hc, rfl⟩ := List.mem_map.1 hy
      obtain ⟨k, hk, rfl⟩ := List.mem_map.1 hc
      rw [hv]
      exact hin k hk
  have h4 : ∀ i, i < M → maxL (hiCol (K.map fun k => sumsOf M (gcells P k)) i) = maxL (hiCol (kcells P K) i) := fun i hi => by
    have hv : ∀ k, (sumsOf M (gcells P k)).hi.getD i 0 = maxL (hiCol (gcells P k) i) := fun k => getD_map_rangeT hi
    have hn1 : hiCol (kcells P K) i ≠ [] := by
      obtain ⟨k, hk⟩ := List.exists_mem_of_ne_nil K hKn
      obtain ⟨x, hx, rfl⟩ := hne k hk
      exact List.ne_nil_of_mem (List.mem_map.2 ⟨x.2, kcells_mem.2 ⟨x, hx, hk, rfl⟩, rfl⟩)
    obtain ⟨a, b⟩ := maxL_spec hn1
    have hin : ∀ k ∈ K, maxL (hiCol (gcells P k) i) ≤ maxL (hiCol (kcells P K) i) := fun k hk => by
      obtain ⟨x, hx, rfl⟩ := hne k hk
      have hn2 : hiCol (gcells P x.1) i ≠ [] := List.ne_nil_of_mem (List.mem_map.2 ⟨x.2, gcells_mem' hx, rfl⟩)
      obtain ⟨c, hc, e⟩ := List.mem_map.1 (maxL_spec hn2).1
      obtain ⟨y, hy, ey, rfl⟩ := gcells_mem hc
      exact b _ (List.mem_map.2 ⟨y.2, kcells_mem.2 ⟨y, hy, by rw [ey]; exact hk, rfl⟩, e⟩)
    refine maxL_eqT ?_ ?_
    · obtain ⟨c, hc, e⟩ := List.mem_map.1 a
      obtain ⟨x, hx, hk, rfl⟩ := kcells_mem.1 hc
      refine List.mem_map.2 ⟨sumsOf M (gcells P x.1), List.mem_map.2 ⟨x.1, hk, rfl⟩, ?_⟩
      rw [hv]
      have hmem : x.2.hi.getD i 0 ∈ hiCol (gcells P x.1) i := List.mem_map.2 ⟨x.2, gcells_mem' hx, rfl⟩
      have h4 := (maxL_spec (List.ne_nil_of_mem hmem)).2 _ hmem
      have h5 := hin x.1 hk
      omega
    · intro y hy
      obtain ⟨c, hc, rfl⟩ := List.mem_map.1 hy
      obtain ⟨k, hk, rfl⟩ := List.mem_map.1 hc
      rw [hv]
      exact hin k hk
  unfold sumsOf at h1 h2 h3 h4 ⊢
  rw [h1]
  congr 1
  · exact List.map_congr_left fun i hi => h2 i (List.mem_range.1 hi)
  · exact List.map_congr_left fun i hi => h3 i (List.mem_range.1 hi)
  · exact List.map_congr_left fun i hi => h4 i (List.mem_range.1 hi)
theorem sumC_parts {M : Nat} {P : List KC} {K : List (List Int)} (hK : K.Nodup) (hne : ∀ k ∈ K, ∃ x ∈ P, x.1 = k) (h : FulP M (P.map Prod.snd)) (h0 : ∀ k ∈ K, (sumC (gcells P k)).2 = 0) :
    sumC (K.map fun k => (sumC (gcells P k)).1) = sumC (kcells P K) := by
  have hg : ∀ k, FulP M (gcells P k) := fun k => ⟨fun c hc => by obtain ⟨x, hx, -, rfl⟩ := gcells_mem hc; exact h.may _ (List.mem_map.2 ⟨x, hx, rfl⟩), fun c hc => by obtain ⟨x, hx, -, rfl⟩ := gcells_mem hc; exact h.full _ (List.mem_map.2 ⟨x, hx, rfl⟩), fun c hc => by obtain ⟨x, hx, -, rfl⟩ := gcells_mem hc; exact h.len _ (List.mem_map.2 ⟨x, hx, rfl⟩)⟩
  have hgn : ∀ k ∈ K, gcells P k ≠ [] := fun k hk => by obtain ⟨x, hx, rfl⟩ := hne k hk; exact gcells_ne hx
  have hk : FulP M (kcells P K) := ⟨fun c hc => by obtain ⟨x, hx, -, rfl⟩ := kcells_mem.1 hc; exact h.may _ (List.mem_map.2 ⟨x, hx, rfl⟩), fun c hc => by obtain ⟨x, hx, -, rfl⟩ := kcells_mem.1 hc; exact h.full _ (List.mem_map.2 ⟨x, hx, rfl⟩), fun c hc => by obtain ⟨x, hx, -, rfl⟩ := kcells_mem.1 hc; exact h.len _ (List.mem_map.2 ⟨x, hx, rfl⟩)⟩
  by_cases hKn : K = []
  · subst hKn
    have : kcells P [] = [] := by unfold kcells; simp
    rw [this]; rfl
  · have hm : FulP M (K.map fun k => (sumC (gcells P k)).1) := by
      refine ⟨fun c hc => ?_, fun c hc => ?_, fun c hc => ?_⟩
      all_goals
        obtain ⟨k, hkK, rfl⟩ := List.mem_map.1 hc
        obtain ⟨a, b, d⟩ := sum_okC (hgn k hkK) (hg k).may (hg k).full (hg k).len (h0 k hkK)
        assumption
    have hkn : kcells P K ≠ [] := by
      obtain ⟨k, hk⟩ := List.exists_mem_of_ne_nil K hKn
      obtain ⟨x, hx, rfl⟩ := hne k hk
      exact List.ne_nil_of_mem (kcells_mem.2 ⟨x, hx, hk, rfl⟩)
    rw [sumC_ful hm (by simpa using hKn), sumC_ful hk hkn]
    have e : (K.map fun k => (sumC (gcells P k)).1) = K.map fun k => sumsOf M (gcells P k) := List.map_congr_left fun k hk => sumC_okE (hg k) (hgn k hk) (h0 k hk)
    obtain ⟨a, b, c⟩ := sums_parts (M := M) hK hne hKn
    rw [e, a, c]
    have e2 : (List.range M).all (fun i => inB (sCol (K.map fun k => sumsOf M (gcells P k)) i).sum SUM) = (List.range M).all (fun i => inB (sCol (kcells P K) i).sum SUM) := by
      rw [Bool.eq_iff_iff, List.all_eq_true, List.all_eq_true]
      constructor
      · intro h i hi; rw [← b i (List.mem_range.1 hi)]; exact h i hi
      · intro h i hi; rw [b i (List.mem_range.1 hi)]; exact h i hi
    rw [e2]
/-! ### The way by both -/
def wayRow (a b : List Int) : List Int := a.map fun n => if 0 ≤ n ∧ n < (b.length : Int) then b.getD n.toNat 0 else -1
def wayL (f s : List (List Int)) : List (List Int) := (List.range f.length).map fun i => wayRow (f.getD i []) (s.getD i [])
theorem wayL_len (f s : List (List Int)) : (wayL f s).length = f.length := by simp [wayL]
theorem wayL_at {f s : List (List Int)} {i : Nat} (hi : i < f.length) : (wayL f s).getD i [] = wayRow (f.getD i []) (s.getD i []) := by
  unfold wayL
  rw [List.getD_eq_getElem?_getD, List.getElem?_map, List.getElem?_range hi]; rfl
theorem upV_at {ups : List (List Int)} {k : List Int} {i : Nat} (hi : i < ups.length) : (upL ups k).getD i 0 = upV ups k i := getD_map_range hi
theorem way_v {f s : List (List Int)} {k : List Int} {i : Nat} (hi : i < f.length) (hk : 0 ≤ k.getD i 0) (h1 : upOk f k i = true) :
    upV (wayL f s) k i = if upV f k i < ((s.getD i []).length : Int) then upV s (upL f k) i else -1 := by
  unfold upOk at h1
  rw [Bool.and_eq_true, decide_eq_true_eq] at h1
  obtain ⟨h1, h2⟩ := h1
  unfold codeB at h2
  have h2 : 0 ≤ upV f k i ∧ upV f k i ≤ 40 := by simpa using h2
  have e1 : upV (wayL f s) k i = (if 0 ≤ upV f k i ∧ upV f k i < ((s.getD i []).length : Int) then (s.getD i []).getD (upV f k i).toNat 0 else -1) := by
    rw [upV, wayL_at hi, wayRow, List.getD_eq_getElem?_getD, List.getElem?_map]
    have hlt : (k.getD i 0).toNat < (f.getD i []).length := by omega
    rw [List.getElem?_eq_getElem hlt]
    have e2 : (f.getD i [])[(k.getD i 0).toNat] = upV f k i := by
      unfold upV
      rw [List.getD_eq_getElem?_getD (l := f.getD i []), List.getElem?_eq_getElem hlt]; rfl
    show (if 0 ≤ (f.getD i [])[(k.getD i 0).toNat] ∧ (f.getD i [])[(k.getD i 0).toNat] < ((s.getD i []).length : Int) then (s.getD i []).getD (f.getD i [])[(k.getD i 0).toNat].toNat 0 else -1) = _
    rw [e2]
  rw [e1]
  have e3 : upV s (upL f k) i = (s.getD i []).getD (upV f k i).toNat 0 := by
    rw [upV, upV_at hi]
  rw [e3]
  by_cases h : upV f k i < ((s.getD i []).length : Int)
  · rw [if_pos ⟨h2.1, h⟩, if_pos h]
  · rw [if_neg (fun e => h e.2), if_neg h]
theorem way_len {f s : List (List Int)} {i : Nat} (hi : i < f.length) : ((wayL f s).getD i []).length = (f.getD i []).length := by rw [wayL_at hi, wayRow, List.length_map]
theorem way_ok {f s : List (List Int)} {k : List Int} {i : Nat} (hi : i < f.length) (hk : 0 ≤ k.getD i 0) (h1 : upOk f k i = true) : upOk (wayL f s) k i = upOk s (upL f k) i := by
  have hv := way_v (s := s) hi hk h1
  unfold upOk at h1 ⊢
  rw [Bool.and_eq_true, decide_eq_true_eq] at h1
  rw [way_len hi, decide_eq_true h1.1, Bool.true_and, hv, upV_at hi]
  by_cases h : upV f k i < ((s.getD i []).length : Int)
  · rw [if_pos h, decide_eq_true h, Bool.true_and]
  · rw [if_neg h, decide_eq_false h, Bool.false_and]; rfl
theorem way_all {f s : List (List Int)} {k : List Int} (hl : s.length = f.length) (hk : ∀ i, 0 ≤ k.getD i 0) (h1 : upAll f k = true) : upAll (wayL f s) k = upAll s (upL f k) := by
  unfold upAll at h1 ⊢
  rw [wayL_len, hl, Bool.eq_iff_iff, List.all_eq_true, List.all_eq_true]
  rw [List.all_eq_true] at h1
  constructor
  · intro h i hi; rw [← way_ok (List.mem_range.1 hi) (hk i) (h1 i hi)]; exact h i hi
  · intro h i hi; rw [way_ok (List.mem_range.1 hi) (hk i) (h1 i hi)]; exact h i hi
theorem way_up {f s : List (List Int)} {k : List Int} (hl : s.length = f.length) (hk : ∀ i, 0 ≤ k.getD i 0) (h1 : upAll f k = true) (h2 : upAll s (upL f k) = true) : upL (wayL f s) k = upL s (upL f k) := by
  unfold upAll at h1 h2
  rw [List.all_eq_true] at h1 h2
  rw [upL, wayL_len, upL, hl]
  refine List.map_congr_left fun i hi => ?_
  rw [way_v (List.mem_range.1 hi) (hk i) (h1 i hi), if_pos]
  have := h2 i (by rw [hl]; exact hi)
  unfold upOk at this
  rw [Bool.and_eq_true, decide_eq_true_eq, upV_at (List.mem_range.1 hi)] at this
  exact this.1
theorem code_pos {W : Nat} {k : List Int} (h : okK W k) (i : Nat) : 0 ≤ k.getD i 0 := by
  rw [List.getD_eq_getElem?_getD]
  rcases Nat.lt_or_ge i k.length with hi | hi
  · rw [List.getElem?_eq_getElem hi]
    exact (h.2 _ (List.getElem_mem hi)).1
  · rw [List.getElem?_eq_none hi]; exact Int.le_refl 0
/-- Rolled up twice is rolled up once by both ways. -/
theorem roll_twice {W M : Nat} {f s : List (List Int)} {L : List KC} (hs : OkL W M L) (hf : rollE W f L = 0) (h2 : rollE W s (rollL (rollP f L)) ≠ 1) :
    rollE W (wayL f s) L = rollE W s (rollL (rollP f L)) ∧ (rollE W (wayL f s) L = 0 → rollL (rollP (wayL f s) L) = rollL (rollP s (rollL (rollP f L)))) := by
  obtain ⟨g1, g2, g3⟩ := rollE_zero hf
  have hQs : SortK (rollL (rollP f L)) := rollF_sort _ _
  have hQg : ∀ g, getK (rollL (rollP f L)) g = if (rollP f L).any (fun x => decide (x.1 = g)) = true then some (sumC (gcells (rollP f L) g)).1 else none := fun g => rollF_get _ _ _
  have hQ1 : ∀ x ∈ rollL (rollP f L), x.2 = (sumC (gcells (rollP f L) x.1)).1 ∧ ∃ y ∈ L, upL f y.1 = x.1 := fun x hx => by
    have h := getK_of_mem hQs hx
    rw [hQg] at h
    split at h
    · rename_i ha
      refine ⟨(Option.some.inj h).symm, ?_⟩
      obtain ⟨z, hz, e⟩ := List.any_eq_true.1 ha
      obtain ⟨y, hy, rfl⟩ := List.mem_map.1 hz
      exact ⟨y, hy, by simpa using e⟩
    · cases h
  have hQ2 : ∀ y ∈ L, ∃ x ∈ rollL (rollP f L), x.1 = upL f y.1 := fun y hy => by
    have h := hQg (upL f y.1)
    rw [if_pos (show ((rollP f L).any fun x => decide (x.1 = upL f y.1)) = true from List.any_eq_true.2 ⟨(upL f y.1, y.2), List.mem_map.2 ⟨y, hy, rfl⟩, by simp⟩)] at h
    exact ⟨_, getK_mem h, rfl⟩
  generalize hQ : rollL (rollP f L) = Q at *
  have hl2 : s.length = W := by
    rcases Nat.decEq s.length W with h | h
    · exfalso; apply h2; unfold rollE; rw [if_pos h]
    · exact h
  have hup : ∀ x ∈ Q, upAll s x.1 = true := by
    rcases Bool.eq_false_or_eq_true (Q.all fun x => upAll s x.1) with h | h
    · exact List.all_eq_true.1 h
    · exfalso; apply h2; unfold rollE; rw [if_neg (by omega), if_pos h]
  have hsf : s.length = f.length := by omega
  have hpos : ∀ y ∈ L, ∀ i, 0 ≤ y.1.getD i 0 := fun y hy => code_pos (hs.key y hy)
  have hupL : ∀ y ∈ L, upAll s (upL f y.1) = true := fun y hy => by
    obtain ⟨x, hx, e⟩ := hQ2 y hy
    rw [← e]; exact hup x hx
  have hwL : ∀ y ∈ L, upAll (wayL f s) y.1 = true := fun y hy => by rw [way_all hsf (hpos y hy) (g2 y hy)]; exact hupL y hy
  have hwU : ∀ y ∈ L, upL (wayL f s) y.1 = upL s (upL f y.1) := fun y hy => way_up hsf (hpos y hy) (g2 y hy) (hupL y hy)
  -- the groups' sums are the same
  have hsum : ∀ g, sumC (gcells (rollP s Q) g) = sumC (gcells (rollP (wayL f s) L) g) := fun g => by
    have e1 : gcells (rollP s Q) g = ((Q.filter fun x => decide (upL s x.1 = g)).map Prod.fst).map fun k => (sumC (gcells (rollP f L) k)).1 := by
      unfold gcells rollP
      rw [List.filter_map, List.map_map, List.map_map]
      refine List.map_congr_left fun x hx => ?_
      exact (hQ1 x (List.mem_filter.1 hx).1).1
    have e2 : gcells (rollP (wayL f s) L) g = kcells (rollP f L) ((Q.filter fun x => decide (upL s x.1 = g)).map Prod.fst) := by
      unfold gcells kcells rollP
      rw [List.filter_map, List.map_map, List.filter_map, List.map_map]
      have e3 : L.filter ((fun x : KC => decide (x.1 = g)) ∘ fun x : KC => (upL (wayL f s) x.1, x.2)) = L.filter ((fun x : KC => decide (x.1 ∈ (Q.filter fun x => decide (upL s x.1 = g)).map Prod.fst)) ∘ fun x : KC => (upL f x.1, x.2)) := by
        refine List.filter_congr fun y hy => ?_
        show decide (upL (wayL f s) y.1 = g) = decide (upL f y.1 ∈ (Q.filter fun x => decide (upL s x.1 = g)).map Prod.fst)
        rw [hwU y hy, decide_eq_decide]
        constructor
        · intro h
          obtain ⟨x, hx, e⟩ := hQ2 y hy
          exact List.mem_map.2 ⟨x, List.mem_filter.2 ⟨hx, by rw [e]; exact decide_eq_true h⟩, e⟩
        · intro h
          obtain ⟨x, hx, e⟩ := List.mem_map.1 h
          have := (List.mem_filter.1 hx).2
          rw [← e]; exact of_decide_eq_true this
      rw [e3]; rfl
    rw [e1, e2]
    refine sumC_parts (M := M) ?_ ?_ ?_ ?_
    · rw [List.Nodup, List.pairwise_map]
      exact (hQs.filter _).imp fun {a b} h e => lex_ne h e
    · intro k hk
      obtain ⟨x, hx, rfl⟩ := List.mem_map.1 hk
      obtain ⟨y, hy, e⟩ := (hQ1 x (List.mem_filter.1 hx).1).2
      exact ⟨(upL f y.1, y.2), List.mem_map.2 ⟨y, hy, rfl⟩, e⟩
    · refine ⟨fun c hc => ?_, fun c hc => ?_, fun c hc => ?_⟩
      all_goals
        obtain ⟨z, hz, rfl⟩ := List.mem_map.1 hc
        obtain ⟨y, hy, rfl⟩ := List.mem_map.1 hz
      · exact hs.may y hy
      · exact hs.full y hy
      · exact hs.len y hy
    · intro k hk
      obtain ⟨x, hx, rfl⟩ := List.mem_map.1 hk
      obtain ⟨y, hy, e⟩ := (hQ1 x (List.mem_filter.1 hx).1).2
      have := g3 (upL f y.1, y.2) (List.mem_map.2 ⟨y, hy, rfl⟩)
      simp only at this
      rw [← e]; exact this
  have hkey : ∀ g, (∃ x ∈ rollP s Q, x.1 = g) ↔ ∃ x ∈ rollP (wayL f s) L, x.1 = g := fun g => by
    constructor
    · rintro ⟨z, hz, rfl⟩
      obtain ⟨x, hx, rfl⟩ := List.mem_map.1 hz
      obtain ⟨y, hy, e⟩ := (hQ1 x hx).2
      exact ⟨_, List.mem_map.2 ⟨y, hy, rfl⟩, by show upL (wayL f s) y.1 = upL s x.1; rw [hwU y hy, e]⟩
    · rintro ⟨z, hz, rfl⟩
      obtain ⟨y, hy, rfl⟩ := List.mem_map.1 hz
      obtain ⟨x, hx, e⟩ := hQ2 y hy
      exact ⟨_, List.mem_map.2 ⟨x, hx, rfl⟩, by show upL s x.1 = upL (wayL f s) y.1; rw [hwU y hy, e]⟩
  refine ⟨?_, fun _ => ?_⟩
  · have e : (rollP (wayL f s) L).all (fun x => decide ((sumC (gcells (rollP (wayL f s) L) x.1)).2 = 0)) = (rollP s Q).all (fun x => decide ((sumC (gcells (rollP s Q) x.1)).2 = 0)) := by
      rw [Bool.eq_iff_iff, List.all_eq_true, List.all_eq_true]
      constructor
      · intro h x hx
        obtain ⟨y, hy, e⟩ := (hkey x.1).1 ⟨x, hx, rfl⟩
        rw [hsum, ← e]; exact h y hy
      · intro h x hx
        obtain ⟨y, hy, e⟩ := (hkey x.1).2 ⟨x, hx, rfl⟩
        rw [← hsum, ← e]; exact h y hy
    have r1 : rollE W (wayL f s) L = if (rollP (wayL f s) L).all (fun x => decide ((sumC (gcells (rollP (wayL f s) L) x.1)).2 = 0)) = false then 14 else 0 := by
      rw [rollE, if_neg (by rw [wayL_len]; omega), if_neg (by rw [Bool.not_eq_false, List.all_eq_true]; exact hwL)]
    have r2 : rollE W s Q = if (rollP s Q).all (fun x => decide ((sumC (gcells (rollP s Q) x.1)).2 = 0)) = false then 14 else 0 := by
      rw [rollE, if_neg (show ¬ s.length ≠ W by omega), if_neg (by rw [Bool.not_eq_false, List.all_eq_true]; exact hup)]
    rw [r1, r2, e]
  · refine sortK_ext (rollF_sort _ _) (rollF_sort _ _) fun g => ?_
    rw [rollL, rollL, rollF_get, rollF_get, hsum]
    have e : (rollP (wayL f s) L).any (fun x => decide (x.1 = g)) = (rollP s Q).any (fun x => decide (x.1 = g)) := by
      rw [Bool.eq_iff_iff, List.any_eq_true, List.any_eq_true]
      constructor
      · rintro ⟨x, hx, e⟩
        obtain ⟨y, hy, e2⟩ := (hkey g).2 ⟨x, hx, of_decide_eq_true e⟩
        exact ⟨y, hy, decide_eq_true e2⟩
      · rintro ⟨x, hx, e⟩
        obtain ⟨y, hy, e2⟩ := (hkey g).1 ⟨x, hx, of_decide_eq_true e⟩
        exact ⟨y, hy, decide_eq_true e2⟩
    rw [e]
end Go.Proofs.Ytclhnnidbhchnaa
/- Deeds: a higher bound, a beginning. -/
namespace Go.Proofs.Ytclhnnidbhchnaa
open Go.ChangeShapes Go.WideShapes Go.ChangeAt Go.RowKit Go.Maps
set_option linter.unusedVariables false
set_option linter.unusedSimpArgs false

theorem DeedsV.more {w : World} {B B' : Nat} {v : Value} {l : List KC} (h : DeedsV w B v l) (hb : B ≤ B') : DeedsV w B' v l := by
  obtain ⟨A, c, e, h1, h2, h3⟩ := h
  refine ⟨A, c, e, h1, h2, fun i hi => ?_⟩
  obtain ⟨b, off, K, kc, A1, c1, A2, c2, A3, c3, e1, hlt, q0, q1, q2, q3, q4, hs, hc⟩ := h3 i hi
  exact ⟨b, off, K, kc, A1, c1, A2, c2, A3, c3, e1, by omega, q0, q1, q2, q3, q4, hs.more hb, hc.more hb⟩
theorem DeedsV.head {w : World} {B n c : Nat} {A : Option Addr} {l : List KC} (h : DeedsV w B (.slice A n c) l) (m : Nat) (hm : m ≤ n) : DeedsV w B (.slice A m c) (l.take m) := by
  obtain ⟨A', c', e, h1, h2, h3⟩ := h
  injection e with e1 e2 e3
  subst e1; subst e2; subst e3
  have hl : (l.take m).length = m := by rw [List.length_take]; omega
  refine ⟨_, _, by rw [hl], by omega, h2, fun i hi => ?_⟩
  rw [hl] at hi
  rw [show (l.take m).getD i zK = l.getD i zK by simp [List.getD_eq_getElem?_getD, hi]]
  exact h3 i (by omega)
end Go.Proofs.Ytclhnnidbhchnaa
