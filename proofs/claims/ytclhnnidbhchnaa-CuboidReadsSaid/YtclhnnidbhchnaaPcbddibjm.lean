/- 2 texts of this claim, in build order. -/
/- Cells in plain words: which may be, what two, some values, and some cells are together. -/
namespace Go.Proofs.Ytclhnnidbhchnaa
set_option linter.unusedVariables false

/-- A cell: how many values, their sums, the least ones, the greatest ones. -/
structure CellM where
  n : Int
  s : List Int
  lo : List Int
  hi : List Int
deriving DecidableEq
def VAL : Int := 2305843009213693952
def SUM : Int := 4611686018427387904
def CNT : Int := 1099511627776
def inB (x m : Int) : Bool := decide (-m ≤ x) && decide (x ≤ m)
theorem inB_iff {x m : Int} : inB x m = true ↔ -m ≤ x ∧ x ≤ m := by unfold inB; simp
theorem inB_not {x m : Int} : inB x m = false ↔ ¬ (-m ≤ x ∧ x ≤ m) := by rw [← inB_iff]; cases inB x m <;> simp
def emptyC (m : Nat) : CellM := ⟨0, List.replicate m 0, List.replicate m 0, List.replicate m 0⟩
def nilC : CellM := ⟨0, [], [], []⟩
theorem emptyC_zero : emptyC 0 = nilC := rfl
def colP (n x lo hi : Int) : Prop := lo ≤ hi ∧ (-VAL ≤ lo ∧ lo ≤ VAL) ∧ (-VAL ≤ hi ∧ hi ≤ VAL) ∧ (-SUM ≤ x ∧ x ≤ SUM) ∧ (n = 1 → x = lo ∧ x = hi)
instance (n x lo hi : Int) : Decidable (colP n x lo hi) := by unfold colP; infer_instance
def CellM.col (c : CellM) (i : Nat) : Prop := colP c.n (c.s.getD i 0) (c.lo.getD i 0) (c.hi.getD i 0)
instance (c : CellM) (i : Nat) : Decidable (c.col i) := by unfold CellM.col; infer_instance
def CellM.shape (c : CellM) : Prop := c.s.length ≤ 2 ∧ c.lo.length = c.s.length ∧ c.hi.length = c.s.length
def MayP (c : CellM) : Prop := c.shape ∧ ((¬ (1 ≤ c.n ∧ c.n ≤ CNT) ∧ c = emptyC c.s.length) ∨ ((1 ≤ c.n ∧ c.n ≤ CNT) ∧ ∀ i, i < c.s.length → c.col i))
instance (c : CellM) : Decidable (MayP c) := by unfold MayP CellM.shape; infer_instance
def mayC (c : CellM) : Bool := decide (MayP c)
theorem mayC_iff {c : CellM} : mayC c = true ↔ MayP c := by unfold mayC; rw [decide_eq_true_eq]
theorem mayC_not {c : CellM} : mayC c = false ↔ ¬ MayP c := by unfold mayC; rw [decide_eq_false_iff_not]
theorem may_empty {m : Nat} (h : m ≤ 2) : MayP (emptyC m) := by
  refine ⟨⟨by simp [emptyC, h], by simp [emptyC], by simp [emptyC]⟩, .inl ⟨by simp [emptyC], by simp [emptyC]⟩⟩
/-- One that may be and is not empty. -/
theorem may_full {c : CellM} (h : MayP c) (h0 : c.n ≠ 0) : (1 ≤ c.n ∧ c.n ≤ CNT) ∧ ∀ i, i < c.s.length → c.col i := by
  rcases h.2 with ⟨_, e⟩ | h
  · rw [e] at h0; simp [emptyC] at h0
  · exact h
theorem may_zero {c : CellM} (h : MayP c) (h0 : c.n = 0) : c = emptyC c.s.length := by
  rcases h.2 with ⟨_, e⟩ | h
  · exact e
  · omega

/-! ### Two cells -/
def sumOf (a b : CellM) : CellM := ⟨a.n + b.n, List.zipWith (· + ·) a.s b.s, List.zipWith min a.lo b.lo, List.zipWith max a.hi b.hi⟩
def mergeC (a b : CellM) : CellM × Int :=
  if mayC a = false ∨ mayC b = false ∨ a.s.length ≠ b.s.length then (nilC, 1) else if a.n = 0 then (b, 0) else if b.n = 0 then (a, 0) else
  if mayC (sumOf a b) then (sumOf a b, 0) else (nilC, 14)
theorem getD_zip {f : Int → Int → Int} {a b : List Int} {i : Nat} (ha : i < a.length) (hb : i < b.length) : (List.zipWith f a b).getD i 0 = f (a.getD i 0) (b.getD i 0) := by
  simp [List.getD_eq_getElem?_getD, List.getElem?_zipWith, List.getElem?_eq_getElem ha, List.getElem?_eq_getElem hb]
/-- Whether the sum of two full cells may be hangs on the sums and on the count. -/
theorem may_sumOf {a b : CellM} (ha : MayP a) (hb : MayP b) (hl : a.s.length = b.s.length) (ha0 : a.n ≠ 0) (hb0 : b.n ≠ 0) :
    MayP (sumOf a b) ↔ a.n + b.n ≤ CNT ∧ ∀ i, i < a.s.length → -SUM ≤ a.s.getD i 0 + b.s.getD i 0 ∧ a.s.getD i 0 + b.s.getD i 0 ≤ SUM := by
  obtain ⟨⟨a1, a2⟩, a3⟩ := may_full ha ha0
  obtain ⟨⟨b1, b2⟩, b3⟩ := may_full hb hb0
  obtain ⟨⟨sa1, sa2, sa3⟩, -⟩ := ha
  obtain ⟨⟨sb1, sb2, sb3⟩, -⟩ := hb
  have hls : (sumOf a b).s.length = a.s.length := by simp [sumOf]; omega
  have hcol : ∀ i, i < a.s.length → ((sumOf a b).col i ↔ -SUM ≤ a.s.getD i 0 + b.s.getD i 0 ∧ a.s.getD i 0 + b.s.getD i 0 ≤ SUM) := by
    intro i hi
    have ca := a3 i hi
    have cb := b3 i (by omega)
    unfold CellM.col colP at ca cb ⊢
    unfold sumOf
    simp only
    rw [getD_zip hi (by omega), getD_zip (by omega) (by omega), getD_zip (by omega) (by omega)]
    generalize a.s.getD i 0 = x at *
    generalize b.s.getD i 0 = y at *
    generalize a.lo.getD i 0 = l1 at *
    generalize b.lo.getD i 0 = l2 at *
    generalize a.hi.getD i 0 = h1 at *
    generalize b.hi.getD i 0 = h2 at *
    unfold VAL at *
    constructor
    · intro h; exact h.2.2.2.1
    · intro h
      refine ⟨?_, ?_, ?_, h, fun h => by omega⟩
      all_goals (simp only [Int.min_def, Int.max_def]; split <;> (try split) <;> omega)
  unfold MayP CellM.shape
  rw [hls]
  constructor
  · rintro ⟨_, ⟨h1, h2⟩ | ⟨h1, h2⟩⟩
    · exfalso
      have : (sumOf a b).n = 0 := by rw [h2]; rfl
      simp only [sumOf] at this; omega
    · simp only [sumOf] at h1
      exact ⟨h1.2, fun i hi => (hcol i hi).1 (h2 i hi)⟩
  · rintro ⟨h1, h2⟩
    refine ⟨⟨sa1, by simp [sumOf]; omega, by simp [sumOf]; omega⟩, .inr ⟨by simp only [sumOf]; omega, fun i hi => (hcol i hi).2 (h2 i hi)⟩⟩

/-! ### The least and the greatest of some numbers -/
def minL : List Int → Int
  | [] => 0
  | x :: l => l.foldl min x
def maxL : List Int → Int
  | [] => 0
  | x :: l => l.foldl max x
theorem foldl_min (l : List Int) (x : Int) : (l.foldl min x = x ∨ l.foldl min x ∈ l) ∧ l.foldl min x ≤ x ∧ ∀ y ∈ l, l.foldl min x ≤ y := by
  induction l generalizing x with
  | nil => simp
  | cons z l ih =>
    obtain ⟨h1, h2, h3⟩ := ih (min x z)
    simp only [List.foldl_cons]
    refine ⟨?_, by omega, fun y hy => ?_⟩
    · rcases h1 with h1 | h1
      · rw [h1]
        by_cases h : x ≤ z
        · left; omega
        · right; rw [show min x z = z by omega]; exact List.mem_cons_self
      · right; exact List.mem_cons_of_mem _ h1
    · rcases List.mem_cons.1 hy with rfl | hy
      · omega
      · exact h3 y hy
theorem foldl_max (l : List Int) (x : Int) : (l.foldl max x = x ∨ l.foldl max x ∈ l) ∧ x ≤ l.foldl max x ∧ ∀ y ∈ l, y ≤ l.foldl max x := by
  induction l generalizing x with
  | nil => simp
  | cons z l ih =>
    obtain ⟨h1, h2, h3⟩ := ih (max x z)
    simp only [List.foldl_cons]
    refine ⟨?_, by omega, fun y hy => ?_⟩
    · rcases h1 with h1 | h1
      · rw [h1]
        by_cases h : z ≤ x
        · left; omega
        · right; rw [show max x z = z by omega]; exact List.mem_cons_self
      · right; exact List.mem_cons_of_mem _ h1
    · rcases List.mem_cons.1 hy with rfl | hy
      · omega
      · exact h3 y hy
theorem minL_spec {l : List Int} (h : l ≠ []) : minL l ∈ l ∧ ∀ y ∈ l, minL l ≤ y := by
  cases l with
  | nil => exact absurd rfl h
  | cons x l =>
    obtain ⟨h1, h2, h3⟩ := foldl_min l x
    refine ⟨?_, fun y hy => ?_⟩
    · show l.foldl min x ∈ _
      rcases h1 with h1 | h1
      · rw [h1]; exact List.mem_cons_self
      · exact List.mem_cons_of_mem _ h1
    · rcases List.mem_cons.1 hy with rfl | hy
      · exact h2
      · exact h3 y hy
theorem maxL_spec {l : List Int} (h : l ≠ []) : maxL l ∈ l ∧ ∀ y ∈ l, y ≤ maxL l := by
  cases l with
  | nil => exact absurd rfl h
  | cons x l =>
    obtain ⟨h1, h2, h3⟩ := foldl_max l x
    refine ⟨?_, fun y hy => ?_⟩
    · show l.foldl max x ∈ _
      rcases h1 with h1 | h1
      · rw [h1]; exact List.mem_cons_self
      · exact List.mem_cons_of_mem _ h1
    · rcases List.mem_cons.1 hy with rfl | hy
      · exact h2
      · exact h3 y hy
theorem minL_eq {l : List Int} {x : Int} (h1 : x ∈ l) (h2 : ∀ y ∈ l, x ≤ y) : minL l = x := by
  have := minL_spec (List.ne_nil_of_mem h1)
  have a := this.2 x h1
  have b := h2 _ this.1
  omega
theorem maxL_eq {l : List Int} {x : Int} (h1 : x ∈ l) (h2 : ∀ y ∈ l, y ≤ x) : maxL l = x := by
  have := maxL_spec (List.ne_nil_of_mem h1)
  have a := this.2 x h1
  have b := h2 _ this.1
  omega
theorem minL_append {l m : List Int} (hl : l ≠ []) (hm : m ≠ []) : minL (l ++ m) = min (minL l) (minL m) := by
  obtain ⟨a1, a2⟩ := minL_spec hl
  obtain ⟨b1, b2⟩ := minL_spec hm
  refine minL_eq ?_ (fun y hy => ?_)
  · by_cases h : minL l ≤ minL m
    · rw [show min (minL l) (minL m) = minL l by omega]; exact List.mem_append_left _ a1
    · rw [show min (minL l) (minL m) = minL m by omega]; exact List.mem_append_right _ b1
  · rcases List.mem_append.1 hy with h | h
    · have := a2 y h; omega
    · have := b2 y h; omega
theorem maxL_append {l m : List Int} (hl : l ≠ []) (hm : m ≠ []) : maxL (l ++ m) = max (maxL l) (maxL m) := by
  obtain ⟨a1, a2⟩ := maxL_spec hl
  obtain ⟨b1, b2⟩ := maxL_spec hm
  refine maxL_eq ?_ (fun y hy => ?_)
  · by_cases h : minL m ≤ minL l ∧ maxL m ≤ maxL l
    · rw [show max (maxL l) (maxL m) = maxL l by omega]; exact List.mem_append_left _ a1
    · by_cases h' : maxL m ≤ maxL l
      · rw [show max (maxL l) (maxL m) = maxL l by omega]; exact List.mem_append_left _ a1
      · rw [show max (maxL l) (maxL m) = maxL m by omega]; exact List.mem_append_right _ b1
  · rcases List.mem_append.1 hy with h | h
    · have := a2 y h; omega
    · have := b2 y h; omega
theorem minL_snoc {l : List Int} {x : Int} (h : l ≠ []) : minL (l ++ [x]) = if x < minL l then x else minL l := by
  rw [minL_append h (by simp)]
  show min _ x = _
  rw [Int.min_def]; split <;> split <;> omega
theorem maxL_snoc {l : List Int} {x : Int} (h : l ≠ []) : maxL (l ++ [x]) = if maxL l < x then x else maxL l := by
  rw [maxL_append h (by simp)]
  show max _ x = _
  rw [Int.max_def]; split <;> split <;> omega
theorem minL_perm {l m : List Int} (h : l.Perm m) : minL l = minL m := by
  cases l with
  | nil => rw [List.nil_perm.1 h]
  | cons x l =>
    have hm : m ≠ [] := by rintro rfl; exact absurd (List.perm_nil.1 h) (by simp)
    obtain ⟨a1, a2⟩ := minL_spec hm
    exact minL_eq (h.mem_iff.2 a1) (fun y hy => a2 y (h.mem_iff.1 hy))
theorem maxL_perm {l m : List Int} (h : l.Perm m) : maxL l = maxL m := by
  cases l with
  | nil => rw [List.nil_perm.1 h]
  | cons x l =>
    have hm : m ≠ [] := by rintro rfl; exact absurd (List.perm_nil.1 h) (by simp)
    obtain ⟨a1, a2⟩ := maxL_spec hm
    exact maxL_eq (h.mem_iff.2 a1) (fun y hy => a2 y (h.mem_iff.1 hy))
theorem sum_perm {l m : List Int} (h : l.Perm m) : l.sum = m.sum := by
  induction h with
  | nil => rfl
  | cons x _ ih => simp [ih]
  | swap x y l => simp only [List.sum_cons]; omega
  | trans _ _ h1 h2 => exact h1.trans h2

/-! ### Values -/
def valsB (m : Int) (v : List Int) : Bool := decide ((v.length : Int) = m) && v.all (fun x => inB x VAL)
def colL (l : List (List Int)) (i : Nat) : List Int := l.map fun v => v.getD i 0
def foldOf (m : Nat) (l : List (List Int)) : CellM := ⟨l.length, (List.range m).map fun i => (colL l i).sum, (List.range m).map fun i => minL (colL l i), (List.range m).map fun i => maxL (colL l i)⟩
def foldC (m : Int) (l : List (List Int)) : CellM × Int :=
  if m < 0 ∨ 2 < m then (nilC, 1) else if l.all (valsB m) = false then (nilC, 1) else if l = [] then (emptyC m.toNat, 0) else
  if mayC (foldOf m.toNat l) then (foldOf m.toNat l, 0) else (nilC, 14)
theorem getD_map_range {f : Nat → Int} {m i : Nat} (h : i < m) : ((List.range m).map f).getD i 0 = f i := by
  simp [List.getD_eq_getElem?_getD, h]
theorem valsB_iff {m : Int} {v : List Int} : valsB m v = true ↔ (v.length : Int) = m ∧ ∀ x ∈ v, -VAL ≤ x ∧ x ≤ VAL := by
  unfold valsB
  rw [Bool.and_eq_true, decide_eq_true_eq, List.all_eq_true]
  exact ⟨fun h => ⟨h.1, fun x hx => inB_iff.1 (h.2 x hx)⟩, fun h => ⟨h.1, fun x hx => inB_iff.2 (h.2 x hx)⟩⟩
theorem colL_vals {m i : Nat} {l : List (List Int)} (h : ∀ v ∈ l, valsB m v = true) (hi : i < m) : ∀ x ∈ colL l i, -VAL ≤ x ∧ x ≤ VAL := by
  intro x hx
  obtain ⟨v, hv, rfl⟩ := List.mem_map.1 hx
  obtain ⟨h1, h2⟩ := valsB_iff.1 (h v hv)
  have hlt : i < v.length := by omega
  rw [List.getD_eq_getElem?_getD, List.getElem?_eq_getElem hlt]
  exact h2 _ (List.getElem_mem hlt)
/-- Whether a fold may be hangs on the sums alone. -/
theorem may_foldOf {m : Nat} {l : List (List Int)} (hm : m ≤ 2) (hl : l ≠ []) (hn : l.length ≤ 1000000) (hv : ∀ v ∈ l, valsB m v = true) :
    MayP (foldOf m l) ↔ ∀ i, i < m → -SUM ≤ (colL l i).sum ∧ (colL l i).sum ≤ SUM := by
  have h0 : 0 < l.length := List.length_pos_iff.2 hl
  have hcol : ∀ i, i < m → ((foldOf m l).col i ↔ -SUM ≤ (colL l i).sum ∧ (colL l i).sum ≤ SUM) := by
    intro i hi
    have hne : colL l i ≠ [] := by intro h; exact hl (List.map_eq_nil_iff.1 h)
    have hx := colL_vals hv hi
    obtain ⟨a1, a2⟩ := minL_spec hne
    obtain ⟨b1, b2⟩ := maxL_spec hne
    unfold CellM.col foldOf colP
    simp only
    rw [getD_map_range hi, getD_map_range hi, getD_map_range hi]
    constructor
    · intro h; exact h.2.2.2.1
    · intro h
      refine ⟨a2 _ b1, hx _ a1, hx _ b1, h, fun h1 => ?_⟩
      match l, h1 with
      | [v], _ => simp [colL, minL, maxL]
      | [], h1 => simp at h1
      | _ :: _ :: _, h1 => simp at h1; omega
  unfold MayP CellM.shape
  have hs : (foldOf m l).s.length = m := by simp [foldOf]
  rw [hs]
  constructor
  · rintro ⟨_, ⟨h1, h2⟩ | ⟨h1, h2⟩⟩
    · exfalso
      have : (foldOf m l).n = 0 := by rw [h2]; rfl
      simp only [foldOf] at this; omega
    · exact fun i hi => (hcol i hi).1 (h2 i hi)
  · intro h
    refine ⟨⟨hm, by simp [foldOf], by simp [foldOf]⟩, .inr ⟨?_, fun i hi => (hcol i hi).2 (h i hi)⟩⟩
    simp only [foldOf]
    unfold CNT; omega
theorem foldC_perm {m : Int} {l k : List (List Int)} (h : l.Perm k) : foldC m l = foldC m k := by
  have h1 : l.all (valsB m) = k.all (valsB m) := by
    rw [Bool.eq_iff_iff, List.all_eq_true, List.all_eq_true]
    exact ⟨fun h' x hx => h' x (h.mem_iff.2 hx), fun h' x hx => h' x (h.mem_iff.1 hx)⟩
  have h2 : l = [] ↔ k = [] := ⟨fun e => by subst e; exact List.nil_perm.1 h, fun e => by subst e; exact List.perm_nil.1 h⟩
  have h3 : foldOf m.toNat l = foldOf m.toNat k := by
    have hc : ∀ i, (colL l i).Perm (colL k i) := fun i => h.map _
    unfold foldOf
    rw [h.length_eq]
    congr 1 <;> refine List.map_congr_left fun i _ => ?_
    · exact sum_perm (hc i)
    · exact minL_perm (hc i)
    · exact maxL_perm (hc i)
  unfold foldC
  rw [h1, h3]
  by_cases hk : k = []
  · rw [if_pos hk, if_pos (h2.2 hk)]
  · rw [if_neg hk, if_neg (fun e => hk (h2.1 e))]
theorem foldC_cases (m : Int) (l : List (List Int)) (hn : l.length ≤ 1000000) :
    (foldC m l = (nilC, 1) ∧ ((m < 0 ∨ 2 < m) ∨ l.all (valsB m) = false)) ∨ (0 ≤ m ∧ m ≤ 2 ∧ l.all (valsB m) = true ∧
      ((l = [] ∧ foldC m l = (emptyC m.toNat, 0)) ∨ (l ≠ [] ∧ MayP (foldOf m.toNat l) ∧ foldC m l = (foldOf m.toNat l, 0)) ∨ (l ≠ [] ∧ ¬ MayP (foldOf m.toNat l) ∧ foldC m l = (nilC, 14)))) := by
  unfold foldC
  by_cases h1 : m < 0 ∨ 2 < m
  · rw [if_pos h1]; exact .inl ⟨rfl, .inl h1⟩
  · rw [if_neg h1]
    by_cases h2 : l.all (valsB m) = false
    · rw [if_pos h2]; exact .inl ⟨rfl, .inr h2⟩
    · rw [if_neg h2]
      refine .inr ⟨by omega, by omega, by simpa using h2, ?_⟩
      by_cases h3 : l = []
      · rw [if_pos h3]; exact .inl ⟨h3, rfl⟩
      · rw [if_neg h3]
        by_cases h4 : MayP (foldOf m.toNat l)
        · rw [if_pos (mayC_iff.2 h4)]; exact .inr (.inl ⟨h3, h4, rfl⟩)
        · rw [if_neg (by rw [mayC_iff]; exact h4)]; exact .inr (.inr ⟨h3, h4, rfl⟩)
theorem foldOf_append {m : Nat} {l k : List (List Int)} (hl : l ≠ []) (hk : k ≠ []) : foldOf m (l ++ k) = sumOf (foldOf m l) (foldOf m k) := by
  have hc : ∀ i, colL (l ++ k) i = colL l i ++ colL k i := fun i => by simp [colL]
  have hl' : ∀ i, colL l i ≠ [] := fun i h => hl (List.map_eq_nil_iff.1 h)
  have hk' : ∀ i, colL k i ≠ [] := fun i h => hk (List.map_eq_nil_iff.1 h)
  unfold foldOf sumOf
  simp only [CellM.mk.injEq]
  refine ⟨by rw [List.length_append]; omega, ?_, ?_, ?_⟩
  all_goals
    refine List.ext_getElem? fun i => ?_
    rw [List.getElem?_zipWith, List.getElem?_map, List.getElem?_map, List.getElem?_map]
    rcases Nat.lt_or_ge i m with h | h
    · rw [List.getElem?_range h]
      simp only [Option.map_some]
      rw [hc]
      first
        | rw [List.sum_append]
        | rw [minL_append (hl' i) (hk' i)]
        | rw [maxL_append (hl' i) (hk' i)]
    · rw [List.getElem?_eq_none (by simpa using h)]; rfl
/-- A fold is the merge of the folds of two parts. -/
theorem fold_parts {m : Int} {l k : List (List Int)} (hn : (l ++ k).length ≤ 1000000) :
    (((foldC m l).2 = 1 ∨ (foldC m k).2 = 1) → (foldC m (l ++ k)).2 = 1) ∧ (((foldC m l).2 ≠ 1 ∧ (foldC m k).2 ≠ 1) → (foldC m (l ++ k)).2 = 0 ∨ (foldC m (l ++ k)).2 = 14) ∧
    ((foldC m l).2 = 0 → (foldC m k).2 = 0 → foldC m (l ++ k) = mergeC (foldC m l).1 (foldC m k).1 ∧ mayC (foldC m l).1 = true ∧ mayC (foldC m k).1 = true) := by
  rw [List.length_append] at hn
  have hall : (l ++ k).all (valsB m) = (l.all (valsB m) && k.all (valsB m)) := List.all_append
  have bad : ((m < 0 ∨ 2 < m) ∨ l.all (valsB m) = false ∨ k.all (valsB m) = false) → foldC m (l ++ k) = (nilC, 1) := by
    intro h
    unfold foldC
    by_cases h1 : m < 0 ∨ 2 < m
    · rw [if_pos h1]
    · rw [if_neg h1, hall, if_pos]
      rcases h with h | h | h
      · exact absurd h h1
      · rw [h]; rfl
      · rw [h]; simp
  rcases foldC_cases m l (by omega) with ⟨e1, c1⟩ | ⟨m0, m2, v1, c1⟩
  · have hb := bad (c1.elim .inl (fun h => .inr (.inl h)))
    rw [e1, hb]
    exact ⟨fun _ => rfl, fun h => absurd rfl h.1, fun h => by simp at h⟩
  · rcases foldC_cases m k (by omega) with ⟨e2, c2⟩ | ⟨-, -, v2, c2⟩
    · have hb := bad (c2.elim .inl (fun h => .inr (.inr h)))
      rw [e2, hb]
      exact ⟨fun _ => rfl, fun h => absurd rfl h.2, fun _ h => by simp at h⟩
    · have h3 : (l ++ k).all (valsB m) = true := by rw [hall, v1, v2]; rfl
      have n1 : (foldC m l).2 ≠ 1 := by rcases c1 with ⟨_, e⟩ | ⟨_, _, e⟩ | ⟨_, _, e⟩ <;> rw [e] <;> simp
      have n2 : (foldC m k).2 ≠ 1 := by rcases c2 with ⟨_, e⟩ | ⟨_, _, e⟩ | ⟨_, _, e⟩ <;> rw [e] <;> simp
      refine ⟨fun h => by rcases h with h | h <;> contradiction, fun _ => ?_, fun z1 z2 => ?_⟩
      · rcases foldC_cases m (l ++ k) (by rw [List.length_append]; omega) with ⟨_, h | h⟩ | ⟨_, _, _, ⟨_, e⟩ | ⟨_, _, e⟩ | ⟨_, _, e⟩⟩
        · omega
        · rw [h3] at h; cases h
        · rw [e]; exact .inl rfl
        · rw [e]; exact .inl rfl
        · rw [e]; exact .inr rfl
      · obtain ⟨q, rfl⟩ := Int.eq_ofNat_of_zero_le m0
        rw [Int.toNat_natCast] at c1 c2
        have me := may_empty (m := q) (by omega)
        rcases c1 with ⟨rfl, e1⟩ | ⟨ne1, p1, e1⟩ | ⟨ne1, p1, e1⟩
        · rcases c2 with ⟨rfl, e2⟩ | ⟨ne2, p2, e2⟩ | ⟨ne2, p2, e2⟩
          · rw [List.append_nil, e1]
            refine ⟨?_, mayC_iff.2 me, mayC_iff.2 me⟩
            unfold mergeC
            dsimp only
            rw [if_neg (by rw [mayC_iff.2 me]; simp), if_pos (show (emptyC q).n = 0 from rfl)]
          · rw [List.nil_append, e2, e1]
            refine ⟨?_, mayC_iff.2 me, mayC_iff.2 p2⟩
            unfold mergeC
            dsimp only
            rw [if_neg (by rw [mayC_iff.2 me, mayC_iff.2 p2]; simp [emptyC, foldOf]), if_pos (show (emptyC q).n = 0 from rfl)]
          · rw [e2] at z2; simp at z2
        · have s1 : (foldOf q l).n ≠ 0 := by
            have := List.length_pos_iff.2 ne1
            simp only [foldOf]; omega
          rcases c2 with ⟨rfl, e2⟩ | ⟨ne2, p2, e2⟩ | ⟨ne2, p2, e2⟩
          · rw [List.append_nil, e1, e2]
            refine ⟨?_, mayC_iff.2 p1, mayC_iff.2 me⟩
            unfold mergeC
            dsimp only
            rw [if_neg (by rw [mayC_iff.2 me, mayC_iff.2 p1]; simp [emptyC, foldOf]), if_neg s1, if_pos (show (emptyC q).n = 0 from rfl)]
          · have s2 : (foldOf q k).n ≠ 0 := by
              have := List.length_pos_iff.2 ne2
              simp only [foldOf]; omega
            rw [e1, e2]
            refine ⟨?_, mayC_iff.2 p1, mayC_iff.2 p2⟩
            unfold mergeC
            rw [if_neg (by rw [mayC_iff.2 p2, mayC_iff.2 p1]; simp [foldOf]), if_neg s1, if_neg s2]
            unfold foldC
            rw [if_neg (by omega), if_neg (by rw [h3]; simp), if_neg (by simp [ne1]), Int.toNat_natCast, foldOf_append ne1 ne2]
          · rw [e2] at z2; simp at z2
        · rw [e1] at z1; simp at z1
end Go.Proofs.Ytclhnnidbhchnaa
/- Many cells together, plainly. -/
namespace Go.Proofs.Ytclhnnidbhchnaa
set_option linter.unusedVariables false
set_option linter.unusedSimpArgs false

def fullL (l : List CellM) : List CellM := l.filter fun c => c.n != 0
def cntL (l : List CellM) : Int := (l.map CellM.n).sum
def sCol (l : List CellM) (i : Nat) : List Int := l.map fun c => c.s.getD i 0
def loCol (l : List CellM) (i : Nat) : List Int := l.map fun c => c.lo.getD i 0
def hiCol (l : List CellM) (i : Nat) : List Int := l.map fun c => c.hi.getD i 0
def sumsOf (m : Nat) (l : List CellM) : CellM := ⟨cntL l, (List.range m).map fun i => (sCol l i).sum, (List.range m).map fun i => minL (loCol l i), (List.range m).map fun i => maxL (hiCol l i)⟩
def argB (m : Nat) (c : CellM) : Bool := mayC c && decide (c.s.length = m)
def sumC (l : List CellM) : CellM × Int :=
  if l = [] then (nilC, 1) else if l.all (argB (l.headD nilC).s.length) = false then (nilC, 1) else
  if fullL l = [] then (emptyC (l.headD nilC).s.length, 0) else
  if CNT < cntL (fullL l) then (nilC, 14) else
  if (List.range (l.headD nilC).s.length).all (fun i => inB (sCol (fullL l) i).sum SUM) = false then (nilC, 14) else (sumsOf (l.headD nilC).s.length (fullL l), 0)
/-- What is known of cells that may be put together. -/
structure ArgsP (m : Nat) (l : List CellM) : Prop where
  may : ∀ c ∈ l, MayP c
  len : ∀ c ∈ l, c.s.length = m
theorem argsP_of {m : Nat} {l : List CellM} (h : l.all (argB m) = true) : ArgsP m l := by
  rw [List.all_eq_true] at h
  refine ⟨fun c hc => ?_, fun c hc => ?_⟩
  · have := h c hc
    unfold argB at this
    rw [Bool.and_eq_true] at this
    exact mayC_iff.1 this.1
  · have := h c hc
    unfold argB at this
    rw [Bool.and_eq_true] at this
    exact of_decide_eq_true this.2
theorem fullL_mem {l : List CellM} {c : CellM} : c ∈ fullL l ↔ c ∈ l ∧ c.n ≠ 0 := by unfold fullL; simp
theorem fullL_snoc (l : List CellM) (c : CellM) : fullL (l ++ [c]) = if c.n = 0 then fullL l else fullL l ++ [c] := by
  unfold fullL
  rw [List.filter_append]
  by_cases h : c.n = 0
  · simp [h]
  · simp [h]
theorem cntL_snoc (l : List CellM) (c : CellM) : cntL (l ++ [c]) = cntL l + c.n := by unfold cntL; simp
theorem sCol_snoc (l : List CellM) (c : CellM) (i : Nat) : sCol (l ++ [c]) i = sCol l i ++ [c.s.getD i 0] := by unfold sCol; simp
theorem loCol_snoc (l : List CellM) (c : CellM) (i : Nat) : loCol (l ++ [c]) i = loCol l i ++ [c.lo.getD i 0] := by unfold loCol; simp
theorem hiCol_snoc (l : List CellM) (c : CellM) (i : Nat) : hiCol (l ++ [c]) i = hiCol l i ++ [c.hi.getD i 0] := by unfold hiCol; simp
/-- Sums of full cells' counts only grow. -/
theorem cntL_pos {l : List CellM} (h : ∀ c ∈ l, 1 ≤ c.n) : (l.length : Int) ≤ cntL l := by
  induction l with
  | nil => simp [cntL]
  | cons c l ih =>
    have h1 := h c List.mem_cons_self
    have h2 := ih (fun d hd => h d (List.mem_cons_of_mem _ hd))
    unfold cntL at *
    simp only [List.map_cons, List.sum_cons, List.length_cons]
    omega
theorem cntL_append (l k : List CellM) : cntL (l ++ k) = cntL l + cntL k := by unfold cntL; simp
theorem cntL_take_le {l : List CellM} (h : ∀ c ∈ l, 1 ≤ c.n) (k : Nat) : cntL (l.take k) ≤ cntL l := by
  have e : l = l.take k ++ l.drop k := (List.take_append_drop k l).symm
  have h2 := cntL_pos (l := l.drop k) (fun c hc => h c (List.mem_of_mem_drop hc))
  have h3 := cntL_append (l.take k) (l.drop k)
  rw [← e] at h3
  omega
theorem cntL_le {l : List CellM} (h : ∀ c ∈ l, c.n ≤ CNT) : cntL l ≤ CNT * l.length := by
  induction l with
  | nil => simp [cntL]
  | cons c l ih =>
    have h1 := h c List.mem_cons_self
    have h2 := ih (fun d hd => h d (List.mem_cons_of_mem _ hd))
    unfold cntL CNT at *
    simp only [List.map_cons, List.sum_cons, List.length_cons]
    omega
/-- Empty cells add nothing to a sum. -/
theorem sCol_full {m : Nat} {l : List CellM} (h : ArgsP m l) (i : Nat) : (sCol l i).sum = (sCol (fullL l) i).sum := by
  induction l with
  | nil => rfl
  | cons c l ih =>
    have h2 := ih ⟨fun d hd => h.may d (List.mem_cons_of_mem _ hd), fun d hd => h.len d (List.mem_cons_of_mem _ hd)⟩
    by_cases h0 : c.n = 0
    · have e := may_zero (h.may c List.mem_cons_self) h0
      have hz : c.s.getD i 0 = 0 := by
        rw [e]
        unfold emptyC
        simp only [List.getD_eq_getElem?_getD, List.getElem?_replicate]
        split <;> rfl
      have e2 : fullL (c :: l) = fullL l := by unfold fullL; simp [h0]
      rw [e2, ← h2]
      unfold sCol
      simp only [List.map_cons, List.sum_cons, hz]
      omega
    · have e2 : fullL (c :: l) = c :: fullL l := by unfold fullL; simp [h0]
      rw [e2]
      unfold sCol at *
      simp only [List.map_cons, List.sum_cons]
      rw [h2]
theorem full_p {m : Nat} {l : List CellM} (h : ArgsP m l) : ∀ c ∈ fullL l, (1 ≤ c.n ∧ c.n ≤ CNT) ∧ c.s.length = m ∧ c.lo.length = m ∧ c.hi.length = m ∧ ∀ i, i < m → c.col i := by
  intro c hc
  obtain ⟨h1, h2⟩ := fullL_mem.1 hc
  have hm := h.may c h1
  have hl := h.len c h1
  obtain ⟨a, b⟩ := may_full hm h2
  exact ⟨a, hl, hm.1.2.1.trans hl, hm.1.2.2.trans hl, fun i hi => b i (by omega)⟩
theorem full_none {m : Nat} {l : List CellM} (h : ArgsP m l) (hf : fullL l = []) : ∀ c ∈ l, c = emptyC m := by
  intro c hc
  have h0 : c.n = 0 := by
    rcases Int.decEq c.n 0 with h1 | h1
    · have := fullL_mem.2 ⟨hc, h1⟩
      rw [hf] at this
      cases this
    · exact h1
  rw [may_zero (h.may c hc) h0, h.len c hc]
/-! ### The ways -/
theorem sumC_nil : sumC [] = (nilC, 1) := by unfold sumC; simp
theorem sumC_bad {l : List CellM} {k : Nat} (hk : k < l.length) (h : argB (l.headD nilC).s.length (l.getD k nilC) = false) : sumC l = (nilC, 1) := by
  have h0 : l ≠ [] := by intro e; subst e; simp at hk
  have h1 : l.all (argB (l.headD nilC).s.length) = false := by
    rw [List.all_eq_false]
    refine ⟨l[k], List.getElem_mem hk, ?_⟩
    rw [List.getD_eq_getElem?_getD, List.getElem?_eq_getElem hk] at h
    simpa using h
  unfold sumC
  rw [if_neg h0, if_pos h1]
theorem sumC_empty {l : List CellM} (h0 : l ≠ []) (h1 : l.all (argB (l.headD nilC).s.length) = true) (h2 : fullL l = []) : sumC l = (emptyC (l.headD nilC).s.length, 0) := by
  unfold sumC
  rw [if_neg h0, if_neg (by rw [h1]; decide), if_pos h2]
theorem sumC_many {l : List CellM} (h0 : l ≠ []) (h1 : l.all (argB (l.headD nilC).s.length) = true) (h2 : fullL l ≠ []) (h3 : CNT < cntL (fullL l)) : sumC l = (nilC, 14) := by
  unfold sumC
  rw [if_neg h0, if_neg (by rw [h1]; decide), if_neg h2, if_pos h3]
theorem sumC_far {l : List CellM} (h0 : l ≠ []) (h1 : l.all (argB (l.headD nilC).s.length) = true) (h2 : fullL l ≠ []) {i : Nat} (hi : i < (l.headD nilC).s.length) (h3 : inB (sCol (fullL l) i).sum SUM = false) : sumC l = (nilC, 14) := by
  unfold sumC
  rw [if_neg h0, if_neg (by rw [h1]; decide), if_neg h2]
  split
  · rfl
  · rw [if_pos]
    rw [List.all_eq_false]
    exact ⟨i, List.mem_range.2 hi, by simp [h3]⟩
theorem sumC_yes {l : List CellM} (h0 : l ≠ []) (h1 : l.all (argB (l.headD nilC).s.length) = true) (h2 : fullL l ≠ []) (h3 : cntL (fullL l) ≤ CNT) (h4 : ∀ i, i < (l.headD nilC).s.length → inB (sCol (fullL l) i).sum SUM = true) : sumC l = (sumsOf (l.headD nilC).s.length (fullL l), 0) := by
  unfold sumC
  rw [if_neg h0, if_neg (by rw [h1]; decide), if_neg h2, if_neg (by omega), if_neg]
  rw [Bool.not_eq_false, List.all_eq_true]
  exact fun i hi => h4 i (List.mem_range.1 hi)
end Go.Proofs.Ytclhnnidbhchnaa
