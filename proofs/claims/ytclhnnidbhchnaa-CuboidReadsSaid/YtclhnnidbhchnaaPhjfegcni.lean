/- 2 texts of this claim, in build order. -/
import Derived.Test.YtclhnnidbhchnaaPbbgockda
import Derived.Test.YtclhnnidbhchnaaPannjhgde
import Derived.Test.YtclhnnidbhchnaaPcmmjepfj
import Derived.Test.YtclhnnidbhchnaaPmcbaoioa
import Derived.Test.YtclhnnidbhchnaaPlknfmgpc
/- What cuboid.Read reads, plainly; what was put is read again. -/
namespace Go.Proofs.Ytclhnnidbhchnaa
open Go.ChangeShapes Go.WideShapes Go.ChangeAt Go.RowKit Go.Maps
set_option linter.unusedVariables false
set_option linter.unusedSimpArgs false

/-- Codes are read, one behind the other. -/
def codesR (l : List UInt8) : Nat → Nat → Int → List Int × Nat × Int
  | 0, a, e => ([], a, e)
  | k + 1, a, e => ((codesR l k a e).1 ++ [(rInt l (codesR l k a e).2.1 (codesR l k a e).2.2 0 40).1], (rInt l (codesR l k a e).2.1 (codesR l k a e).2.2 0 40).2)
/-- A measure's three numbers behind a cell's lists. -/
def meas1 (l : List UInt8) (s : CellM × Nat × Int) : CellM × Nat × Int :=
  let r1 := rInt l s.2.1 s.2.2 (-4611686018427387904) 4611686018427387904
  let r2 := rInt l r1.2.1 r1.2.2 (-2305843009213693952) 2305843009213693952
  let r3 := rInt l r2.2.1 r2.2.2 (-2305843009213693952) 2305843009213693952
  (⟨s.1.n, s.1.s ++ [r1.1], s.1.lo ++ [r2.1], s.1.hi ++ [r3.1]⟩, r3.2)
def measR (l : List UInt8) : Nat → CellM × Nat × Int → CellM × Nat × Int
  | 0, s => s
  | k + 1, s => meas1 l (measR l k s)
/-- A key and a cell. -/
def entR (l : List UInt8) (W M a : Nat) (e : Int) : KC × Nat × Int :=
  let ks := codesR l W a e
  let n := rInt l ks.2.1 ks.2.2 1 1099511627776
  let c := measR l M (⟨n.1, [], [], []⟩, n.2)
  ((ks.1, c.1), c.2)
def risesB (L : List KC) (k : List Int) : Bool := L.isEmpty || lexB (L.getD (L.length - 1) zK).1 k
def stepC (l : List UInt8) (W M : Nat) (s : List KC × Nat × Int) : List KC × Nat × Int :=
  let r := entR l W M s.2.1 s.2.2
  if r.2.2 ≠ 0 then (s.1, r.2) else if mayC r.1.2 = true ∧ risesB s.1 r.1.1 = true then (s.1 ++ [r.1], r.2) else (s.1, r.2.1, 2)
def runC (l : List UInt8) (W M : Nat) : Nat → List KC × Nat × Int → List KC × Nat × Int
  | 0, s => s
  | k + 1, s => if s.2.2 ≠ 0 then s else runC l W M k (stepC l W M s)
def readC (l : List UInt8) (W M a : Nat) (e : Int) : List KC × Nat × Int :=
  let n := rInt l a e 0 64000
  runC l W M n.1.toNat ([], n.2)

theorem runC_err {l : List UInt8} {W M : Nat} {s : List KC × Nat × Int} (h : s.2.2 ≠ 0) : ∀ k, runC l W M k s = s
  | 0 => rfl
  | k + 1 => by unfold runC; rw [if_pos h]
theorem runC_go {l : List UInt8} {W M k : Nat} {s : List KC × Nat × Int} (h : s.2.2 = 0) : runC l W M (k + 1) s = runC l W M k (stepC l W M s) := by
  show (if s.2.2 ≠ 0 then s else runC l W M k (stepC l W M s)) = _
  rw [if_neg (by simp [h])]
theorem codesR_ok (l : List UInt8) (a : Nat) (e : Int) (ha : a ≤ l.length) : ∀ k, okK k (codesR l k a e).1 ∧ a ≤ (codesR l k a e).2.1 ∧ (codesR l k a e).2.1 ≤ l.length ∧ ((codesR l k a e).2.2 = 0 → e = 0) := by
  intro k
  induction k with
  | zero => exact ⟨⟨rfl, fun x hx => by cases hx⟩, Nat.le_refl _, ha, fun h => h⟩
  | succ k ih =>
    obtain ⟨⟨h1, h2⟩, h3, h4, h5⟩ := ih
    have hb := rInt_bnd l (codesR l k a e).2.1 (codesR l k a e).2.2 0 40 h4 (by omega) (by omega)
    have hl := rInt_le l (codesR l k a e).2.1 (codesR l k a e).2.2 0 40 h4
    refine ⟨⟨?_, fun x hx => ?_⟩, ?_, ?_, fun h => h5 (rInt_good h4 h).1⟩
    · show (_ ++ [_]).length = _
      rw [List.length_append, h1]; rfl
    · rcases List.mem_append.1 (show x ∈ _ ++ [_] from hx) with hx | hx
      · exact h2 x hx
      · rw [List.mem_singleton.1 hx]; exact hb
    · exact Nat.le_trans h3 hl.1
    · exact hl.2
theorem meas1_ok (l : List UInt8) (s : CellM × Nat × Int) (ha : s.2.1 ≤ l.length) : s.2.1 ≤ (meas1 l s).2.1 ∧ (meas1 l s).2.1 ≤ l.length ∧ ((meas1 l s).2.2 = 0 → s.2.2 = 0) := by
  unfold meas1
  dsimp only
  have h1 := rInt_le l s.2.1 s.2.2 (-4611686018427387904) 4611686018427387904 ha
  have g1 := fun h => rInt_good (l := l) (a := s.2.1) (e := s.2.2) (least := -4611686018427387904) (most := 4611686018427387904) ha h
  generalize rInt l s.2.1 s.2.2 (-4611686018427387904) 4611686018427387904 = r1 at *
  have h2 := rInt_le l r1.2.1 r1.2.2 (-2305843009213693952) 2305843009213693952 h1.2
  have g2 := fun h => rInt_good (l := l) (a := r1.2.1) (e := r1.2.2) (least := -2305843009213693952) (most := 2305843009213693952) h1.2 h
  generalize rInt l r1.2.1 r1.2.2 (-2305843009213693952) 2305843009213693952 = r2 at *
  have h3 := rInt_le l r2.2.1 r2.2.2 (-2305843009213693952) 2305843009213693952 h2.2
  have g3 := fun h => rInt_good (l := l) (a := r2.2.1) (e := r2.2.2) (least := -2305843009213693952) (most := 2305843009213693952) h2.2 h
  generalize rInt l r2.2.1 r2.2.2 (-2305843009213693952) 2305843009213693952 = r3 at *
  exact ⟨by omega, h3.2, fun h => (g1 (g2 (g3 h).1).1).1⟩
theorem measR_ok (l : List UInt8) (s : CellM × Nat × Int) (ha : s.2.1 ≤ l.length) : ∀ k, s.2.1 ≤ (measR l k s).2.1 ∧ (measR l k s).2.1 ≤ l.length ∧ ((measR l k s).2.2 = 0 → s.2.2 = 0) ∧ (measR l k s).1.n = s.1.n ∧ (measR l k s).1.s.length = s.1.s.length + k ∧ (measR l k s).1.lo.length = s.1.lo.length + k ∧ (measR l k s).1.hi.length = s.1.hi.length + k := by
  intro k
  induction k with
  | zero => exact ⟨Nat.le_refl _, ha, fun h => h, rfl, rfl, rfl, rfl⟩
  | succ k ih =>
    obtain ⟨h1, h2, h3, h4, h5, h6, h7⟩ := ih
    obtain ⟨g1, g2, g3⟩ := meas1_ok l (measR l k s) h2
    refine ⟨Nat.le_trans h1 g1, g2, fun h => h3 (g3 h), h4, ?_, ?_, ?_⟩
    · show (_ ++ [_]).length = _
      rw [List.length_append, h5]; simp; omega
    · show (_ ++ [_]).length = _
      rw [List.length_append, h6]; simp; omega
    · show (_ ++ [_]).length = _
      rw [List.length_append, h7]; simp; omega
theorem entR_ok (l : List UInt8) (W M a : Nat) (e : Int) (ha : a ≤ l.length) : okK W (entR l W M a e).1.1 ∧ (entR l W M a e).1.2.s.length = M ∧ a ≤ (entR l W M a e).2.1 ∧ (entR l W M a e).2.1 ≤ l.length ∧
    ((entR l W M a e).2.2 = 0 → (entR l W M a e).1.2.n ≠ 0 ∧ a < (entR l W M a e).2.1) := by
  obtain ⟨h1, h2, h3, -⟩ := codesR_ok l a e ha W
  unfold entR
  dsimp only
  generalize codesR l W a e = ks at *
  have hl := rInt_le l ks.2.1 ks.2.2 1 1099511627776 h3
  have hg := fun h => rInt_good (l := l) (a := ks.2.1) (e := ks.2.2) (least := 1) (most := 1099511627776) h3 h
  generalize rInt l ks.2.1 ks.2.2 1 1099511627776 = n at *
  obtain ⟨q1, q2, q3, q4, q5, -, -⟩ := measR_ok l (⟨n.1, [], [], []⟩, n.2) hl.2 M
  dsimp only at q1 q3 q4 q5
  refine ⟨h1, ?_, ?_, q2, fun h => ?_⟩
  · simpa using q5
  · omega
  · have := hg (q3 h)
    rw [q4]
    exact ⟨by omega, by omega⟩
theorem rises_sort {L : List KC} {x : KC} (hs : SortK L) (h : risesB L x.1 = true) : SortK (L ++ [x]) := by
  unfold SortK
  rw [List.pairwise_append]
  refine ⟨hs, List.pairwise_singleton _ _, fun y hy z hz => ?_⟩
  rw [List.mem_singleton.1 hz]
  unfold risesB at h
  rcases List.eq_nil_or_concat L with rfl | ⟨K, u, hKu⟩
  · cases hy
  · rw [List.concat_eq_append] at hKu
    subst hKu
    have hu : ((K ++ [u]).getD ((K ++ [u]).length - 1) zK) = u := by
      rw [List.length_append, List.length_singleton, Nat.add_sub_cancel, List.getD_eq_getElem?_getD, List.getElem?_append_right (Nat.le_refl _)]; simp
    rw [hu] at h
    have hlt : lexB u.1 x.1 = true := by simpa using h
    rcases List.mem_append.1 hy with hy | hy
    · exact lex_trans ((List.pairwise_append.1 hs).2.2 y hy u (List.mem_singleton.2 rfl)) hlt
    · rw [List.mem_singleton.1 hy]; exact hlt
theorem OkL.snoc {W M : Nat} {L : List KC} (h : OkL W M L) {x : KC} (h1 : okK W x.1) (h2 : MayP x.2) (h3 : x.2.n ≠ 0) (h4 : x.2.s.length = M) (h5 : risesB L x.1 = true) : OkL W M (L ++ [x]) := by
  have q : ∀ {p : KC → Prop}, (∀ y ∈ L, p y) → p x → ∀ y ∈ L ++ [x], p y := fun ha hb y hy => by
    rcases List.mem_append.1 hy with hy | hy
    · exact ha y hy
    · rw [List.mem_singleton.1 hy]; exact hb
  exact ⟨rises_sort h.sort h5, q h.key h1, q h.may h2, q h.full h3, q h.len h4⟩
/-- What a step leaves. -/
def StC (l : List UInt8) (W M : Nat) (s : List KC × Nat × Int) : Prop := OkL W M s.1 ∧ s.1.length ≤ s.2.1 ∧ s.2.1 ≤ l.length
theorem stepC_ok {l : List UInt8} {W M : Nat} {s : List KC × Nat × Int} (h : StC l W M s) : StC l W M (stepC l W M s) := by
  obtain ⟨h1, h2, h3⟩ := h
  obtain ⟨g1, g2, g3, g4, g5⟩ := entR_ok l W M s.2.1 s.2.2 h3
  unfold stepC
  generalize entR l W M s.2.1 s.2.2 = r at *
  by_cases he : r.2.2 ≠ 0
  · simp only [if_pos he]
    exact ⟨h1, by simp only; omega, g4⟩
  · simp only [if_neg he]
    by_cases hm : mayC r.1.2 = true ∧ risesB s.1 r.1.1 = true
    · simp only [if_pos hm]
      obtain ⟨q1, q2⟩ := g5 (by omega)
      exact ⟨h1.snoc g1 (mayC_iff.1 hm.1) q1 g2 hm.2, by simp only [List.length_append, List.length_singleton]; omega, g4⟩
    · simp only [if_neg hm]
      exact ⟨h1, by simp only; omega, g4⟩
theorem runC_ok {l : List UInt8} {W M : Nat} : ∀ (k : Nat) (s : List KC × Nat × Int), StC l W M s → StC l W M (runC l W M k s)
  | 0, s, h => h
  | k + 1, s, h => by
    unfold runC
    split
    · exact h
    · exact runC_ok k _ (stepC_ok h)
theorem readC_ok (l : List UInt8) (W M a : Nat) (e : Int) (ha : a ≤ l.length) : StC l W M (readC l W M a e) := by
  unfold readC
  exact runC_ok _ _ ⟨OkL.nil_ W M, by simp, (rInt_le l a e 0 64000 ha).2⟩
/-! ### What was put is read again -/
theorem codesR_put (ks : List Int) (hk : ∀ x ∈ ks, 0 ≤ x ∧ x ≤ 40) (pre post : List UInt8) : ∀ k, k ≤ ks.length → codesR (pre ++ (ks.flatMap putInt ++ post)) k pre.length 0 = (ks.take k, pre.length + ((ks.take k).flatMap putInt).length, 0) := by
  intro k
  induction k with
  | zero => intro _; simp [codesR]
  | succ k ih =>
    intro hk'
    have hb := hk ks[k] (List.getElem_mem _)
    unfold codesR
    rw [ih (by omega)]
    have e : pre ++ (ks.flatMap putInt ++ post) = (pre ++ (ks.take k).flatMap putInt) ++ (putInt ks[k] ++ ((ks.drop (k + 1)).flatMap putInt ++ post)) := by
      conv => lhs; rw [← List.take_append_drop k ks, List.drop_eq_getElem_cons (show k < ks.length by omega)]
      simp only [List.flatMap_append, List.flatMap_cons, List.append_assoc]
    have hr := rInt_put (pre ++ (ks.take k).flatMap putInt) ((ks.drop (k + 1)).flatMap putInt ++ post) ks[k] 0 40 (by omega) (by omega) hb.1 hb.2
    rw [List.length_append] at hr
    rw [e]
    simp only
    rw [hr, List.take_succ_eq_append_getElem (show k < ks.length by omega), List.flatMap_append, List.length_append]
    simp only [List.flatMap_cons, List.flatMap_nil, List.append_nil]
    rw [Nat.add_assoc]
theorem measR_put (c : CellM) (hm : MayP c) (h0 : c.n ≠ 0) (pre post : List UInt8) : ∀ k, k ≤ c.s.length →
    measR (pre ++ ((List.range c.s.length).flatMap (putI3 c) ++ post)) k (⟨c.n, [], [], []⟩, pre.length, 0) = (⟨c.n, c.s.take k, c.lo.take k, c.hi.take k⟩, pre.length + ((List.range k).flatMap (putI3 c)).length, 0) := by
  obtain ⟨-, hcol⟩ := may_full hm h0
  have hl := hm.1
  intro k
  induction k with
  | zero => intro _; simp [measR]
  | succ k ih =>
    intro hk
    obtain ⟨-, hL1, hL2⟩ := hl
    have hc := hcol k (by omega)
    unfold CellM.col colP VAL SUM at hc
    have e : pre ++ ((List.range c.s.length).flatMap (putI3 c) ++ post) = (pre ++ (List.range k).flatMap (putI3 c)) ++ (putI3 c k ++ (((List.range c.s.length).drop (k + 1)).flatMap (putI3 c) ++ post)) := by
      conv => lhs; rw [← List.take_append_drop k (List.range c.s.length), List.drop_eq_getElem_cons (show k < (List.range c.s.length).length by simp; omega)]
      rw [List.take_range, Nat.min_eq_left (by omega), List.getElem_range]
      simp only [List.flatMap_append, List.flatMap_cons, List.append_assoc]
    show meas1 _ (measR _ k _) = _
    rw [ih (by omega), e]
    generalize ((List.range c.s.length).drop (k + 1)).flatMap (putI3 c) ++ post = q
    have t1 : c.s.take (k + 1) = c.s.take k ++ [c.s.getD k 0] := by rw [List.take_succ_eq_append_getElem (by omega), List.getD_eq_getElem?_getD, List.getElem?_eq_getElem (by omega)]; rfl
    have t2 : c.lo.take (k + 1) = c.lo.take k ++ [c.lo.getD k 0] := by rw [List.take_succ_eq_append_getElem (by omega), List.getD_eq_getElem?_getD, List.getElem?_eq_getElem (by omega)]; rfl
    have t3 : c.hi.take (k + 1) = c.hi.take k ++ [c.hi.getD k 0] := by rw [List.take_succ_eq_append_getElem (by omega), List.getD_eq_getElem?_getD, List.getElem?_eq_getElem (by omega)]; rfl
    have hr3 : (List.range (k + 1)).flatMap (putI3 c) = (List.range k).flatMap (putI3 c) ++ putI3 c k := by rw [List.range_succ, List.flatMap_append]; simp
    rw [t1, t2, t3, hr3]
    have p1 := rInt_put (pre ++ (List.range k).flatMap (putI3 c)) (putInt (c.lo.getD k 0) ++ (putInt (c.hi.getD k 0) ++ q)) (c.s.getD k 0) (-4611686018427387904) 4611686018427387904 (by omega) (by omega) (by omega) (by omega)
    have p2 := rInt_put ((pre ++ (List.range k).flatMap (putI3 c)) ++ putInt (c.s.getD k 0)) (putInt (c.hi.getD k 0) ++ q) (c.lo.getD k 0) (-2305843009213693952) 2305843009213693952 (by omega) (by omega) (by omega) (by omega)
    have p3 := rInt_put (((pre ++ (List.range k).flatMap (putI3 c)) ++ putInt (c.s.getD k 0)) ++ putInt (c.lo.getD k 0)) q (c.hi.getD k 0) (-2305843009213693952) 2305843009213693952 (by omega) (by omega) (by omega) (by omega)
    generalize (List.range k).flatMap (putI3 c) = pp at *
    rw [show putI3 c k = putInt (c.s.getD k 0) ++ (putInt (c.lo.getD k 0) ++ putInt (c.hi.getD k 0)) from rfl]
    simp only [List.append_assoc, List.length_append, Nat.add_assoc] at p1 p2 p3 ⊢
    unfold meas1
    simp only [p1, p2, p3]
theorem entR_put (x : KC) {W M : Nat} (hk : okK W x.1) (hm : MayP x.2) (h0 : x.2.n ≠ 0) (hl : x.2.s.length = M) (pre post : List UInt8) : entR (pre ++ (putKC x ++ post)) W M pre.length 0 = (x, pre.length + (putKC x).length, 0) := by
  obtain ⟨ks, c⟩ := x
  obtain ⟨hk1, hk2⟩ := hk
  simp only at hk1 hk2 hm h0 hl
  have hc := (may_full hm h0).1
  unfold CNT at hc
  unfold entR putKC putCell
  have h1 := codesR_put ks hk2 pre (putInt c.n ++ ((List.range c.s.length).flatMap (putI3 c) ++ post)) W (by omega)
  rw [List.take_of_length_le (by omega)] at h1
  have h2 := rInt_put (pre ++ ks.flatMap putInt) ((List.range c.s.length).flatMap (putI3 c) ++ post) c.n 1 1099511627776 (by omega) (by omega) (by omega) (by omega)
  have h3 := measR_put c hm h0 ((pre ++ ks.flatMap putInt) ++ putInt c.n) post c.s.length (Nat.le_refl _)
  obtain ⟨-, hL1, hL2⟩ := hm.1
  rw [List.take_of_length_le (Nat.le_refl _), List.take_of_length_le (by omega), List.take_of_length_le (by omega)] at h3
  rw [hl] at h3
  simp only [List.append_assoc, List.length_append, Nat.add_assoc, hl] at h1 h2 h3 ⊢
  simp only [h1, h2, h3]
theorem rises_of_sort {L : List KC} {x : KC} (h : SortK (L ++ [x])) : risesB L x.1 = true := by
  unfold risesB
  rcases List.eq_nil_or_concat L with rfl | ⟨K, u, hKu⟩
  · rfl
  · rw [List.concat_eq_append] at hKu
    subst hKu
    have hu : ((K ++ [u]).getD ((K ++ [u]).length - 1) zK) = u := by
      rw [List.length_append, List.length_singleton, Nat.add_sub_cancel, List.getD_eq_getElem?_getD, List.getElem?_append_right (Nat.le_refl _)]; simp
    rw [hu, (List.pairwise_append.1 h).2.2 u (by simp) x (by simp)]
    simp
theorem runC_put {W M : Nat} : ∀ (L2 L1 : List KC) (pre : List UInt8), OkL W M (L1 ++ L2) → runC (pre ++ L2.flatMap putKC) W M L2.length (L1, pre.length, 0) = (L1 ++ L2, pre.length + (L2.flatMap putKC).length, 0)
  | [], L1, pre, h => by simp [runC]
  | x :: L2, L1, pre, h => by
    have hx : x ∈ L1 ++ x :: L2 := by simp
    have e1 : L1 ++ x :: L2 = (L1 ++ [x]) ++ L2 := by simp
    have he := entR_put x (h.key x hx) (h.may x hx) (h.full x hx) (h.len x hx) pre (L2.flatMap putKC)
    have hs : SortK (L1 ++ [x]) := (List.pairwise_append.1 (show SortK ((L1 ++ [x]) ++ L2) by rw [← e1]; exact h.sort)).1
    have ih := runC_put L2 (L1 ++ [x]) (pre ++ putKC x) (by rw [← e1]; exact h)
    rw [List.flatMap_cons, List.length_cons, runC_go rfl]
    unfold stepC
    rw [he]
    simp only
    rw [if_neg (by simp), if_pos ⟨mayC_iff.2 (h.may x hx), rises_of_sort hs⟩]
    simp only [List.length_append, List.append_assoc, Nat.add_assoc, List.singleton_append] at ih ⊢
    exact ih
theorem readC_put {W M : Nat} {L : List KC} (h : OkL W M L) (hL : L.length ≤ 64000) : readC (putCub L) W M 0 0 = (L, (putCub L).length, 0) := by
  unfold readC putCub
  have h1 := rInt_put [] (L.flatMap putKC) (L.length : Nat) 0 64000 (by omega) (by omega) (by omega) (by omega)
  have h2 := runC_put L [] (putInt (L.length : Nat)) h
  simp only [List.nil_append, List.length_nil, Nat.zero_add] at h1 h2 ⊢
  simp only [h1, Int.toNat_natCast]
  rw [h2, List.length_append]
end Go.Proofs.Ytclhnnidbhchnaa
/- Boxes that are built while a reader moves; blocks of one type that stay (seats without strings). -/
namespace Go.Proofs.Ytclhnnidbhchnaa
open Go.ChangeShapes Go.WideShapes Go.ChangeAt Go.RowKit
set_option linter.unusedVariables false
set_option linter.unusedSimpArgs false


/-- Blocks of this type stay, from base on. -/
def KeepT (e : TypeId) (base : Nat) (w w' : World) : Prop := ∀ g cur, base ≤ g → w.heap[g]? = some (.cells cur e (0, 0)) → w'.heap[g]? = w.heap[g]?
theorem KeepT.of_below {e : TypeId} {base : Nat} {w w' : World} (h : Below w.heap.size w w') : KeepT e base w w' := fun g cur hb hg => h.block g (Array.getElem?_eq_some_iff.1 hg).1
theorem KeepT.of_chg {e : TypeId} {base : Nat} {D : Nat → Prop} {w w' : World} (h : Chg D w w') (hD : ∀ g, D g → g < base) : KeepT e base w w' := fun g cur hb hg => h.block g (Array.getElem?_eq_some_iff.1 hg).1 (fun hd => by have := hD g hd; omega)
theorem own_keepT {w w' : World} {base n : Nat} {e : TypeId} {sz : Nat} {v : Value} {xs : List Value} (h : w.ownsRow base e sz v n xs) (k : KeepT e base w w') : w'.ownsRow base e sz v n xs := by
  obtain ⟨h1, h2⟩ := h
  refine ⟨h1, ?_⟩
  rcases h2 with h2 | ⟨g, cap, cur, rfl, hbg, hg, r⟩
  · exact .inl h2
  · exact .inr ⟨g, cap, cur, rfl, hbg, (k g cur hbg hg).trans hg, r⟩
theorem KeepT.of_grown {w w' : World} {base base' n : Nat} {e e' : TypeId} {sz : Nat} {v : Value} {xs : List Value} (hg : w.grownBy w' v.ownBlock) (h : w.ownsRow base' e' sz v n xs) (hne : e ≠ e') : KeepT e base w w' := by
  intro g cur hb hgg
  refine hg.block g (Array.getElem?_eq_some_iff.1 hgg).1 (fun e1 => ?_)
  rcases h.2 with ⟨rfl, _⟩ | ⟨g', cap, cur', rfl, hbg, hg', _⟩
  · cases e1
  · simp only [Value.ownBlock, Option.some.injEq] at e1
    subst e1
    rw [hgg] at hg'
    injection hg' with hg'
    injection hg' with _ h2 _
    exact hne h2
theorem own_cells2 {w : World} {base : Nat} {e : TypeId} {sz : Nat} {v : Value} {n : Nat} {xs : List Value} (h : w.ownsRow base e sz v n xs) :
    ∃ A c, v = .slice A n c ∧ n ≤ c ∧ c ≤ maxLen ∧ (0 < n → ∃ g, A = some ⟨g, 0, none⟩ ∧ base ≤ g ∧ g < w.heap.size ∧ (∃ cur, w.heap[g]? = some (.cells cur e (0, 0)) ∧ n * sz ≤ cur.size) ∧ ∀ j, j < n * sz → w.cell? ⟨g, j, none⟩ = xs[j]?) := by
  have hown := h
  obtain ⟨h1, h2⟩ := h
  rcases h2 with ⟨rfl, rfl⟩ | ⟨g, cap, cur, rfl, hbg, hg, hnc, hcm, hcs, htk⟩
  · exact ⟨none, 0, rfl, by omega, by simp [maxLen], fun h => by omega⟩
  · exact ⟨_, cap, rfl, hnc, hcm, fun h0 => ⟨g, rfl, hbg, (hown.lt g rfl).2, ⟨cur, hg, by rw [hcs]; exact Nat.mul_le_mul_right _ hnc⟩, fun j hj => hown.cellAt (g := g) j hj⟩⟩
theorem KeepT.of_upd {e : TypeId} {base p : Nat} {w w' : World} (h : Upd p w w') (hp : p < base) : KeepT e base w w' := fun g cur hb hg => h.block g (Array.getElem?_eq_some_iff.1 hg).1 (fun e => by injection e with e; omega)
theorem KeepT.trans {e : TypeId} {base : Nat} {a b c : World} (h : KeepT e base a b) (k : KeepT e base b c) : KeepT e base a c := fun g cur hb hg => (k g cur hb ((h g cur hb hg).trans hg)).trans (h g cur hb hg)
theorem keepT_set {e : TypeId} {base b k : Nat} {w : World} {v : Value} (h : b < base) : KeepT e base w (w.setCell ⟨b, k, none⟩ v) := fun g cur hg _ => Below.heap_setCell _ _ _ g (by simp; omega)
theorem Upd.of_below {p : Nat} {w w' : World} (h : Below w.heap.size w w') : Upd p w w' := ⟨h.os, h.tape, h.output, h.size, fun k hk _ => h.block k hk⟩
theorem RW.set {w : World} {B p a N i : Nat} {l : List UInt8} {e : Int} (h : RW w B p l a e) (hN : p < N) (u : Value) : RW (w.setCell ⟨N, i, none⟩ u) B p l a e :=
  h.keep (Below.setCell (Below.refl (p + 1) w) (show p + 1 ≤ N by omega) u)
theorem Upd.over {p B : Nat} {a b c : World} (h : Upd p a b) (k : Below B b c) (hB : a.heap.size ≤ B) : Upd p a c :=
  ⟨k.os.trans h.os, k.tape.trans h.tape, k.output.trans h.output, Nat.le_trans h.size k.size, fun g hg hn => (k.block g (by omega)).trans (h.block g hg hn)⟩
/-- A box of some cells that is built in block N. -/
structure BoxN (w wq : World) (p N : Nat) (cs : List Value) : Prop where
  lt : N < wq.heap.size
  ge : w.heap.size ≤ N
  upd : Upd p w wq
  c : ∀ i v, cs[i]? = some v → wq.cell? ⟨N, i, none⟩ = some v ∧ wq.frozen? ⟨N, i, none⟩ = false
theorem BoxN.keep {w wq wr : World} {p N : Nat} {cs : List Value} (h : BoxN w wq p N cs) (hp : p < w.heap.size) (hs : wq.heap.size ≤ wr.heap.size) (k : ∀ g, g < N + 1 → g ≠ p → wr.heap[g]? = wq.heap[g]?) (ho : wr.os = wq.os ∧ wr.tape = wq.tape ∧ wr.output = wq.output) : BoxN w wr p N cs := by
  have hb := k N (by omega) (by have := h.ge; omega)
  exact ⟨by have := h.lt; omega, h.ge, ⟨ho.1.trans h.upd.os, ho.2.1.trans h.upd.tape, ho.2.2.trans h.upd.output, Nat.le_trans h.upd.size hs, fun g hg hn => (k g (by have := h.ge; omega) (fun e => hn (by rw [e]))).trans (h.upd.block g hg hn)⟩,
    fun i v hv => ⟨(World.cell?_of_block (a := ⟨N, i, none⟩) hb).trans (h.c i v hv).1, (World.frozen?_of_block (a := ⟨N, i, none⟩) hb).trans (h.c i v hv).2⟩⟩
theorem BoxN.move {w wq wr : World} {p N : Nat} {cs : List Value} (h : BoxN w wq p N cs) (hp : p < w.heap.size) (hu : Upd p wq wr) : BoxN w wr p N cs :=
  h.keep hp hu.size (fun g hg hn => hu.block g (by have := h.lt; omega) (fun e => hn (Option.some.inj e))) ⟨hu.os, hu.tape, hu.output⟩
theorem BoxN.over {w wq wr : World} {p N : Nat} {cs : List Value} (h : BoxN w wq p N cs) (hp : p < w.heap.size) (hb : Below (N + 1) wq wr) : BoxN w wr p N cs :=
  h.keep hp hb.size (fun g hg hn => hb.block g hg) ⟨hb.os, hb.tape, hb.output⟩
theorem BoxN.far {w wq : World} {p N N' i : Nat} {cs : List Value} (h : BoxN w wq p N cs) (hp : p < w.heap.size) (hN : N < N') (u : Value) : BoxN w (wq.setCell ⟨N', i, none⟩ u) p N cs :=
  h.keep hp (by simp [World.setCell]) (fun g hg _ => Below.heap_setCell _ _ _ g (by simp; omega)) ⟨rfl, rfl, rfl⟩
theorem BoxN.set {w wq : World} {p N : Nat} {cs : List Value} (h : BoxN w wq p N cs) (i : Nat) (hi : i < cs.length) (u : Value) : BoxN w (wq.setCell ⟨N, i, none⟩ u) p N (cs.set i u) := by
  refine ⟨by simpa [World.setCell] using h.lt, h.ge, ⟨h.upd.os, h.upd.tape, h.upd.output, by simpa [World.setCell] using h.upd.size, fun g hg hn => (Below.heap_setCell _ _ _ g (by have := h.ge; simp; omega)).trans (h.upd.block g hg hn)⟩, fun j v hv => ?_⟩
  rcases Nat.decEq i j with hne | rfl
  · rw [List.getElem?_set_ne hne] at hv
    exact ⟨cell_beside hne (h.c j v hv).1, frozen_far (h.c j v hv).2⟩
  · rw [List.getElem?_set_self hi] at hv
    injection hv with hv
    subst hv
    exact ⟨cell_here (h.c i _ (List.getElem?_eq_getElem hi)).1, frozen_far (h.c i _ (List.getElem?_eq_getElem hi)).2⟩
end Go.Proofs.Ytclhnnidbhchnaa
