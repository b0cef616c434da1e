/- 4 texts of this claim, in build order. -/
import Derived.Test.YtgoapnkdcfcjgaaGreatPambjpnfd
import Derived.Test.YtgoapnkdcfcjgaaGreatPkebhhldn
import Derived.Test.YtgoapnkdcfcjgaaGreatPkohgbcdn
import Derived.Test.YtgoapnkdcfcjgaaGreatPmmljdcfd
/- Behind small and few: the two boxes. What Covering tells, plain. -/
namespace Go.Proofs.YtgoapnkdcfcjgaaGreat
open Go.ChangeShapes Go.WideShapes Go.ChangeAt Go.RowKit
set_option linter.unusedVariables false
set_option linter.unusedSimpArgs false

/-- Behind small and few: the two boxes, what lies in them. -/
structure Two (w W : World) (s : SchemaX) (q : QueryX) (S1 S2 S3 Q1 Q2 : Value) : Prop where
  lt : w.heap.size + 1 < W.heap.size
  b : Below w.heap.size w W
  s0 : W.cell? ⟨w.heap.size, 0, none⟩ = some S1
  s1 : W.cell? ⟨w.heap.size, 1, none⟩ = some S2
  s2 : W.cell? ⟨w.heap.size, 2, none⟩ = some S3
  q0 : W.cell? ⟨w.heap.size + 1, 0, none⟩ = some Q1
  q1 : W.cell? ⟨w.heap.size + 1, 1, none⟩ = some Q2
  sv : SchemaV W W.heap.size (.agg #[S1, S2, S3]) s
  qv : QueryV W W.heap.size (.agg #[Q1, Q2]) q
theorem Two.on {w W W' : World} {s : SchemaX} {q : QueryX} {S1 S2 S3 Q1 Q2 : Value} (h : Two w W s q S1 S2 S3 Q1 Q2) (hb : Below W.heap.size W W') : Two w W' s q S1 S2 S3 Q1 Q2 :=
  ⟨Nat.lt_of_lt_of_le h.lt hb.size, h.b.trans (hb.mono h.b.size), cellK hb (by have := h.lt; omega) h.s0, cellK hb (by have := h.lt; omega) h.s1, cellK hb (by have := h.lt; omega) h.s2, cellK hb h.lt h.q0, cellK hb h.lt h.q1, h.sv.on hb, h.qv.on hb⟩
theorem small13_len (s : SchemaX) : (smallS s).1.length ≤ 6 ∧ (smallS s).2.2.length ≤ 9 := by unfold smallS; simp only [List.length_take]; omega
theorem few13_len (q : QueryX) : (fewQ13 q).1.length ≤ 6 ∧ (fewQ13 q).2.length ≤ 5 := by unfold fewQ13; simp only [List.length_take]; omega
theorem covX_in {s : SchemaX} {q : QueryX} (h : s.2.2.length ≤ 9) : ∀ n ∈ (covX s q).1, InI64 n := by
  intro n hn
  unfold covX at hn
  split at hn
  · rw [coverI_N] at hn
    obtain ⟨m, hm, rfl⟩ := List.mem_map.1 hn
    unfold coverN at hm
    have := List.mem_range.1 (List.mem_filter.1 hm).1
    unfold viewsX at this
    rw [List.length_cons] at this
    unfold InI64
    omega
  · cases hn
theorem covX_head {s : SchemaX} {q : QueryX} (h : (covX s q).2 = 0) : ∃ t, (covX s q).1 = 0 :: t := by
  unfold covX at h ⊢
  by_cases hm : mayQ s q = 0
  · rw [if_pos hm, coverI_N]
    obtain ⟨t, ht⟩ := cover_head hm
    exact ⟨t.map (fun n : Nat => (n : Int)), by rw [ht]; rfl⟩
  · rw [if_neg hm] at h
    exact absurd h hm
theorem covX_len {s : SchemaX} {q : QueryX} (h : s.2.2.length ≤ 9) : (covX s q).1.length ≤ 10 := by
  unfold covX
  split
  · rw [coverI_N, List.length_map]
    unfold coverN
    refine Nat.le_trans (List.length_filter_le _ _) ?_
    rw [List.length_range]
    unfold viewsX
    rw [List.length_cons]
    omega
  · exact Nat.zero_le _
end Go.Proofs.YtgoapnkdcfcjgaaGreat
/- Plain: a query that groups less and filters less is covered by no fewer views. -/
namespace Go.Proofs.YtgoapnkdcfcjgaaGreat
open Go.ChangeShapes Go.WideShapes Go.ChangeAt Go.RowKit
set_option linter.unusedVariables false
set_option linter.unusedSimpArgs false

def lessQ (q : QueryX) (d : Nat) : QueryX := (q.1.set d 0, q.2.take (q.2.length - 1))
def LeL (l r : List Int) : Prop := l.length = r.length ∧ ∀ i, l.getD i 0 ≤ r.getD i 0
theorem LeL.refl (l : List Int) : LeL l l := ⟨rfl, fun i => Int.le_refl _⟩
theorem LeL.trans {a b c : List Int} (h : LeL a b) (k : LeL b c) : LeL a c := ⟨h.1.trans k.1, fun i => Int.le_trans (h.2 i) (k.2 i)⟩
theorem getD_setQ (l : List Int) (d : Nat) (x : Int) (i : Nat) : (l.set d x).getD i 0 = if d = i ∧ d < l.length then x else l.getD i 0 := by
  rw [List.getD_eq_getElem?_getD, List.getD_eq_getElem?_getD, List.getElem?_set]
  by_cases e : d = i
  · subst e
    by_cases h : d < l.length
    · rw [if_pos rfl, if_pos h, if_pos ⟨rfl, h⟩]; rfl
    · rw [if_pos rfl, if_neg h, if_neg (fun k => h k.2), List.getElem?_eq_none (by omega)]
  · rw [if_neg e, if_neg (fun k => e k.1)]
theorem setMax_at (l : List Int) (f : FilterX) (i : Nat) : (setMax l f).getD i 0 = if f.1.toNat = i ∧ f.1.toNat < l.length then max (l.getD f.1.toNat 0) f.2.1 else l.getD i 0 := by
  unfold setMax; exact getD_setQ _ _ _ _
theorem setMax_mono {l r : List Int} (h : LeL l r) (f : FilterX) : LeL (setMax l f) (setMax r f) := by
  refine ⟨by rw [setMax_len, setMax_len]; exact h.1, fun i => ?_⟩
  rw [setMax_at, setMax_at, h.1]
  have h1 := h.2 f.1.toNat; have h2 := h.2 i
  split <;> omega
theorem setMax_geL (l : List Int) (f : FilterX) : LeL l (setMax l f) := by
  refine ⟨(setMax_len l f).symm, fun i => ?_⟩
  rw [setMax_at]
  split
  · rename_i h; rw [← h.1]; omega
  · exact Int.le_refl _
theorem fold_mono {l r : List Int} (fs : List FilterX) (h : LeL l r) : LeL (fs.foldl setMax l) (fs.foldl setMax r) := by
  induction fs generalizing l r with
  | nil => exact h
  | cons f fs ih => exact ih (setMax_mono h f)
theorem fold_ge (l : List Int) (fs : List FilterX) : LeL l (fs.foldl setMax l) := by
  induction fs generalizing l with
  | nil => exact LeL.refl l
  | cons f fs ih => exact (setMax_geL l f).trans (ih _)
theorem corner_ge {s : SchemaX} {v : List Int} (h : cornerB s v = true) : ∀ n ∈ v, 0 ≤ n := by
  unfold cornerB at h
  rw [Bool.and_eq_true] at h
  intro n hn
  have h2 := h.2
  rcases (show n < 0 ∨ 0 ≤ n by omega) with hlt | hge
  · rw [List.any_eq_true.2 ⟨n, hn, decide_eq_true hlt⟩] at h2; cases h2
  · exact hge
theorem set0_le {l : List Int} (h : ∀ n ∈ l, 0 ≤ n) (d : Nat) : LeL (l.set d 0) l := by
  refine ⟨List.length_set, fun i => ?_⟩
  rw [getD_setQ]
  split
  · rename_i e
    rw [← e.1, List.getD_eq_getElem?_getD, List.getElem?_eq_getElem e.2]
    exact h _ (List.getElem_mem e.2)
  · exact Int.le_refl _
theorem lessQ_need {s : SchemaX} {q : QueryX} (h : mayQ s q = 0) (d : Nat) : LeL (needQ (lessQ q d)) (needQ q) := by
  obtain ⟨-, -, h3, -⟩ := mayQ_yes h
  unfold needQ lessQ
  simp only
  refine (fold_mono _ (set0_le (corner_ge h3) d)).trans ?_
  have e : q.2.foldl setMax q.1 = (q.2.drop (q.2.length - 1)).foldl setMax ((q.2.take (q.2.length - 1)).foldl setMax q.1) := by rw [← List.foldl_append, List.take_append_drop]
  rw [e]
  exact fold_ge _ _
theorem covers_le {v a b : List Int} (h : LeL a b) (hc : coversB v b = true) : coversB v a = true := by
  obtain ⟨h1, h2⟩ := coversB_at hc
  exact coversB_of (by rw [h1, h.1]) (fun i hi => Int.le_trans (h.2 i) (h2 i hi))
theorem lessQ_may {s : SchemaX} {q : QueryX} (h : mayQ s q = 0) (d : Nat) : mayQ s (lessQ q d) = 0 := by
  obtain ⟨h1, h2, h3, h4⟩ := mayQ_yes h
  have hp : plainQ (lessQ q d) = true := by
    unfold plainQ at h2 ⊢
    rw [Bool.and_eq_true, Bool.and_eq_true, Bool.and_eq_true] at h2
    obtain ⟨⟨⟨a1, a2⟩, a3⟩, a4⟩ := h2
    have a1 := of_decide_eq_true a1
    have a2 := of_decide_eq_true a2
    rw [Bool.and_eq_true, Bool.and_eq_true, Bool.and_eq_true]
    refine ⟨⟨⟨decide_eq_true ?_, decide_eq_true ?_⟩, ?_⟩, ?_⟩
    · unfold lessQ; rw [List.length_set]; exact a1
    · unfold lessQ; rw [List.length_take]; omega
    · cases hb : (lessQ q d).1.any fun n => !inQ n 3
      · rfl
      · obtain ⟨n, hn, hn2⟩ := List.any_eq_true.1 hb
        rcases List.mem_or_eq_of_mem_set hn with hm | rfl
        · rw [List.any_eq_true.2 ⟨n, hm, hn2⟩] at a3; cases a3
        · simp [inQ] at hn2
    · exact List.all_eq_true.2 (fun f hf => List.all_eq_true.1 a4 f (List.mem_of_mem_take hf))
  have hc : cornerB s (lessQ q d).1 = true := by
    have hge := corner_ge h3
    have hle := set0_le hge d
    unfold cornerB at h3 ⊢
    rw [Bool.and_eq_true] at h3 ⊢
    refine ⟨covers_le hle h3.1, ?_⟩
    cases hb : (lessQ q d).1.any fun n => decide (n < 0)
    · rfl
    · obtain ⟨n, hn, hn2⟩ := List.any_eq_true.1 hb
      have hn2 := of_decide_eq_true hn2
      rcases List.mem_or_eq_of_mem_set hn with hm | rfl
      · have := hge n hm; omega
      · omega
  have ha : (lessQ q d).2.all (okF s) = true := List.all_eq_true.2 (fun f hf => List.all_eq_true.1 h4 f (List.mem_of_mem_take hf))
  unfold mayQ
  rw [h1, hp, hc, ha]
  rfl
theorem cov_less {s : SchemaX} {q : QueryX} (h : (covX s q).2 = 0) (d : Nat) : (covX s (lessQ q d)).2 = 0 ∧ ∀ x ∈ (covX s q).1, x ∈ (covX s (lessQ q d)).1 := by
  unfold covX at h
  by_cases hm : mayQ s q = 0
  · have hl := lessQ_may hm d
    unfold covX
    rw [if_pos hm, if_pos hl]
    refine ⟨rfl, fun x hx => ?_⟩
    simp only at hx ⊢
    rw [coverI_N] at hx ⊢
    obtain ⟨n, hn, rfl⟩ := List.mem_map.1 hx
    refine List.mem_map.2 ⟨n, ?_, rfl⟩
    unfold coverN at hn ⊢
    obtain ⟨a1, a2⟩ := List.mem_filter.1 hn
    exact List.mem_filter.2 ⟨a1, covers_le (lessQ_need hm d) a2⟩
  · rw [if_neg hm] at h; exact absurd h hm
end Go.Proofs.YtgoapnkdcfcjgaaGreat
/- A row of filters as values. -/
namespace Go.Proofs.YtgoapnkdcfcjgaaGreat
open Go.ChangeShapes Go.WideShapes Go.ChangeAt Go.RowKit
set_option linter.unusedVariables false
set_option linter.unusedSimpArgs false

def fval (f : FilterX) (mv : Value) : List Value := [.int .i64 f.1, .int .i64 f.2.1, mv]
def fvals (M : List FilterX) (mvs : List Value) : List Value := (List.zipWith fval M mvs).flatten
theorem fvals_snoc {M : List FilterX} {mvs : List Value} (h : mvs.length = M.length) (f : FilterX) (mv : Value) : fvals (M ++ [f]) (mvs ++ [mv]) = fvals M mvs ++ fval f mv := by
  unfold fvals; rw [List.zipWith_append (by omega)]; simp
theorem fvals_at : ∀ {M : List FilterX} {mvs : List Value} (h : mvs.length = M.length) (i : Nat) (hi : i < M.length) (j : Nat), j < 3 → (fvals M mvs)[i * 3 + j]? = (fval M[i] (mvs.getD i undef))[j]? := by
  intro M
  induction M with
  | nil => intro mvs h i hi; simp at hi
  | cons f M ih =>
    intro mvs h i hi j hj
    cases mvs with
    | nil => simp at h
    | cons mv mvs =>
      have hs : fvals (f :: M) (mv :: mvs) = fval f mv ++ fvals M mvs := by simp [fvals]
      rw [hs]
      cases i with
      | zero =>
        rw [List.getElem?_append_left (by simp [fval]; omega)]
        simp
      | succ i =>
        rw [List.getElem?_append_right (by simp [fval]; omega)]
        rw [show (i + 1) * 3 + j - (fval f mv).length = i * 3 + j by simp [fval]; omega]
        rw [ih (by simpa using h) i (by simpa using hi) j hj]
        rfl
theorem fvals_len {M : List FilterX} {mvs : List Value} (h : mvs.length = M.length) : (fvals M mvs).length = M.length * 3 := by
  induction M generalizing mvs with
  | nil => simp [fvals]
  | cons f M ih =>
    cases mvs with
    | nil => simp at h
    | cons mv mvs =>
      have hs : fvals (f :: M) (mv :: mvs) = fval f mv ++ fvals M mvs := by simp [fvals]
      rw [hs, List.length_append, ih (by simpa using h)]; simp [fval]; omega
theorem info_filter : (Tryz.prog.info? 83).map (fun i => (i.zero, i.size, i.bytes)) = some (some (.agg #[.int .i64 0, .int .i64 0, .slice none 0 0]), 3, 40) := by kernel_rfl
theorem cell3_new (w : World) (x y z : Value) (t : TypeId) {N : Nat} (hN : w.heap.size = N) : ∀ j u, [x, y, z][j]? = some u → (w.alloc (.cells #[x, y, z] t)).cell? ((⟨N, 0, none⟩ : Addr).add j) = some u := by
  subst hN
  intro j u hu
  rw [show ((⟨w.heap.size, 0, none⟩ : Addr).add j) = ⟨w.heap.size, j, none⟩ by simp [Addr.add]; exact fun h => h.symm, World.cell?_alloc_at _ _ _ _ rfl]
  rcases j with _ | _ | _ | j <;> simp at hu <;> subst hu <;> rfl
end Go.Proofs.YtgoapnkdcfcjgaaGreat
/- Filters as cells, and back: what an append of filters makes reads as the list. -/
namespace Go.Proofs.YtgoapnkdcfcjgaaGreat
open Go.ChangeShapes Go.WideShapes Go.ChangeAt Go.RowKit
set_option linter.unusedVariables false
set_option linter.unusedSimpArgs false

theorem rd_take {α : Type} {k : Nat} {R : Rd α} {w : World} {B n c m : Nat} {A : Option Addr} {l : List α} (h : rdSlice k R w B [.slice A n c] l) (hm : m ≤ l.length) : rdSlice k R w B [.slice A m c] (l.take m) := by
  obtain ⟨A', c', e, h1, h2, h3⟩ := h
  simp only [List.cons.injEq, and_true] at e
  injection e with e1 e2 e3
  subst e1; subst e3
  refine ⟨A, c, by rw [List.length_take, Nat.min_eq_left hm], by rw [List.length_take]; omega, h2, fun h0 => ?_⟩
  rw [List.length_take] at h0
  obtain ⟨b, off, eA, hb, hx⟩ := h3 (by omega)
  refine ⟨b, off, eA, hb, fun i x hi => hx i x ?_⟩
  have hil := (List.getElem?_eq_some_iff.1 hi).1
  rw [List.length_take] at hil
  rwa [List.getElem?_take, if_pos (by omega)] at hi
theorem filters_cells {w : World} {B n c : Nat} {A : Option Addr} {l : List FilterX} (h : rdSlice 3 rdFilter w B [.slice A n c] l) :
    ∃ mvs : List Value, mvs.length = l.length ∧ (∀ u ∈ mvs, ∃ Au nu cu, u = .slice Au nu cu) ∧ (0 < l.length → ∃ b off, A = some ⟨b, off, none⟩ ∧ b < B ∧ ∀ j u, (fvals l mvs)[j]? = some u → w.cell? ⟨b, off + j, none⟩ = some u) ∧
      ∀ j (hj : j < l.length), rdSlice 1 rdStrs w B [mvs.getD j undef] l[j].2.2 := by
  obtain ⟨A', c', e, h1, h2, h3⟩ := h
  simp only [List.cons.injEq, and_true] at e
  injection e with e1 e2 e3
  subst e1; subst e3
  rcases Nat.eq_zero_or_pos l.length with h0 | h0
  · obtain rfl := List.eq_nil_of_length_eq_zero h0
    refine ⟨[], rfl, ?_, ?_, ?_⟩
    · intro u hu; exact absurd hu List.not_mem_nil
    · intro h; exact absurd h (Nat.lt_irrefl _)
    · intro j hj; exact absurd hj (Nat.not_lt_zero _)
  · obtain ⟨b, off, rfl, hb, hx⟩ := h3 h0
    have key : ∀ i (hi : i < l.length), ∃ mv : Value, (∃ Au nu cu, mv = .slice Au nu cu) ∧ (∀ j u, (fval l[i] mv)[j]? = some u → w.cell? ⟨b, off + i * 3 + j, none⟩ = some u) ∧ rdSlice 1 rdStrs w B [mv] l[i].2.2 := by
      intro i hi
      obtain ⟨es, hl, hc, -, r1, -, r2, r3⟩ := hx i l[i] (List.getElem?_eq_getElem hi)
      match es, hl with
      | [x, y, z], _ =>
        obtain ⟨ex, -⟩ := r1
        obtain ⟨ey, -⟩ := r2
        simp at ex ey
        subst ex; subst ey
        have r3' : rdSlice 1 rdStrs w B [z] l[i].2.2 := r3
        obtain ⟨Az, cz, ez, -, -⟩ := r3'.open_
        simp only [List.cons.injEq, and_true] at ez
        exact ⟨z, ⟨_, _, _, ez⟩, hc, r3'⟩
    obtain ⟨f, hf⟩ : ∃ f : Nat → Value, ∀ i (hi : i < l.length), (∃ Au nu cu, f i = .slice Au nu cu) ∧ (∀ j u, (fval l[i] (f i))[j]? = some u → w.cell? ⟨b, off + i * 3 + j, none⟩ = some u) ∧ rdSlice 1 rdStrs w B [f i] l[i].2.2 :=
      ⟨fun i => if hi : i < l.length then Classical.choose (key i hi) else undef, fun i hi => by simp only [dif_pos hi]; exact Classical.choose_spec (key i hi)⟩
    have hg : ∀ i, i < l.length → ((List.range l.length).map f).getD i undef = f i := fun i hi => by
      rw [List.getD_eq_getElem?_getD, List.getElem?_map, List.getElem?_range hi]; rfl
    have hlen : ((List.range l.length).map f).length = l.length := by simp
    refine ⟨(List.range l.length).map f, hlen, fun u hu => ?_, fun _ => ⟨b, off, rfl, hb, fun j u hu => ?_⟩, fun j hj => by rw [hg j hj]; exact (hf j hj).2.2⟩
    · obtain ⟨i, hi, rfl⟩ := List.mem_map.1 hu
      exact (hf i (List.mem_range.1 hi)).1
    · have hjl := (List.getElem?_eq_some_iff.1 hu).1
      rw [fvals_len hlen] at hjl
      have hdm : j = j / 3 * 3 + j % 3 := by omega
      have hi : j / 3 < l.length := by omega
      have e := fvals_at hlen (j / 3) hi (j % 3) (by omega)
      rw [← hdm, hg _ hi, hu] at e
      have := (hf (j / 3) hi).2.1 (j % 3) u e.symm
      rwa [show off + j / 3 * 3 + j % 3 = off + j by omega] at this
theorem fvals_one {l : List FilterX} {mvs : List Value} (hl : mvs.length = l.length) (h : ∀ u ∈ mvs, ∃ Au nu cu, u = .slice Au nu cu) : ∀ u ∈ fvals l mvs, u.oneCell' = true := by
  intro u hu
  unfold fvals at hu
  obtain ⟨es, hes, hu⟩ := List.mem_flatten.1 hu
  obtain ⟨i, hi, rfl⟩ := List.mem_iff_getElem.1 hes
  rw [List.length_zipWith] at hi
  rw [List.getElem_zipWith] at hu
  obtain ⟨Au, nu, cu, e⟩ := h _ (List.getElem_mem (l := mvs) (n := i) (by omega))
  rw [e] at hu
  simp only [fval, List.mem_cons, List.not_mem_nil, or_false] at hu
  rcases hu with rfl | rfl | rfl <;> rfl
theorem filters_of_own {w : World} {K B : Nat} {v : Value} {M : List FilterX} {mvs : List Value} (h1 : mvs.length = M.length) (h2 : w.ownsRow K 83 3 v M.length (fvals M mvs))
    (h3 : ∀ j (hj : j < M.length), rdSlice 1 rdStrs w B [mvs.getD j undef] M[j].2.2) (hB : B ≤ w.heap.size) (hi : ∀ f ∈ M, InI64 f.1 ∧ InI64 f.2.1) : rdSlice 3 rdFilter w w.heap.size [v] M := by
  obtain ⟨A, c, rfl, g1, g2, g3⟩ := own_cells2 h2
  refine ⟨A, c, rfl, g1, g2, fun h0 => ?_⟩
  obtain ⟨g, rfl, -, hg, -, hcell⟩ := g3 h0
  refine ⟨g, 0, rfl, hg, fun i x hx => ?_⟩
  have hil := (List.getElem?_eq_some_iff.1 hx).1
  have hxe : M[i] = x := by rw [List.getElem?_eq_getElem hil] at hx; injection hx
  have hrow := h3 i hil
  rw [hxe] at hrow
  have hxm : x ∈ M := hxe ▸ List.getElem_mem hil
  obtain ⟨k1, k2⟩ := hi x hxm
  refine ⟨fval x (mvs.getD i undef), rfl, fun j u hu => ?_, rfl, ⟨rfl, k1⟩, rfl, ⟨rfl, k2⟩, good_paths.more hrow hB⟩
  have hj : j < 3 := (List.getElem?_eq_some_iff.1 hu).1
  rw [Nat.zero_add, hcell (i * 3 + j) (by omega), fvals_at h1 i hil j hj, hxe, hu]
theorem filters_in {w : World} {B n c : Nat} {A : Option Addr} {l : List FilterX} (h : rdSlice 3 rdFilter w B [.slice A n c] l) : ∀ f ∈ l, InI64 f.1 ∧ InI64 f.2.1 := by
  intro f hf
  obtain ⟨i, hi, rfl⟩ := List.mem_iff_getElem.1 hf
  obtain ⟨A', c', e, h1, h2, h3⟩ := h
  obtain ⟨b, off, eA, hb, hx⟩ := h3 (by omega)
  obtain ⟨es, hl, hc, -, r1, -, r2, r3⟩ := hx i l[i] (List.getElem?_eq_getElem hi)
  exact ⟨r1.2, r2.2⟩
end Go.Proofs.YtgoapnkdcfcjgaaGreat
