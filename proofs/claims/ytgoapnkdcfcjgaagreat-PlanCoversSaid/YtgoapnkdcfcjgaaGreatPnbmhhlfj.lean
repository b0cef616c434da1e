/- 5 texts of this claim, in build order. -/
import Derived.Test.YtgoapnkdcfcjgaaGreatPambjpnfd
import Derived.Test.YtgoapnkdcfcjgaaGreatPkebhhldn
import Derived.Test.YtgoapnkdcfcjgaaGreatPcdoodoej
import Derived.Deep.QuietTactic
import Derived.Test.YtgoapnkdcfcjgaaGreatPmmljdcfd
import Derived.Test.YtgoapnkdcfcjgaaGreatPdgbecjcf
import Derived.Test.YtgoapnkdcfcjgaaGreatPofmeodgm
import Derived.Deep.LoopGhost
import Derived.ScopeJumps
import Derived.WalkMore
/- Behind small and few: the two boxes. What Covering tells, plain. -/
namespace Go.Proofs.YtgoapnkdcfcjgaaGreat
open Go.ChangeShapes Go.WideShapes Go.ChangeAt Go.RowKit
set_option linter.unusedVariables false
set_option linter.unusedSimpArgs false

/-- Behind small and few: the two boxes, what lies in them. -/
structure Two (w W : World) (s : SchemaX) (q : QueryX) (S1 S2 S3 Q1 Q2 : Value) : Prop where
  lt : w.heap.size + 1 < W.heap.size
  b : Below w.heap.size w W
  s0 : W.cell? ⟨w.heap.size, 0, none⟩ = some S1
  s1 : W.cell? ⟨w.heap.size, 1, none⟩ = some S2
  s2 : W.cell? ⟨w.heap.size, 2, none⟩ = some S3
  q0 : W.cell? ⟨w.heap.size + 1, 0, none⟩ = some Q1
  q1 : W.cell? ⟨w.heap.size + 1, 1, none⟩ = some Q2
  sv : SchemaV W W.heap.size (.agg #[S1, S2, S3]) s
  qv : QueryV W W.heap.size (.agg #[Q1, Q2]) q
theorem Two.on {w W W' : World} {s : SchemaX} {q : QueryX} {S1 S2 S3 Q1 Q2 : Value} (h : Two w W s q S1 S2 S3 Q1 Q2) (hb : Below W.heap.size W W') : Two w W' s q S1 S2 S3 Q1 Q2 :=
  ⟨Nat.lt_of_lt_of_le h.lt hb.size, h.b.trans (hb.mono h.b.size), cellK hb (by have := h.lt; omega) h.s0, cellK hb (by have := h.lt; omega) h.s1, cellK hb (by have := h.lt; omega) h.s2, cellK hb h.lt h.q0, cellK hb h.lt h.q1, h.sv.on hb, h.qv.on hb⟩
theorem small13_len (s : SchemaX) : (smallS s).1.length ≤ 6 ∧ (smallS s).2.2.length ≤ 9 := by unfold smallS; simp only [List.length_take]; omega
theorem few13_len (q : QueryX) : (fewQ13 q).1.length ≤ 6 ∧ (fewQ13 q).2.length ≤ 5 := by unfold fewQ13; simp only [List.length_take]; omega
theorem covX_in {s : SchemaX} {q : QueryX} (h : s.2.2.length ≤ 9) : ∀ n ∈ (covX s q).1, InI64 n := by
  intro n hn
  unfold covX at hn
  split at hn
  · rw [coverI_N] at hn
    obtain ⟨m, hm, rfl⟩ := List.mem_map.1 hn
    unfold coverN at hm
    have := List.mem_range.1 (List.mem_filter.1 hm).1
    unfold viewsX at this
    rw [List.length_cons] at this
    unfold InI64
    omega
  · cases hn
theorem covX_head {s : SchemaX} {q : QueryX} (h : (covX s q).2 = 0) : ∃ t, (covX s q).1 = 0 :: t := by
  unfold covX at h ⊢
  by_cases hm : mayQ s q = 0
  · rw [if_pos hm, coverI_N]
    obtain ⟨t, ht⟩ := cover_head hm
    exact ⟨t.map (fun n : Nat => (n : Int)), by rw [ht]; rfl⟩
  · rw [if_neg hm] at h
    exact absurd h hm
theorem covX_len {s : SchemaX} {q : QueryX} (h : s.2.2.length ≤ 9) : (covX s q).1.length ≤ 10 := by
  unfold covX
  split
  · rw [coverI_N, List.length_map]
    unfold coverN
    refine Nat.le_trans (List.length_filter_le _ _) ?_
    rw [List.length_range]
    unfold viewsX
    rw [List.length_cons]
    omega
  · exact Nat.zero_le _
end Go.Proofs.YtgoapnkdcfcjgaaGreat
/- The reference's Covers (schemas). -/
namespace Go.Proofs.YtgoapnkdcfcjgaaGreat
open Go.ChangeShapes Go.WideShapes Go.ChangeAt Go.RowKit Go.Deep
set_option linter.unusedVariables false
set_option linter.unusedSimpArgs false

set_option maxHeartbeats 1600000 in
theorem refCovers_any (v x : Value) (l r : List Int) (w : World) (hv : rdInts w w.heap.size [v] l) (hx : rdInts w w.heap.size [x] r) :
    Calls Tryz.prog 23 #[v, x] w (Stays (.bool (coversB l r)) w) := by
  obtain ⟨A1, c1, e, hc1, hm1⟩ := hv.open_
  simp only [List.cons.injEq, and_true] at e
  subst e
  obtain ⟨A2, c2, e, hc2, hm2⟩ := hx.open_
  simp only [List.cons.injEq, and_true] at e
  subst e
  have S1 := hid hv; have S2 := hid hx; clear hv hx
  go_enter Tryz.func23, Tryz.ntmps23
  by_cases hl : l.length = r.length
  · have HL := hid hl
    have hci := covers_iff hl
    have HCI := hid hci
    have u0 : ((l.length : Int) != (r.length : Int)) = false := by simp [hl]
    clear hl hci
    go_wp2
    go_loopw [5] (fun i wr => CovRel l r w i wr) (fun i _ => l.length - (intOf i).toNat)
    case atStart => exact ⟨0, by omega, rfl, fun j hj => by omega, Qu.refl _⟩
    case round =>
      obtain ⟨k, hk, rfl, hsame, hq⟩ := hrel
      have HS := hid hsame; clear hsame
      by_cases hlt : k < l.length
      · have hlt' : k < r.length := by have := HL.out; omega
        obtain ⟨b1, o1, rfl, hb1, hx1, hi1⟩ := ints_at S1.out hlt
        obtain ⟨b2, o2, rfl, hb2, hx2, hi2⟩ := ints_at S2.out hlt'
        have g1 : wr.cell? ⟨b1, o1 + k, none⟩ = _ := (hq.cell _).trans hx1
        have g2 : wr.cell? ⟨b2, o2 + k, none⟩ = _ := (hq.cell _).trans hx2
        clear hx1 hx2 hi1 hi2
        have hstep : r.getD k 0 ≤ l.getD k 0 → ∀ j, j < k + 1 → r.getD j 0 ≤ l.getD j 0 := fun h j hj => by
          by_cases e : j = k
          · subst e; exact h
          · exact HS.out j (by omega)
        have hno : ¬ r.getD k 0 ≤ l.getD k 0 → coversB l r = false := fun h => by
          rw [Bool.eq_false_iff]; exact fun h' => h (HCI.out.1 h' k hlt)
        generalize l.getD k 0 = p1 at *
        generalize r.getD k 0 = p2 at *
        by_cases he : p2 ≤ p1
        · have HS' := hid (hstep he)
          have t2 : decide (p1 < p2) = false := by rw [decide_eq_false_iff_not]; omega
          clear hstep hno
          go_wp2
          go_quiet (fail)
          go_wp2
          go_roundw
          case rel => exact ⟨k + 1, by omega, by go_num, HS'.out, hq.drewN _⟩
          case measure => simp [intOf]; omega
        · have HN := hid (hno he)
          have t2 : decide (p1 < p2) = true := by rw [decide_eq_true_eq]; omega
          clear hstep hno
          go_wp2
          go_quiet (fail)
          go_wp2
          go_ret
          exact ⟨by rw [HN.out]; rfl, hq.drewN _⟩
      · have HN := hid (HCI.out.2 (fun j hj => HS.out j (by omega)))
        go_wp2
        go_ret
        exact ⟨by rw [HN.out]; rfl, hq⟩
  · have u0 : ((l.length : Int) != (r.length : Int)) = true := by simp; omega
    have hn : coversB l r = false := by unfold coversB; rw [decide_eq_false hl]; rfl
    have HN := hid hn
    clear hl hn
    go_wp2
    go_ret
    exact ⟨by rw [HN.out]; rfl, Qu.refl _⟩
end Go.Proofs.YtgoapnkdcfcjgaaGreat
/- Rows of one's own, of lists of texts of one's own (blocks told apart by their types): they stay while a reader moves. -/
namespace Go.Proofs.YtgoapnkdcfcjgaaGreat
open Go.ChangeShapes Go.WideShapes Go.ChangeAt Go.RowKit
set_option linter.unusedVariables false
set_option linter.unusedSimpArgs false

theorem KeepT.of_upd {e : TypeId} {base p : Nat} {w w' : World} (h : Upd p w w') (hp : p < base) : KeepT e base w w' := fun g cur hb hg => h.block g (Array.getElem?_eq_some_iff.1 hg).1 (fun e => by injection e with e; omega)
theorem KeepT.trans {e : TypeId} {base : Nat} {a b c : World} (h : KeepT e base a b) (k : KeepT e base b c) : KeepT e base a c := fun g cur hb hg => (k g cur hb ((h g cur hb hg).trans hg)).trans (h g cur hb hg)
theorem KeepT.less {e : TypeId} {base base' : Nat} {w w' : World} (h : KeepT e base w w') (hb : base ≤ base') : KeepT e base' w w' := fun g cur hg => h g cur (by omega)
def RowT (w : World) (base : Nat) (out : Value) (M : List (List ByteArray)) : Prop :=
  ∃ vs : List Value, ∃ hl : vs.length = M.length, w.ownsRow base 23 1 out M.length vs ∧
    ∀ j (h : j < M.length), w.ownsRow base 9 1 (vs[j]'(by omega)) M[j].length (svals M[j])
theorem RowT.nil_ (w : World) (base : Nat) : RowT w base (.slice none 0 0) [] := ⟨[], rfl, World.ownsRow_nil _ _ _ _, fun j hj => by simp at hj⟩
theorem RowT.less {w : World} {base base' : Nat} {out : Value} {M : List (List ByteArray)} (h : RowT w base out M) (hb : base' ≤ base) : RowT w base' out M := by
  obtain ⟨vs, h1, h2, h3⟩ := h
  exact ⟨vs, h1, own_lessQ h2 hb, fun j hj => own_lessQ (h3 j hj) hb⟩
theorem RowT.keepT {w w' : World} {base : Nat} {out : Value} {M : List (List ByteArray)} (h : RowT w base out M) (k : ∀ e, KeepT e base w w') : RowT w' base out M := by
  obtain ⟨vs, h1, h2, h3⟩ := h
  exact ⟨vs, h1, own_keepT h2 (k _), fun j hj => own_keepT (h3 j hj) (k _)⟩
theorem RowT.app_n {wa w4 : World} {base n : Nat} {out v' u : Value} {M : List (List ByteArray)} {x : List ByteArray} {vs : List Value} (hn : n = M.length) (h1 : vs.length = M.length) (h2 : wa.ownsRow base 23 1 out n vs)
    (h3 : ∀ j (h : j < M.length), wa.ownsRow base 9 1 (vs[j]'(by omega)) M[j].length (svals M[j]))
    (hi : wa.ownsRow base 9 1 u x.length (svals x))
    (ho : w4.ownsRow base 23 1 v' (n + 1) (vs ++ [u])) (hg : wa.grownBy w4 out.ownBlock) : RowT w4 base v' (M ++ [x]) := by
  subst hn
  have kk : KeepT 9 base wa w4 := KeepT.of_grown hg h2 (by decide)
  refine ⟨vs ++ [u], by simp [h1], by rw [List.length_append]; exact ho, fun j hj => ?_⟩
  rcases Nat.lt_or_ge j M.length with hlt | hge
  · have e1 : (vs ++ [u])[j]'(by simp; omega) = vs[j]'(by omega) := List.getElem_append_left (by omega)
    have e2 : (M ++ [x])[j] = M[j] := List.getElem_append_left hlt
    rw [e1, e2]
    exact own_keepT (h3 j hlt) kk
  · obtain rfl : j = M.length := by rw [List.length_append] at hj; simp at hj; omega
    have e1 : (vs ++ [u])[M.length]'(by simp; omega) = u := by rw [List.getElem_append_right (by omega)]; simp [h1]
    have e2 : (M ++ [x])[M.length] = x := by rw [List.getElem_append_right (by omega)]; simp
    rw [e1, e2]
    exact own_keepT hi kk
theorem RowT.toL {w : World} {base : Nat} {out : Value} {M : List (List ByteArray)} (h : RowT w base out M) : RowL w base out M := by
  obtain ⟨vs, h1, h2, h3⟩ := h
  refine ⟨vs, h1, h2, fun j hj => ?_⟩
  have e1 : vs.getD j undef = vs[j]'(by omega) := by rw [List.getD_eq_getElem?_getD, List.getElem?_eq_getElem (by omega)]; rfl
  have e2 : M.getD j [] = M[j] := by rw [List.getD_eq_getElem?_getD, List.getElem?_eq_getElem hj]; rfl
  rw [e1, e2]
  refine ⟨h3 j hj, fun g hg e => ?_⟩
  have a := (h3 j hj).2
  have b := h2.2
  rcases a with ⟨e1, _⟩ | ⟨g1, cap1, cur1, e1, _, hg1, _⟩
  · rw [e1] at hg; cases hg
  · rcases b with ⟨e2, _⟩ | ⟨g2, cap2, cur2, e2, _, hg2, _⟩
    · rw [e2] at e; cases e
    · rw [e1] at hg; rw [e2] at e
      simp only [Value.ownBlock, Option.some.injEq] at hg e
      subst hg; subst e
      rw [hg1] at hg2
      injection hg2 with hg2
      injection hg2 with _ h _
      exact absurd h (by decide)
end Go.Proofs.YtgoapnkdcfcjgaaGreat
/- The reference's Views (schemas). -/
namespace Go.Proofs.YtgoapnkdcfcjgaaGreat
open Go.ChangeShapes Go.WideShapes Go.ChangeAt Go.RowKit
set_option linter.unusedVariables false
set_option linter.unusedSimpArgs false

theorem rows_vals {w : World} {B : Nat} {A : Option Addr} {n c : Nat} {l : List (List Int)} (h : rdSlice 1 rdInts w B [.slice A n c] l) :
    ∃ us : List Value, us.length = l.length ∧ Sl w B (.slice A n c) us ∧ (∀ u ∈ us, u.oneCell' = true) ∧ ∀ i (hi : i < l.length) (hu : i < us.length), rdInts w B [us[i]] l[i] := by
  obtain ⟨A', c', e, h1, h2, h3⟩ := id h
  simp only [List.cons.injEq, and_true] at e
  injection e with e1 e2 e3
  subst e1; subst e2; subst e3
  have hx : ∀ i : Nat, ∃ u : Value, ∀ (hi : i < l.length), ∃ b off, A = some ⟨b, off, none⟩ ∧ b < B ∧ w.cell? ⟨b, off + i, none⟩ = some u ∧ u.oneCell' = true ∧ rdInts w B [u] l[i] := fun i => by
    by_cases hi : i < l.length
    · obtain ⟨b, off, Ak, ck, e, hb, hc, hr⟩ := row_at h hi
      exact ⟨_, fun _ => ⟨b, off, e, hb, hc, rfl, hr⟩⟩
    · exact ⟨.bool false, fun hi' => absurd hi' hi⟩
  refine ⟨(List.range l.length).map fun i => (hx i).choose, by simp, ?_, ?_, ?_⟩
  · refine ⟨A, c, by simp, by simpa using h1, h2, fun h0 => ?_⟩
    have h0' : 0 < l.length := by simpa using h0
    obtain ⟨b, off, e, hb, -⟩ := (hx 0).choose_spec h0'
    refine ⟨b, off, e, hb, fun j u hu => ?_⟩
    have hj : j < l.length := by have := (List.getElem?_eq_some_iff.1 hu).1; simpa using this
    obtain ⟨b', off', e', -, hc, -⟩ := (hx j).choose_spec hj
    rw [e] at e'
    injection e' with e'
    injection e' with e1 e2
    subst e1; subst e2
    rw [List.getElem?_map, List.getElem?_range hj] at hu
    injection hu with hu
    rw [← hu]; exact hc
  · intro u hu
    obtain ⟨i, hi, rfl⟩ := List.mem_map.1 hu
    exact ((hx i).choose_spec (List.mem_range.1 hi)).choose_spec.choose_spec.2.2.2.1
  · intro i hi hu
    rw [List.getElem_map, List.getElem_range]
    exact ((hx i).choose_spec hi).choose_spec.choose_spec.2.2.2.2
def RVwP (M : List (List Int)) (w : World) (e : Ending) (w' : World) : Prop := ∃ v, e = .returned v ∧ rdSlice 1 rdInts w' w'.heap.size [v] M ∧ Below w.heap.size w w'
set_option maxRecDepth 100000 in
set_option maxHeartbeats 1600000 in
theorem refViews_any (v : Value) (s : SchemaX) (w : World) (hv : SchemaV w w.heap.size v s) (hl : s.1.length ≤ 1000) (hl3 : s.2.2.length ≤ 1000) :
    Calls Tryz.prog 22 #[v] w (RVwP (viewsX s) w) := by
  obtain ⟨i0, hi, hz0, hz1, hz2⟩ := info_parts info_intsV
  have hv0 := hv
  obtain ⟨A1, c1, A2, c2, A3, c3, rfl, h1, h2', h3⟩ := hv
  obtain ⟨W1, hW1⟩ : ∃ W, W = w.alloc (.cells #[.slice A1 s.1.length c1, .slice A2 s.2.1.length c2, .slice A3 s.2.2.length c3] 26) := ⟨_, rfl⟩
  obtain ⟨H, hH⟩ : ∃ H, H = w.heap.size := ⟨_, rfl⟩
  have g1 : Below H w W1 := by rw [hW1, hH]; exact bl1 _ _
  have z1 : W1.heap.size = H + 1 := by rw [hW1, hH]; simp
  have q0 : W1.cell? ⟨H, 0, none⟩ = some (.slice A1 s.1.length c1) := by rw [hW1, hH]; simp [go_sem]
  have q1 : W1.cell? ⟨H, 1, none⟩ = some (.slice A2 s.2.1.length c2) := by rw [hW1, hH]; simp [go_sem]
  have q2 : W1.cell? ⟨H, 2, none⟩ = some (.slice A3 s.2.2.length c3) := by rw [hW1, hH]; simp [go_sem]
  rw [← hH] at h3 hv0
  have HB := hid (refBase_any _ s W1 ((hv0.below g1).more (by omega)) hl)
  obtain ⟨us, hul, hus, hu1, hur⟩ := rows_vals h3
  have hin : ∀ x ∈ baseX s, InI64 x := fun x hx => by
    obtain ⟨d, hd, rfl⟩ := List.mem_map.1 hx
    obtain ⟨k, hk, rfl⟩ := List.mem_iff_getElem.1 hd
    obtain ⟨b, off, -, -, es, -, -, hr⟩ := h1.at_ hk
    obtain ⟨-, -, hlv⟩ := hr
    obtain ⟨AL, cL, -, g1, g2⟩ := hlv.open_
    exact ⟨by omega, by omega⟩
  unfold viewsX RVwP
  rw [← hH]
  generalize baseX s = bx at *
  have HUS := hid hus; have HU1 := hid hu1; have HUR := hid hur; have HUL := hid hul; have HIN := hid hin; have HW1 := hid hW1; have G1 := hid g1; have HH := hid hH; have Z1 := hid z1
  clear h1 h2' h3 hv0 hW1 g1 hH z1 hus hu1 hur hin
  generalize s.2.2 = vs at *
  generalize s.1.length = n1 at *
  generalize s.2.1.length = n2 at *
  clear hul
  go_enter Tryz.func22, Tryz.ntmps22
  go_upto_region 1 with (fail)
  rw [← HW1.out, ← HH.out]
  go_wp2_with fail
  (with_reducible refine HB.out.mono ?_)
  rintro e w2 ⟨r, rfl, hr, hb2⟩
  obtain ⟨Ar, cr, rfl, -, -, -⟩ := own_cells hr
  have z2 := hb2.size
  have q2 := cellK hb2 (show H < W1.heap.size by rw [Z1.out]; omega) q2
  have B2 := hid (G1.out.trans (hb2.mono (by rw [Z1.out]; omega)))
  have Z2 := hid (show H < w2.heap.size by have := Z1.out; omega)
  have HR := hid (own_lessQ hr (show H ≤ W1.heap.size by rw [Z1.out]; omega))
  have q3 := cell_alloc (o := .cells #[.slice Ar bx.length cr] 27) Z2.out q2
  have hown1 : (w2.alloc (.cells #[.slice Ar bx.length cr] 27)).ownsRow H 27 1 (.slice (some ⟨w2.heap.size, 0, none⟩) 1 1) 1 [.slice Ar bx.length cr] := World.ownsRow_lit w2 #[.slice Ar bx.length cr] 1 (Nat.le_of_lt Z2.out) (by simp [maxLen]) rfl
  have hb2a : Below H w (w2.alloc (.cells #[.slice Ar bx.length cr] 27)) := B2.out.alloc (Nat.le_of_lt Z2.out) _
  have hsrc := src_sl (P := Tryz.prog) (w2.alloc (.cells #[.slice Ar bx.length cr] 27)) Tryz.underlying24 (HUS.out.below hb2a) HU1.out
  rw [HUL.out] at hsrc
  have HO1 := hid hown1; have HBA := hid hb2a
  clear hr hb2 q0 q1 z2 q2 hown1 hb2a
  go_wp2_with (at_builtin; refine stop_here ?_)
  refine go_on ?_
  refine app_own (.tmp 7) (.tmp 9) 24 24 rfl rfl H 27 i0 (.slice none 0 0) 1 24 Tryz.underlying24 hi hz0 hz1 hz2 rfl (by decide) _ 1 _ rfl HO1.out (.slice A3 vs.length c3) vs.length us rfl hsrc (by simp only [maxLen]; omega) (by omega) (by rw [World.size_alloc]; have := Z2.out; omega) ?_
  intro v' w3 ho' hg' hb3
  have hk : KeepT 3 H (w2.alloc (.cells #[.slice Ar bx.length cr] 27)) w3 := KeepT.of_grown hg' HO1.out (by decide)
  have hrow := own_keepT (HR.out.alloc (.cells #[.slice Ar bx.length cr] 27)) hk
  have hB := HBA.out.trans hb3
  obtain ⟨A, c, rfl, h1, h2, h3⟩ := own_cells2 ho'
  have hrd : rdSlice 1 rdInts w3 w3.heap.size [.slice A (1 + vs.length) c] (bx :: vs) := by
    refine ⟨A, c, by rw [List.length_cons, Nat.add_comm], by rw [List.length_cons]; omega, h2, fun _ => ?_⟩
    obtain ⟨g, rfl, -, hgs, -, hce⟩ := h3 (by omega)
    refine ⟨g, 0, rfl, hgs, fun i x hx => ?_⟩
    have hil := (List.getElem?_eq_some_iff.1 hx).1
    rw [List.length_cons] at hil
    cases i with
    | zero =>
      simp only [List.getElem?_cons_zero, Option.some.injEq] at hx
      subst hx
      refine ⟨[.slice Ar bx.length cr], rfl, fun j u hu => ?_, rdInts_of_own rfl hrow HIN.out⟩
      obtain rfl : j = 0 := by have := (List.getElem?_eq_some_iff.1 hu).1; simp at this; omega
      simp at hu; subst hu
      rw [hce 0 (by omega)]; rfl
    | succ i =>
      have hi2 : i < vs.length := by omega
      rw [List.getElem?_cons_succ, List.getElem?_eq_getElem hi2, Option.some.injEq] at hx
      subst hx
      have hu2 : i < us.length := by rw [HUL.out]; exact hi2
      refine ⟨[us[i]], rfl, fun j u hu => ?_, good_ints.more (good_ints.stays (HUR.out i hi2 hu2) hB) (by have := hB.size; have := HH.out; omega)⟩
      obtain rfl : j = 0 := by have := (List.getElem?_eq_some_iff.1 hu).1; simp at this; omega
      simp at hu; subst hu
      rw [Nat.zero_add, Nat.mul_one, Nat.add_zero, hce (i + 1) (by omega), List.getElem?_append_right (by simp)]
      simp [hu2]
  have HRD := hid hrd; have HBB := hid hB
  clear ho' hg' hb3 hk hrow hB h1 h2 h3 hrd q3
  go_wp2
  go_ret
  exact ⟨_, rfl, HRD.out, HBB.out⟩
end Go.Proofs.YtgoapnkdcfcjgaaGreat
/- query.Passes, query.Key; rows of lists of texts. -/
namespace Go.Proofs.YtgoapnkdcfcjgaaGreat
open Go.ChangeShapes Go.WideShapes Go.ChangeAt Go.RowKit
set_option linter.unusedVariables false
set_option linter.unusedSimpArgs false

def PsRel (q : QueryX) (ps : List (List ByteArray)) (W0 : World) (g : Nat) (i : Value) (wr : World) : Prop := ∃ k : Nat, k + g = q.2.length ∧ i = .int .i64 k ∧ (∀ j (h : j < q.2.length), j < k → passF ps q.2[j] = true) ∧ Below W0.heap.size W0 wr
def MbRel (p : List ByteArray) (ms : List (List ByteArray)) (Wf : World) (g : Nat) (i : Value) (wr : World) : Prop := ∃ k : Nat, k + g = ms.length ∧ i = .int .i64 k ∧ (∀ j (h : j < ms.length), j < k → underB p ms[j] = false) ∧ Below Wf.heap.size Wf wr
theorem any_no {α : Type} {p : α → Bool} {l : List α} (h : ∀ j (h : j < l.length), p l[j] = false) : l.any p = false := List.any_eq_false.2 (fun x hx => by
  obtain ⟨j, hj, rfl⟩ := List.mem_iff_getElem.1 hx
  rw [h j hj]; simp)
end Go.Proofs.YtgoapnkdcfcjgaaGreat
