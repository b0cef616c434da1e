/- 2 texts of this claim, in build order. -/
import Derived.Test.YtclhnnidbhchnaaPaeddjmei
import Derived.Test.YtclhnnidbhchnaaPclenjida
/- The reference's cuboid in memory. -/
namespace Go.Proofs.Ytclhnnidbhchnaa
open Go.ChangeShapes Go.WideShapes Go.ChangeAt Go.RowKit
set_option linter.unusedVariables false
set_option linter.unusedSimpArgs false

/-- A cell whose lists lie in blocks of E. -/
def CellE (w : World) (E : Nat → Prop) (v : Value) (c : CellM) : Prop :=
  ∃ v1 v2 v3, v = .agg #[.int .i64 c.n, v1, v2, v3] ∧ SlE w E v1 (ivals c.s) ∧ SlE w E v2 (ivals c.lo) ∧ SlE w E v3 (ivals c.hi)
theorem CellE.kept {w w' : World} {E : Nat → Prop} {v : Value} {c : CellM} (h : CellE w E v c) (k : Kept E w w') : CellE w' E v c := by
  obtain ⟨v1, v2, v3, e, h1, h2, h3⟩ := h
  exact ⟨v1, v2, v3, e, h1.kept k, h2.kept k, h3.kept k⟩
theorem CellE.mono {w : World} {E E' : Nat → Prop} {v : Value} {c : CellM} (h : CellE w E v c) (k : ∀ i, E i → E' i) : CellE w E' v c := by
  obtain ⟨v1, v2, v3, e, h1, h2, h3⟩ := h
  exact ⟨v1, v2, v3, e, h1.mono k, h2.mono k, h3.mono k⟩
theorem CellE.read {w : World} {E : Nat → Prop} {v : Value} {c : CellM} (h : CellE w E v c) : CellR w w.heap.size v c := by
  obtain ⟨v1, v2, v3, e, h1, h2, h3⟩ := h
  exact ⟨v1, v2, v3, e, h1.sl, h2.sl, h3.sl⟩
theorem SlE.of_sl {w : World} {E : Nat → Prop} {B : Nat} {v : Value} {xs : List Value} (h : Sl w B v xs) (hE : ∀ k, k < B → E k) : SlE w E v xs := by
  obtain ⟨A, c, e, h1, h2, h3⟩ := h
  refine ⟨A, c, e, h1, h2, fun h0 => ?_⟩
  obtain ⟨b, off, e2, hb, hc⟩ := h3 h0
  exact ⟨b, off, e2, hE b hb, hc⟩
theorem CellE.of_read {w : World} {E : Nat → Prop} {B : Nat} {v : Value} {c : CellM} (h : CellR w B v c) (hE : ∀ k, k < B → E k) : CellE w E v c := by
  obtain ⟨v1, v2, v3, e, h1, h2, h3⟩ := h
  exact ⟨v1, v2, v3, e, SlE.of_sl h1 hE, SlE.of_sl h2 hE, SlE.of_sl h3 hE⟩
theorem CellE.of_own {w : World} {H : Nat} {v : Value} {c : CellM} (h : OwnC w H v c) : CellE w (fun k => H ≤ k ∧ k < w.heap.size) v c := by
  obtain ⟨v1, v2, v3, e, h1, h2, h3, -, -⟩ := h
  exact ⟨v1, v2, v3, e, SlE.of_own h1 (fun g hg => h1.lt g hg), SlE.of_own h2 (fun g hg => h2.lt g hg), SlE.of_own h3 (fun g hg => h3.lt g hg)⟩
/-- A key and a cell as they lie in memory. -/
abbrev E5 := Value × Int × Value × Value × Value
def e5 (x : E5) : List Value := [x.1, .int .i64 x.2.1, x.2.2.1, x.2.2.2.1, x.2.2.2.2]
def z5 : E5 := (.slice none 0 0, 0, .slice none 0 0, .slice none 0 0, .slice none 0 0)
def zK : KC := ([], nilC)
def flat5 (es : List E5) : List Value := es.flatMap e5
theorem flat5_len (es : List E5) : (flat5 es).length = es.length * 5 := by
  unfold flat5
  induction es with
  | nil => rfl
  | cons x es ih => rw [List.flatMap_cons, List.length_append, ih]; simp [e5]; omega
theorem flat5_snoc (es : List E5) (x : E5) : flat5 (es ++ [x]) = flat5 es ++ e5 x := by simp [flat5]
theorem flat5_at : ∀ {es : List E5} {k j : Nat}, k < es.length → j < 5 → (flat5 es)[k * 5 + j]? = (e5 (es.getD k z5))[j]? := by
  intro es
  induction es with
  | nil => intro k j hk; simp at hk
  | cons x es ih =>
    intro k j hk hj
    unfold flat5
    rw [List.flatMap_cons]
    cases k with
    | zero => rw [List.getElem?_append_left (by simp [e5]; omega)]; simp
    | succ k =>
      rw [List.getElem?_append_right (by simp [e5]; omega), show (k + 1) * 5 + j - (e5 x).length = k * 5 + j by simp [e5]; omega]
      have := ih (k := k) (j := j) (by simpa using hk) hj
      unfold flat5 at this
      rw [this]
      simp
/-- What the elements of a list of keys and cells read as. -/
def RowO (w : World) (E : Nat → Prop) (es : List E5) (L : List KC) : Prop :=
  es.length = L.length ∧ ∀ k, k < L.length → SlE w E (es.getD k z5).1 (ivals (L.getD k zK).1) ∧ CellE w E (.agg #[.int .i64 (es.getD k z5).2.1, (es.getD k z5).2.2.1, (es.getD k z5).2.2.2.1, (es.getD k z5).2.2.2.2]) (L.getD k zK).2
theorem RowO.kept {w w' : World} {E : Nat → Prop} {es : List E5} {L : List KC} (h : RowO w E es L) (k : Kept E w w') : RowO w' E es L := ⟨h.1, fun i hi => ⟨(h.2 i hi).1.kept k, (h.2 i hi).2.kept k⟩⟩
theorem RowO.mono {w : World} {E E' : Nat → Prop} {es : List E5} {L : List KC} (h : RowO w E es L) (k : ∀ i, E i → E' i) : RowO w E' es L := ⟨h.1, fun i hi => ⟨(h.2 i hi).1.mono k, (h.2 i hi).2.mono k⟩⟩
theorem RowO.nil_ (w : World) (E : Nat → Prop) : RowO w E [] [] := ⟨rfl, fun k hk => by simp at hk⟩
theorem RowO.snoc {w : World} {E : Nat → Prop} {es : List E5} {L : List KC} (h : RowO w E es L) {x : E5} {c : KC} (h1 : SlE w E x.1 (ivals c.1)) (h2 : CellE w E (.agg #[.int .i64 x.2.1, x.2.2.1, x.2.2.2.1, x.2.2.2.2]) c.2) : RowO w E (es ++ [x]) (L ++ [c]) := by
  obtain ⟨hl, hk⟩ := h
  refine ⟨by simp [hl], fun k hk' => ?_⟩
  rw [List.length_append, List.length_singleton] at hk'
  rcases Nat.lt_or_ge k L.length with h' | h'
  · have e1 : (es ++ [x]).getD k z5 = es.getD k z5 := by simp only [List.getD_eq_getElem?_getD]; rw [List.getElem?_append_left (by omega)]
    have e2 : (L ++ [c]).getD k zK = L.getD k zK := by simp only [List.getD_eq_getElem?_getD]; rw [List.getElem?_append_left (by omega)]
    rw [e1, e2]; exact hk k h'
  · obtain rfl : k = L.length := by omega
    have e1 : (es ++ [x]).getD L.length z5 = x := by simp only [List.getD_eq_getElem?_getD]; rw [← hl, List.getElem?_append_right (by omega)]; simp
    have e2 : (L ++ [c]).getD L.length zK = c := by simp only [List.getD_eq_getElem?_getD]; rw [List.getElem?_append_right (by omega)]; simp
    rw [e1, e2]; exact ⟨h1, h2⟩
/-- The reference's cuboid at r: it owns the blocks R. -/
def RefC (w : World) (R : Nat → Prop) (r : Nat) (W M : Int) (L : List KC) : Prop :=
  R r ∧ (∀ k, R k → k < w.heap.size) ∧ (∀ i, i < 3 → w.frozen? ⟨r, i, none⟩ = false) ∧ w.cell? ⟨r, 0, none⟩ = some (.int .i64 W) ∧ w.cell? ⟨r, 1, none⟩ = some (.int .i64 M) ∧
  ∃ (v : Value) (es : List E5), w.cell? ⟨r, 2, none⟩ = some v ∧ w.ownsRow 0 105 5 v L.length (flat5 es) ∧ (∀ g, v.ownBlock = some g → R g ∧ g ≠ r) ∧ RowO w (fun k => R k ∧ k ≠ r) es L
theorem RefC.kept {w w' : World} {R : Nat → Prop} {r : Nat} {W M : Int} {L : List KC} (h : RefC w R r W M L) (k : Kept R w w') (hs : w.heap.size ≤ w'.heap.size) : RefC w' R r W M L := by
  obtain ⟨h1, h2, h3, h4, h5, v, es, h6, h7, h8, h9⟩ := h
  exact ⟨h1, fun i hi => Nat.lt_of_lt_of_le (h2 i hi) hs, fun i hi => k.frozen h1 (h3 i hi), k.cell h1 h4, k.cell h1 h5, v, es, k.cell h1 h6, own_kept h7 (fun g hg => k g (h8 g hg).1), h8, h9.kept (fun i hi => k i hi.1)⟩
theorem RefC.below {w w' : World} {R : Nat → Prop} {r : Nat} {W M : Int} {L : List KC} (h : RefC w R r W M L) (hb : Below w.heap.size w w') : RefC w' R r W M L :=
  h.kept (fun k hk => hb.block k (h.2.1 k hk)) hb.size
theorem RefC.qu {w w' : World} {R : Nat → Prop} {r : Nat} {W M : Int} {L : List KC} (h : RefC w R r W M L) (hq : Qu w w') : RefC w' R r W M L := h.below (hq.below _)
/-- The parts of an element. -/
theorem RefC.elem {w : World} {v : Value} {es : List E5} {L : List KC} {base : Nat} {E : Nat → Prop} (hown : w.ownsRow base 105 5 v L.length (flat5 es)) (hrow : RowO w E es L) {k : Nat} (hk : k < L.length) :
    ∃ g cap K kc A1 c1 A2 c2 A3 c3, v = .slice (some ⟨g, 0, none⟩) L.length cap ∧ base ≤ g ∧ g < w.heap.size ∧ L.length ≤ cap ∧ cap ≤ maxLen ∧
      es.getD k z5 = (.slice K (L.getD k zK).1.length kc, (L.getD k zK).2.n, .slice A1 (L.getD k zK).2.s.length c1, .slice A2 (L.getD k zK).2.lo.length c2, .slice A3 (L.getD k zK).2.hi.length c3) ∧
      w.cell? ⟨g, k * 5, none⟩ = some (.slice K (L.getD k zK).1.length kc) ∧ w.cell? ⟨g, k * 5 + 1, none⟩ = some (.int .i64 (L.getD k zK).2.n) ∧ w.cell? ⟨g, k * 5 + 1 + 1, none⟩ = some (.slice A1 (L.getD k zK).2.s.length c1) ∧
      w.cell? ⟨g, k * 5 + 1 + 2, none⟩ = some (.slice A2 (L.getD k zK).2.lo.length c2) ∧ w.cell? ⟨g, k * 5 + 1 + 3, none⟩ = some (.slice A3 (L.getD k zK).2.hi.length c3) ∧
      SlE w E (.slice K (L.getD k zK).1.length kc) (ivals (L.getD k zK).1) ∧ CellE w E (.agg #[.int .i64 (L.getD k zK).2.n, .slice A1 (L.getD k zK).2.s.length c1, .slice A2 (L.getD k zK).2.lo.length c2, .slice A3 (L.getD k zK).2.hi.length c3]) (L.getD k zK).2 := by
  obtain ⟨hl, hr⟩ := hrow
  obtain ⟨s1, s2⟩ := hr k hk
  have hown' := hown
  obtain ⟨h1, h2⟩ := hown
  rcases h2 with ⟨rfl, e⟩ | ⟨g, cap, cur, rfl, hbg, hg, hnc, hcm, hcs, htk⟩
  · omega
  · have q : ∀ j, j < 5 → w.cell? ⟨g, k * 5 + j, none⟩ = (e5 (es.getD k z5))[j]? := fun j hj => by
      rw [← flat5_at (by omega) hj]
      exact hown'.cellAt _ (by omega)
    have hkf := s1.sl.formI
    have hce := s2
    generalize es.getD k z5 = x at *
    obtain ⟨x0, x1, x2, x3, x4⟩ := x
    generalize L.getD k zK = c at *
    obtain ⟨K, kc, rfl, -, -⟩ := hkf
    obtain ⟨v1, v2, v3, e, t1, t2, t3⟩ := hce
    obtain ⟨A1, c1, f1, -, -⟩ := t1.sl.formI
    obtain ⟨A2, c2, f2, -, -⟩ := t2.sl.formI
    obtain ⟨A3, c3, f3, -, -⟩ := t3.sl.formI
    injection e with e
    have g0 := congrArg (fun a : Array Value => a[0]?) e
    have g1 := congrArg (fun a : Array Value => a[1]?) e
    have g2 := congrArg (fun a : Array Value => a[2]?) e
    have g3 := congrArg (fun a : Array Value => a[3]?) e
    simp at g0 g1 g2 g3
    subst g0 g1 g2 g3 f1 f2 f3
    exact ⟨g, cap, K, kc, A1, c1, A2, c2, A3, c3, rfl, hbg, (hown'.lt g rfl).2, hnc, hcm, rfl, q 0 (by omega), q 1 (by omega), q 2 (by omega), q 3 (by omega), q 4 (by omega), s1, s2⟩
end Go.Proofs.Ytclhnnidbhchnaa
/- slices.Clone at ints, cell.copied. -/
namespace Go.Proofs.Ytclhnnidbhchnaa
open Go.ChangeShapes Go.WideShapes Go.ChangeAt Go.RowKit
set_option linter.unusedVariables false
set_option linter.unusedSimpArgs false

theorem ivals_one (l : List Int) : ∀ u ∈ ivals l, u.oneCell' = true := by
  intro u hu
  obtain ⟨x, _, rfl⟩ := List.mem_map.1 hu
  rfl
def CloneIP (l : List Int) (w : World) (e : Ending) (w' : World) : Prop := ∃ v, e = .returned v ∧ w'.ownsRow w.heap.size 3 1 v l.length (ivals l) ∧ Below w.heap.size w w'
set_option maxRecDepth 100000 in
set_option maxHeartbeats 400000 in
theorem cloneI_any (v : Value) (l : List Int) (w : World) (hv : Sl w w.heap.size v (ivals l)) (hl : l.length ≤ 1073741824) :
    Calls Try.prog 63 #[v] w (CloneIP l w) := by
  obtain ⟨i0, hi, hz0, hz1, hz2⟩ := info_parts info_int
  have hv' := hv
  obtain ⟨A, c, rfl, hc1, hc2, hA⟩ := hv
  simp only [ivals_len] at hc1 hv' ⊢
  have HV := hid hv'; have HA := hid hA
  clear hv' hA
  go_enter Try.func63, Try.ntmps63
  cases A with
  | none =>
    have h0 : l = [] := by
      cases l with
      | nil => rfl
      | cons x l => obtain ⟨b, off, h, _⟩ := HA.out (by simp [ivals]); cases h
    have H0 := hid h0; clear h0
    have hq : ∀ W : World, (binOp .eql 23 (.slice none l.length c) (.slice none 0 0)).run Try.prog W = .ok (.bool true) W := fun _ => rfl
    go_wp2
    go_ret
    exact ⟨_, rfl, by rw [H0.out]; exact World.ownsRow_nil _ _ _ _, Below.refl _ _⟩
  | some x =>
    have hq : ∀ W : World, (binOp .eql 23 (.slice (some x) l.length c) (.slice none 0 0)).run Try.prog W = .ok (.bool false) W := fun _ => rfl
    go_wp2_with (at_builtin; refine stop_here ?_)
    refine go_on ?_
    have hown : (w.alloc (.cells #[] 3)).ownsRow w.heap.size 3 1 (.slice (some ⟨w.heap.size, 0, none⟩) 0 0) 0 [] := by
      refine ⟨rfl, .inr ⟨w.heap.size, 0, #[], rfl, Nat.le_refl _, ?_, Nat.le_refl _, by simp [maxLen], rfl, rfl⟩⟩
      exact heap_alloc_new w _
    refine app_own (.tmp 5) (.tmp 6) 23 23 rfl rfl w.heap.size 3 i0 (.int .i64 0) 1 8 Try.underlying23 hi hz0 hz1 hz2 rfl (by omega) _ _ _ rfl hown (.slice (some x) l.length c) l.length (ivals l) rfl ?_ (by unfold maxLen; omega) (by omega) (by simp) ?_
    · have hs : Sl (w.alloc (.cells #[] 3)) w.heap.size (.slice (some x) l.length c) (ivals l) := by
        obtain ⟨A, c', g1, g2, g3, g4⟩ := HV.out
        refine ⟨A, c', g1, g2, g3, fun h0 => ?_⟩
        obtain ⟨b, off, g5, g6, g7⟩ := g4 h0
        exact ⟨b, off, g5, g6, fun j u hj => cell_alloc g6 (g7 j u hj)⟩
      have := src_sl _ Try.underlying23 hs (ivals_one l)
      rwa [ivals_len] at this
    · intro v2 w2 hown2 hg2 hb2
      go_wp2
      go_ret
      refine ⟨v2, rfl, by simpa using hown2, ?_⟩
      exact (bl1 w _).trans hb2
theorem own_more {w w' : World} {H H' : Nat} {v : Value} {n : Nat} {xs : List Value} (h : w.ownsRow H 3 1 v n xs) (hb : Below w.heap.size w w') (hH : H' ≤ H) : w'.ownsRow H' 3 1 v n xs :=
  have k := own_kept h (fun g hg => hb.block g (h.lt g hg).2)
  ⟨k.1, k.2.imp id (fun ⟨g, cap, cur, e, hg, r⟩ => ⟨g, cap, cur, e, Nat.le_trans hH hg, r⟩)⟩
theorem own_upd {w w' : World} {H H' b : Nat} {v : Value} {n : Nat} {xs : List Value} (h : w.ownsRow H 3 1 v n xs) (hu : Upd b w w') (hb : b < H) (hH : H' ≤ H) : w'.ownsRow H' 3 1 v n xs := by
  have k := own_kept h (fun g hg => hu.block g (h.lt g hg).2 (fun e => by injection e with e; have := (h.lt g hg).1; omega))
  exact ⟨k.1, k.2.imp id (fun ⟨g, cap, cur, e, hg, r⟩ => ⟨g, cap, cur, e, Nat.le_trans hH hg, r⟩)⟩
set_option maxRecDepth 100000 in
set_option maxHeartbeats 1600000 in
theorem copied_any (v : Value) (c : CellM) (w : World) (hv : CellR w w.heap.size v c) (hl : c.s.length ≤ 1073741824 ∧ c.lo.length ≤ 1073741824 ∧ c.hi.length ≤ 1073741824) :
    Calls Try.prog 41 #[v] w (OwnPost c w) := by
  obtain ⟨v1, v2, v3, rfl, s1, s2, s3⟩ := hv
  have HC1 := hid (fun W (h : Below w.heap.size w W) => cloneI_any v1 c.s W ((s1.below h).more h.size) hl.1)
  have HC2 := hid (fun W (h : Below w.heap.size w W) => cloneI_any v2 c.lo W ((s2.below h).more h.size) hl.2.1)
  have HC3 := hid (fun W (h : Below w.heap.size w W) => cloneI_any v3 c.hi W ((s3.below h).more h.size) hl.2.2)
  obtain ⟨A1, c1, rfl, -, -⟩ := s1.formI
  obtain ⟨A2, c2, rfl, -, -⟩ := s2.formI
  obtain ⟨A3, c3, rfl, -, -⟩ := s3.formI
  clear s1 s2 s3 hl
  go_enter Try.func41, Try.ntmps41
  obtain ⟨W0, hW0⟩ : ∃ W, W = (w.alloc (.cells #[.int .i64 c.n, .slice A1 c.s.length c1, .slice A2 c.lo.length c2, .slice A3 c.hi.length c3] 25)).alloc (.cells #[.int .i64 0, .slice none 0 0, .slice none 0 0, .slice none 0 0] 25) := ⟨_, rfl⟩
  have hb0 : Below w.heap.size w W0 := by rw [hW0]; exact (by repeat' first | with_reducible exact Below.refl _ _ | assumption | (with_reducible refine Below.alloc ?_ ?_ _) | (with_reducible refine Below.setCell ?_ ?_ _) | (with_reducible refine Below.drew ?_) | (with_reducible refine below_drewN ?_ _) | (with_reducible refine Below.trans ?_ (Below.mono ‹_› ?_)) | omega | (with_reducible refine le_alloc ?_) | (with_reducible refine le_setCell ?_) | (with_reducible refine le_drew ?_) | (with_reducible refine le_drewN ?_) | (with_reducible refine Nat.le_trans ?_ (Below.size ‹_›)) | (simp <;> omega))
  have hs0 : W0.heap.size = w.heap.size + 1 + 1 := by rw [hW0]; simp
  have ba : Blk W0 w.heap.size (.int .i64 c.n) (.slice A1 c.s.length c1) (.slice A2 c.lo.length c2) (.slice A3 c.hi.length c3) := by rw [hW0]; exact (Blk.new _ _ _ _ _ _).alloc (by simp only [World.size_alloc]; omega) _
  have br : Blk W0 (w.heap.size + 1) (.int .i64 0) (.slice none 0 0) (.slice none 0 0) (.slice none 0 0) := by rw [hW0]; exact Blk.new' _ _ _ _ _ (by simp)
  go_wp2
  rw [← hW0]
  have HB0 := hid hb0; have BA := hid ba; have BR := hid br; have HS0 := hid hs0
  obtain ⟨p0, p1, p2, p3, -, -, -, -⟩ := ba
  clear hW0 hb0 br hs0
  go_region_held3 (fun w' => w'.cell? ⟨w.heap.size, 0, none⟩ = some (.int .i64 c.n) ∧ w'.cell? ⟨w.heap.size, 1, none⟩ = some (.slice A1 c.s.length c1) ∧ w'.cell? ⟨w.heap.size, 2, none⟩ = some (.slice A2 c.lo.length c2) ∧ w'.cell? ⟨w.heap.size, 3, none⟩ = some (.slice A3 c.hi.length c3)) (go_keep)
   (first
    | (go_at_call_of 63 (Value.slice A1 c.s.length c1); refine (HC1.out _ HB0.out.drew).mono ?_; rintro e w1 ⟨y1, rfl, ho1, hb1⟩; obtain ⟨a1, d1, rfl, -, -, -⟩ := own_cells ho1; have B1 := hid ((Below.refl W0.heap.size W0).drew.trans hb1); have O1 := hid ho1; have A1' := hid (BA.out.below B1.out (by have := HS0.out; omega)); obtain ⟨p4, p5, p6, p7, -, -, -, -⟩ := A1'.out; clear ho1 hb1)
    | (go_at_call_of 63 (Value.slice A2 c.lo.length c2); refine (HC2.out _ (HB0.out.trans (B1.out.mono (by have := HS0.out; omega)))).mono ?_; rintro e w2 ⟨y2, rfl, ho2, hb2⟩; obtain ⟨a2, d2, rfl, -, -, -⟩ := own_cells ho2; have B2 := hid hb2; have O2 := hid ho2; have A2' := hid (A1'.out.below hb2 (by have := HS0.out; have := B1.out.size; omega)); obtain ⟨p8, p9, p10, p11, -, -, -, -⟩ := A2'.out; clear ho2 hb2)
    | (go_at_call_of 63 (Value.slice A3 c.hi.length c3); refine (HC3.out _ ((HB0.out.trans (B1.out.mono (by have := HS0.out; omega))).trans (B2.out.mono (by have := HS0.out; have := B1.out.size; omega)))).mono ?_; rintro e w3 ⟨y3, rfl, ho3, hb3⟩; obtain ⟨a3, d3, rfl, -, -, -⟩ := own_cells ho3; have B3 := hid hb3; have O3 := hid ho3; have A3' := hid (A2'.out.below hb3 (by have := HS0.out; have := B1.out.size; have := B2.out.size; omega)); obtain ⟨p12, p13, p14, p15, -, -, -, -⟩ := A3'.out; have BR3 := hid (((BR.out.below B1.out (by have := HS0.out; omega)).below B2.out (by have := HS0.out; have := B1.out.size; omega)).below hb3 (by have := HS0.out; have := B1.out.size; have := B2.out.size; omega)); obtain ⟨r0, r1, r2, r3, f0, f1, f2, f3⟩ := BR3.out; clear ho3 hb3))
  go_wp2
  have hz1 := B1.out.size
  have hz2 := B2.out.size
  have hz3 := B3.out.size
  have hz0 := HS0.out
  have hu := upd4 (w.heap.size + 1) w3 (.int .i64 c.n) (.slice a1 c.s.length d1) (.slice a2 c.lo.length d2) (.slice a3 c.hi.length d3)
  have k1 := own_upd (own_more O1.out (B2.out.trans (B3.out.mono hz2)) (H' := w.heap.size + 1 + 1) (by simp only [World.size_drew]; omega)) hu (by omega) (H' := w.heap.size) (by omega)
  have k2 := own_upd (own_more O2.out B3.out (H' := w.heap.size + 1 + 1) (by omega)) hu (by omega) (H' := w.heap.size) (by omega)
  have k3 := own_upd (own_more O3.out (Below.refl _ _) (H' := w.heap.size + 1 + 1) (by omega)) hu (by omega) (H' := w.heap.size) (by omega)
  have hbel : Below w.heap.size w _ := (HB0.out.trans ((B1.out.mono (by omega)).trans ((B2.out.mono (by omega)).trans (B3.out.mono (by omega))))).trans (hu.below (by omega) (by omega))
  have K1 := hid k1; have K2 := hid k2; have K3 := hid k3; have HBE := hid hbel
  have N1 : Hid (∀ g, (Value.slice a1 c.s.length d1).ownBlock = some g → (Value.slice a2 c.lo.length d2).ownBlock ≠ some g ∧ (Value.slice a3 c.hi.length d3).ownBlock ≠ some g) := hid (fun g hg => ⟨fun h => by have := O1.out.lt g hg; have := O2.out.lt g h; omega, fun h => by have := O1.out.lt g hg; have := O3.out.lt g h; omega⟩)
  have N2 : Hid (∀ g, (Value.slice a2 c.lo.length d2).ownBlock = some g → (Value.slice a3 c.hi.length d3).ownBlock ≠ some g) := hid (fun g hg h => by have := O2.out.lt g hg; have := O3.out.lt g h; omega)
  exact bodyPost_ret (v := .agg #[.int .i64 c.n, .slice a1 c.s.length d1, .slice a2 c.lo.length d2, .slice a3 c.hi.length d3]) (by simp [results, Try.results41, go_sem, r0, r1, r2, r3]; done) rfl ⟨_, rfl, ⟨_, _, _, rfl, K1.out, K2.out, K3.out, N1.out, N2.out⟩, HBE.out⟩
end Go.Proofs.Ytclhnnidbhchnaa
