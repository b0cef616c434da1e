/- 2 texts of this claim, in build order. -/
import Derived.Test.YtkgifbnkkmeoiaaGreatDoorPdlpgdfda
import Derived.Laws.IdiomStrings
/- session.ReadEntry. -/
namespace Go.Proofs.YtkgifbnkkmeoiaaGreatDoor
open Go.ChangeShapes Go.WideShapes Go.ChangeAt Go.RowKit
set_option linter.unusedVariables false
set_option linter.unusedSimpArgs false

def entVs (x : EntX) (F : Value) : List Value := [.int .i64 x.1, .int .i64 x.2.1, .int .i64 x.2.2.1, .int .i64 x.2.2.2.1, .int .i64 x.2.2.2.2.1, F]
def EntP (r : EntX × Nat × Int) (B p : Nat) (l : List UInt8) (w : World) (e : Ending) (w' : World) : Prop :=
  ∃ A k, e = .returned (.agg (entVs r.1 (.slice A r.1.2.2.2.2.2.length k)).toArray) ∧ CRow w' w.heap.size (.slice A r.1.2.2.2.2.2.length k) r.1.2.2.2.2.2 ∧ RW w' B p l r.2.1 r.2.2 ∧ Upd p w w'
set_option maxRecDepth 100000 in
set_option maxHeartbeats 1600000 in
theorem readEnt_any (B p : Nat) (l : List UInt8) (a : Nat) (e : Int) (w : World) (h : RW w B p l a e) (hm : MaxL w) (hpm : p ≠ 0) (hll : l.length ≤ 1000000) :
    Calls Tryz.prog 29 #[.pointer (some ⟨p, 0, none⟩)] w (EntP (entR l a e) B p l w) := by
  have hp := h.lt
  obtain ⟨q, hq⟩ : ∃ q, q = w.heap.size := ⟨_, rfl⟩
  obtain ⟨W0, hW0⟩ : ∃ W, W = w.alloc (.cells #[(.int .i64 0), (.int .i64 0), (.int .i64 0), (.int .i64 0), (.int .i64 0), (.slice none 0 0)] 49) := ⟨_, rfl⟩
  have hb0 : Below w.heap.size w W0 := by rw [hW0]; exact bl1 _ _
  have F0 : BoxN w W0 p q [(.int .i64 0), (.int .i64 0), (.int .i64 0), (.int .i64 0), (.int .i64 0), (.slice none 0 0)] := by rw [hW0, hq]; exact BoxN.new (Upd.refl _ _) hp
  have RW0 := hid (show RW W0 B p l a e from h.keep (hb0.mono (by omega)))
  obtain ⟨r, hr⟩ : ∃ r, r = entR l a e := ⟨_, rfl⟩
  rw [← hr]
  unfold entR at hr
  obtain ⟨r1, hr1⟩ : ∃ r1, r1 = rInt l a e 1 1099511627776 := ⟨_, rfl⟩
  have HI1 := hid (fun W (hW : RW W B p l a e) => readInt_any B p l a e 1 1099511627776 W hW)
  rw [← hr1] at HI1 hr
  obtain ⟨o, a1, e1⟩ := r1
  unfold RIntPost at HI1
  simp only at hr HI1
  obtain ⟨r2, hr2⟩ : ∃ r2, r2 = rInt l a1 e1 1 1099511627776 := ⟨_, rfl⟩
  have HI2 := hid (fun W (hW : RW W B p l a1 e1) => readInt_any B p l a1 e1 1 1099511627776 W hW)
  rw [← hr2] at HI2 hr
  obtain ⟨s, a2, e2⟩ := r2
  unfold RIntPost at HI2
  simp only at hr HI2
  have HI4 := hid (fun W (hW : RW W B p l a2 e2) (hM : MaxL W) => readCmd_any B p l a2 e2 W hW hM hpm hll)
  generalize cmdR l a2 e2 = r4 at *
  obtain ⟨⟨c1, c2, c3, fs⟩, a4, e4⟩ := r4
  unfold CmdP cmdVs at HI4
  simp only at HI4 hr
  have HF0 := hid F0; have HW0 := hid hW0; have HM := hid hm; have HR := hid hr; have HQ := hid hq
  have hpq : p < q := by omega
  clear hr1 hr2 hr hb0 hW0 hq F0 hm h
  go_enter Tryz.func29, Tryz.ntmps29
  go_upto_region 3 with (fail)
  rw [← HW0.out, ← HQ.out]
  go_wp2_with fail
  refine (HI1.out W0 RW0.out).mono ?_
  rintro en w1 ⟨rfl, hrw1, hu1⟩
  have HF1 := hid (HF0.out.move (by have := HQ.out; omega) hu1); have RW1 := hid hrw1
  clear hrw1 hu1
  go_wp2_with fail
  refine (HI2.out w1 RW1.out).mono ?_
  rintro en w3 ⟨rfl, hrw3, hu3⟩
  have HF3 := hid (HF1.out.move (by have := HQ.out; omega) hu3); have RW3 := hid hrw3
  clear hrw3 hu3
  go_upto_region 4 with (fail)
  obtain ⟨N, hN⟩ : ∃ N, N = w3.heap.size := ⟨_, rfl⟩
  obtain ⟨W4, hW4⟩ : ∃ W, W = w3.alloc (.cells #[.int .i64 o, .int .i64 s, .int .i64 0, .int .i64 0, .int .i64 0, .slice none 0 0] 49) := ⟨_, rfl⟩
  rw [← hW4, ← hN]
  have hpw : p < w.heap.size := by have := HQ.out; omega
  have hqN : q < N := by have := HF3.out.lt; omega
  have hb4 : Below w3.heap.size w3 W4 := by rw [hW4]; exact bl1 _ _
  have HG4 := hid (show BoxN w W4 p N [.int .i64 o, .int .i64 s, .int .i64 0, .int .i64 0, .int .i64 0, .slice none 0 0] by rw [hW4, hN]; exact BoxN.new HF3.out.upd hpw)
  have HF4 := hid (HF3.out.over hpw (hb4.mono (by omega)))
  have hz4 : N < W4.heap.size := HG4.out.lt
  have HC := hid (HI4.out W4 (RW3.out.keep (hb4.mono (by omega))) (HM.out.upd HF4.out.upd hpm))
  clear hN hW4 hb4
  go_wp2_with fail
  (with_reducible refine HC.out.mono ?_)
  rintro en w5 ⟨Af, kf, rfl, hc5, hrw5, hu5⟩
  have HF5 := hid (HF4.out.move hpw hu5); have HG5 := hid (HG4.out.move hpw hu5); have HC5 := hid hc5; have RW5 := hid hrw5
  obtain ⟨g2, z2⟩ := HG5.out.c 2 _ rfl; obtain ⟨g3, z3⟩ := HG5.out.c 3 _ rfl; obtain ⟨g4, z4⟩ := HG5.out.c 4 _ rfl; obtain ⟨g5, z5⟩ := HG5.out.c 5 _ rfl
  clear hc5 hrw5 hu5
  obtain ⟨W6, hW6⟩ : ∃ W, W = (((w5.setCell ⟨N, 2, none⟩ (.int .i64 c1)).setCell ⟨N, 3, none⟩ (.int .i64 c2)).setCell ⟨N, 4, none⟩ (.int .i64 c3)).setCell ⟨N, 5, none⟩ (.slice Af fs.length kf) := ⟨_, rfl⟩
  have HG6 := hid (show BoxN w W6 p N [(.int .i64 o), (.int .i64 s), (.int .i64 c1), (.int .i64 c2), (.int .i64 c3), (.slice Af fs.length kf)] by rw [hW6]; exact (((HG5.out.set 2 (by simp) _).set 3 (by simp) _).set 4 (by simp) _).set 5 (by simp) _)
  have HF6 := hid (show BoxN w W6 p q [(.int .i64 0), (.int .i64 0), (.int .i64 0), (.int .i64 0), (.int .i64 0), (.slice none 0 0)] by rw [hW6]; exact (((HF5.out.far hpw hqN _).far hpw hqN _).far hpw hqN _).far hpw hqN _)
  have RW6 := hid (show RW W6 B p l a4 e4 by rw [hW6]; exact (((RW5.out.set (by omega) _).set (by omega) _).set (by omega) _).set (by omega) _)
  have HC6 := hid (show CRow W6 W4.heap.size (.slice Af fs.length kf) fs by rw [hW6]; exact (((HC5.out.set (by omega) _).set (by omega) _).set (by omega) _).set (by omega) _)
  have HW6 := hid hW6
  have HFA := hid (readFailed_any B p l a4 e4 W6 RW6.out)
  clear hW6
  go_upto_region 5 with (fail)
  rw [← HW6.out]
  go_wp2_with fail
  (with_reducible refine HFA.out.mono ?_)
  rintro en w7 ⟨rfl, hq7⟩
  have hb7 := hq7.below W6.heap.size
  have HF7 := hid (HF6.out.over hpw (hq7.below _)); have HG7 := hid (HG6.out.over hpw (hq7.below _)); have HC7 := hid (HC6.out.on hb7); have RW7 := hid (RW6.out.qu hq7)
  clear hq7 hb7 g2 z2 g3 z3 g4 z4 g5 z5
  obtain ⟨f0, y0⟩ := HF7.out.c 0 _ rfl; obtain ⟨f1, y1⟩ := HF7.out.c 1 _ rfl; obtain ⟨f2, y2⟩ := HF7.out.c 2 _ rfl; obtain ⟨f3, y3⟩ := HF7.out.c 3 _ rfl; obtain ⟨f4, y4⟩ := HF7.out.c 4 _ rfl; obtain ⟨f5, y5⟩ := HF7.out.c 5 _ rfl
  obtain ⟨g0, -⟩ := HG7.out.c 0 _ rfl; obtain ⟨g1, -⟩ := HG7.out.c 1 _ rfl; obtain ⟨g2, -⟩ := HG7.out.c 2 _ rfl; obtain ⟨g3, -⟩ := HG7.out.c 3 _ rfl; obtain ⟨g4, -⟩ := HG7.out.c 4 _ rfl; obtain ⟨g5, -⟩ := HG7.out.c 5 _ rfl
  by_cases he : e4 = 0
  · have t1 : (e4 != 0) = false := by simp [he]
    have HR2 := hid (show r = ((o, s, c1, c2, c3, fs), a4, e4) by rw [HR.out, if_pos he])
    clear he
    go_wp2
    obtain ⟨W8, hW8⟩ : ∃ W, W = (((((w7.setCell ⟨q, 0, none⟩ (.int .i64 o)).setCell ⟨q, 1, none⟩ (.int .i64 s)).setCell ⟨q, 2, none⟩ (.int .i64 c1)).setCell ⟨q, 3, none⟩ (.int .i64 c2)).setCell ⟨q, 4, none⟩ (.int .i64 c3)).setCell ⟨q, 5, none⟩ (.slice Af fs.length kf) := ⟨_, rfl⟩
    rw [← hW8]
    have F8 : BoxN w W8 p q [(.int .i64 o), (.int .i64 s), (.int .i64 c1), (.int .i64 c2), (.int .i64 c3), (.slice Af fs.length kf)] := by
      rw [hW8]
      exact ((((((HF7.out.set 0 (by simp) _).set 1 (by simp) _).set 2 (by simp) _).set 3 (by simp) _).set 4 (by simp) _).set 5 (by simp) _)
    have R8 : RW W8 B p l a4 e4 := by
      rw [hW8]
      exact ((((((RW7.out.set hpq _).set hpq _).set hpq _).set hpq _).set hpq _).set hpq _)
    have C8 : CRow W8 W4.heap.size (.slice Af fs.length kf) fs := by
      rw [hW8]
      exact ((((((HC7.out.set (by omega) _).set (by omega) _).set (by omega) _).set (by omega) _).set (by omega) _).set (by omega) _)
    have s0 := (F8.c 0 _ rfl).1; have s1 := (F8.c 1 _ rfl).1; have s2 := (F8.c 2 _ rfl).1; have s3 := (F8.c 3 _ rfl).1; have s4 := (F8.c 4 _ rfl).1; have s5 := (F8.c 5 _ rfl).1
    refine bodyPost_ret (v := .agg #[(.int .i64 o), (.int .i64 s), (.int .i64 c1), (.int .i64 c2), (.int .i64 c3), (.slice Af fs.length kf)]) ?_ rfl ?_
    · simp [results, Tryz.results29, go_sem, s0, s1, s2, s3, s4, s5]
    · rw [HR2.out]
      exact ⟨Af, kf, rfl, C8.less (by have := HQ.out; omega), R8, F8.upd⟩
  · have t1 : (e4 != 0) = true := by simpa using he
    have HR2 := hid (show r = (e0X, a4, e4) by rw [HR.out, if_neg he])
    clear he
    go_wp2
    obtain ⟨W8, hW8⟩ : ∃ W, W = (((((w7.setCell ⟨q, 0, none⟩ (.int .i64 0)).setCell ⟨q, 1, none⟩ (.int .i64 0)).setCell ⟨q, 2, none⟩ (.int .i64 0)).setCell ⟨q, 3, none⟩ (.int .i64 0)).setCell ⟨q, 4, none⟩ (.int .i64 0)).setCell ⟨q, 5, none⟩ (.slice none 0 0) := ⟨_, rfl⟩
    rw [← hW8]
    have F8 : BoxN w W8 p q [(.int .i64 0), (.int .i64 0), (.int .i64 0), (.int .i64 0), (.int .i64 0), (.slice none 0 0)] := by
      rw [hW8]
      exact ((((((HF7.out.set 0 (by simp) _).set 1 (by simp) _).set 2 (by simp) _).set 3 (by simp) _).set 4 (by simp) _).set 5 (by simp) _)
    have R8 : RW W8 B p l a4 e4 := by
      rw [hW8]
      exact ((((((RW7.out.set hpq _).set hpq _).set hpq _).set hpq _).set hpq _).set hpq _)
    have s0 := (F8.c 0 _ rfl).1; have s1 := (F8.c 1 _ rfl).1; have s2 := (F8.c 2 _ rfl).1; have s3 := (F8.c 3 _ rfl).1; have s4 := (F8.c 4 _ rfl).1; have s5 := (F8.c 5 _ rfl).1
    refine bodyPost_ret (v := .agg #[(.int .i64 0), (.int .i64 0), (.int .i64 0), (.int .i64 0), (.int .i64 0), (.slice none 0 0)]) ?_ rfl ?_
    · simp [results, Tryz.results29, go_sem, s0, s1, s2, s3, s4, s5]
    · rw [HR2.out]
      exact ⟨none, 0, rfl, CRow.nil_ _ _, R8, F8.upd⟩
end Go.Proofs.YtkgifbnkkmeoiaaGreatDoor
/- Rows of one's own, of entries; bytes out of a text. -/
namespace Go.Proofs.YtkgifbnkkmeoiaaGreatDoor
open Go.ChangeShapes Go.WideShapes Go.ChangeAt Go.RowKit
set_option linter.unusedVariables false
set_option linter.unusedSimpArgs false

theorem info_ent : (Tryz.prog.info? 49).map (fun i => (i.zero, i.size, i.bytes)) = some (some (.agg #[.int .i64 0, .int .i64 0, .int .i64 0, .int .i64 0, .int .i64 0, .slice none 0 0]), 6, 64) := by kernel_rfl
def ent6 (x : EntX × Value) : List Value := entVs x.1 x.2
theorem ent6_len (es : List (EntX × Value)) : (es.flatMap ent6).length = es.length * 6 := by
  induction es with
  | nil => rfl
  | cons x es ih => rw [List.flatMap_cons, List.length_append, ih, List.length_cons]; show 6 + _ = _; omega
theorem CRow.keep4 {w w' : World} {base : Nat} {out : Value} {M : List FactX} (h : CRow w base out M) (k : ∀ e, e ≠ 49 → KeepT e base w w') : CRow w' base out M := by
  obtain ⟨vs, h1, h2, h3⟩ := h
  exact ⟨vs, h1, own_keepT h2 (k _ (by decide)), fun j hj => ⟨(h3 j hj).1.keepT (k _ (by decide)) (k _ (by decide)), own_keepT (h3 j hj).2 (k _ (by decide))⟩⟩
/-- A row of one's own, of entries whose facts are one's own. -/
def ERow (w : World) (base : Nat) (out : Value) (M : List EntX) : Prop :=
  ∃ es : List (EntX × Value), es.map Prod.fst = M ∧ w.ownsRow base 49 6 out M.length (es.flatMap ent6) ∧ ∀ x ∈ es, CRow w base x.2 x.1.2.2.2.2.2
theorem ERow.nil_ (w : World) (base : Nat) : ERow w base (.slice none 0 0) [] := ⟨[], rfl, World.ownsRow_nil _ _ _ _, fun x hx => by cases hx⟩
theorem ERow.form {w : World} {base : Nat} {v : Value} {M : List EntX} (h : ERow w base v M) : ∃ A c, v = .slice A M.length c := by
  obtain ⟨vs, -, h2, -⟩ := h
  exact own_formB h2
theorem ERow.less {w : World} {base base' : Nat} {out : Value} {M : List EntX} (h : ERow w base out M) (hb : base' ≤ base) : ERow w base' out M := by
  obtain ⟨es, h1, h2, h3⟩ := h
  exact ⟨es, h1, own_lessQ h2 hb, fun x hx => (h3 x hx).less hb⟩
theorem ERow.keepT {w w' : World} {base : Nat} {out : Value} {M : List EntX} (h : ERow w base out M) (k : ∀ e, KeepT e base w w') : ERow w' base out M := by
  obtain ⟨es, h1, h2, h3⟩ := h
  exact ⟨es, h1, own_keepT h2 (k _), fun x hx => (h3 x hx).keepT k⟩
theorem ERow.on {w w' : World} {base : Nat} {out : Value} {M : List EntX} (h : ERow w base out M) (hb : Below w.heap.size w w') : ERow w' base out M := h.keepT (fun _ => KeepT.of_below hb)
theorem ERow.set {w : World} {base : Nat} {v : Value} {M : List EntX} (h : ERow w base v M) {b i : Nat} (hb : b < base) (u : Value) : ERow (w.setCell ⟨b, i, none⟩ u) base v M := h.keepT (fun _ => keepT_set hb)
theorem ERow.app {wa w4 : World} {base : Nat} {out v' : Value} {M : List EntX} {es : List (EntX × Value)} {x : EntX × Value} (h1 : es.map Prod.fst = M) (h2 : wa.ownsRow base 49 6 out M.length (es.flatMap ent6)) (h3 : ∀ x ∈ es, CRow wa base x.2 x.1.2.2.2.2.2)
    (hx : CRow wa base x.2 x.1.2.2.2.2.2) (ho : w4.ownsRow base 49 6 v' (M.length + 1) (es.flatMap ent6 ++ ent6 x)) (hg : wa.grownBy w4 out.ownBlock) : ERow w4 base v' (M ++ [x.1]) := by
  have kk : ∀ e, e ≠ 49 → KeepT e base wa w4 := fun e he => KeepT.of_grown hg h2 he
  refine ⟨es ++ [x], by rw [List.map_append, h1]; rfl, by rw [List.length_append, List.flatMap_append]; simpa using ho, fun y hy => ?_⟩
  rcases List.mem_append.1 hy with hy | hy
  · exact (h3 y hy).keep4 kk
  · rw [List.mem_singleton] at hy
    subst hy
    exact hx.keep4 kk
def EntIn (e : EntX) : Prop := InI64 e.1 ∧ InI64 e.2.1 ∧ InI64 e.2.2.1 ∧ InI64 e.2.2.2.1 ∧ InI64 e.2.2.2.2.1 ∧ FactsIn e.2.2.2.2.2
theorem flat6_at : ∀ {es : List (EntX × Value)} {k j : Nat} (hk : k < es.length), j < 6 → (es.flatMap ent6)[k * 6 + j]? = (ent6 es[k])[j]? := by
  intro es
  induction es with
  | nil => intro k j hk; simp at hk
  | cons x es ih =>
    intro k j hk hj
    rw [List.flatMap_cons]
    cases k with
    | zero => rw [Nat.zero_mul, Nat.zero_add, List.getElem?_append_left (by show j < 6; exact hj)]; rfl
    | succ k =>
      rw [List.getElem?_append_right (by show 6 ≤ _; omega), show (k + 1) * 6 + j - (ent6 x).length = k * 6 + j by show _ - 6 = _; omega]
      exact ih (by simpa using hk) hj
theorem ERow.rows {w : World} {base : Nat} {out : Value} {M : List EntX} (h : ERow w base out M) (hs : ∀ e ∈ M, EntIn e) : rdSlice 6 rdEnt w w.heap.size [out] M := by
  obtain ⟨es, rfl, h2, h3⟩ := h
  rw [List.length_map] at h2
  obtain ⟨A, c, rfl, g1, g2, g3⟩ := own_cells2 h2
  refine ⟨A, c, by rw [List.length_map], by rw [List.length_map]; exact g1, g2, fun h0 => ?_⟩
  rw [List.length_map] at h0
  obtain ⟨g, rfl, -, hg, -, hcell⟩ := g3 h0
  refine ⟨g, 0, rfl, hg, fun i x hx => ?_⟩
  have hil : i < es.length := by have := (List.getElem?_eq_some_iff.1 hx).1; rwa [List.length_map] at this
  have hxe : es[i].1 = x := by rw [List.getElem?_map, List.getElem?_eq_getElem hil] at hx; injection hx
  subst hxe
  have hin := hs _ (List.mem_map.2 ⟨es[i], List.getElem_mem hil, rfl⟩)
  have hr := (h3 _ (List.getElem_mem hil)).rows hin.2.2.2.2.2
  refine ⟨ent6 es[i], rfl, fun j u hu => ?_, ?_⟩
  · have hj : j < 6 := (List.getElem?_eq_some_iff.1 hu).1
    rw [Nat.zero_add, hcell (i * 6 + j) (by omega), flat6_at hil hj, hu]
  · exact ⟨rfl, ⟨rfl, hin.1⟩, rfl, ⟨rfl, hin.2.1⟩, rfl, ⟨rfl, hin.2.2.1⟩, rfl, ⟨rfl, hin.2.2.2.1⟩, rfl, ⟨rfl, hin.2.2.2.2.1⟩, hr⟩
end Go.Proofs.YtkgifbnkkmeoiaaGreatDoor
