/- 3 texts of this claim, in build order. -/
import Derived.Test.YtclhnnidbhchnaaPhjfegcni
import Derived.Test.YtclhnnidbhchnaaPlknfmgpc
import Derived.Test.YtclhnnidbhchnaaPcmmjepfj
/- What the two Reads share: a cell that is built while a reader moves; the steps of what is read. -/
namespace Go.Proofs.Ytclhnnidbhchnaa
open Go.ChangeShapes Go.WideShapes Go.ChangeAt Go.RowKit Go.Maps
set_option linter.unusedVariables false
set_option linter.unusedSimpArgs false

/-- A cell that is built in block C: its lists are rows of its own behind C. -/
def CellB (w : World) (C : Nat) (n : Int) (s lo hi : List Int) : Prop := ∃ V X, Bld w (C + 1) C n V X ∧ X 1 = s ∧ X 2 = lo ∧ X 3 = hi
theorem CellB.start (w : World) (n : Int) {C : Nat} (hC : w.heap.size = C) : CellB (w.alloc (.cells #[.int .i64 n, .slice none 0 0, .slice none 0 0, .slice none 0 0] 25)) C n [] [] [] :=
  ⟨_, _, Bld.start hC, rfl, rfl, rfl⟩
theorem CellB.upd {w w' : World} {C p : Nat} {n : Int} {s lo hi : List Int} (h : CellB w C n s lo hi) (hu : Upd p w w') (hp : p < C) : CellB w' C n s lo hi := by
  obtain ⟨V, X, h1, h2⟩ := h
  exact ⟨V, X, h1.upd hu (by omega) (by omega), h2⟩
theorem CellB.kept {w w' : World} {C : Nat} {n : Int} {s lo hi : List Int} (h : CellB w C n s lo hi) (hb : Below w.heap.size w w') : CellB w' C n s lo hi := by
  obtain ⟨V, X, h1, h2⟩ := h
  exact ⟨V, X, h1.kept hb, h2⟩
theorem CellB.lt {w : World} {C : Nat} {n : Int} {s lo hi : List Int} (h : CellB w C n s lo hi) : C < w.heap.size := by
  obtain ⟨V, X, h1, h2⟩ := h
  exact h1.lt
def fld (s lo hi : List Int) (q : Nat) : List Int := if q = 1 then s else if q = 2 then lo else hi
theorem fld_eq {X : Nat → List Int} {s lo hi : List Int} (h1 : X 1 = s) (h2 : X 2 = lo) (h3 : X 3 = hi) (q : Nat) (a : 1 ≤ q) (b : q ≤ 3) : X q = fld s lo hi q := by
  obtain rfl | rfl | rfl := cases3 a b
  · exact h1
  · exact h2
  · exact h3
theorem CellB.get {w : World} {C : Nat} {n : Int} {s lo hi : List Int} (h : CellB w C n s lo hi) (q : Nat) (a : 1 ≤ q) (b : q ≤ 3) :
    ∃ A c, w.cell? ⟨C, q, none⟩ = some (.slice A (fld s lo hi q).length c) ∧ w.ownsRow (C + 1) 3 1 (.slice A (fld s lo hi q).length c) (fld s lo hi q).length (ivals (fld s lo hi q)) := by
  obtain ⟨V, X, h1, e1, e2, e3⟩ := h
  have e := fld_eq e1 e2 e3 q a b
  have ho := h1.own q a b
  have hc := h1.cj q a b
  rw [e] at ho
  obtain ⟨A, c, hv, -⟩ := own_cells ho
  rw [hv] at ho hc
  exact ⟨A, c, hc, ho⟩
theorem CellB.cells {w : World} {C : Nat} {n : Int} {s lo hi : List Int} (h : CellB w C n s lo hi) :
    ∃ A1 c1 A2 c2 A3 c3, w.cell? ⟨C, 0, none⟩ = some (.int .i64 n) ∧ w.cell? ⟨C, 1, none⟩ = some (.slice A1 s.length c1) ∧ w.cell? ⟨C, 2, none⟩ = some (.slice A2 lo.length c2) ∧ w.cell? ⟨C, 3, none⟩ = some (.slice A3 hi.length c3) ∧
      OwnC w (C + 1) (.agg #[.int .i64 n, .slice A1 s.length c1, .slice A2 lo.length c2, .slice A3 hi.length c3]) ⟨n, s, lo, hi⟩ := by
  obtain ⟨V, X, h1, rfl, rfl, rfl⟩ := h
  have ho := h1.ownC
  obtain ⟨A1, c1, v1, -⟩ := own_cells (h1.own 1 (by omega) (by omega))
  obtain ⟨A2, c2, v2, -⟩ := own_cells (h1.own 2 (by omega) (by omega))
  obtain ⟨A3, c3, v3, -⟩ := own_cells (h1.own 3 (by omega) (by omega))
  have k1 := h1.cj 1 (by omega) (by omega)
  have k2 := h1.cj 2 (by omega) (by omega)
  have k3 := h1.cj 3 (by omega) (by omega)
  rw [v1, v2, v3] at ho
  rw [v1] at k1
  rw [v2] at k2
  rw [v3] at k3
  exact ⟨A1, c1, A2, c2, A3, c3, h1.c0, k1, k2, k3, ho⟩
/-- A number is laid behind a list. -/
theorem CellB.app {w5 w6 : World} {C g cap k : Nat} {n z : Int} {s lo hi : List Int} (h : CellB w5 C n s lo hi) (q : Nat) (a : 1 ≤ q) (b : q ≤ 3) {A : Option Addr} {c : Nat} (hk : (fld s lo hi q).length = k) (hv : w5.cell? ⟨C, q, none⟩ = some (.slice A k c))
    (ho : w6.ownsRow (C + 1) 3 1 (.slice (some ⟨g, 0, none⟩) (k + 1) cap) (k + 1) (ivals (fld s lo hi q) ++ [.int .i64 z])) (hg : (w5.alloc (.cells #[.int .i64 z] 3)).grownBy w6 (Value.slice A k c).ownBlock) (hat : (Value.slice A k c).ownBlock = some g ∨ g = w5.heap.size + 1) :
    w6.cell? ⟨C, q, none⟩ = some (.slice A k c) ∧ w6.frozen? ⟨C, q, none⟩ = false ∧ Below C w5 (w6.setCell ⟨C, q, none⟩ (.slice (some ⟨g, 0, none⟩) (k + 1) cap)) ∧
      ∃ V X, Bld (w6.setCell ⟨C, q, none⟩ (.slice (some ⟨g, 0, none⟩) (k + 1) cap)) (C + 1) C n V X ∧ X q = fld s lo hi q ++ [z] ∧ ∀ i, 1 ≤ i → i ≤ 3 → i ≠ q → X i = fld s lo hi i := by
  obtain ⟨V, X, h1, e1, e2, e3⟩ := h
  have e := fld_eq e1 e2 e3
  have hV : V q = .slice A k c := by
    have := h1.cj q a b
    rw [hv] at this
    exact (Option.some.inj this).symm
  obtain ⟨m1, m2, m3, m4⟩ := h1.step q a b (bl1 w5 (.cells #[.int .i64 z] 3)) (news := [z]) (m := k + 1) (v' := .slice (some ⟨g, 0, none⟩) (k + 1) cap) (w1 := w6) (by rw [e q a b]; exact ho) (by rw [hV]; exact hg) (by
    rw [hV]
    rcases hat with hat | hat
    · exact .inl (by rw [hat]; rfl)
    · exact .inr (by rw [hat, World.size_alloc]; rfl))
  rw [hV] at m1
  refine ⟨m1, m2, m4 C w5 (Nat.le_refl _) (by omega) (Below.refl _ _), _, _, m3, ?_, fun i i1 i3 hne => ?_⟩
  · rw [upd_same, e q a b]
  · rw [upd_ne _ _ hne, e i i1 i3]
theorem CellB.app1 {w5 w6 : World} {C g cap k : Nat} {n z : Int} {s lo hi : List Int} (h : CellB w5 C n s lo hi) {A : Option Addr} {c : Nat} (hk : s.length = k) (hv : w5.cell? ⟨C, 1, none⟩ = some (.slice A k c))
    (ho : w6.ownsRow (C + 1) 3 1 (.slice (some ⟨g, 0, none⟩) (k + 1) cap) (k + 1) (ivals s ++ [.int .i64 z])) (hg : (w5.alloc (.cells #[.int .i64 z] 3)).grownBy w6 (Value.slice A k c).ownBlock) (hat : (Value.slice A k c).ownBlock = some g ∨ g = w5.heap.size + 1) :
    w6.cell? ⟨C, 1, none⟩ = some (.slice A k c) ∧ w6.frozen? ⟨C, 1, none⟩ = false ∧ Below C w5 (w6.setCell ⟨C, 1, none⟩ (.slice (some ⟨g, 0, none⟩) (k + 1) cap)) ∧ CellB (w6.setCell ⟨C, 1, none⟩ (.slice (some ⟨g, 0, none⟩) (k + 1) cap)) C n (s ++ [z]) lo hi := by
  obtain ⟨m1, m2, m3, V, X, m4, m5, m6⟩ := h.app 1 (by omega) (by omega) hk hv ho hg hat
  exact ⟨m1, m2, m3, V, X, m4, m5, m6 2 (by omega) (by omega) (by omega), m6 3 (by omega) (by omega) (by omega)⟩
theorem CellB.app2 {w5 w6 : World} {C g cap k : Nat} {n z : Int} {s lo hi : List Int} (h : CellB w5 C n s lo hi) {A : Option Addr} {c : Nat} (hk : lo.length = k) (hv : w5.cell? ⟨C, 2, none⟩ = some (.slice A k c))
    (ho : w6.ownsRow (C + 1) 3 1 (.slice (some ⟨g, 0, none⟩) (k + 1) cap) (k + 1) (ivals lo ++ [.int .i64 z])) (hg : (w5.alloc (.cells #[.int .i64 z] 3)).grownBy w6 (Value.slice A k c).ownBlock) (hat : (Value.slice A k c).ownBlock = some g ∨ g = w5.heap.size + 1) :
    w6.cell? ⟨C, 2, none⟩ = some (.slice A k c) ∧ w6.frozen? ⟨C, 2, none⟩ = false ∧ Below C w5 (w6.setCell ⟨C, 2, none⟩ (.slice (some ⟨g, 0, none⟩) (k + 1) cap)) ∧ CellB (w6.setCell ⟨C, 2, none⟩ (.slice (some ⟨g, 0, none⟩) (k + 1) cap)) C n s (lo ++ [z]) hi := by
  obtain ⟨m1, m2, m3, V, X, m4, m5, m6⟩ := h.app 2 (by omega) (by omega) hk hv ho hg hat
  exact ⟨m1, m2, m3, V, X, m4, m6 1 (by omega) (by omega) (by omega), m5, m6 3 (by omega) (by omega) (by omega)⟩
theorem CellB.app3 {w5 w6 : World} {C g cap k : Nat} {n z : Int} {s lo hi : List Int} (h : CellB w5 C n s lo hi) {A : Option Addr} {c : Nat} (hk : hi.length = k) (hv : w5.cell? ⟨C, 3, none⟩ = some (.slice A k c))
    (ho : w6.ownsRow (C + 1) 3 1 (.slice (some ⟨g, 0, none⟩) (k + 1) cap) (k + 1) (ivals hi ++ [.int .i64 z])) (hg : (w5.alloc (.cells #[.int .i64 z] 3)).grownBy w6 (Value.slice A k c).ownBlock) (hat : (Value.slice A k c).ownBlock = some g ∨ g = w5.heap.size + 1) :
    w6.cell? ⟨C, 3, none⟩ = some (.slice A k c) ∧ w6.frozen? ⟨C, 3, none⟩ = false ∧ Below C w5 (w6.setCell ⟨C, 3, none⟩ (.slice (some ⟨g, 0, none⟩) (k + 1) cap)) ∧ CellB (w6.setCell ⟨C, 3, none⟩ (.slice (some ⟨g, 0, none⟩) (k + 1) cap)) C n s lo (hi ++ [z]) := by
  obtain ⟨m1, m2, m3, V, X, m4, m5, m6⟩ := h.app 3 (by omega) (by omega) hk hv ho hg hat
  exact ⟨m1, m2, m3, V, X, m4, m6 1 (by omega) (by omega) (by omega), m6 2 (by omega) (by omega) (by omega), m5⟩
theorem Upd.far {p C : Nat} {a b c : World} (h : Upd p a b) (k : Below C b c) (hC : a.heap.size ≤ C) : Upd p a c := Upd.over h k hC
theorem CubW.updP {w w' : World} {D : Nat → Prop} {p m W M q : Nat} {L : List KC} (h : CubW w D p m W M L) (hu : Upd q w w') (hq : ∀ k, D k → k ≠ q) : CubW w' D p m W M L :=
  h.kept (fun k hk => hu.block k (h.2.2.2.1 k hk) (fun e => by injection e with e; exact hq k hk e)) hu.size
theorem rInt_nat (l : List UInt8) (a : Nat) (e most : Int) (ha : a ≤ l.length) (h0 : 0 ≤ most) : ∃ (u a' : Nat) (e' : Int), rInt l a e 0 most = ((u : Int), a', e') ∧ (u : Int) ≤ most ∧ a' ≤ l.length ∧ (e' ≠ 0 → u = 0) := by
  have hb := rInt_bnd l a e 0 most ha (by omega) h0
  have hl := rInt_le l a e 0 most ha
  have hal := rInt_all l a e 0 most ha
  generalize rInt l a e 0 most = r at *
  obtain ⟨z, a', e'⟩ := r
  simp only at hb hl hal
  obtain ⟨u, rfl⟩ := Int.eq_ofNat_of_zero_le hb.1
  refine ⟨u, a', e', rfl, hb.2, hl.2, fun h => ?_⟩
  rcases hal with h1 | h1
  · have := h1.2.1; omega
  · exact absurd h1.2.1 h
theorem BoxN.other {w wq wr : World} {p N q : Nat} {cs : List Value} (h : BoxN w wq p N cs) (hu : Upd q wq wr) (hq : w.heap.size ≤ q) (hne : N ≠ q) : BoxN w wr p N cs :=
  ⟨Nat.lt_of_lt_of_le h.lt hu.size, h.ge, ⟨hu.os.trans h.upd.os, hu.tape.trans h.upd.tape, hu.output.trans h.upd.output, Nat.le_trans h.upd.size hu.size, fun g hg hn => (hu.block g (Nat.lt_of_lt_of_le hg h.upd.size) (fun e => by injection e with e; omega)).trans (h.upd.block g hg hn)⟩,
    fun i v hv => ⟨hu.cellAt h.lt hne (h.c i v hv).1, hu.frozenAt h.lt hne (h.c i v hv).2⟩⟩
/-- A cell that is being read. -/
def MeS (l : List UInt8) (B p : Nat) (wj : World) (n : Int) (s lo hi : List Int) (a : Nat) (e : Int) (wx : World) : Prop := CellB wx wj.heap.size n s lo hi ∧ RW wx B p l a e ∧ Upd p wj wx
/-- The loop over a cell's measures. -/
def MeRel (l : List UInt8) (B p M : Nat) (wj : World) (s0 : CellM × Nat × Int) (n : Int) (i : Value) (wq : World) : Prop :=
  ∃ (j : Nat) (s lo hi : List Int) (a : Nat) (e : Int), j ≤ M ∧ i = .int .i64 j ∧ s.length = j ∧ lo.length = j ∧ hi.length = j ∧ measR l j s0 = (⟨n, s, lo, hi⟩, a, e) ∧ CellB wq wj.heap.size n s lo hi ∧ RW wq B p l a e ∧ Upd p wj wq
/-! ### The steps of what is read -/
theorem codes_step {l : List UInt8} {j a0 a a1 : Nat} {e0 e e1 z : Int} {K : List Int} (h : codesR l j a0 e0 = (K, a, e)) (r : rInt l a e 0 40 = (z, a1, e1)) : codesR l (j + 1) a0 e0 = (K ++ [z], a1, e1) := by
  unfold codesR
  rw [h]
  simp only [r]
theorem meas_step {l : List UInt8} {j a a1 a2 a3 : Nat} {s0 : CellM × Nat × Int} {n e z1 e1 z2 e2 z3 e3 : Int} {s lo hi : List Int} (h : measR l j s0 = (⟨n, s, lo, hi⟩, a, e)) (r1 : rInt l a e (-4611686018427387904) 4611686018427387904 = (z1, a1, e1))
    (r2 : rInt l a1 e1 (-2305843009213693952) 2305843009213693952 = (z2, a2, e2)) (r3 : rInt l a2 e2 (-2305843009213693952) 2305843009213693952 = (z3, a3, e3)) : measR l (j + 1) s0 = (⟨n, s ++ [z1], lo ++ [z2], hi ++ [z3]⟩, a3, e3) := by
  show meas1 l (measR l j s0) = _
  rw [h]
  unfold meas1
  simp only [r1, r2, r3]
theorem ent_of {l : List UInt8} {W M a a1 a2 a3 : Nat} {e e1 e2 e3 n : Int} {K : List Int} {c : CellM} (h1 : codesR l W a e = (K, a1, e1)) (h2 : rInt l a1 e1 1 1099511627776 = (n, a2, e2)) (h3 : measR l M (⟨n, [], [], []⟩, a2, e2) = (c, a3, e3)) : entR l W M a e = ((K, c), a3, e3) := by
  unfold entR
  simp only [h1, h2, h3]
def badE (e : Int) : Int := if e = 0 then 2 else e
/-- The error behind an entry. -/
def stE (L : List KC) (K : List Int) (c : CellM) (e : Int) : Int := if mayC c = true ∧ risesB L K = true then e else badE e
theorem stepC_E {l : List UInt8} {W M a a' : Nat} {e : Int} {L : List KC} {K : List Int} {c : CellM} (h : entR l W M a 0 = ((K, c), a', e)) : stepC l W M (L, a, 0) = if stE L K c e = 0 then (L ++ [(K, c)], a', 0) else (L, a', stE L K c e) := by
  unfold stepC stE badE
  simp only [h]
  by_cases he : e = 0
  · subst he
    rw [if_neg (by simp)]
    by_cases hm : mayC c = true ∧ risesB L K = true
    · rw [if_pos hm, if_pos hm, if_pos rfl]
    · rw [if_neg hm, if_neg hm, if_pos rfl, if_neg (by omega)]
  · rw [if_pos he]
    by_cases hm : mayC c = true ∧ risesB L K = true
    · rw [if_pos hm, if_neg he]
    · rw [if_neg hm, if_neg he, if_neg he]
theorem stE_zero {L : List KC} {K : List Int} {c : CellM} {e : Int} (h : stE L K c e = 0) : mayC c = true ∧ risesB L K = true ∧ e = 0 := by
  unfold stE badE at h
  split at h
  · rename_i hm; exact ⟨hm.1, hm.2, h⟩
  · split at h
    · omega
    · rename_i h1 h2; exact absurd h h2
/-! ### Keys as three codes -/
theorem cmp_pos : ∀ {a b : List Int}, (decide (0 < cmpL a b)) = lexB b a
  | [], [] => rfl
  | [], _ :: _ => rfl
  | _ :: _, [] => rfl
  | a :: ar, b :: br => by
    unfold cmpL lexB
    by_cases h : a = b
    · subst h; rw [if_pos rfl, if_pos rfl]; exact cmp_pos
    · rw [if_neg h, if_neg (fun e => h e.symm)]
      unfold cmpI
      by_cases h1 : a < b
      · rw [if_pos h1, decide_eq_false (show ¬ b < a by omega)]; rfl
      · rw [if_neg h1, if_pos (by omega), decide_eq_true (show b < a by omega)]; rfl
def lastT (L : List KC) : T3 := if L.isEmpty then (-1, 0, 0) else t3 (L.getD (L.length - 1) zK).1
theorem rises_cmp {W M : Nat} {L : List KC} {k : List Int} (hs : OkL W M L) (hk : okK W k) (hW : W ≤ 3) : (decide (cmp3 (t3 k) (lastT L) ≤ 0)) = !risesB L k := by
  have hp := cmp_pos (a := l3 (t3 k)) (b := l3 (lastT L))
  have e : (decide (cmp3 (t3 k) (lastT L) ≤ 0)) = !decide (0 < cmp3 (t3 k) (lastT L)) := by
    by_cases h : cmp3 (t3 k) (lastT L) ≤ 0
    · rw [decide_eq_true h, decide_eq_false (show ¬ 0 < cmp3 (t3 k) (lastT L) by omega)]; rfl
    · rw [decide_eq_false h, decide_eq_true (show 0 < cmp3 (t3 k) (lastT L) by omega)]; rfl
  rw [e]
  unfold cmp3
  rw [hp]
  congr 1
  unfold risesB lastT
  rcases List.eq_nil_or_concat L with rfl | ⟨Q, u, hKu⟩
  · have h0 : 0 ≤ k.getD 0 0 := by
      cases k with
      | nil => simp
      | cons x k => exact (hk.2 x List.mem_cons_self).1
    simp only [List.isEmpty_nil, if_true, Bool.true_or]
    unfold l3 t3 lexB
    simp only
    rw [if_neg (by omega), decide_eq_true (by omega)]
  · rw [List.concat_eq_append] at hKu
    subst hKu
    have hu : ((Q ++ [u]).getD ((Q ++ [u]).length - 1) zK) = u := by
      rw [List.length_append, List.length_singleton, Nat.add_sub_cancel, List.getD_eq_getElem?_getD, List.getElem?_append_right (Nat.le_refl _)]; simp
    rw [hu]
    have hne : (Q ++ [u]).isEmpty = false := by simp
    rw [hne]
    simp only [Bool.false_eq_true, if_false, Bool.false_or]
    exact lex_t3 (hs.key u (by simp)) hk hW
theorem lastT_snoc (L : List KC) (x : KC) : lastT (L ++ [x]) = t3 x.1 := by
  unfold lastT
  rw [List.length_append, List.length_singleton, Nat.add_sub_cancel, List.getD_eq_getElem?_getD, List.getElem?_append_right (Nat.le_refl _)]
  simp
theorem set_last {W M : Nat} {L : List KC} {k : List Int} {c : CellM} (h : OkL W M L) (hr : risesB L k = true) : setK k c L = L ++ [(k, c)] := by
  refine setK_last (fun x hx => ?_)
  have := rises_sort (x := (k, c)) h.sort hr
  exact (List.pairwise_append.1 this).2.2 x hx (k, c) (List.mem_singleton.2 rfl)
/-- The cells of a key. -/
def k3 (x : T3) : List Value := [.int .i64 x.1, .int .i64 x.2.1, .int .i64 x.2.2]
theorem k3_snoc {K : List Int} (z : Int) (h : K.length < 3) : k3 (t3 (K ++ [z])) = (k3 (t3 K)).set K.length (.int .i64 z) := by
  rcases K with _ | ⟨a, _ | ⟨b, _ | ⟨c, K⟩⟩⟩
  · simp [k3, t3]
  · simp [k3, t3]
  · simp [k3, t3]
  · simp at h; omega
/-- A cell of the call's own is stored in a cuboid whose blocks lie ahead of it. -/
theorem CubW.store2 {W' : World} {D : Nat → Prop} {p m W M H : Nat} {L : List KC} {k : List Int} {v : Value} {c : CellM} (h : CubW W' D p m W M L) (hs : OkL W M L) (hW : W ≤ 3) (hL : L.length ≤ 70000) (hk : okK W k) (ho : OwnC W' H v c) (hH : ∀ i, D i → i < H) :
    ∃ w6, (Instr.mapUpdate 92 (.map (some m)) (keyT k) v).run Try.prog W' = .ok () w6 ∧ CubW w6 (fun i => D i ∨ (H ≤ i ∧ i < W'.heap.size)) p m W M (setK k c L) ∧ Upd m W' w6 := by
  obtain ⟨a1, a2, a3, a4, a5, a6, a7, a8⟩ := h
  have hml := a4 m a2
  have hpl := a4 p a1
  have hmH := hH m a2
  have hmk := a8.mono (E' := fun i => (D i ∨ (H ≤ i ∧ i < W'.heap.size)) ∧ i ≠ m) (fun i hi => ⟨.inl hi.1, hi.2⟩)
  have hce := (CellE.of_own ho).mono (E' := fun i => (D i ∨ (H ≤ i ∧ i < W'.heap.size)) ∧ i ≠ m) (fun i hi => ⟨.inr hi, by omega⟩)
  obtain ⟨w6, hrun, hm6, hu, hz, hf⟩ := hmk.store (fun x hx => hs.key x hx) hs.sort hW (by omega) (fun e => e.2 rfl) hk hce
  refine ⟨w6, hrun, ⟨.inl a1, .inl a2, a3, fun i hi => ?_, hu.cellAt (by omega) a3 a5, hu.cellAt (by omega) a3 a6, hu.cellAt (by omega) a3 a7, hm6⟩, hu⟩
  rw [hz]
  rcases hi with hi | hi
  · exact a4 i hi
  · exact hi.2
end Go.Proofs.Ytclhnnidbhchnaa
/- The reference's Reader.Int. -/
namespace Go.Proofs.Ytclhnnidbhchnaa
open Go.ChangeShapes Go.WideShapes Go.ChangeAt Go.RowKit
set_option linter.unusedVariables false

set_option maxRecDepth 100000 in
set_option maxHeartbeats 400000 in
theorem refReadInt_any (B p : Nat) (l : List UInt8) (a : Nat) (e least most : Int) (w : World) (h : RW w B p l a e) :
    Calls Try.prog 69 #[.pointer (some ⟨p, 0, none⟩), .int .i64 least, .int .i64 most] w (RIntPost (rInt l a e least most) B p l w) := by
  have h' := h
  have hlt := h.lt
  obtain ⟨h1, h2, h3, h4, s, h5, h6, h7, h8⟩ := h
  have f1 := h4 1 (by omega)
  have f2 := h4 2 (by omega)
  obtain ⟨A, c, rfl, hc1, hc2, hA⟩ := h8
  simp only [bvals_len] at hc1 h5 ⊢
  unfold maxLen at hc2
  have HW := hid h'; have HA := hid hA; have H4 := hid h4
  clear h' hA h4
  go_enter Try.func69, Try.ntmps69
  by_cases he : e = 0
  · have t1 : (e != 0) = false := by simp [he]
    have HE := hid he; clear he
    have hi : ∀ w' : World, (∃ n, w' = w.drewN n) → ∀ A' : Option Addr, (a < l.length → ∀ b off, A = some ⟨b, off, none⟩ → A' = some ⟨b, off + a, none⟩) →
        Calls Try.prog 96 #[.slice A' (l.length - a) (c - a)] w' (fun e w'' => e = .returned (.tuple #[.int .i64 (getInt (l.drop a)).1, .int .i64 (getInt (l.drop a)).2.1, .int .i64 (getInt (l.drop a)).2.2]) ∧ w'' = w') := by
      intro w' hw A' hA'
      refine (refGetInt_any _ (l.drop a) w' (sl_drop HA.out hA' (by omega) (by rw [maxLen]; omega) (by rw [Qu.size hw]; omega) hw) (by rw [List.length_drop]; omega)).mono fun e w'' h => ⟨h.1, h.2.symm⟩
    have hs := getInt_says (l.drop a)
    have hAA : (∃ b off, A = some ⟨b, off, none⟩) ∨ (¬ a < l.length ∧ A = none) ∨ (¬ a < l.length ∧ ∃ x, A = some x) := by
      by_cases h0 : 0 < l.length
      · obtain ⟨b, off, h, -, -⟩ := HA.out (by rw [bvals_len]; exact h0)
        exact .inl ⟨b, off, h⟩
      · cases A with
        | none => exact .inr (.inl ⟨by omega, rfl⟩)
        | some x => exact .inr (.inr ⟨by omega, x, rfl⟩)
    have hE : ∀ k : Int, k ≠ 0 → getInt (l.drop a) = (0, 0, k) → rInt l a e least most = (0, a, k) := fun k hk h => by
      unfold rInt; rw [if_neg (by simp [HE.out]), h, if_pos hk]
    have hO : ∀ (z : Int) (n : Nat), getInt (l.drop a) = (z, (n : Int), 0) → rInt l a e least most = if z < least ∨ most < z then (0, a, 2) else (z, a + n, 0) := fun z n h => by
      unfold rInt; rw [if_neg (by simp [HE.out]), h, if_neg (by simp)]; simp
    have HS := hid hs; have HHE := hid hE; have HHO := hid hO
    clear hs hE hO
    have hres : (∃ k : Int, k ≠ 0 ∧ (k == 0) = false ∧ (k != 0) = true ∧ getInt (l.drop a) = (0, 0, k)) ∨ ∃ (n : Nat) (z : Int), a + n ≤ l.length ∧ getInt (l.drop a) = (z, (n : Int), 0) := by
      rcases HS.out with (h | h) | ⟨n, z, h1, h2, h3⟩
      · exact .inl ⟨2, by decide, rfl, rfl, h⟩
      · exact .inl ⟨3, by decide, rfl, rfl, h⟩
      · rw [List.length_drop] at h2
        exact .inr ⟨n, z, by omega, h3⟩
    have HAA := hid hAA; clear hAA
    rcases hres with ⟨k, hk0, hk1, hk2, hk⟩ | ⟨n, z, hn, hk⟩
    · have hr := HHE.out k hk0 hk
      simp only [hk] at hi
      have HI := hid hi; have HR := hid hr
      clear hi hr hk
      rcases HAA.out with ⟨b, off, rfl⟩ | ⟨h0, rfl⟩ | ⟨h0, x, rfl⟩
      all_goals
        go_wp2
        go_quiet ((go_at_call 96; exact Calls.quiet_of_same (HI.out _ ⟨_, rfl⟩ _ (fun h b' off' hb' => by first | (exfalso; omega) | (injection hb' with hb'; injection hb' with e1 e2; subst e1; subst e2; rw [if_neg (by omega)])))))
        go_wp2
        all_goals go_ret
        all_goals
          exact ⟨by rw [HR.out]; rfl, by rw [HR.out]; exact (HW.out.qu ⟨_, rfl⟩).setE k, ((Upd.refl p w).qu ⟨_, rfl⟩).trans (Upd.setCell _ _ _ _)⟩
    · have hr := HHO.out z n hk
      simp only [hk] at hi
      have HI := hid hi
      clear hi hk
      have hin : ((least ≤ z) ∧ (z ≤ most)) ∨ z < least ∨ (least ≤ z ∧ most < z) := by omega
      have HN := hid hin; clear hin
      rcases HAA.out with ⟨b, off, rfl⟩ | ⟨h0, rfl⟩ | ⟨h0, x, rfl⟩
      all_goals
        rcases HN.out with ⟨hm1, hm2⟩ | hm1 | ⟨hm1, hm2⟩
        · rw [if_neg (by omega)] at hr
          have HR := hid hr; clear hr
          go_wp2
          go_quiet ((go_at_call 96; exact Calls.quiet_of_same (HI.out _ ⟨_, rfl⟩ _ (fun h b' off' hb' => by first | (exfalso; omega) | (injection hb' with hb'; injection hb' with e1 e2; subst e1; subst e2; rw [if_neg (by omega)])))))
          go_wp2
          all_goals go_ret
          all_goals
            exact ⟨by rw [HR.out]; rfl, by rw [HR.out]; exact (HE.out ▸ (HW.out.qu ⟨_, rfl⟩).setA hn), ((Upd.refl p w).qu ⟨_, rfl⟩).trans (Upd.setCell _ _ _ _)⟩
        all_goals
          rw [if_pos (by omega)] at hr
          have HR := hid hr; clear hr
          go_wp2
          go_quiet ((go_at_call 96; exact Calls.quiet_of_same (HI.out _ ⟨_, rfl⟩ _ (fun h b' off' hb' => by first | (exfalso; omega) | (injection hb' with hb'; injection hb' with e1 e2; subst e1; subst e2; rw [if_neg (by omega)])))))
          go_wp2
          all_goals go_ret
          all_goals
            exact ⟨by rw [HR.out]; rfl, by rw [HR.out]; exact (HW.out.qu ⟨_, rfl⟩).setE 2, ((Upd.refl p w).qu ⟨_, rfl⟩).trans (Upd.setCell _ _ _ _)⟩
  · have t1 : (e != 0) = true := by simp [he]
    have hr : rInt l a e least most = (0, a, e) := by unfold rInt; rw [if_pos he]
    have HR := hid hr; clear he hr
    go_wp2
    go_ret
    exact ⟨by rw [HR.out]; rfl, by rw [HR.out]; exact HW.out, Upd.refl _ _⟩
end Go.Proofs.Ytclhnnidbhchnaa
/- The small methods of the readers. -/
namespace Go.Proofs.Ytclhnnidbhchnaa
open Go.ChangeShapes Go.WideShapes Go.ChangeAt Go.RowKit
set_option linter.unusedVariables false

theorem readAt_any (B p : Nat) (l : List UInt8) (a : Nat) (e : Int) (w : World) (h : RW w B p l a e) :
    Calls Try.prog 35 #[.pointer (some ⟨p, 0, none⟩)] w (Stays (.int .i64 a) w) := by
  obtain ⟨h1, h2, h3, h4, s, h5, h6, h7, h8⟩ := h
  clear h8
  go_enter Try.func35, Try.ntmps35
  go_wp2
  go_ret
  exact ⟨rfl, Qu.refl _⟩
theorem readFailed_any (B p : Nat) (l : List UInt8) (a : Nat) (e : Int) (w : World) (h : RW w B p l a e) :
    Calls Try.prog 68 #[.pointer (some ⟨p, 0, none⟩)] w (Stays (.bool (e != 0)) w) := by
  obtain ⟨h1, h2, h3, h4, s, h5, h6, h7, h8⟩ := h
  clear h8
  go_enter Try.func68, Try.ntmps68
  go_wp2
  go_ret
  exact ⟨rfl, Qu.refl _⟩
def BadPost (B p : Nat) (l : List UInt8) (a : Nat) (e : Int) (w : World) (en : Ending) (w' : World) : Prop := en = .returned (.tuple #[]) ∧ RW w' B p l a (if e = 0 then 2 else e) ∧ Upd p w w'
theorem readBad_any (B p : Nat) (l : List UInt8) (a : Nat) (e : Int) (w : World) (h : RW w B p l a e) :
    Calls Try.prog 67 #[.pointer (some ⟨p, 0, none⟩)] w (BadPost B p l a e w) := by
  have h' := h
  obtain ⟨h1, h2, h3, h4, s, h5, h6, h7, h8⟩ := h
  have f2 := h4 2 (by omega)
  have HW := hid h'; clear h8 h4 h'
  go_enter Try.func67, Try.ntmps67
  by_cases he : e = 0
  · have t1 : (e == 0) = true := by simp [he]
    have hi : (if e = 0 then (2 : Int) else e) = 2 := if_pos he
    have HI := hid hi; clear he hi
    go_wp2
    refine bodyPost_ret (v := .tuple #[]) (by simp [results, Try.results67, go_sem]) rfl ?_
    exact ⟨rfl, by rw [HI.out]; exact HW.out.setE 2, Upd.setCell _ _ _ _⟩
  · have t1 : (e == 0) = false := by simp [he]
    have hi : (if e = 0 then (2 : Int) else e) = e := if_neg he
    have HI := hid hi; clear he hi
    go_wp2
    refine bodyPost_ret (v := .tuple #[]) (by simp [results, Try.results67, go_sem]) rfl ?_
    exact ⟨rfl, by rw [HI.out]; exact HW.out, Upd.refl _ _⟩
theorem refReadBad_any (B p : Nat) (l : List UInt8) (a : Nat) (e : Int) (w : World) (h : RW w B p l a e) :
    Calls Try.prog 71 #[.pointer (some ⟨p, 0, none⟩)] w (BadPost B p l a e w) := by
  have h' := h
  obtain ⟨h1, h2, h3, h4, s, h5, h6, h7, h8⟩ := h
  have f2 := h4 2 (by omega)
  have HW := hid h'; clear h8 h4 h'
  go_enter Try.func71, Try.ntmps71
  by_cases he : e = 0
  · have t1 : (e == 0) = true := by simp [he]
    have hi : (if e = 0 then (2 : Int) else e) = 2 := if_pos he
    have HI := hid hi; clear he hi
    go_wp2
    refine bodyPost_ret (v := .tuple #[]) (by simp [results, Try.results71, go_sem]) rfl ?_
    exact ⟨rfl, by rw [HI.out]; exact HW.out.setE 2, Upd.setCell _ _ _ _⟩
  · have t1 : (e == 0) = false := by simp [he]
    have hi : (if e = 0 then (2 : Int) else e) = e := if_neg he
    have HI := hid hi; clear he hi
    go_wp2
    refine bodyPost_ret (v := .tuple #[]) (by simp [results, Try.results71, go_sem]) rfl ?_
    exact ⟨rfl, by rw [HI.out]; exact HW.out, Upd.refl _ _⟩
/-- What End answers. -/
def rEnd (l : List UInt8) (a : Nat) (e : Int) : Int := if e ≠ 0 then e else if a < l.length then 2 else 0
theorem readEnd_any (B p : Nat) (l : List UInt8) (a : Nat) (e : Int) (w : World) (h : RW w B p l a e) :
    Calls Try.prog 33 #[.pointer (some ⟨p, 0, none⟩)] w (Stays (.int .i64 (rEnd l a e)) w) := by
  obtain ⟨h1, h2, h3, h4, s, h5, h6, h7, A, c, rfl, hc1, hc2, h8⟩ := h
  simp only [bvals_len] at h5
  clear h8 h4 hc1 hc2
  go_enter Try.func33, Try.ntmps33
  by_cases he : e = 0
  · subst he
    by_cases ha : a < l.length
    · have hr : rEnd l a 0 = 2 := by unfold rEnd; simp [ha]
      have HR := hid hr; clear hr
      go_wp2
      go_quiet (fail)
      go_wp2
      go_ret
      exact ⟨by rw [HR.out]; rfl, _, rfl⟩
    · have hr : rEnd l a 0 = 0 := by unfold rEnd; simp [ha]
      have HR := hid hr; clear hr
      go_wp2
      go_quiet (fail)
      go_wp2
      go_ret
      exact ⟨by rw [HR.out]; rfl, _, rfl⟩
  · have t1 : (e == 0) = false := by simp [he]
    have hr : rEnd l a e = e := by unfold rEnd; simp [he]
    have HR := hid hr; clear hr he
    go_wp2
    go_quiet (fail)
    go_wp2
    go_ret
    exact ⟨by rw [HR.out]; rfl, _, rfl⟩
theorem refReadEnd_any (B p : Nat) (l : List UInt8) (a : Nat) (e : Int) (w : World) (h : RW w B p l a e) :
    Calls Try.prog 36 #[.pointer (some ⟨p, 0, none⟩)] w (Stays (.int .i64 (rEnd l a e)) w) := by
  obtain ⟨h1, h2, h3, h4, s, h5, h6, h7, A, c, rfl, hc1, hc2, h8⟩ := h
  simp only [bvals_len] at h5
  clear h8 h4 hc1 hc2
  go_enter Try.func36, Try.ntmps36
  by_cases he : e = 0
  · subst he
    have t1 : ((0 : Int) != 0) = false := rfl
    by_cases ha : a < l.length
    · have hr : rEnd l a 0 = 2 := by unfold rEnd; simp [ha]
      have HR := hid hr; clear hr
      go_wp2
      go_quiet (fail)
      go_wp2
      go_ret
      exact ⟨by rw [HR.out]; rfl, _, rfl⟩
    · have hr : rEnd l a 0 = 0 := by unfold rEnd; simp [ha]
      have HR := hid hr; clear hr
      go_wp2
      go_quiet (fail)
      go_wp2
      go_ret
      exact ⟨by rw [HR.out]; rfl, _, rfl⟩
  · have t1 : (e != 0) = true := by simp [he]
    have hr : rEnd l a e = e := by unfold rEnd; simp [he]
    have HR := hid hr; clear hr he
    go_wp2
    go_ret
    exact ⟨by rw [HR.out]; rfl, Qu.refl _⟩
end Go.Proofs.Ytclhnnidbhchnaa
