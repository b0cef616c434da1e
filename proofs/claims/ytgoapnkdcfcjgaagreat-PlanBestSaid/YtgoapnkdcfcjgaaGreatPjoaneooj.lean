/- 2 texts of this claim, in build order. -/
import Derived.Test.YtgoapnkdcfcjgaaGreatPpnflcofi
import Derived.Test.YtgoapnkdcfcjgaaGreatPlmbjmicf
import Derived.Test.YtgoapnkdcfcjgaaGreatPbigpcckc
import Derived.Test.YtgoapnkdcfcjgaaGreatPjdkgidao
namespace Go.Proofs.YtgoapnkdcfcjgaaGreat
open Go.ChangeShapes Go.WideShapes Go.ChangeAt Go.RowKit Go.Deep
set_option linter.unusedVariables false
set_option linter.unusedSimpArgs false
abbrev KeyX := List (List ByteArray)
def keyAtR (fs : List FactX) (v : List Int) (i : Nat) : KeyX := keyR (fs.getD i ([], [])).1 v v.length
def valsR (fs : List FactX) (v : List Int) (k : KeyX) (i : Nat) : Nat → List (List Int)
 | 0 => []
 | j + 1 => if i ≤ j ∧ cmpKK (keyAtR fs v j) k = 0 then valsR fs v k i j ++ [(fs.getD j ([], [])).2] else valsR fs v k i j
theorem valsR_start (fs : List FactX) (v : List Int) (k : KeyX) (i j : Nat) (h : j ≤ i) : valsR fs v k i j = [] := by
 induction j with
 | zero => rfl
 | succ j ih => unfold valsR; rw [if_neg (by omega)]; exact ih (by omega)
theorem valsR_len (fs : List FactX) (v : List Int) (k : KeyX) (i j : Nat) : (valsR fs v k i j).length ≤ j := by
 induction j with
 | zero => exact Nat.le_refl _
 | succ j ih =>
   unfold valsR
   split
   ·rw [List.length_append]; simp; exact ih
   ·omega
def hadR (ds : List KeyX) (k : KeyX) (j : Nat) : Bool := (ds.take j).any fun d => decide (cmpKK d k = 0)
theorem hadR_succ {ds : List KeyX} {k : KeyX} {j : Nat} (h : j < ds.length) : hadR ds k (j + 1) = (hadR ds k j || decide (cmpKK ds[j] k = 0)) := by
 unfold hadR; rw [List.take_succ_eq_append_getElem h, List.any_append]; simp
def rowsR (M : Int) (fs : List FactX) (v : List Int) : Nat → List KeyX × Int
 | 0 => ([], 0)
 | i + 1 =>
   let r := rowsR M fs v i
   if r.2 ≠ 0 ∨ hadR r.1 (keyAtR fs v i) r.1.length = true then r else
   let x := foldC M (valsR fs v (keyAtR fs v i) i fs.length)
   if x.2 ≠ 0 then (r.1, x.2) else (r.1 ++ [keyAtR fs v i], 0)
theorem rowsR_len (M : Int) (fs : List FactX) (v : List Int) (i : Nat) : (rowsR M fs v i).1.length ≤ i := by
 induction i with
 | zero => exact Nat.le_refl _
 | succ i ih =>
   unfold rowsR
   simp only
   split
   ·omega
   ·split
    ·simp only; omega
    ·simp only [List.length_append, List.length_singleton]; omega
theorem rowsR_err {M : Int} {fs : List FactX} {v : List Int} {k n : Nat} (h : (rowsR M fs v k).2 ≠ 0) (hk : k ≤ n) : rowsR M fs v n = rowsR M fs v k := by
 induction n with
 | zero => obtain rfl : k = 0 := by omega
           rfl
 | succ n ih =>
   rcases Nat.lt_or_ge n k with h1 | h1
   ·obtain rfl : k = n + 1 := by omega
    rfl
   ·have e := ih h1
    show (if (rowsR M fs v n).2 ≠ 0 ∨ _ then rowsR M fs v n else _) = _
    rw [e, if_pos (.inl h)]
def IsRow (x : List Value) (n : Nat) : Prop :=
 ∃ (A : Option Addr) (c : Nat) (m : Int) (A1 : Option Addr) (n1 c1 : Nat) (A2 : Option Addr) (n2 c2 : Nat) (A3 : Option Addr) (n3 c3 : Nat), x = [.slice A n c, .int .i64 m, .slice A1 n1 c1, .slice A2 n2 c2, .slice A3 n3 c3]
theorem IsRow.len {x : List Value} {n : Nat} (h : IsRow x n) : x.length = 5 := by
 obtain ⟨A, c, m, A1, n1, c1, A2, n2, c2, A3, n3, c3, rfl⟩ := h; rfl
theorem IsRow.one {x : List Value} {n : Nat} (h : IsRow x n) : ∀ u ∈ x, u.oneCell' = true := by
 obtain ⟨A, c, m, A1, n1, c1, A2, n2, c2, A3, n3, c3, rfl⟩ := h
 intro u hu
 simp only [List.mem_cons, List.not_mem_nil, or_false] at hu
 rcases hu with rfl | rfl | rfl | rfl | rfl <;> rfl
theorem flat5R_len {rv : List (List Value)} (h : ∀ x ∈ rv, x.length = 5) : rv.flatten.length = rv.length * 5 := by
 induction rv with
 | nil => rfl
 | cons x rv ih => rw [List.flatten_cons, List.length_append, h x List.mem_cons_self, ih (fun y hy => h y (List.mem_cons_of_mem _ hy)), List.length_cons]; omega
theorem flat5R_at {rv : List (List Value)} (h : ∀ x ∈ rv, x.length = 5) (i j : Nat) (hi : i < rv.length) (hj : j < 5) : rv.flatten[i * 5 + j]? = (rv.getD i [])[j]? := by
 induction rv generalizing i with
 | nil => simp at hi
 | cons x rv ih =>
   have hx := h x List.mem_cons_self
   rw [List.flatten_cons]
   cases i with
   | zero => rw [List.getElem?_append_left (by omega)]; simp
   | succ i =>
     rw [List.getElem?_append_right (by omega), show (i + 1) * 5 + j - x.length = i * 5 + j by omega, ih (fun y hy => h y (List.mem_cons_of_mem _ hy)) i (by simpa using hi)]
     rfl
def DoneR (w : World) (K : Nat) (v : Value) (ks : List KeyX) : Prop :=
 ∃ rv : List (List Value), rv.length = ks.length ∧ w.ownsRow K 137 5 v ks.length rv.flatten ∧ ∀ j (hj : j < ks.length), IsRow (rv.getD j []) ks[j].length ∧ RowT w K ((rv.getD j []).getD 0 undef) ks[j]
theorem DoneR.nil_ (w : World) (K : Nat) : DoneR w K (.slice none 0 0) [] := ⟨[], rfl, World.ownsRow_nil _ _ _ _, fun j hj => by simp at hj⟩
theorem RowT.keepTR {w w' : World} {base : Nat} {out : Value} {M : List (List ByteArray)} (h : RowT w base out M) (k1 : KeepT 23 base w w') (k2 : KeepT 9 base w w') : RowT w' base out M := by
 obtain ⟨vs, h1, h2, h3⟩ := h
 exact ⟨vs, h1, own_keepT h2 k1, fun j hj => own_keepT (h3 j hj) k2⟩
theorem RowT.ofL {w : World} {base : Nat} {out : Value} {M : List (List ByteArray)} (h : RowL w base out M) : RowT w base out M := by
 obtain ⟨vs, h1, h2, h3⟩ := h
 refine ⟨vs, h1, h2, fun j hj => ?_⟩
 have := (h3 j hj).1
 rwa [show vs.getD j undef = vs[j]'(by omega) by rw [List.getD_eq_getElem?_getD, List.getElem?_eq_getElem (by omega)]; rfl, show M.getD j [] = M[j] by rw [List.getD_eq_getElem?_getD, List.getElem?_eq_getElem hj]; rfl] at this
theorem RowT.on {w w' : World} {base : Nat} {out : Value} {M : List (List ByteArray)} (h : RowT w base out M) (hb : Below w.heap.size w w') : RowT w' base out M := by
 obtain ⟨vs, h1, h2, h3⟩ := h
 exact ⟨vs, h1, own_stays h2 hb, fun j hj => own_stays (h3 j hj) hb⟩
theorem DoneR.on {w w' : World} {K : Nat} {v : Value} {ks : List KeyX} (h : DoneR w K v ks) (hb : Below w.heap.size w w') : DoneR w' K v ks := by
 obtain ⟨rv, h1, h2, h3⟩ := h
 exact ⟨rv, h1, own_stays h2 hb, fun j hj => ⟨(h3 j hj).1, (h3 j hj).2.on hb⟩⟩
theorem getD_memR {α : Type} {l : List α} {x d : α} (h : x ∈ l) : ∃ j, j < l.length ∧ l.getD j d = x := by
 obtain ⟨j, hj, rfl⟩ := List.mem_iff_getElem.1 h
 exact ⟨j, hj, by rw [List.getD_eq_getElem?_getD, List.getElem?_eq_getElem hj]; rfl⟩
theorem rows5 {rv : List (List Value)} {ks : List KeyX} (hl : rv.length = ks.length) (h : ∀ j (hj : j < ks.length), IsRow (rv.getD j []) ks[j].length) : ∀ x ∈ rv, x.length = 5 := fun x hx => by
 obtain ⟨j, hj, rfl⟩ := getD_memR (d := []) hx
 exact (h j (by omega)).len
theorem rows5one {rv : List (List Value)} {ks : List KeyX} (hl : rv.length = ks.length) (h : ∀ j (hj : j < ks.length), IsRow (rv.getD j []) ks[j].length) : ∀ x ∈ rv, ∀ u ∈ x, u.oneCell' = true := fun x hx => by
 obtain ⟨j, hj, rfl⟩ := getD_memR (d := []) hx
 exact (h j (by omega)).one
theorem DoneR.at_ {w : World} {K : Nat} {v : Value} {ks : List KeyX} (h : DoneR w K v ks) {j : Nat} (hj : j < ks.length) :
  ∃ (g cp : Nat) (A : Option Addr) (c : Nat) (m : Int) (A1 : Option Addr) (n1 c1 : Nat) (A2 : Option Addr) (n2 c2 : Nat) (A3 : Option Addr) (n3 c3 : Nat), v = .slice (some ⟨g, 0, none⟩) ks.length cp ∧ ks.length ≤ cp ∧ cp ≤ maxLen ∧ K ≤ g ∧ g < w.heap.size ∧
   w.cell? ⟨g, j * 5, none⟩ = some (.slice A ks[j].length c) ∧ w.cell? ⟨g, j * 5 + 1, none⟩ = some (.int .i64 m) ∧ w.cell? ⟨g, j * 5 + 2, none⟩ = some (.slice A1 n1 c1) ∧ w.cell? ⟨g, j * 5 + 3, none⟩ = some (.slice A2 n2 c2) ∧ w.cell? ⟨g, j * 5 + 4, none⟩ = some (.slice A3 n3 c3) ∧
   RowT w K (.slice A ks[j].length c) ks[j] := by
 obtain ⟨rv, h1, h2, h3⟩ := h
 obtain ⟨Av, cp, rfl, g1, g2, g3⟩ := own_cells2 h2
 obtain ⟨g, rfl, hg, hgs, -, hc⟩ := g3 (by omega)
 obtain ⟨hr, hk⟩ := h3 j hj
 have h5 := rows5 h1 (fun j hj => (h3 j hj).1)
 have hat := fun i (hi : i < 5) => (hc (j * 5 + i) (by omega)).trans (flat5R_at h5 j i (by omega) hi)
 obtain ⟨A, c, m, A1, n1, c1, A2, n2, c2, A3, n3, c3, e⟩ := hr
 rw [e] at hat hk
 exact ⟨g, cp, A, c, m, A1, n1, c1, A2, n2, c2, A3, n3, c3, rfl, g1, g2, hg, hgs, hat 0 (by omega), hat 1 (by omega), hat 2 (by omega), hat 3 (by omega), hat 4 (by omega), hk⟩
theorem DoneR.app {wa w4 : World} {K n : Nat} {v v' : Value} {ks : List KeyX} {k : KeyX} {x : List Value} {rv : List (List Value)} (hn : n = ks.length) (h1 : rv.length = ks.length) (h2 : wa.ownsRow K 137 5 v n rv.flatten)
  (h3 : ∀ j (hj : j < ks.length), IsRow (rv.getD j []) ks[j].length ∧ RowT wa K ((rv.getD j []).getD 0 undef) ks[j]) (hx : IsRow x k.length) (hk : RowT wa K (x.getD 0 undef) k)
  (ho : w4.ownsRow K 137 5 v' (n + 1) (rv.flatten ++ x)) (hg : wa.grownBy w4 v.ownBlock) : DoneR w4 K v' (ks ++ [k]) := by
 subst hn
 have k1 : KeepT 23 K wa w4 := KeepT.of_grown hg h2 (by decide)
 have k2 : KeepT 9 K wa w4 := KeepT.of_grown hg h2 (by decide)
 refine ⟨rv ++ [x], by simp [h1], by rw [List.length_append, List.flatten_append]; simpa using ho, fun j hj => ?_⟩
 rcases Nat.lt_or_ge j ks.length with hlt | hge
 ·have e1 : (rv ++ [x]).getD j [] = rv.getD j [] := by rw [List.getD_eq_getElem?_getD, List.getElem?_append_left (by omega), ← List.getD_eq_getElem?_getD]
  have e2 : (ks ++ [k])[j] = ks[j] := List.getElem_append_left hlt
  rw [e1, e2]
  exact ⟨(h3 j hlt).1, (h3 j hlt).2.keepTR k1 k2⟩
 ·obtain rfl : j = ks.length := by rw [List.length_append] at hj; simp at hj; omega
  have e1 : (rv ++ [x]).getD ks.length [] = x := by rw [List.getD_eq_getElem?_getD, List.getElem?_append_right (by omega), h1, Nat.sub_self]; rfl
  have e2 : (ks ++ [k])[ks.length] = k := by rw [List.getElem_append_right (by omega)]; simp
  rw [e1, e2]
  exact ⟨hx, hk.keepTR k1 k2⟩
def ValO (w : World) (K B : Nat) (v : Value) (l : List (List Int)) : Prop :=
 ∃ us : List Value, us.length = l.length ∧ w.ownsRow K 27 1 v l.length us ∧ ∀ j (hj : j < l.length), Sl w B (us.getD j undef) (ivals l[j])
theorem ValO.nil_ (w : World) (K B : Nat) : ValO w K B (.slice none 0 0) [] := ⟨[], rfl, World.ownsRow_nil _ _ _ _, fun j hj => by simp at hj⟩
theorem ValO.on {w w' : World} {K B : Nat} {v : Value} {l : List (List Int)} (h : ValO w K B v l) (hb : Below w.heap.size w w') (hB : B ≤ w.heap.size) : ValO w' K B v l := by
 obtain ⟨us, h1, h2, h3⟩ := h
 exact ⟨us, h1, own_stays h2 hb, fun j hj => (h3 j hj).below (hb.mono hB)⟩
theorem ValO.app {wa w4 : World} {K B n : Nat} {v' u : Value} {l : List (List Int)} {x : List Int} {us : List Value} (hn : n = l.length) (h1 : us.length = l.length) (h3 : ∀ j (hj : j < l.length), Sl wa B (us.getD j undef) (ivals l[j])) (hu : Sl wa B u (ivals x))
  (ho : w4.ownsRow K 27 1 v' (n + 1) (us ++ [u])) (hb : Below B wa w4) : ValO w4 K B v' (l ++ [x]) := by
 subst hn
 refine ⟨us ++ [u], by simp [h1], by rw [List.length_append]; exact ho, fun j hj => ?_⟩
 rcases Nat.lt_or_ge j l.length with hlt | hge
 ·have e1 : (us ++ [u]).getD j undef = us.getD j undef := by rw [List.getD_eq_getElem?_getD, List.getElem?_append_left (by omega), ← List.getD_eq_getElem?_getD]
  have e2 : (l ++ [x])[j] = l[j] := List.getElem_append_left hlt
  rw [e1, e2]
  exact (h3 j hlt).below hb
 ·obtain rfl : j = l.length := by rw [List.length_append] at hj; simp at hj; omega
  have e1 : (us ++ [u]).getD l.length undef = u := by rw [List.getD_eq_getElem?_getD, List.getElem?_append_right (by omega), h1, Nat.sub_self]; rfl
  have e2 : (l ++ [x])[l.length] = x := by rw [List.getElem_append_right (by omega)]; simp
  rw [e1, e2]
  exact hu.below hb
theorem ValO.rows {w : World} {K B : Nat} {v : Value} {l : List (List Int)} (h : ValO w K B v l) (hB : B ≤ w.heap.size) : RowsI w w.heap.size v l := by
 obtain ⟨us, h1, h2, h3⟩ := h
 obtain ⟨A, c, rfl, g1, g2, g3⟩ := own_cells2 h2
 refine ⟨A, c, rfl, g1, g2, fun i hi => ?_⟩
 obtain ⟨g, rfl, hg, hgs, -, hc⟩ := g3 (by omega)
 refine ⟨g, 0, us.getD i undef, rfl, hgs, ?_, ?_⟩
 ·rw [Nat.zero_add, hc i (by omega), List.getElem?_eq_getElem (by omega), List.getD_eq_getElem?_getD, List.getElem?_eq_getElem (by omega)]; rfl
 ·rw [show l.getD i [] = l[i] by rw [List.getD_eq_getElem?_getD, List.getElem?_eq_getElem hi]; rfl]
  exact (h3 i hi).more hB
end Go.Proofs.YtgoapnkdcfcjgaaGreat
namespace Go.Proofs.YtgoapnkdcfcjgaaGreat
open Go.ChangeShapes Go.WideShapes Go.ChangeAt Go.RowKit
set_option linter.unusedVariables false
set_option linter.unusedSimpArgs false
set_option maxRecDepth 100000 in
set_option maxHeartbeats 800000 in
theorem values_any (m : Int) (v : Value) (l : List Int) (w : World) (B : Nat) (hv : Sl w B v (ivals l)) :
  Calls Tryz.prog 113 #[.int .i64 m, v] w (Stays (.bool (valsB m l)) w) := by
 obtain ⟨A1, c1, rfl, hc1, hm1⟩ := hv.formI
 unfold maxLen at hm1
 have S1 := hid hv; clear hv
 go_enter Tryz.func113, Tryz.ntmps113
 by_cases hl : (l.length : Int) = m
 ·have hval : valsB m l = l.all (fun x => inB x VAL) := by unfold valsB; rw [decide_eq_true hl, Bool.true_and]
  rw [hval]
  have u0 : ((l.length : Int) != m) = false := by simp [hl]
  clear hl hval
  go_wp2
  go_loopw [5] (fun i wr => AllRel l w i wr) (fun i _ => l.length - (intOf i).toNat)
  case atStart => exact ⟨0, by omega, rfl, by simp, Qu.refl _⟩
  case round =>
   obtain ⟨k, hk, rfl, hall, hq⟩ := hrel
   have HA := hid hall; clear hall
   by_cases hlt : k < l.length
   ·obtain ⟨b1, o1, rfl, hb1, hx1⟩ := S1.out.int hlt
    have g1 : wr.cell? ⟨b1, o1 + k, none⟩ = _ := (hq.cell _).trans hx1
    clear hx1
    have hm := getD_mem hlt
    have hn := all_take_succ HA.out hlt
    generalize l.getD k 0 = x at *
    have HM := hid hm; have HN := hid hn; clear hm hn
    have hf := fun w => refInC_any x 2305843009213693952 w (by omega) (by omega)
    cases hb : inB x 2305843009213693952
    ·rw [hb] at hf
     have HF := hid hf; have HB := hid hb; clear hf hb
     go_wp2_with fail
     refine (HF.out _).mono ?_
     rintro e w1 ⟨rfl, hq1⟩
     go_wp2
     go_ret
     refine ⟨ret_bool ?_, hq.trans hq1⟩
     symm
     rw [← Bool.not_eq_true, List.all_eq_true]
     intro h
     have := h x HM.out
     rw [show inB x VAL = inB x 2305843009213693952 from rfl, HB.out] at this
     cases this
    ·rw [hb] at hf
     have HF := hid hf; have HB := hid hb; clear hf hb
     go_wp2_with fail
     refine (HF.out _).mono ?_
     rintro e w1 ⟨rfl, hq1⟩
     go_wp2
     go_roundw
     case rel => exact ⟨k + 1, by omega, by go_num, HN.out HB.out, hq.trans hq1⟩
     case measure => simp [intOf]; omega
   ·have := HA.out
    rw [List.take_of_length_le (by omega)] at this
    have HT := hid this; clear this
    go_wp2
    go_ret
    exact ⟨ret_bool (List.all_eq_true.2 (by simpa using HT.out)).symm, hq⟩
 ·have hval : valsB m l = false := by unfold valsB; rw [decide_eq_false hl, Bool.false_and]
  have u0 : ((l.length : Int) != m) = true := by simpa using hl
  have HV := hid hval
  clear hl hval
  go_wp2
  go_ret
  exact ⟨ret_bool HV.out.symm, Qu.refl _⟩
end Go.Proofs.YtgoapnkdcfcjgaaGreat
