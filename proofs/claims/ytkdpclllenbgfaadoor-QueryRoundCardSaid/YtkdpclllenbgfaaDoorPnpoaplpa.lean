/- 3 texts of this claim, in build order. -/
import Derived.Test.YtkdpclllenbgfaaDoorPdinfjcfg
import Derived.Test.YtkdpclllenbgfaaDoorPijljgnfk
import Derived.Test.YtkdpclllenbgfaaDoorPgeebagdj
import Derived.Test.YtkdpclllenbgfaaDoorPdchlfcob
/- query.Key. -/
namespace Go.Proofs.YtkdpclllenbgfaaDoor
open Go.ChangeShapes Go.WideShapes Go.ChangeAt Go.RowKit
set_option linter.unusedVariables false
set_option linter.unusedSimpArgs false

def keyAt (q : QueryX) (ps : List (List ByteArray)) (i : Nat) : List ByteArray := if i < ps.length then upS (ps.getD i []) (q.1.getD i 0) else []
def keyN (q : QueryX) (ps : List (List ByteArray)) (k : Nat) : List (List ByteArray) := (List.range k).map (keyAt q ps)
theorem keyN_succ (q : QueryX) (ps : List (List ByteArray)) (k : Nat) : keyN q ps (k + 1) = keyN q ps k ++ [keyAt q ps k] := by unfold keyN; rw [List.range_succ, List.map_append]; rfl
theorem keyN_len (q : QueryX) (ps : List (List ByteArray)) (k : Nat) : (keyN q ps k).length = k := by simp [keyN]
theorem keyN_all (q : QueryX) (ps : List (List ByteArray)) : keyN q ps q.1.length = keyQ q ps := rfl
def KyRel (q : QueryX) (ps : List (List ByteArray)) (W0 : World) (out i : Value) (wr : World) : Prop := ∃ k : Nat, k ≤ q.1.length ∧ i = .int .i64 k ∧ RowL wr W0.heap.size out (keyN q ps k) ∧ Below W0.heap.size W0 wr
def KeyPost (l : List (List ByteArray)) (w : World) (e : Ending) (w' : World) : Prop := ∃ r, e = .returned r ∧ RowL w' w.heap.size r l ∧ Below w.heap.size w w'
set_option maxRecDepth 100000 in
set_option maxHeartbeats 1600000 in
theorem key_any (v x : Value) (q : QueryX) (ps : List (List ByteArray)) (w : World) (hv : QueryV w w.heap.size v q) (hx : rdSlice 1 rdStrs w w.heap.size [x] ps) (hq : q.1.length ≤ 1000) (hp : ∀ p ∈ ps, p.length ≤ 1000) :
    Calls Tryd.prog 30 #[v, x] w (KeyPost (keyQ q ps) w) := by
  obtain ⟨i0, hi, hz0, hz1, hz2⟩ := info_parts info_strsQ
  obtain ⟨A1, c1, A2, c2, rfl, h1, h2⟩ := hv
  obtain ⟨hc1, hm1⟩ := h1.cap
  obtain ⟨P, cp, e, hcp, hmp⟩ := hx.open_
  simp only [List.cons.injEq, and_true] at e
  subst e
  obtain ⟨W0, hW0⟩ : ∃ W, W = w.alloc (.cells #[.slice A1 q.1.length c1, .slice A2 q.2.length c2] 32) := ⟨_, rfl⟩
  have g0 : Below w.heap.size w W0 := by rw [hW0]; exact bl1 _ _
  have z0 : W0.heap.size = w.heap.size + 1 := by rw [hW0]; simp
  have HW0 := hid hW0
  have G0 := hid g0
  have H1 := hid (good_ints.on h1 g0)
  have HP := hid (good_paths.on hx g0)
  have HPL := hid hp
  clear hW0 g0 h1 h2 hx hp
  go_enter Tryd.func30, Tryd.ntmps30
  go_wp2
  rw [← HW0.out]
  go_loopw [5, 12] (fun out i wr => KyRel q ps W0 out i wr) (fun _ i _ => q.1.length - (intOf i).toNat)
  case atStart => exact ⟨0, by omega, rfl, RowL.nil_ _ _, Below.refl _ _⟩
  case round =>
    obtain ⟨k, hk, rfl, hrow, hb⟩ := hrel
    have hs := hb.size
    have HB := hid hb; have HRW := hid hrow
    clear hb hrow
    by_cases hlt : k < q.1.length
    · obtain ⟨b, off, rfl, hbl, hcell, hii⟩ := ints_at H1.out hlt
      have hcw := cellK HB.out hbl hcell
      have e1 := keyN_succ q ps k
      have hln := keyN_len q ps k
      have hka : keyAt q ps k = if k < ps.length then upS (ps.getD k []) (q.1.getD k 0) else [] := rfl
      generalize q.1.getD k 0 = lv at *
      generalize keyAt q ps k = ka at *
      have E1 := hid e1
      clear e1 hcell hii
      by_cases hkp : k < ps.length
      · obtain ⟨b2, o2, AP, cP, rfl, hb2, hc2, hpp⟩ := paths_at HP.out hkp
        have hc2' := cellK HB.out hb2 hc2
        have hgd : ps.getD k [] = ps[k] := by rw [List.getD_eq_getElem?_getD, List.getElem?_eq_getElem hkp]; rfl
        have hple := HPL.out _ (List.getElem_mem hkp)
        rw [if_pos hkp, hgd] at hka
        generalize ps[k] = p at *
        have HUP := hid (up_any _ lv p wr (good_strs.on hpp HB.out) (by omega))
        rw [← hka] at HUP
        have hkl : ka.length ≤ p.length := by rw [hka]; unfold upS; rw [List.length_take]; omega
        generalize hpl : p.length = pl at *
        clear hpp hc2 hgd hka
        go_wp2_with fail
        refine HUP.out.mono ?_
        rintro e w2 ⟨u, rfl, hu, hb2⟩
        have HU := hid hu; have HB2 := hid hb2
        have z2 := hb2.size
        clear hu hb2
        obtain ⟨vs, r1, r2, r3⟩ := HRW.out
        obtain ⟨Au, cu, rfl, -, -, -⟩ := own_cells HU.out
        go_wp2_with (at_builtin; refine stop_here ?_)
        refine go_on ?_
        refine app_own_at (.tmp 27) (.tmp 29) 55 55 rfl rfl W0.heap.size 41 i0 (.slice none 0 0) 1 24 Tryd.underlying55 hi hz0 hz1 hz2 rfl (by decide) _ (keyN q ps k).length vs rfl ((own_stays r2 HB2.out).alloc _) (.slice (some ⟨w2.heap.size, 0, none⟩) 1 1) 1 [_] rfl (Src.ofSlice _ Tryd.underlying55 _ 1 1 _ rfl (cell_one_at' _ _ _ rfl) (by simp; rfl)) (by rw [hln]; simp only [maxLen]; omega) (by rw [hln]; omega) (by rw [World.size_alloc]; omega) ?_
        intro v' w3 ho' hg' hb3 hat
        have hrow' := RowL.app r1 r2 r3 HB2.out HU.out hs ho' hg' hat
        rw [← E1.out] at hrow'
        have HR' := hid hrow'
        have HB3 := hid (((HB.out.trans (HB2.out.mono hs)).alloc (by omega) _).trans hb3)
        clear ho' hg' hb3 hat hrow' r1 r2 r3
        go_wp2
        go_roundw
        case rel => exact ⟨k + 1, by omega, by go_num, HR'.out, HB3.out⟩
        case measure => simp [intOf]; omega
      · rw [if_neg hkp] at hka
        subst hka
        obtain ⟨vs, r1, r2, r3⟩ := HRW.out
        have t1 : decide ((k : Int) < (ps.length : Int)) = false := by rw [decide_eq_false_iff_not]; omega
        go_wp2_with (at_builtin; refine stop_here ?_)
        refine go_on ?_
        refine app_own_at (.tmp 27) (.tmp 29) 55 55 rfl rfl W0.heap.size 41 i0 (.slice none 0 0) 1 24 Tryd.underlying55 hi hz0 hz1 hz2 rfl (by decide) _ (keyN q ps k).length vs rfl (r2.alloc _) (.slice (some ⟨wr.heap.size, 0, none⟩) 1 1) 1 [_] rfl (Src.ofSlice _ Tryd.underlying55 _ 1 1 _ rfl (cell_one_at' _ _ _ rfl) (by simp; rfl)) (by rw [hln]; simp only [maxLen]; omega) (by rw [hln]; omega) (by rw [World.size_alloc]; omega) ?_
        intro v' w3 ho' hg' hb3 hat
        have hrow' := RowL.app (x := []) r1 r2 r3 (Below.refl _ _) (World.ownsRow_nil _ _ _ _) hs ho' hg' hat
        rw [← E1.out] at hrow'
        have HR' := hid hrow'
        have HB3 := hid ((HB.out.alloc hs _).trans hb3)
        clear ho' hg' hb3 hat hrow' r1 r2 r3
        go_wp2
        go_roundw
        case rel => exact ⟨k + 1, by omega, by go_num, HR'.out, HB3.out⟩
        case measure => simp [intOf]; omega
    · obtain rfl : k = q.1.length := by omega
      have hfin := HRW.out
      rw [keyN_all] at hfin
      have HF := hid (hfin.less (show w.heap.size ≤ W0.heap.size by omega))
      clear hfin HRW
      go_wp2
      go_ret
      exact ⟨_, rfl, HF.out, G0.out.trans (HB.out.mono (by omega))⟩
end Go.Proofs.YtkdpclllenbgfaaDoor
/- Literals read: lists of texts, of numbers, of lists. -/
namespace Go.Proofs.YtkdpclllenbgfaaDoor
open Go.ChangeShapes Go.WideShapes Go.ChangeAt Go.RowKit
set_option linter.unusedVariables false
set_option linter.unusedSimpArgs false

/-- A slice literal that lies in a block of its own. -/
theorem rd_lit {α : Type} {R : Rd α} {w : World} {B N n k : Nat} {l : List α} (hn : n = l.length) (hm : n ≤ 1000) (hN : N < B)
    (h : ∀ i x, l[i]? = some x → ∃ es : List Value, es.length = k ∧ (∀ j u, es[j]? = some u → w.cell? ⟨N, 0 + i * k + j, none⟩ = some u) ∧ R w B es x) : rdSlice k R w B [.slice (some ⟨N, 0, none⟩) n n] l := by
  subst hn
  exact ⟨_, _, rfl, Nat.le_refl _, by unfold maxLen; omega, fun _ => ⟨N, 0, rfl, hN, h⟩⟩
theorem rd_nil {α : Type} {R : Rd α} {w : World} {B k : Nat} : rdSlice k R w B [.slice none 0 0] [] := ⟨none, 0, rfl, Nat.le_refl _, by simp [maxLen], fun h => by simp at h⟩
theorem strs2 {w : World} {B N : Nat} {x y : ByteArray} (hN : N < B) (hx : x.size ≤ 1000) (hy : y.size ≤ 1000) (h0 : w.cell? ⟨N, 0, none⟩ = some (.string x)) (h1 : w.cell? ⟨N, 1, none⟩ = some (.string y)) : rdStrs w B [.slice (some ⟨N, 0, none⟩) 2 2] [x, y] :=
  rd_lit rfl (by omega) hN (fun i z hz => by
    have : i = 0 ∨ i = 1 := by have := (List.getElem?_eq_some_iff.1 hz).1; simp at this; omega
    rcases this with rfl | rfl
    · simp at hz; subst hz
      exact ⟨[.string x], rfl, fun j u hu => by cases j <;> simp at hu; subst hu; simpa using h0, rfl, by unfold maxLen; omega⟩
    · simp at hz; subst hz
      exact ⟨[.string y], rfl, fun j u hu => by cases j <;> simp at hu; subst hu; simpa using h1, rfl, by unfold maxLen; omega⟩)
theorem strs1 {w : World} {B N : Nat} {x : ByteArray} (hN : N < B) (hx : x.size ≤ 1000) (h0 : w.cell? ⟨N, 0, none⟩ = some (.string x)) : rdStrs w B [.slice (some ⟨N, 0, none⟩) 1 1] [x] :=
  rd_lit rfl (by omega) hN (fun i z hz => by
    obtain rfl : i = 0 := by have := (List.getElem?_eq_some_iff.1 hz).1; simp at this; omega
    simp at hz; subst hz
    exact ⟨[.string x], rfl, fun j u hu => by cases j <;> simp at hu; subst hu; simpa using h0, rfl, by unfold maxLen; omega⟩)
theorem paths2 {w : World} {B N : Nat} {x y : List ByteArray} {v u : Value} (hN : N < B) (h0 : w.cell? ⟨N, 0, none⟩ = some v) (h1 : w.cell? ⟨N, 1, none⟩ = some u) (hx : rdStrs w B [v] x) (hy : rdStrs w B [u] y) : rdSlice 1 rdStrs w B [.slice (some ⟨N, 0, none⟩) 2 2] [x, y] :=
  rd_lit rfl (by omega) hN (fun i z hz => by
    have : i = 0 ∨ i = 1 := by have := (List.getElem?_eq_some_iff.1 hz).1; simp at this; omega
    rcases this with rfl | rfl
    · simp at hz; subst hz
      exact ⟨[v], rfl, fun j u hu => by cases j <;> simp at hu; subst hu; simpa using h0, hx⟩
    · simp at hz; subst hz
      exact ⟨[u], rfl, fun j u hu => by cases j <;> simp at hu; subst hu; simpa using h1, hy⟩)
theorem paths1 {w : World} {B N : Nat} {x : List ByteArray} {v : Value} (hN : N < B) (h0 : w.cell? ⟨N, 0, none⟩ = some v) (hx : rdStrs w B [v] x) : rdSlice 1 rdStrs w B [.slice (some ⟨N, 0, none⟩) 1 1] [x] :=
  rd_lit rfl (by omega) hN (fun i z hz => by
    obtain rfl : i = 0 := by have := (List.getElem?_eq_some_iff.1 hz).1; simp at this; omega
    simp at hz; subst hz
    exact ⟨[v], rfl, fun j u hu => by cases j <;> simp at hu; subst hu; simpa using h0, hx⟩)
theorem ints2 {w : World} {B N : Nat} {x y : Int} (hN : N < B) (hx : InI64 x) (hy : InI64 y) (h0 : w.cell? ⟨N, 0, none⟩ = some (.int .i64 x)) (h1 : w.cell? ⟨N, 1, none⟩ = some (.int .i64 y)) : rdInts w B [.slice (some ⟨N, 0, none⟩) 2 2] [x, y] :=
  rd_lit rfl (by omega) hN (fun i z hz => by
    have : i = 0 ∨ i = 1 := by have := (List.getElem?_eq_some_iff.1 hz).1; simp at this; omega
    rcases this with rfl | rfl
    · simp at hz; subst hz
      exact ⟨[.int .i64 x], rfl, fun j u hu => by cases j <;> simp at hu; subst hu; simpa using h0, rfl, hx⟩
    · simp at hz; subst hz
      exact ⟨[.int .i64 y], rfl, fun j u hu => by cases j <;> simp at hu; subst hu; simpa using h1, rfl, hy⟩)
theorem ints1 {w : World} {B N : Nat} {x : Int} (hN : N < B) (hx : InI64 x) (h0 : w.cell? ⟨N, 0, none⟩ = some (.int .i64 x)) : rdInts w B [.slice (some ⟨N, 0, none⟩) 1 1] [x] :=
  rd_lit rfl (by omega) hN (fun i z hz => by
    obtain rfl : i = 0 := by have := (List.getElem?_eq_some_iff.1 hz).1; simp at this; omega
    simp at hz; subst hz
    exact ⟨[.int .i64 x], rfl, fun j u hu => by cases j <;> simp at hu; subst hu; simpa using h0, rfl, hx⟩)
end Go.Proofs.YtkdpclllenbgfaaDoor
/- Literals read: lists of texts, of numbers, of lists. -/
namespace Go.Proofs.YtkdpclllenbgfaaDoor
open Go.ChangeShapes Go.WideShapes Go.ChangeAt Go.RowKit
set_option linter.unusedVariables false
set_option linter.unusedSimpArgs false

theorem bytes8_at (w : World) (N : Nat) (l : List UInt8) (n : Nat) (hn : l.length = n) (hn' : n ≤ 1000) (hN : w.heap.size = N) : Sl (w.alloc (.cells (bvals l).toArray 5)) (w.alloc (.cells (bvals l).toArray 5)).heap.size (.slice (some ⟨N, 0, none⟩) n n) (bvals l) := by
  subst hN
  refine ⟨_, n, by rw [bvals_len, hn], by rw [bvals_len, hn]; exact Nat.le_refl _, by unfold maxLen; omega, fun _ => ⟨w.heap.size, 0, rfl, by simp, fun j u hu => ?_⟩⟩
  rw [World.cell?_alloc_at _ _ _ _ rfl]
  simp only [Nat.zero_add, List.getElem?_toArray]
  exact hu
end Go.Proofs.YtkdpclllenbgfaaDoor
