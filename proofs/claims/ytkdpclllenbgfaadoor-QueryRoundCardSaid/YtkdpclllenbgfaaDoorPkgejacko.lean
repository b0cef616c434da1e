/- 2 texts of this claim, in build order. -/
import Derived.Test.YtkdpclllenbgfaaDoorPgeebagdj
import Derived.Test.YtkdpclllenbgfaaDoorPjobeecjl
import Derived.Maps.AppendAt
import Derived.OwnWalk
import Derived.Test.YtkdpclllenbgfaaDoorPkpfgjmdp
/- Small general facts: a function value entered, cells of slices, rows of one's own read. -/
namespace Go.Proofs.YtkdpclllenbgfaaDoor
open Go.ChangeShapes Go.WideShapes Go.ChangeAt Go.RowKit
set_option linter.unusedVariables false
set_option linter.unusedSimpArgs false

theorem enters_of {F : FuncId} {fn : Func} {c : Code} (hf : Tryd.prog.funcs[F]? = some fn) (hname : (fn.name == "runtime.NumGoroutine") = false) (hb : fn.body = some c) : Enters F := fun args w => by
  have h1 : fn.name ≠ "runtime.NumGoroutine" := by simpa using hname
  simp [callFunc, hf, h1, hb]
theorem nodup_snoc {l : List ByteArray} {x : ByteArray} : (l ++ [x]).Nodup ↔ l.Nodup ∧ x ∉ l := by
  rw [List.nodup_append]
  constructor
  · rintro ⟨h1, -, h3⟩; exact ⟨h1, fun h => h3 x h x (by simp) rfl⟩
  · rintro ⟨h1, h2⟩; exact ⟨h1, by simp, fun a ha b hb => by simp at hb; rw [hb]; rintro rfl; exact h2 ha⟩
theorem cell_one_at' (w : World) (x : Value) (t : TypeId) {N : Nat} (hN : w.heap.size = N) : ∀ j u, [x][j]? = some u → (w.alloc (.cells #[x] t)).cell? ((⟨N, 0, none⟩ : Addr).add j) = some u := by
  subst hN; exact cell_one_new w x t
def RowPost (l : List Int) (w : World) (e : Ending) (w' : World) : Prop := ∃ r, e = .returned r ∧ w'.ownsRow w.heap.size 3 1 r l.length (ivals l) ∧ Below w.heap.size w w'
theorem ints_at {w : World} {B : Nat} {A : Option Addr} {n c : Nat} {l : List Int} (h : rdInts w B [.slice A n c] l) {k : Nat} (hk : k < l.length) : ∃ b off, A = some ⟨b, off, none⟩ ∧ b < B ∧ w.cell? ⟨b, off + k, none⟩ = some (.int .i64 (l.getD k 0)) ∧ InI64 (l.getD k 0) := by
  obtain ⟨b, off, rfl, hb, es, hel, hcell, hr⟩ := h.at_ hk
  obtain ⟨rfl, hi⟩ := hr
  have := hcell 0 _ rfl
  rw [Nat.mul_one, Nat.add_zero] at this
  rw [List.getD_eq_getElem?_getD, List.getElem?_eq_getElem hk]
  exact ⟨b, off, rfl, hb, this, hi⟩
def SameRelG {α : Type} (l r : List α) (w : World) (i : Value) (wr : World) : Prop := ∃ k : Nat, k ≤ l.length ∧ i = .int .i64 k ∧ l.take k = r.take k ∧ Qu w wr
theorem strs_at {w : World} {B : Nat} {A : Option Addr} {n c : Nat} {l : List ByteArray} (h : rdStrs w B [.slice A n c] l) {k : Nat} (hk : k < l.length) : ∃ b off, A = some ⟨b, off, none⟩ ∧ b < B ∧ w.cell? ⟨b, off + k, none⟩ = some (.string l[k]) ∧ (l[k]).size ≤ maxLen := by
  obtain ⟨b, off, rfl, hb, es, hel, hcell, hr⟩ := h.at_ hk
  obtain ⟨rfl, hi⟩ := hr
  have := hcell 0 _ rfl
  rw [Nat.mul_one, Nat.add_zero] at this
  exact ⟨b, off, rfl, hb, this, hi⟩
theorem ints_at' {w : World} {B : Nat} {A : Option Addr} {n c : Nat} {l : List Int} (h : rdInts w B [.slice A n c] l) {k : Nat} (hk : k < l.length) : ∃ b off, A = some ⟨b, off, none⟩ ∧ b < B ∧ w.cell? ⟨b, off + k, none⟩ = some (.int .i64 l[k]) ∧ InI64 l[k] := by
  obtain ⟨b, off, rfl, hb, es, hel, hcell, hr⟩ := h.at_ hk
  obtain ⟨rfl, hi⟩ := hr
  have := hcell 0 _ rfl
  rw [Nat.mul_one, Nat.add_zero] at this
  exact ⟨b, off, rfl, hb, this, hi⟩
theorem rdInts_of_own {w : World} {base : Nat} {v : Value} {l : List Int} {n : Nat} (hn : n = l.length) (h : w.ownsRow base 3 1 v n (ivals l)) (hl : ∀ x ∈ l, InI64 x) : rdInts w w.heap.size [v] l := by
  subst hn
  obtain ⟨A, c, rfl, h1, h2, h3⟩ := own_cells h
  refine ⟨A, c, rfl, h1, h2, fun h0 => ?_⟩
  obtain ⟨g, rfl, -, hg, -⟩ := h3 h0
  refine ⟨g, 0, rfl, hg, fun i x hx => ⟨[.int .i64 x], rfl, fun j u hu => ?_, rfl, hl x (List.mem_of_getElem? hx)⟩⟩
  have hil := (List.getElem?_eq_some_iff.1 hx).1
  have hc2 := h.cellAt (g := g) i (by omega)
  cases j with
  | succ j => simp at hu
  | zero =>
    simp at hu; subst hu
    rw [Nat.mul_one, Nat.add_zero, Nat.zero_add, hc2]
    simp [ivals, hx]
theorem rdStrs_of_own {w : World} {base : Nat} {v : Value} {l : List ByteArray} {n : Nat} (hn : n = l.length) (h : w.ownsRow base 9 1 v n (svals l)) (hl : ∀ x ∈ l, x.size ≤ maxLen) : rdStrs w w.heap.size [v] l := by
  subst hn
  obtain ⟨A, c, rfl, h1, h2, h3⟩ := own_cells h
  refine ⟨A, c, rfl, h1, h2, fun h0 => ?_⟩
  obtain ⟨g, rfl, -, hg, -⟩ := h3 h0
  refine ⟨g, 0, rfl, hg, fun i x hx => ⟨[.string x], rfl, fun j u hu => ?_, rfl, hl x (List.mem_of_getElem? hx)⟩⟩
  have hil := (List.getElem?_eq_some_iff.1 hx).1
  have hc2 := h.cellAt (g := g) i (by omega)
  cases j with
  | succ j => simp at hu
  | zero =>
    simp at hu; subst hu
    rw [Nat.mul_one, Nat.add_zero, Nat.zero_add, hc2]
    simp [svals, hx]
theorem info_strQ : (Tryd.prog.info? 9).map (fun i => (i.zero, i.size, i.bytes)) = some (some (.string ByteArray.empty), 1, 16) := by kernel_rfl
theorem svals_snoc (p : List ByteArray) (x : ByteArray) : svals (p ++ [x]) = svals p ++ [.string x] := by simp [svals]
theorem rdSlice.head_ {α : Type} {k : Nat} {R : Rd α} {w : World} {B : Nat} {A : Option Addr} {n c m : Nat} {l : List α} (h : rdSlice k R w B [.slice A n c] l) (hm : m ≤ n) : rdSlice k R w B [.slice A m c] (l.take m) := by
  obtain ⟨A', c', e, h1, h2, h3⟩ := h
  simp only [List.cons.injEq, and_true] at e
  injection e with e1 e2 e3
  subst e1; subst e2; subst e3
  have hl : (l.take m).length = m := by rw [List.length_take]; omega
  refine ⟨A, c, by rw [hl], by omega, h2, fun h0 => ?_⟩
  obtain ⟨b, off, e5, e6, e7⟩ := h3 (by omega)
  refine ⟨b, off, e5, e6, fun i x hx => e7 i x ?_⟩
  rw [List.getElem?_take] at hx
  split at hx
  · exact hx
  · cases hx
theorem rdSlice.cap {α : Type} {k : Nat} {R : Rd α} {w : World} {B : Nat} {A : Option Addr} {n c : Nat} {l : List α} (h : rdSlice k R w B [.slice A n c] l) : n ≤ c ∧ c ≤ 9223372036854775807 := by
  obtain ⟨A', c', e, h1, h2, h3⟩ := h
  simp only [List.cons.injEq, and_true] at e
  injection e with e1 e2 e3
  unfold maxLen at h2
  omega
end Go.Proofs.YtkdpclllenbgfaaDoor
/- names.Path: a text is read as a path. -/
namespace Go.Proofs.YtkdpclllenbgfaaDoor
open Go.ChangeShapes Go.WideShapes Go.ChangeAt Go.RowKit
set_option linter.unusedVariables false
set_option linter.unusedSimpArgs false

/-- The library's variable holds a number. -/
def MaxL (w : World) : Prop := ∃ m : Int, w.cell? ⟨0, 0, none⟩ = some (.int .i64 m)
theorem MaxL.lt {w : World} (h : MaxL w) : 0 < w.heap.size := by
  obtain ⟨m, hm⟩ := h
  exact World.block_lt_of_cell? w ⟨_, 0, none⟩ hm
theorem MaxL.below {w w' : World} {B : Nat} (h : MaxL w) (hb : Below B w w') (hB : 0 < B) : MaxL w' := by
  obtain ⟨m, hm⟩ := h
  exact ⟨m, cellK hb hB hm⟩
theorem MaxL.on {w w' : World} (h : MaxL w) (hb : Below w.heap.size w w') : MaxL w' := h.below hb h.lt
/-- What Path gives: a path of one's own, and the error. -/
def PathPost (r : List ByteArray × Int) (w : World) (e : Ending) (w' : World) : Prop :=
  ∃ v, e = .returned (.tuple #[v, .int .i64 r.2]) ∧ w'.ownsRow w.heap.size 9 1 v r.1.length (svals r.1) ∧ Below w.heap.size w w'
theorem star_eq (s : ByteArray) : (s.toList == [42]) = decide (s = ⟨#[42]⟩) := by
  have h : (⟨#[42]⟩ : ByteArray).toList = [42] := by decide +kernel
  have k := str_beq s ⟨#[42]⟩
  rw [h] at k; exact k
theorem cells_own (w : World) (l : List ByteArray) (n : Nat) (hn : l.length ≤ n) (hm : n ≤ maxLen) :
    (w.alloc (.cells (Lib.cellsOf l n) 9)).ownsRow w.heap.size 9 1 (.slice (some ⟨w.heap.size, 0, none⟩) l.length n) l.length (svals l) := by
  refine ⟨by rw [svals_len, Nat.mul_one], .inr ⟨w.heap.size, n, _, rfl, Nat.le_refl _, heap_alloc_new w _, hn, hm, ?_, ?_⟩⟩
  · rw [Lib.cellsOf_size hn, Nat.mul_one]
  · unfold Lib.cellsOf svals
    rw [Nat.mul_one]
    simp
set_option maxRecDepth 100000 in
set_option maxHeartbeats 800000 in
theorem path_any (s : ByteArray) (w : World) (hs : s.size < 4294967281) (hm : MaxL w) :
    Calls Tryd.prog 19 #[.string s] w (PathPost (pathR s) w) := by
  obtain ⟨m, hm⟩ := hm
  have HSP := hid (show Calls Tryd.prog 42 #[.string s, .string ⟨#[47]⟩, .int .i64 4] w fun e w' =>
      e = .returned (.slice (some ⟨w.heap.size, 0, none⟩) (Lib.splitB slash 0 (min 4 (s.size + 1) - 1) s).length (min 4 (s.size + 1))) ∧ w' = w.alloc (.cells (Lib.cellsOf (Lib.splitB slash 0 (min 4 (s.size + 1) - 1) s) (min 4 (s.size + 1))) 9)
    from strings_SplitN s slash 4 m w hs hm (by decide) (by decide) (by decide))
  have h4 := split4 s
  have hlen := Lib.splitB_length_le slash 0 (min 4 (s.size + 1) - 1) s
  have hsz : ∀ x ∈ Lib.splitB slash 0 (min 4 (s.size + 1) - 1) s, x.size ≤ s.size := splitB_size _ s
  have hpr : pathR s = if s = ⟨#[42]⟩ then ([], 0) else if mayB (piecesB s) then (piecesB s, 0) else ([], 10) := rfl
  have hmin : min 4 (s.size + 1) - 1 + 1 = min 4 (s.size + 1) := by omega
  have hm4 : min 4 (s.size + 1) ≤ 4 := by omega
  rw [hmin] at hlen
  generalize min 4 (s.size + 1) = N at *
  generalize Lib.splitB slash 0 (N - 1) s = l at *
  have hown := cells_own w l N hlen (by unfold maxLen; omega)
  have hb := bl1 w (.cells (Lib.cellsOf l N) 9)
  obtain ⟨W1, hW1⟩ : ∃ W, W = w.alloc (.cells (Lib.cellsOf l N) 9) := ⟨_, rfl⟩
  rw [← hW1] at hown hb HSP
  have HMY := hid (mayN_any (.slice (some ⟨w.heap.size, 0, none⟩) l.length N) l W1 (Sl.of_own hown) (fun x hx => by have := hsz x hx; omega) (by omega))
  have HB := hid hb; have HOWN := hid hown; have H4 := hid h4
  have HSB := hid (star_eq s)
  clear hW1 hown hb h4 hsz hmin
  by_cases hst : s = ⟨#[42]⟩
  · rw [if_pos hst] at hpr
    have HPR := hid hpr
    have t1 : (s.toList == [42]) = true := by rw [HSB.out]; exact decide_eq_true hst
    clear hpr hst
    go_enter Tryd.func19, Tryd.ntmps19
    go_wp2
    refine bodyPost_ret (v := .tuple #[.slice none 0 0, .int .i64 0]) (by simp [results, Tryd.results19, go_sem]) rfl ?_
    rw [HPR.out]
    exact ⟨_, rfl, World.ownsRow_nil _ _ _ _, Below.refl _ _⟩
  · rw [if_neg hst] at hpr
    have HPR := hid hpr
    have t1 : (s.toList == [42]) = false := by rw [HSB.out]; exact decide_eq_false hst
    clear hpr hst
    go_enter Tryd.func19, Tryd.ntmps19
    go_wp2_with fail
    refine HSP.out.mono ?_
    rintro e w1 ⟨rfl, rfl⟩
    go_wp2_with fail
    refine HMY.out.mono ?_
    rintro e w2 ⟨rfl, hb2⟩
    have HB2 := hid (HB.out.trans (hb2.mono HB.out.size))
    have HO2 := hid (own_kept HOWN.out (fun g hg => hb2.block g (HOWN.out.lt g hg).2))
    clear hb2
    have hw : (mayB l = true ∧ pathR s = (l, 0)) ∨ (mayB l = false ∧ pathR s = ([], 10)) := by
      rcases H4.out with h | ⟨h, h'⟩
      · subst h
        cases hm : mayB (piecesB s)
        · right; exact ⟨rfl, by rw [HPR.out, if_neg (by rw [hm]; simp)]⟩
        · left; exact ⟨rfl, by rw [HPR.out, if_pos hm]⟩
      · right; exact ⟨h', by rw [HPR.out, if_neg (by rw [h]; simp)]⟩
    rcases hw with ⟨hml, hpr2⟩ | ⟨hml, hpr2⟩
    · have HPR2 := hid hpr2
      rw [hml]
      clear hpr2 hml
      go_wp2
      refine bodyPost_ret (v := .tuple #[.slice (some ⟨w.heap.size, 0, none⟩) l.length N, .int .i64 0]) (by simp [results, Tryd.results19, go_sem]) rfl ?_
      rw [HPR2.out]
      exact ⟨_, rfl, HO2.out, HB2.out⟩
    · have HPR2 := hid hpr2
      rw [hml]
      clear hpr2 hml
      go_wp2
      refine bodyPost_ret (v := .tuple #[.slice none 0 0, .int .i64 10]) (by simp [results, Tryd.results19, go_sem]) rfl ?_
      rw [HPR2.out]
      exact ⟨_, rfl, World.ownsRow_nil _ _ _ _, HB2.out⟩
end Go.Proofs.YtkdpclllenbgfaaDoor
