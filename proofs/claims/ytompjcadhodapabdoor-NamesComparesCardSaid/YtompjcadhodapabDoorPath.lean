/- names.Path: a text is read as a path. -/
import Derived.Test.YtompjcadhodapabDoorPathMath
import Derived.Test.YtompjcadhodapabDoorSplit
import Derived.Test.YtompjcadhodapabDoorGen
namespace Go.Proofs.YtompjcadhodapabDoor
open Go.ChangeShapes Go.WideShapes Go.ChangeAt Go.RowKit
set_option linter.unusedVariables false
set_option linter.unusedSimpArgs false

/-- The library's variable holds a number. -/
def MaxL (w : World) : Prop := ∃ m : Int, w.cell? ⟨0, 0, none⟩ = some (.int .i64 m)
theorem MaxL.lt {w : World} (h : MaxL w) : 0 < w.heap.size := by
  obtain ⟨m, hm⟩ := h
  exact World.block_lt_of_cell? w ⟨_, 0, none⟩ hm
theorem MaxL.below {w w' : World} {B : Nat} (h : MaxL w) (hb : Below B w w') (hB : 0 < B) : MaxL w' := by
  obtain ⟨m, hm⟩ := h
  exact ⟨m, cellK hb hB hm⟩
theorem MaxL.on {w w' : World} (h : MaxL w) (hb : Below w.heap.size w w') : MaxL w' := h.below hb h.lt
/-- What Path gives: a path of one's own, and the error. -/
def PathPost (r : List ByteArray × Int) (w : World) (e : Ending) (w' : World) : Prop :=
  ∃ v, e = .returned (.tuple #[v, .int .i64 r.2]) ∧ w'.ownsRow w.heap.size 9 1 v r.1.length (svals r.1) ∧ Below w.heap.size w w'
theorem star_eq (s : ByteArray) : (s.toList == [42]) = decide (s = ⟨#[42]⟩) := by
  have h : (⟨#[42]⟩ : ByteArray).toList = [42] := by decide +kernel
  have k := str_beq s ⟨#[42]⟩
  rw [h] at k; exact k
theorem cells_own (w : World) (l : List ByteArray) (n : Nat) (hn : l.length ≤ n) (hm : n ≤ maxLen) :
    (w.alloc (.cells (Lib.cellsOf l n) 9)).ownsRow w.heap.size 9 1 (.slice (some ⟨w.heap.size, 0, none⟩) l.length n) l.length (svals l) := by
  refine ⟨by rw [svals_len, Nat.mul_one], .inr ⟨w.heap.size, n, _, rfl, Nat.le_refl _, heap_alloc_new w _, hn, hm, ?_, ?_⟩⟩
  · rw [Lib.cellsOf_size hn, Nat.mul_one]
  · unfold Lib.cellsOf svals
    rw [Nat.mul_one]
    simp
set_option maxRecDepth 100000 in
set_option maxHeartbeats 800000 in
theorem path_any (s : ByteArray) (w : World) (hs : s.size < 4294967281) (hm : MaxL w) :
    Calls Tryd.prog 10 #[.string s] w (PathPost (pathR s) w) := by
  obtain ⟨m, hm⟩ := hm
  have HSP := hid (show Calls Tryd.prog 21 #[.string s, .string ⟨#[47]⟩, .int .i64 4] w fun e w' =>
      e = .returned (.slice (some ⟨w.heap.size, 0, none⟩) (Lib.splitB slash 0 (min 4 (s.size + 1) - 1) s).length (min 4 (s.size + 1))) ∧ w' = w.alloc (.cells (Lib.cellsOf (Lib.splitB slash 0 (min 4 (s.size + 1) - 1) s) (min 4 (s.size + 1))) 9)
    from strings_SplitN s slash 4 m w hs hm (by decide) (by decide) (by decide))
  have h4 := split4 s
  have hlen := Lib.splitB_length_le slash 0 (min 4 (s.size + 1) - 1) s
  have hsz : ∀ x ∈ Lib.splitB slash 0 (min 4 (s.size + 1) - 1) s, x.size ≤ s.size := splitB_size _ s
  have hpr : pathR s = if s = ⟨#[42]⟩ then ([], 0) else if mayB (piecesB s) then (piecesB s, 0) else ([], 10) := rfl
  have hmin : min 4 (s.size + 1) - 1 + 1 = min 4 (s.size + 1) := by omega
  have hm4 : min 4 (s.size + 1) ≤ 4 := by omega
  rw [hmin] at hlen
  generalize min 4 (s.size + 1) = N at *
  generalize Lib.splitB slash 0 (N - 1) s = l at *
  have hown := cells_own w l N hlen (by unfold maxLen; omega)
  have hb := bl1 w (.cells (Lib.cellsOf l N) 9)
  obtain ⟨W1, hW1⟩ : ∃ W, W = w.alloc (.cells (Lib.cellsOf l N) 9) := ⟨_, rfl⟩
  rw [← hW1] at hown hb HSP
  have HMY := hid (mayN_any (.slice (some ⟨w.heap.size, 0, none⟩) l.length N) l W1 (Sl.of_own hown) (fun x hx => by have := hsz x hx; omega) (by omega))
  have HB := hid hb; have HOWN := hid hown; have H4 := hid h4
  have HSB := hid (star_eq s)
  clear hW1 hown hb h4 hsz hmin
  by_cases hst : s = ⟨#[42]⟩
  · rw [if_pos hst] at hpr
    have HPR := hid hpr
    have t1 : (s.toList == [42]) = true := by rw [HSB.out]; exact decide_eq_true hst
    clear hpr hst
    go_enter Tryd.func10, Tryd.ntmps10
    go_wp2
    refine bodyPost_ret (v := .tuple #[.slice none 0 0, .int .i64 0]) (by simp [results, Tryd.results10, go_sem]) rfl ?_
    rw [HPR.out]
    exact ⟨_, rfl, World.ownsRow_nil _ _ _ _, Below.refl _ _⟩
  · rw [if_neg hst] at hpr
    have HPR := hid hpr
    have t1 : (s.toList == [42]) = false := by rw [HSB.out]; exact decide_eq_false hst
    clear hpr hst
    go_enter Tryd.func10, Tryd.ntmps10
    go_wp2_with fail
    refine HSP.out.mono ?_
    rintro e w1 ⟨rfl, rfl⟩
    go_wp2_with fail
    refine HMY.out.mono ?_
    rintro e w2 ⟨rfl, hb2⟩
    have HB2 := hid (HB.out.trans (hb2.mono HB.out.size))
    have HO2 := hid (own_kept HOWN.out (fun g hg => hb2.block g (HOWN.out.lt g hg).2))
    clear hb2
    have hw : (mayB l = true ∧ pathR s = (l, 0)) ∨ (mayB l = false ∧ pathR s = ([], 10)) := by
      rcases H4.out with h | ⟨h, h'⟩
      · subst h
        cases hm : mayB (piecesB s)
        · right; exact ⟨rfl, by rw [HPR.out, if_neg (by rw [hm]; simp)]⟩
        · left; exact ⟨rfl, by rw [HPR.out, if_pos hm]⟩
      · right; exact ⟨h', by rw [HPR.out, if_neg (by rw [h]; simp)]⟩
    rcases hw with ⟨hml, hpr2⟩ | ⟨hml, hpr2⟩
    · have HPR2 := hid hpr2
      rw [hml]
      clear hpr2 hml
      go_wp2
      refine bodyPost_ret (v := .tuple #[.slice (some ⟨w.heap.size, 0, none⟩) l.length N, .int .i64 0]) (by simp [results, Tryd.results10, go_sem]) rfl ?_
      rw [HPR2.out]
      exact ⟨_, rfl, HO2.out, HB2.out⟩
    · have HPR2 := hid hpr2
      rw [hml]
      clear hpr2 hml
      go_wp2
      refine bodyPost_ret (v := .tuple #[.slice none 0 0, .int .i64 10]) (by simp [results, Tryd.results10, go_sem]) rfl ?_
      rw [HPR2.out]
      exact ⟨_, rfl, World.ownsRow_nil _ _ _ _, HB2.out⟩
end Go.Proofs.YtompjcadhodapabDoor
