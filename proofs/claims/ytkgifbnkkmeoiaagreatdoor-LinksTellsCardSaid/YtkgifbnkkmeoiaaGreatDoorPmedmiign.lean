/- 2 texts of this claim, in build order. -/
import Derived.Test.YtkgifbnkkmeoiaaGreatDoorPkcgdjgcb
import Derived.Test.YtkgifbnkkmeoiaaGreatDoorPodkhkmbg
import Derived.Test.YtkgifbnkkmeoiaaGreatDoorPfimkpfpn
/- Boxes that are built while a reader moves. -/
namespace Go.Proofs.YtkgifbnkkmeoiaaGreatDoor
open Go.ChangeShapes Go.WideShapes Go.ChangeAt Go.RowKit
set_option linter.unusedVariables false
set_option linter.unusedSimpArgs false

theorem MaxL.upd {w w' : World} {p : Nat} (h : MaxL w) (hu : Upd p w w') (hp : p ≠ 0) : MaxL w' := by
  obtain ⟨m, hm⟩ := h
  exact ⟨m, hu.cellAt (World.block_lt_of_cell? w _ hm) (fun e => hp e.symm) hm⟩
/-- A fact that is built in block N. -/
structure FBox (w wq : World) (p N : Nat) (pv vv : Value) : Prop where
  lt : N < wq.heap.size
  ge : w.heap.size ≤ N
  upd : Upd p w wq
  c0 : wq.cell? ⟨N, 0, none⟩ = some pv
  z0 : wq.frozen? ⟨N, 0, none⟩ = false
  c1 : wq.cell? ⟨N, 1, none⟩ = some vv
  z1 : wq.frozen? ⟨N, 1, none⟩ = false
theorem FBox.keep {w wq wr : World} {p N : Nat} {pv vv : Value} (h : FBox w wq p N pv vv) (hp : p < w.heap.size) (hs : wq.heap.size ≤ wr.heap.size) (k : ∀ g, g < N + 1 → g ≠ p → wr.heap[g]? = wq.heap[g]?) (ho : wr.os = wq.os ∧ wr.tape = wq.tape ∧ wr.output = wq.output) : FBox w wr p N pv vv := by
  have hb := k N (by omega) (by have := h.ge; omega)
  refine ⟨by have := h.lt; omega, h.ge, ⟨ho.1.trans h.upd.os, ho.2.1.trans h.upd.tape, ho.2.2.trans h.upd.output, Nat.le_trans h.upd.size hs, fun g hg hn => (k g (by have := h.ge; omega) (fun e => hn (by rw [e]))).trans (h.upd.block g hg hn)⟩, ?_, ?_, ?_, ?_⟩
  · exact (World.cell?_of_block (a := ⟨N, 0, none⟩) hb).trans h.c0
  · exact (World.frozen?_of_block (a := ⟨N, 0, none⟩) hb).trans h.z0
  · exact (World.cell?_of_block (a := ⟨N, 1, none⟩) hb).trans h.c1
  · exact (World.frozen?_of_block (a := ⟨N, 1, none⟩) hb).trans h.z1
theorem FBox.move {w wq wr : World} {p N : Nat} {pv vv : Value} (h : FBox w wq p N pv vv) (hp : p < w.heap.size) (hu : Upd p wq wr) : FBox w wr p N pv vv :=
  h.keep hp hu.size (fun g hg hn => hu.block g (by have := h.lt; omega) (fun e => hn (Option.some.inj e))) ⟨hu.os, hu.tape, hu.output⟩
theorem Upd.of_below {p : Nat} {w w' : World} (h : Below w.heap.size w w') : Upd p w w' := ⟨h.os, h.tape, h.output, h.size, fun k hk _ => h.block k hk⟩
theorem FBox.over {w wq wr : World} {p N : Nat} {pv vv : Value} (h : FBox w wq p N pv vv) (hp : p < w.heap.size) (hb : Below (N + 1) wq wr) : FBox w wr p N pv vv :=
  h.keep hp hb.size (fun g hg hn => hb.block g hg) ⟨hb.os, hb.tape, hb.output⟩
theorem FBox.set0 {w wq : World} {p N : Nat} {pv vv : Value} (h : FBox w wq p N pv vv) (u : Value) : FBox w (wq.setCell ⟨N, 0, none⟩ u) p N u vv :=
  ⟨by simpa [World.setCell] using h.lt, h.ge, ⟨h.upd.os, h.upd.tape, h.upd.output, by simpa [World.setCell] using h.upd.size, fun g hg hn => (Below.heap_setCell _ _ _ g (by have := h.ge; simp; omega)).trans (h.upd.block g hg hn)⟩, cell_here h.c0, frozen_far h.z0, cell_beside (by omega) h.c1, frozen_far h.z1⟩
theorem FBox.set1 {w wq : World} {p N : Nat} {pv vv : Value} (h : FBox w wq p N pv vv) (u : Value) : FBox w (wq.setCell ⟨N, 1, none⟩ u) p N pv u :=
  ⟨by simpa [World.setCell] using h.lt, h.ge, ⟨h.upd.os, h.upd.tape, h.upd.output, by simpa [World.setCell] using h.upd.size, fun g hg hn => (Below.heap_setCell _ _ _ g (by have := h.ge; simp; omega)).trans (h.upd.block g hg hn)⟩, cell_beside (by omega) h.c0, frozen_far h.z0, cell_here h.c1, frozen_far h.z1⟩
theorem FBox.far {w wq : World} {p N N' i : Nat} {pv vv : Value} (h : FBox w wq p N pv vv) (hp : p < w.heap.size) (hN : N < N') (u : Value) : FBox w (wq.setCell ⟨N', i, none⟩ u) p N pv vv :=
  h.keep hp (by simp [World.setCell]) (fun g hg _ => Below.heap_setCell _ _ _ g (by simp; omega)) ⟨rfl, rfl, rfl⟩
theorem RW.set {w : World} {B p a N i : Nat} {l : List UInt8} {e : Int} (h : RW w B p l a e) (hN : p < N) (u : Value) : RW (w.setCell ⟨N, i, none⟩ u) B p l a e :=
  h.keep (Below.setCell (Below.refl (p + 1) w) (show p + 1 ≤ N by omega) u)
theorem Upd.over {p B : Nat} {a b c : World} (h : Upd p a b) (k : Below B b c) (hB : a.heap.size ≤ B) : Upd p a c :=
  ⟨k.os.trans h.os, k.tape.trans h.tape, k.output.trans h.output, Nat.le_trans h.size k.size, fun g hg hn => (k.block g (by omega)).trans (h.block g hg hn)⟩
/-- A box of some cells that is built in block N. -/
structure BoxN (w wq : World) (p N : Nat) (cs : List Value) : Prop where
  lt : N < wq.heap.size
  ge : w.heap.size ≤ N
  upd : Upd p w wq
  c : ∀ i v, cs[i]? = some v → wq.cell? ⟨N, i, none⟩ = some v ∧ wq.frozen? ⟨N, i, none⟩ = false
theorem BoxN.keep {w wq wr : World} {p N : Nat} {cs : List Value} (h : BoxN w wq p N cs) (hp : p < w.heap.size) (hs : wq.heap.size ≤ wr.heap.size) (k : ∀ g, g < N + 1 → g ≠ p → wr.heap[g]? = wq.heap[g]?) (ho : wr.os = wq.os ∧ wr.tape = wq.tape ∧ wr.output = wq.output) : BoxN w wr p N cs := by
  have hb := k N (by omega) (by have := h.ge; omega)
  exact ⟨by have := h.lt; omega, h.ge, ⟨ho.1.trans h.upd.os, ho.2.1.trans h.upd.tape, ho.2.2.trans h.upd.output, Nat.le_trans h.upd.size hs, fun g hg hn => (k g (by have := h.ge; omega) (fun e => hn (by rw [e]))).trans (h.upd.block g hg hn)⟩,
    fun i v hv => ⟨(World.cell?_of_block (a := ⟨N, i, none⟩) hb).trans (h.c i v hv).1, (World.frozen?_of_block (a := ⟨N, i, none⟩) hb).trans (h.c i v hv).2⟩⟩
theorem BoxN.move {w wq wr : World} {p N : Nat} {cs : List Value} (h : BoxN w wq p N cs) (hp : p < w.heap.size) (hu : Upd p wq wr) : BoxN w wr p N cs :=
  h.keep hp hu.size (fun g hg hn => hu.block g (by have := h.lt; omega) (fun e => hn (Option.some.inj e))) ⟨hu.os, hu.tape, hu.output⟩
theorem BoxN.over {w wq wr : World} {p N : Nat} {cs : List Value} (h : BoxN w wq p N cs) (hp : p < w.heap.size) (hb : Below (N + 1) wq wr) : BoxN w wr p N cs :=
  h.keep hp hb.size (fun g hg hn => hb.block g hg) ⟨hb.os, hb.tape, hb.output⟩
theorem BoxN.far {w wq : World} {p N N' i : Nat} {cs : List Value} (h : BoxN w wq p N cs) (hp : p < w.heap.size) (hN : N < N') (u : Value) : BoxN w (wq.setCell ⟨N', i, none⟩ u) p N cs :=
  h.keep hp (by simp [World.setCell]) (fun g hg _ => Below.heap_setCell _ _ _ g (by simp; omega)) ⟨rfl, rfl, rfl⟩
theorem BoxN.set {w wq : World} {p N : Nat} {cs : List Value} (h : BoxN w wq p N cs) (i : Nat) (hi : i < cs.length) (u : Value) : BoxN w (wq.setCell ⟨N, i, none⟩ u) p N (cs.set i u) := by
  refine ⟨by simpa [World.setCell] using h.lt, h.ge, ⟨h.upd.os, h.upd.tape, h.upd.output, by simpa [World.setCell] using h.upd.size, fun g hg hn => (Below.heap_setCell _ _ _ g (by have := h.ge; simp; omega)).trans (h.upd.block g hg hn)⟩, fun j v hv => ?_⟩
  rcases Nat.decEq i j with hne | rfl
  · rw [List.getElem?_set_ne hne] at hv
    exact ⟨cell_beside hne (h.c j v hv).1, frozen_far (h.c j v hv).2⟩
  · rw [List.getElem?_set_self hi] at hv
    injection hv with hv
    subst hv
    exact ⟨cell_here (h.c i _ (List.getElem?_eq_getElem hi)).1, frozen_far (h.c i _ (List.getElem?_eq_getElem hi)).2⟩
end Go.Proofs.YtkgifbnkkmeoiaaGreatDoor
/- The reference's Reader.Text. -/
namespace Go.Proofs.YtkgifbnkkmeoiaaGreatDoor
open Go.ChangeShapes Go.WideShapes Go.ChangeAt Go.RowKit
set_option linter.unusedVariables false

theorem rText_err (l : List UInt8) (a : Nat) (e most : Int) (h : e ≠ 0) : rText l a e most = ([], a, e) := by
  unfold rText rInt; simp [h]
theorem rText_bad (l : List UInt8) (a : Nat) (most k : Int) (hk : k ≠ 0) (h : getInt (l.drop a) = (0, 0, k)) : rText l a 0 most = ([], a, k) := by
  unfold rText rInt; simp [h, hk]
theorem rText_out (l : List UInt8) (a n : Nat) (most z : Int) (h : getInt (l.drop a) = (z, (n : Int), 0)) (hz : z < 0 ∨ most < z) : rText l a 0 most = ([], a, 2) := by
  unfold rText rInt; simp [h, hz]
theorem rText_in (l : List UInt8) (a n m : Nat) (most : Int) (h : getInt (l.drop a) = ((m : Int), (n : Int), 0)) (hz : (m : Int) ≤ most) (ha : a + n ≤ l.length) :
    rText l a 0 most = if l.length < a + n + m then ([], a, 3) else ((l.drop (a + n)).take m, a + n + m, 0) := by
  have hr : rInt l a 0 0 most = ((m : Int), a + n, 0) := by
    unfold rInt; rw [if_neg (by simp), h, if_neg (by simp), if_neg (by omega)]; simp
  unfold rText
  rw [hr, if_neg (by simp)]
  by_cases hlt : l.length < a + n + m
  · rw [if_pos hlt, if_pos (by simp; omega)]
  · rw [if_neg hlt, if_neg (by simp; omega)]; simp
theorem Sl.from_ {w : World} {B n c a : Nat} {A : Option Addr} {l : List UInt8} (h : Sl w B (.slice A n c) (bvals l)) (ha : a ≤ l.length) :
    Sl w B (.slice (if c = a then A else Option.map (fun x => x.add a) A) (l.length - a) (c - a)) (bvals (l.drop a)) := by
  have hn : n = l.length := by
    obtain ⟨A', c', e, _⟩ := h
    injection e with _ e2 _
    rw [e2, bvals_len]
  have := h.mid (a := a) (m := l.length - a) (by omega)
  rw [show ((bvals l).drop a).take (l.length - a) = bvals (l.drop a) by
    rw [List.take_of_length_le (by simp [bvals_len])]; simp [bvals, List.map_drop]] at this
  exact this
theorem text_from {w : World} {B c a m : Nat} {A : Option Addr} {l : List UInt8} (h : Sl w B (.slice A l.length c) (bvals l)) (hm : a + m ≤ l.length) (k : Nat) :
    Sem.run Tryz.prog (convert 23 9 (.slice (if c = a then A else Option.map (fun x => x.add a) A) m (c - a))) (w.drewN k) = .ok (.string ⟨((l.drop a).take m).toArray⟩) (w.drewN k) :=
  text_mid (h.qu' ⟨k, rfl⟩) hm
/-- The reader's own number. -/
theorem refGet_from {w : World} {B c a : Nat} {A : Option Addr} {l : List UInt8} (h : Sl w B (.slice A l.length c) (bvals l)) (hB : B ≤ w.heap.size) (ha : a ≤ l.length) (hl : l.length ≤ 140737488355328) {z k e : Int} (hg : getInt (l.drop a) = (z, k, e)) (n : Nat) :
    Calls Tryz.prog 67 #[.slice (if c = a then A else Option.map (fun x => x.add a) A) (l.length - a) (c - a)] (w.drewN n) (fun en w'' => en = .returned (.tuple #[.int .i64 z, .int .i64 k, .int .i64 e]) ∧ w'' = w.drewN n) :=
  (refGetInt_any _ (l.drop a) (w.drewN n) (((h.from_ ha).more hB).qu' ⟨n, rfl⟩) (by rw [List.length_drop]; omega)).mono fun en w'' h => ⟨by rw [h.1, hg], h.2.symm⟩
set_option maxRecDepth 100000 in
set_option maxHeartbeats 400000 in
theorem refReadText_bad (B p : Nat) (l : List UInt8) (a : Nat) (k most : Int) (w : World) (h : RW w B p l a 0) (hk : getInt (l.drop a) = (0, 0, k)) (hk1 : (k == 0) = false) (hk2 : (k != 0) = true) :
    Calls Tryz.prog 43 #[.pointer (some ⟨p, 0, none⟩), .int .i64 most] w (RTextPost ([], a, k) B p l w) := by
  have h' := h
  have hlt := h.lt
  obtain ⟨h1, h2, h3, h4, s, h5, h6, h7, h8⟩ := h
  have f1 := h4 1 (by omega)
  have f2 := h4 2 (by omega)
  have h8' := h8
  obtain ⟨A, c, rfl, hc1, hc2, hA⟩ := h8
  simp only [bvals_len] at hc1 h5 h8' ⊢
  unfold maxLen at hc2
  have HW := hid h'; have HS8 := hid h8'
  clear h' hA h4 h8'
  have HI := hid (refGet_from (w := w) HS8.out (by omega) h2 h3 hk)
  have HK := hid hk; clear hk
  go_enter Tryz.func43, Tryz.ntmps43
  go_wp2
  go_quiet ((go_at_call 67; exact Calls.quiet_of_same (HI.out _)))
  go_wp2
  all_goals go_ret
  all_goals exact ⟨rfl, (HW.out.qu ⟨_, rfl⟩).setE k, ((Upd.refl p w).qu ⟨_, rfl⟩).trans (Upd.setCell _ _ _ _)⟩
set_option maxRecDepth 100000 in
set_option maxHeartbeats 400000 in
theorem refReadText_lo (B p : Nat) (l : List UInt8) (a : Nat) (n : Nat) (z most : Int) (w : World) (h : RW w B p l a 0) (hn : a + n ≤ l.length) (hk : getInt (l.drop a) = (z, (n : Int), 0)) (hz : z < 0) :
    Calls Tryz.prog 43 #[.pointer (some ⟨p, 0, none⟩), .int .i64 most] w (RTextPost ([], a, 2) B p l w) := by
  have h' := h
  have hlt := h.lt
  obtain ⟨h1, h2, h3, h4, s, h5, h6, h7, h8⟩ := h
  have f1 := h4 1 (by omega)
  have f2 := h4 2 (by omega)
  have h8' := h8
  obtain ⟨A, c, rfl, hc1, hc2, hA⟩ := h8
  simp only [bvals_len] at hc1 h5 h8' ⊢
  unfold maxLen at hc2
  have HW := hid h'; have HS8 := hid h8'
  clear h' hA h4 h8'
  have HI := hid (refGet_from (w := w) HS8.out (by omega) h2 h3 hk)
  have HK := hid hk; clear hk
  go_enter Tryz.func43, Tryz.ntmps43
  go_wp2
  go_quiet ((go_at_call 67; exact Calls.quiet_of_same (HI.out _)))
  go_wp2
  all_goals go_ret
  all_goals exact ⟨rfl, (HW.out.qu ⟨_, rfl⟩).setE 2, ((Upd.refl p w).qu ⟨_, rfl⟩).trans (Upd.setCell _ _ _ _)⟩
set_option maxRecDepth 100000 in
set_option maxHeartbeats 400000 in
theorem refReadText_hi (B p : Nat) (l : List UInt8) (a : Nat) (n : Nat) (z most : Int) (w : World) (h : RW w B p l a 0) (hn : a + n ≤ l.length) (hk : getInt (l.drop a) = (z, (n : Int), 0)) (hz : 0 ≤ z) (hz' : most < z) :
    Calls Tryz.prog 43 #[.pointer (some ⟨p, 0, none⟩), .int .i64 most] w (RTextPost ([], a, 2) B p l w) := by
  have h' := h
  have hlt := h.lt
  obtain ⟨h1, h2, h3, h4, s, h5, h6, h7, h8⟩ := h
  have f1 := h4 1 (by omega)
  have f2 := h4 2 (by omega)
  have h8' := h8
  obtain ⟨A, c, rfl, hc1, hc2, hA⟩ := h8
  simp only [bvals_len] at hc1 h5 h8' ⊢
  unfold maxLen at hc2
  have HW := hid h'; have HS8 := hid h8'
  clear h' hA h4 h8'
  have HI := hid (refGet_from (w := w) HS8.out (by omega) h2 h3 hk)
  have HK := hid hk; clear hk
  go_enter Tryz.func43, Tryz.ntmps43
  go_wp2
  go_quiet ((go_at_call 67; exact Calls.quiet_of_same (HI.out _)))
  go_wp2
  all_goals go_ret
  all_goals exact ⟨rfl, (HW.out.qu ⟨_, rfl⟩).setE 2, ((Upd.refl p w).qu ⟨_, rfl⟩).trans (Upd.setCell _ _ _ _)⟩
set_option maxRecDepth 100000 in
set_option maxHeartbeats 400000 in
theorem refReadText_short (B p : Nat) (l : List UInt8) (a : Nat) (n m : Nat) (most : Int) (w : World) (h : RW w B p l a 0) (hn : a + n ≤ l.length) (hk : getInt (l.drop a) = ((m : Int), (n : Int), 0)) (hz : (m : Int) ≤ most) (hlt : l.length < a + n + m) :
    Calls Tryz.prog 43 #[.pointer (some ⟨p, 0, none⟩), .int .i64 most] w (RTextPost ([], a, 3) B p l w) := by
  have h' := h
  have hlt := h.lt
  obtain ⟨h1, h2, h3, h4, s, h5, h6, h7, h8⟩ := h
  have f1 := h4 1 (by omega)
  have f2 := h4 2 (by omega)
  have h8' := h8
  obtain ⟨A, c, rfl, hc1, hc2, hA⟩ := h8
  simp only [bvals_len] at hc1 h5 h8' ⊢
  unfold maxLen at hc2
  have HW := hid h'; have HS8 := hid h8'
  clear h' hA h4 h8'
  have HI := hid (refGet_from (w := w) HS8.out (by omega) h2 h3 hk)
  have HK := hid hk; clear hk
  have td : decide ((l.length : Int) - (a : Int) - (n : Int) < (m : Int)) = true := by rw [decide_eq_true_eq]; omega
  go_enter Tryz.func43, Tryz.ntmps43
  go_wp2
  go_quiet ((go_at_call 67; exact Calls.quiet_of_same (HI.out _)))
  go_wp2
  all_goals go_quiet (fail)
  all_goals go_wp2
  all_goals go_ret
  all_goals exact ⟨rfl, (HW.out.qu ⟨_, rfl⟩).setE 3, ((Upd.refl p w).qu ⟨_, rfl⟩).trans (Upd.setCell _ _ _ _)⟩
set_option maxRecDepth 100000 in
set_option maxHeartbeats 600000 in
theorem refReadText_ok (B p : Nat) (l : List UInt8) (a : Nat) (n m : Nat) (most : Int) (w : World) (h : RW w B p l a 0) (hn0 : 0 < n) (hn : a + n ≤ l.length) (hk : getInt (l.drop a) = ((m : Int), (n : Int), 0)) (hz : (m : Int) ≤ most) (hm : a + n + m ≤ l.length) :
    Calls Tryz.prog 43 #[.pointer (some ⟨p, 0, none⟩), .int .i64 most] w (RTextPost ((l.drop (a + n)).take m, a + n + m, 0) B p l w) := by
  have h' := h
  have hlt := h.lt
  obtain ⟨h1, h2, h3, h4, s, h5, h6, h7, h8⟩ := h
  have f1 := h4 1 (by omega)
  have f2 := h4 2 (by omega)
  have h8' := h8
  obtain ⟨A, c, rfl, hc1, hc2, hA⟩ := h8
  simp only [bvals_len] at hc1 h5 h8' ⊢
  unfold maxLen at hc2
  have HW := hid h'; have HS8 := hid h8'
  clear h' hA h4 h8'
  have HI := hid (refGet_from (w := w) HS8.out (by omega) h2 h3 hk)
  have HK := hid hk; clear hk
  have td : decide ((l.length : Int) - (a : Int) - (n : Int) < (m : Int)) = false := by rw [decide_eq_false_iff_not]; omega
  have HCA := hid (show ¬ c = a by omega); clear hn0
  have hcv := text_from HS8.out hm
  obtain ⟨s0, hs0⟩ : ∃ s, s = (l.drop (a + n)).take m := ⟨_, rfl⟩
  rw [← hs0] at hcv
  rw [← hs0]
  have HCV := hid hcv; clear hs0 hcv
  go_enter Tryz.func43, Tryz.ntmps43
  go_wp2
  go_quiet ((go_at_call 67; exact Calls.quiet_of_same (HI.out _)))
  have hca := HCA.out
  go_wp2
  go_quiet (fail)
  go_wp2
  have hcv := HCV.out
  go_quiet (fail)
  clear hcv
  go_wp2
  all_goals go_ret
  all_goals exact ⟨rfl, (HW.out.qu ⟨_, rfl⟩).setA' hm (by simp), ((Upd.refl p w).qu ⟨_, rfl⟩).trans (Upd.setCell _ _ _ _)⟩
theorem refReadText_any (B p : Nat) (l : List UInt8) (a : Nat) (e most : Int) (w : World) (h : RW w B p l a e) :
    Calls Tryz.prog 43 #[.pointer (some ⟨p, 0, none⟩), .int .i64 most] w (RTextPost (rText l a e most) B p l w) := by
  by_cases he : e = 0
  · subst he
    have ha := h.2.1
    rcases getInt_says (l.drop a) with (hg | hg) | ⟨n, z, h1, h2, hg⟩
    · rw [rText_bad l a most 2 (by decide) hg]; exact refReadText_bad B p l a 2 most w h hg rfl rfl
    · rw [rText_bad l a most 3 (by decide) hg]; exact refReadText_bad B p l a 3 most w h hg rfl rfl
    · rw [List.length_drop] at h2
      by_cases h0 : z < 0
      · rw [rText_out l a n most z hg (.inl h0)]; exact refReadText_lo B p l a n z most w h (by omega) hg h0
      · by_cases h3 : most < z
        · rw [rText_out l a n most z hg (.inr h3)]; exact refReadText_hi B p l a n z most w h (by omega) hg (by omega) h3
        · obtain ⟨m, rfl⟩ := Int.eq_ofNat_of_zero_le (show 0 ≤ z by omega)
          rw [rText_in l a n m most hg (by omega) (by omega)]
          by_cases h4 : l.length < a + n + m
          · rw [if_pos h4]; exact refReadText_short B p l a n m most w h (by omega) hg (by omega) h4
          · rw [if_neg h4]; exact refReadText_ok B p l a n m most w h h1 (by omega) hg (by omega) (by omega)
  · rw [rText_err l a e most he]
    have h' := h
    obtain ⟨h1, h2, h3, h4, s, h5, h6, h7, h8⟩ := h
    have t1 : (e != 0) = true := by simp [he]
    have HW := hid h'; clear he h4 h8 h'
    go_enter Tryz.func43, Tryz.ntmps43
    go_wp2
    go_ret
    exact ⟨rfl, HW.out, Upd.refl _ _⟩
end Go.Proofs.YtkgifbnkkmeoiaaGreatDoor
