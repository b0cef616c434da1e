/- 1 text of this claim, in build order. -/
import Derived.Test.YtkgifbnkkmeoiaaGreatDoorPjbdkjpfe
import Derived.Test.YtkgifbnkkmeoiaaGreatDoorPkdfgmfbn
/- The law's few of a message. -/
namespace Go.Proofs.YtkgifbnkkmeoiaaGreatDoor
open Go.ChangeShapes Go.WideShapes Go.ChangeAt Go.RowKit
set_option linter.unusedVariables false
set_option linter.unusedSimpArgs false

def fewM (m : MsgX) : MsgX := { m with ents := m.ents.take 10, data := m.data.take 300 }
def FewMP (m : MsgX) (H : Nat) (w : World) (e : Ending) (w' : World) : Prop := ∃ u, e = .returned u ∧ MsgV w' H u (fewM m) ∧ Below w.heap.size w w'
theorem fewM_data (m : MsgX) : (fewM m).data.length ≤ 300 := by show (m.data.take 300).length ≤ 300; rw [List.length_take]; omega
theorem BoxC.beside {w : World} {N N' i : Nat} {cs : List Value} (h : BoxC w N cs) (hN : N' ≠ N) (u : Value) : BoxC (w.setCell ⟨N', i, none⟩ u) N cs :=
  ⟨by simpa [World.setCell] using h.lt, fun j v hv => ⟨cell_far hN (h.c j v hv).1, frozen_far (h.c j v hv).2⟩⟩
theorem bytes_take {l : List UInt8} (m : Nat) : bvals (l.take m) = (bvals l).take m := by simp [bvals, List.map_take]
set_option maxRecDepth 100000 in
set_option maxHeartbeats 3200000 in
theorem fewM_any (v : Value) (m : MsgX) (w : World) (H : Nat) (hH : H ≤ w.heap.size) (hv : MsgV w H v m) : Calls Tryz.prog 6 #[v] w (FewMP m H w) := by
  have HH := hid hH
  clear hH
  obtain ⟨A1, c1, A2, c2, rfl, hE, hD, hI⟩ := hv
  obtain ⟨hEc, hEm⟩ := hE.cap
  obtain ⟨A0, c0', h0, hDc, hDm, -⟩ := id hD
  rw [bvals_len] at h0 hDc
  injection h0 with g1 g2 g3
  subst g1
  subst g3
  clear g2
  unfold maxLen at hDm
  obtain ⟨kind, src, dst, term, index, logTerm, commit, round, rej, off, total, ents, data⟩ := m
  simp only [msgCs] at *
  obtain ⟨W1, hW1⟩ : ∃ W, W = (w.alloc (.cells #[(.int .i64 kind), (.int .i64 src), (.int .i64 dst), (.int .i64 term), (.int .i64 index), (.int .i64 logTerm), (.int .i64 commit), (.int .i64 round), (.bool rej), (.int .i64 off), (.int .i64 total), (.slice A1 ents.length c1), (.slice A2 data.length c2)] 25)).alloc (.cells #[(.int .i64 0), (.int .i64 0), (.int .i64 0), (.int .i64 0), (.int .i64 0), (.int .i64 0), (.int .i64 0), (.int .i64 0), (.bool false), (.int .i64 0), (.int .i64 0), (.slice none 0 0), (.slice none 0 0)] 25) := ⟨_, rfl⟩
  obtain ⟨q, hq⟩ : ∃ q, q = w.heap.size := ⟨_, rfl⟩
  have hb1 : Below w.heap.size w W1 := by rw [hW1]; exact (bl1 _ _).trans ((bl1 _ _).mono (by simp))
  have F1 : BoxC W1 q [(.int .i64 kind), (.int .i64 src), (.int .i64 dst), (.int .i64 term), (.int .i64 index), (.int .i64 logTerm), (.int .i64 commit), (.int .i64 round), (.bool rej), (.int .i64 off), (.int .i64 total), (.slice A1 ents.length c1), (.slice A2 data.length c2)] := by rw [hW1, hq]; exact (BoxC.new w _ _).below (bl1 _ _) (by simp)
  have G1 : BoxC W1 (q + 1) [(.int .i64 0), (.int .i64 0), (.int .i64 0), (.int .i64 0), (.int .i64 0), (.int .i64 0), (.int .i64 0), (.int .i64 0), (.bool false), (.int .i64 0), (.int .i64 0), (.slice none 0 0), (.slice none 0 0)] := by
    have h := BoxC.new (w.alloc (.cells #[(.int .i64 kind), (.int .i64 src), (.int .i64 dst), (.int .i64 term), (.int .i64 index), (.int .i64 logTerm), (.int .i64 commit), (.int .i64 round), (.bool rej), (.int .i64 off), (.int .i64 total), (.slice A1 ents.length c1), (.slice A2 data.length c2)] 25)) #[(.int .i64 0), (.int .i64 0), (.int .i64 0), (.int .i64 0), (.int .i64 0), (.int .i64 0), (.int .i64 0), (.int .i64 0), (.bool false), (.int .i64 0), (.int .i64 0), (.slice none 0 0), (.slice none 0 0)] 25
    rw [World.size_alloc, ← hq] at h
    rw [hW1]; exact h
  have HF1 := hid F1; have HG1 := hid G1; have HW1 := hid hW1; have HB1 := hid hb1; have HQ := hid hq; have HE := hid hE; have HD := hid hD; have HI := hid hI
  clear hE hD hI hW1 hb1 F1 G1 hq
  by_cases hel : 10 < ents.length
  · have hE1 : (ents.take 10).length = 10 := by rw [List.length_take]; omega
    have HE2 := hid (HE.out.head_ (m := 10) (by omega))
    have hle : (10 : Nat) ≤ c1 := by omega
    have HE1 := hid hE1
    by_cases hdl : 300 < data.length
    · have hD1 : (data.take 300).length = 300 := by rw [List.length_take]; omega
      have HD2 := hid (show Sl w H (.slice A2 300 c2) (bvals (data.take 300)) by rw [bytes_take]; exact Sl.head 300 HD.out (by omega))
      have hld : (300 : Nat) ≤ c2 := by omega
      have HD1 := hid hD1
      clear hD1 hE1
      go_enter Tryz.func6, Tryz.ntmps6
      go_upto_region 1 with (fail)
      rw [← HW1.out, ← HQ.out]
      obtain ⟨x11, y11⟩ := HF1.out.c 11 _ rfl; obtain ⟨x12, y12⟩ := HF1.out.c 12 _ rfl
      go_upto_region 3 with (fail)
      obtain ⟨W2, hW2⟩ : ∃ W, W = W1.setCell ⟨q, 11, none⟩ (.slice A1 10 c1) := ⟨_, rfl⟩
      rw [← hW2]
      have HF2 := hid (show BoxC W2 q [(.int .i64 kind), (.int .i64 src), (.int .i64 dst), (.int .i64 term), (.int .i64 index), (.int .i64 logTerm), (.int .i64 commit), (.int .i64 round), (.bool rej), (.int .i64 off), (.int .i64 total), (.slice A1 10 c1), (.slice A2 data.length c2)] by rw [hW2]; exact HF1.out.set 11 (by simp) _)
      have HG2 := hid (show BoxC W2 (q + 1) [(.int .i64 0), (.int .i64 0), (.int .i64 0), (.int .i64 0), (.int .i64 0), (.int .i64 0), (.int .i64 0), (.int .i64 0), (.bool false), (.int .i64 0), (.int .i64 0), (.slice none 0 0), (.slice none 0 0)] by rw [hW2]; exact HG1.out.beside (by omega) _)
      have HB2 := hid (show Below w.heap.size w W2 by rw [hW2]; exact HB1.out.setCell (show w.heap.size ≤ q by have := HQ.out; omega) _)
      clear hW2 x11 y11 x12 y12
      obtain ⟨x12, y12⟩ := HF2.out.c 12 _ rfl
      go_upto_region 5 with (fail)
      obtain ⟨W3, hW3⟩ : ∃ W, W = W2.setCell ⟨q, 12, none⟩ (.slice A2 300 c2) := ⟨_, rfl⟩
      rw [← hW3]
      have HF3 := hid (show BoxC W3 q [(.int .i64 kind), (.int .i64 src), (.int .i64 dst), (.int .i64 term), (.int .i64 index), (.int .i64 logTerm), (.int .i64 commit), (.int .i64 round), (.bool rej), (.int .i64 off), (.int .i64 total), (.slice A1 10 c1), (.slice A2 300 c2)] by rw [hW3]; exact HF2.out.set 12 (by simp) _)
      have HG3 := hid (show BoxC W3 (q + 1) [(.int .i64 0), (.int .i64 0), (.int .i64 0), (.int .i64 0), (.int .i64 0), (.int .i64 0), (.int .i64 0), (.int .i64 0), (.bool false), (.int .i64 0), (.int .i64 0), (.slice none 0 0), (.slice none 0 0)] by rw [hW3]; exact HG2.out.beside (by omega) _)
      have HB3 := hid (show Below w.heap.size w W3 by rw [hW3]; exact HB2.out.setCell (show w.heap.size ≤ q by have := HQ.out; omega) _)
      clear hW3 x12 y12
      obtain ⟨x0, -⟩ := HF3.out.c 0 _ rfl; obtain ⟨d0, y0⟩ := HG3.out.c 0 _ rfl; obtain ⟨x1, -⟩ := HF3.out.c 1 _ rfl; obtain ⟨d1, y1⟩ := HG3.out.c 1 _ rfl; obtain ⟨x2, -⟩ := HF3.out.c 2 _ rfl; obtain ⟨d2, y2⟩ := HG3.out.c 2 _ rfl; obtain ⟨x3, -⟩ := HF3.out.c 3 _ rfl; obtain ⟨d3, y3⟩ := HG3.out.c 3 _ rfl; obtain ⟨x4, -⟩ := HF3.out.c 4 _ rfl; obtain ⟨d4, y4⟩ := HG3.out.c 4 _ rfl; obtain ⟨x5, -⟩ := HF3.out.c 5 _ rfl; obtain ⟨d5, y5⟩ := HG3.out.c 5 _ rfl; obtain ⟨x6, -⟩ := HF3.out.c 6 _ rfl; obtain ⟨d6, y6⟩ := HG3.out.c 6 _ rfl; obtain ⟨x7, -⟩ := HF3.out.c 7 _ rfl; obtain ⟨d7, y7⟩ := HG3.out.c 7 _ rfl; obtain ⟨x8, -⟩ := HF3.out.c 8 _ rfl; obtain ⟨d8, y8⟩ := HG3.out.c 8 _ rfl; obtain ⟨x9, -⟩ := HF3.out.c 9 _ rfl; obtain ⟨d9, y9⟩ := HG3.out.c 9 _ rfl; obtain ⟨x10, -⟩ := HF3.out.c 10 _ rfl; obtain ⟨d10, y10⟩ := HG3.out.c 10 _ rfl; obtain ⟨x11, -⟩ := HF3.out.c 11 _ rfl; obtain ⟨d11, y11⟩ := HG3.out.c 11 _ rfl; obtain ⟨x12, -⟩ := HF3.out.c 12 _ rfl; obtain ⟨d12, y12⟩ := HG3.out.c 12 _ rfl
      go_wp2
      obtain ⟨W8, hW8⟩ : ∃ W, W = (((((((((((((W3.setCell ⟨q + 1, 0, none⟩ (.int .i64 kind)).setCell ⟨q + 1, 1, none⟩ (.int .i64 src)).setCell ⟨q + 1, 2, none⟩ (.int .i64 dst)).setCell ⟨q + 1, 3, none⟩ (.int .i64 term)).setCell ⟨q + 1, 4, none⟩ (.int .i64 index)).setCell ⟨q + 1, 5, none⟩ (.int .i64 logTerm)).setCell ⟨q + 1, 6, none⟩ (.int .i64 commit)).setCell ⟨q + 1, 7, none⟩ (.int .i64 round)).setCell ⟨q + 1, 8, none⟩ (.bool rej)).setCell ⟨q + 1, 9, none⟩ (.int .i64 off)).setCell ⟨q + 1, 10, none⟩ (.int .i64 total)).setCell ⟨q + 1, 11, none⟩ (.slice A1 10 c1)).setCell ⟨q + 1, 12, none⟩ (.slice A2 300 c2)) := ⟨_, rfl⟩
      rw [← hW8]
      have F8 : BoxC W8 (q + 1) [(.int .i64 kind), (.int .i64 src), (.int .i64 dst), (.int .i64 term), (.int .i64 index), (.int .i64 logTerm), (.int .i64 commit), (.int .i64 round), (.bool rej), (.int .i64 off), (.int .i64 total), (.slice A1 10 c1), (.slice A2 300 c2)] := by rw [hW8]; exact (((((((((((((HG3.out.set 0 (by simp) _).set 1 (by simp) _).set 2 (by simp) _).set 3 (by simp) _).set 4 (by simp) _).set 5 (by simp) _).set 6 (by simp) _).set 7 (by simp) _).set 8 (by simp) _).set 9 (by simp) _).set 10 (by simp) _).set 11 (by simp) _).set 12 (by simp) _)
      have B8 : Below w.heap.size w W8 := by
        rw [hW8]
        have hqq := HQ.out
        exact (((((((((((((HB3.out.setCell (show w.heap.size ≤ q + 1 by omega) _).setCell (show w.heap.size ≤ q + 1 by omega) _).setCell (show w.heap.size ≤ q + 1 by omega) _).setCell (show w.heap.size ≤ q + 1 by omega) _).setCell (show w.heap.size ≤ q + 1 by omega) _).setCell (show w.heap.size ≤ q + 1 by omega) _).setCell (show w.heap.size ≤ q + 1 by omega) _).setCell (show w.heap.size ≤ q + 1 by omega) _).setCell (show w.heap.size ≤ q + 1 by omega) _).setCell (show w.heap.size ≤ q + 1 by omega) _).setCell (show w.heap.size ≤ q + 1 by omega) _).setCell (show w.heap.size ≤ q + 1 by omega) _).setCell (show w.heap.size ≤ q + 1 by omega) _)
      have s0 := (F8.c 0 _ rfl).1; have s1 := (F8.c 1 _ rfl).1; have s2 := (F8.c 2 _ rfl).1; have s3 := (F8.c 3 _ rfl).1; have s4 := (F8.c 4 _ rfl).1; have s5 := (F8.c 5 _ rfl).1; have s6 := (F8.c 6 _ rfl).1; have s7 := (F8.c 7 _ rfl).1; have s8 := (F8.c 8 _ rfl).1; have s9 := (F8.c 9 _ rfl).1; have s10 := (F8.c 10 _ rfl).1; have s11 := (F8.c 11 _ rfl).1; have s12 := (F8.c 12 _ rfl).1
      refine bodyPost_ret (v := .agg #[(.int .i64 kind), (.int .i64 src), (.int .i64 dst), (.int .i64 term), (.int .i64 index), (.int .i64 logTerm), (.int .i64 commit), (.int .i64 round), (.bool rej), (.int .i64 off), (.int .i64 total), (.slice A1 10 c1), (.slice A2 300 c2)]) ?_ rfl ?_
      · simp [results, Tryz.results6, go_sem, s0, s1, s2, s3, s4, s5, s6, s7, s8, s9, s10, s11, s12]
      · exact ⟨_, rfl, ⟨A1, c1, A2, c2, by simp only [msgCs, fewM, HE1.out, HD1.out], by simp only [fewM, HE1.out]; exact good_ents.stays HE2.out (B8.mono HH.out), by simp only [fewM, HD1.out]; exact HD2.out.below (B8.mono HH.out), HI.out⟩, B8⟩
    · have hD1 : data.take 300 = data := List.take_of_length_le (by omega)
      have HD2 := HD
      have HD1 := hid hD1
      clear hD1 hE1
      go_enter Tryz.func6, Tryz.ntmps6
      go_upto_region 1 with (fail)
      rw [← HW1.out, ← HQ.out]
      obtain ⟨x11, y11⟩ := HF1.out.c 11 _ rfl; obtain ⟨x12, y12⟩ := HF1.out.c 12 _ rfl
      go_upto_region 3 with (fail)
      obtain ⟨W2, hW2⟩ : ∃ W, W = W1.setCell ⟨q, 11, none⟩ (.slice A1 10 c1) := ⟨_, rfl⟩
      rw [← hW2]
      have HF2 := hid (show BoxC W2 q [(.int .i64 kind), (.int .i64 src), (.int .i64 dst), (.int .i64 term), (.int .i64 index), (.int .i64 logTerm), (.int .i64 commit), (.int .i64 round), (.bool rej), (.int .i64 off), (.int .i64 total), (.slice A1 10 c1), (.slice A2 data.length c2)] by rw [hW2]; exact HF1.out.set 11 (by simp) _)
      have HG2 := hid (show BoxC W2 (q + 1) [(.int .i64 0), (.int .i64 0), (.int .i64 0), (.int .i64 0), (.int .i64 0), (.int .i64 0), (.int .i64 0), (.int .i64 0), (.bool false), (.int .i64 0), (.int .i64 0), (.slice none 0 0), (.slice none 0 0)] by rw [hW2]; exact HG1.out.beside (by omega) _)
      have HB2 := hid (show Below w.heap.size w W2 by rw [hW2]; exact HB1.out.setCell (show w.heap.size ≤ q by have := HQ.out; omega) _)
      clear hW2 x11 y11 x12 y12
      obtain ⟨x12, y12⟩ := HF2.out.c 12 _ rfl
      go_upto_region 5 with (fail)
      clear x12 y12
      obtain ⟨x0, -⟩ := HF2.out.c 0 _ rfl; obtain ⟨d0, y0⟩ := HG2.out.c 0 _ rfl; obtain ⟨x1, -⟩ := HF2.out.c 1 _ rfl; obtain ⟨d1, y1⟩ := HG2.out.c 1 _ rfl; obtain ⟨x2, -⟩ := HF2.out.c 2 _ rfl; obtain ⟨d2, y2⟩ := HG2.out.c 2 _ rfl; obtain ⟨x3, -⟩ := HF2.out.c 3 _ rfl; obtain ⟨d3, y3⟩ := HG2.out.c 3 _ rfl; obtain ⟨x4, -⟩ := HF2.out.c 4 _ rfl; obtain ⟨d4, y4⟩ := HG2.out.c 4 _ rfl; obtain ⟨x5, -⟩ := HF2.out.c 5 _ rfl; obtain ⟨d5, y5⟩ := HG2.out.c 5 _ rfl; obtain ⟨x6, -⟩ := HF2.out.c 6 _ rfl; obtain ⟨d6, y6⟩ := HG2.out.c 6 _ rfl; obtain ⟨x7, -⟩ := HF2.out.c 7 _ rfl; obtain ⟨d7, y7⟩ := HG2.out.c 7 _ rfl; obtain ⟨x8, -⟩ := HF2.out.c 8 _ rfl; obtain ⟨d8, y8⟩ := HG2.out.c 8 _ rfl; obtain ⟨x9, -⟩ := HF2.out.c 9 _ rfl; obtain ⟨d9, y9⟩ := HG2.out.c 9 _ rfl; obtain ⟨x10, -⟩ := HF2.out.c 10 _ rfl; obtain ⟨d10, y10⟩ := HG2.out.c 10 _ rfl; obtain ⟨x11, -⟩ := HF2.out.c 11 _ rfl; obtain ⟨d11, y11⟩ := HG2.out.c 11 _ rfl; obtain ⟨x12, -⟩ := HF2.out.c 12 _ rfl; obtain ⟨d12, y12⟩ := HG2.out.c 12 _ rfl
      go_wp2
      obtain ⟨W8, hW8⟩ : ∃ W, W = (((((((((((((W2.setCell ⟨q + 1, 0, none⟩ (.int .i64 kind)).setCell ⟨q + 1, 1, none⟩ (.int .i64 src)).setCell ⟨q + 1, 2, none⟩ (.int .i64 dst)).setCell ⟨q + 1, 3, none⟩ (.int .i64 term)).setCell ⟨q + 1, 4, none⟩ (.int .i64 index)).setCell ⟨q + 1, 5, none⟩ (.int .i64 logTerm)).setCell ⟨q + 1, 6, none⟩ (.int .i64 commit)).setCell ⟨q + 1, 7, none⟩ (.int .i64 round)).setCell ⟨q + 1, 8, none⟩ (.bool rej)).setCell ⟨q + 1, 9, none⟩ (.int .i64 off)).setCell ⟨q + 1, 10, none⟩ (.int .i64 total)).setCell ⟨q + 1, 11, none⟩ (.slice A1 10 c1)).setCell ⟨q + 1, 12, none⟩ (.slice A2 data.length c2)) := ⟨_, rfl⟩
      rw [← hW8]
      have F8 : BoxC W8 (q + 1) [(.int .i64 kind), (.int .i64 src), (.int .i64 dst), (.int .i64 term), (.int .i64 index), (.int .i64 logTerm), (.int .i64 commit), (.int .i64 round), (.bool rej), (.int .i64 off), (.int .i64 total), (.slice A1 10 c1), (.slice A2 data.length c2)] := by rw [hW8]; exact (((((((((((((HG2.out.set 0 (by simp) _).set 1 (by simp) _).set 2 (by simp) _).set 3 (by simp) _).set 4 (by simp) _).set 5 (by simp) _).set 6 (by simp) _).set 7 (by simp) _).set 8 (by simp) _).set 9 (by simp) _).set 10 (by simp) _).set 11 (by simp) _).set 12 (by simp) _)
      have B8 : Below w.heap.size w W8 := by
        rw [hW8]
        have hqq := HQ.out
        exact (((((((((((((HB2.out.setCell (show w.heap.size ≤ q + 1 by omega) _).setCell (show w.heap.size ≤ q + 1 by omega) _).setCell (show w.heap.size ≤ q + 1 by omega) _).setCell (show w.heap.size ≤ q + 1 by omega) _).setCell (show w.heap.size ≤ q + 1 by omega) _).setCell (show w.heap.size ≤ q + 1 by omega) _).setCell (show w.heap.size ≤ q + 1 by omega) _).setCell (show w.heap.size ≤ q + 1 by omega) _).setCell (show w.heap.size ≤ q + 1 by omega) _).setCell (show w.heap.size ≤ q + 1 by omega) _).setCell (show w.heap.size ≤ q + 1 by omega) _).setCell (show w.heap.size ≤ q + 1 by omega) _).setCell (show w.heap.size ≤ q + 1 by omega) _)
      have s0 := (F8.c 0 _ rfl).1; have s1 := (F8.c 1 _ rfl).1; have s2 := (F8.c 2 _ rfl).1; have s3 := (F8.c 3 _ rfl).1; have s4 := (F8.c 4 _ rfl).1; have s5 := (F8.c 5 _ rfl).1; have s6 := (F8.c 6 _ rfl).1; have s7 := (F8.c 7 _ rfl).1; have s8 := (F8.c 8 _ rfl).1; have s9 := (F8.c 9 _ rfl).1; have s10 := (F8.c 10 _ rfl).1; have s11 := (F8.c 11 _ rfl).1; have s12 := (F8.c 12 _ rfl).1
      refine bodyPost_ret (v := .agg #[(.int .i64 kind), (.int .i64 src), (.int .i64 dst), (.int .i64 term), (.int .i64 index), (.int .i64 logTerm), (.int .i64 commit), (.int .i64 round), (.bool rej), (.int .i64 off), (.int .i64 total), (.slice A1 10 c1), (.slice A2 data.length c2)]) ?_ rfl ?_
      · simp [results, Tryz.results6, go_sem, s0, s1, s2, s3, s4, s5, s6, s7, s8, s9, s10, s11, s12]
      · exact ⟨_, rfl, ⟨A1, c1, A2, c2, by simp only [msgCs, fewM, HE1.out, HD1.out], by simp only [fewM, HE1.out]; exact good_ents.stays HE2.out (B8.mono HH.out), by simp only [fewM, HD1.out]; exact HD2.out.below (B8.mono HH.out), HI.out⟩, B8⟩
  · have hE1 : ents.take 10 = ents := List.take_of_length_le (by omega)
    have HE2 := HE
    have HE1 := hid hE1
    by_cases hdl : 300 < data.length
    · have hD1 : (data.take 300).length = 300 := by rw [List.length_take]; omega
      have HD2 := hid (show Sl w H (.slice A2 300 c2) (bvals (data.take 300)) by rw [bytes_take]; exact Sl.head 300 HD.out (by omega))
      have hld : (300 : Nat) ≤ c2 := by omega
      have HD1 := hid hD1
      clear hD1 hE1
      go_enter Tryz.func6, Tryz.ntmps6
      go_upto_region 1 with (fail)
      rw [← HW1.out, ← HQ.out]
      obtain ⟨x11, y11⟩ := HF1.out.c 11 _ rfl; obtain ⟨x12, y12⟩ := HF1.out.c 12 _ rfl
      go_upto_region 5 with (fail)
      obtain ⟨W3, hW3⟩ : ∃ W, W = W1.setCell ⟨q, 12, none⟩ (.slice A2 300 c2) := ⟨_, rfl⟩
      rw [← hW3]
      have HF3 := hid (show BoxC W3 q [(.int .i64 kind), (.int .i64 src), (.int .i64 dst), (.int .i64 term), (.int .i64 index), (.int .i64 logTerm), (.int .i64 commit), (.int .i64 round), (.bool rej), (.int .i64 off), (.int .i64 total), (.slice A1 ents.length c1), (.slice A2 300 c2)] by rw [hW3]; exact HF1.out.set 12 (by simp) _)
      have HG3 := hid (show BoxC W3 (q + 1) [(.int .i64 0), (.int .i64 0), (.int .i64 0), (.int .i64 0), (.int .i64 0), (.int .i64 0), (.int .i64 0), (.int .i64 0), (.bool false), (.int .i64 0), (.int .i64 0), (.slice none 0 0), (.slice none 0 0)] by rw [hW3]; exact HG1.out.beside (by omega) _)
      have HB3 := hid (show Below w.heap.size w W3 by rw [hW3]; exact HB1.out.setCell (show w.heap.size ≤ q by have := HQ.out; omega) _)
      clear hW3 x12 y12
      clear x11 y11
      obtain ⟨x0, -⟩ := HF3.out.c 0 _ rfl; obtain ⟨d0, y0⟩ := HG3.out.c 0 _ rfl; obtain ⟨x1, -⟩ := HF3.out.c 1 _ rfl; obtain ⟨d1, y1⟩ := HG3.out.c 1 _ rfl; obtain ⟨x2, -⟩ := HF3.out.c 2 _ rfl; obtain ⟨d2, y2⟩ := HG3.out.c 2 _ rfl; obtain ⟨x3, -⟩ := HF3.out.c 3 _ rfl; obtain ⟨d3, y3⟩ := HG3.out.c 3 _ rfl; obtain ⟨x4, -⟩ := HF3.out.c 4 _ rfl; obtain ⟨d4, y4⟩ := HG3.out.c 4 _ rfl; obtain ⟨x5, -⟩ := HF3.out.c 5 _ rfl; obtain ⟨d5, y5⟩ := HG3.out.c 5 _ rfl; obtain ⟨x6, -⟩ := HF3.out.c 6 _ rfl; obtain ⟨d6, y6⟩ := HG3.out.c 6 _ rfl; obtain ⟨x7, -⟩ := HF3.out.c 7 _ rfl; obtain ⟨d7, y7⟩ := HG3.out.c 7 _ rfl; obtain ⟨x8, -⟩ := HF3.out.c 8 _ rfl; obtain ⟨d8, y8⟩ := HG3.out.c 8 _ rfl; obtain ⟨x9, -⟩ := HF3.out.c 9 _ rfl; obtain ⟨d9, y9⟩ := HG3.out.c 9 _ rfl; obtain ⟨x10, -⟩ := HF3.out.c 10 _ rfl; obtain ⟨d10, y10⟩ := HG3.out.c 10 _ rfl; obtain ⟨x11, -⟩ := HF3.out.c 11 _ rfl; obtain ⟨d11, y11⟩ := HG3.out.c 11 _ rfl; obtain ⟨x12, -⟩ := HF3.out.c 12 _ rfl; obtain ⟨d12, y12⟩ := HG3.out.c 12 _ rfl
      go_wp2
      obtain ⟨W8, hW8⟩ : ∃ W, W = (((((((((((((W3.setCell ⟨q + 1, 0, none⟩ (.int .i64 kind)).setCell ⟨q + 1, 1, none⟩ (.int .i64 src)).setCell ⟨q + 1, 2, none⟩ (.int .i64 dst)).setCell ⟨q + 1, 3, none⟩ (.int .i64 term)).setCell ⟨q + 1, 4, none⟩ (.int .i64 index)).setCell ⟨q + 1, 5, none⟩ (.int .i64 logTerm)).setCell ⟨q + 1, 6, none⟩ (.int .i64 commit)).setCell ⟨q + 1, 7, none⟩ (.int .i64 round)).setCell ⟨q + 1, 8, none⟩ (.bool rej)).setCell ⟨q + 1, 9, none⟩ (.int .i64 off)).setCell ⟨q + 1, 10, none⟩ (.int .i64 total)).setCell ⟨q + 1, 11, none⟩ (.slice A1 ents.length c1)).setCell ⟨q + 1, 12, none⟩ (.slice A2 300 c2)) := ⟨_, rfl⟩
      rw [← hW8]
      have F8 : BoxC W8 (q + 1) [(.int .i64 kind), (.int .i64 src), (.int .i64 dst), (.int .i64 term), (.int .i64 index), (.int .i64 logTerm), (.int .i64 commit), (.int .i64 round), (.bool rej), (.int .i64 off), (.int .i64 total), (.slice A1 ents.length c1), (.slice A2 300 c2)] := by rw [hW8]; exact (((((((((((((HG3.out.set 0 (by simp) _).set 1 (by simp) _).set 2 (by simp) _).set 3 (by simp) _).set 4 (by simp) _).set 5 (by simp) _).set 6 (by simp) _).set 7 (by simp) _).set 8 (by simp) _).set 9 (by simp) _).set 10 (by simp) _).set 11 (by simp) _).set 12 (by simp) _)
      have B8 : Below w.heap.size w W8 := by
        rw [hW8]
        have hqq := HQ.out
        exact (((((((((((((HB3.out.setCell (show w.heap.size ≤ q + 1 by omega) _).setCell (show w.heap.size ≤ q + 1 by omega) _).setCell (show w.heap.size ≤ q + 1 by omega) _).setCell (show w.heap.size ≤ q + 1 by omega) _).setCell (show w.heap.size ≤ q + 1 by omega) _).setCell (show w.heap.size ≤ q + 1 by omega) _).setCell (show w.heap.size ≤ q + 1 by omega) _).setCell (show w.heap.size ≤ q + 1 by omega) _).setCell (show w.heap.size ≤ q + 1 by omega) _).setCell (show w.heap.size ≤ q + 1 by omega) _).setCell (show w.heap.size ≤ q + 1 by omega) _).setCell (show w.heap.size ≤ q + 1 by omega) _).setCell (show w.heap.size ≤ q + 1 by omega) _)
      have s0 := (F8.c 0 _ rfl).1; have s1 := (F8.c 1 _ rfl).1; have s2 := (F8.c 2 _ rfl).1; have s3 := (F8.c 3 _ rfl).1; have s4 := (F8.c 4 _ rfl).1; have s5 := (F8.c 5 _ rfl).1; have s6 := (F8.c 6 _ rfl).1; have s7 := (F8.c 7 _ rfl).1; have s8 := (F8.c 8 _ rfl).1; have s9 := (F8.c 9 _ rfl).1; have s10 := (F8.c 10 _ rfl).1; have s11 := (F8.c 11 _ rfl).1; have s12 := (F8.c 12 _ rfl).1
      refine bodyPost_ret (v := .agg #[(.int .i64 kind), (.int .i64 src), (.int .i64 dst), (.int .i64 term), (.int .i64 index), (.int .i64 logTerm), (.int .i64 commit), (.int .i64 round), (.bool rej), (.int .i64 off), (.int .i64 total), (.slice A1 ents.length c1), (.slice A2 300 c2)]) ?_ rfl ?_
      · simp [results, Tryz.results6, go_sem, s0, s1, s2, s3, s4, s5, s6, s7, s8, s9, s10, s11, s12]
      · exact ⟨_, rfl, ⟨A1, c1, A2, c2, by simp only [msgCs, fewM, HE1.out, HD1.out], by simp only [fewM, HE1.out]; exact good_ents.stays HE2.out (B8.mono HH.out), by simp only [fewM, HD1.out]; exact HD2.out.below (B8.mono HH.out), HI.out⟩, B8⟩
    · have hD1 : data.take 300 = data := List.take_of_length_le (by omega)
      have HD2 := HD
      have HD1 := hid hD1
      clear hD1 hE1
      go_enter Tryz.func6, Tryz.ntmps6
      go_upto_region 1 with (fail)
      rw [← HW1.out, ← HQ.out]
      obtain ⟨x11, y11⟩ := HF1.out.c 11 _ rfl; obtain ⟨x12, y12⟩ := HF1.out.c 12 _ rfl
      go_upto_region 5 with (fail)
      clear x12 y12
      clear x11 y11
      obtain ⟨x0, -⟩ := HF1.out.c 0 _ rfl; obtain ⟨d0, y0⟩ := HG1.out.c 0 _ rfl; obtain ⟨x1, -⟩ := HF1.out.c 1 _ rfl; obtain ⟨d1, y1⟩ := HG1.out.c 1 _ rfl; obtain ⟨x2, -⟩ := HF1.out.c 2 _ rfl; obtain ⟨d2, y2⟩ := HG1.out.c 2 _ rfl; obtain ⟨x3, -⟩ := HF1.out.c 3 _ rfl; obtain ⟨d3, y3⟩ := HG1.out.c 3 _ rfl; obtain ⟨x4, -⟩ := HF1.out.c 4 _ rfl; obtain ⟨d4, y4⟩ := HG1.out.c 4 _ rfl; obtain ⟨x5, -⟩ := HF1.out.c 5 _ rfl; obtain ⟨d5, y5⟩ := HG1.out.c 5 _ rfl; obtain ⟨x6, -⟩ := HF1.out.c 6 _ rfl; obtain ⟨d6, y6⟩ := HG1.out.c 6 _ rfl; obtain ⟨x7, -⟩ := HF1.out.c 7 _ rfl; obtain ⟨d7, y7⟩ := HG1.out.c 7 _ rfl; obtain ⟨x8, -⟩ := HF1.out.c 8 _ rfl; obtain ⟨d8, y8⟩ := HG1.out.c 8 _ rfl; obtain ⟨x9, -⟩ := HF1.out.c 9 _ rfl; obtain ⟨d9, y9⟩ := HG1.out.c 9 _ rfl; obtain ⟨x10, -⟩ := HF1.out.c 10 _ rfl; obtain ⟨d10, y10⟩ := HG1.out.c 10 _ rfl; obtain ⟨x11, -⟩ := HF1.out.c 11 _ rfl; obtain ⟨d11, y11⟩ := HG1.out.c 11 _ rfl; obtain ⟨x12, -⟩ := HF1.out.c 12 _ rfl; obtain ⟨d12, y12⟩ := HG1.out.c 12 _ rfl
      go_wp2
      obtain ⟨W8, hW8⟩ : ∃ W, W = (((((((((((((W1.setCell ⟨q + 1, 0, none⟩ (.int .i64 kind)).setCell ⟨q + 1, 1, none⟩ (.int .i64 src)).setCell ⟨q + 1, 2, none⟩ (.int .i64 dst)).setCell ⟨q + 1, 3, none⟩ (.int .i64 term)).setCell ⟨q + 1, 4, none⟩ (.int .i64 index)).setCell ⟨q + 1, 5, none⟩ (.int .i64 logTerm)).setCell ⟨q + 1, 6, none⟩ (.int .i64 commit)).setCell ⟨q + 1, 7, none⟩ (.int .i64 round)).setCell ⟨q + 1, 8, none⟩ (.bool rej)).setCell ⟨q + 1, 9, none⟩ (.int .i64 off)).setCell ⟨q + 1, 10, none⟩ (.int .i64 total)).setCell ⟨q + 1, 11, none⟩ (.slice A1 ents.length c1)).setCell ⟨q + 1, 12, none⟩ (.slice A2 data.length c2)) := ⟨_, rfl⟩
      rw [← hW8]
      have F8 : BoxC W8 (q + 1) [(.int .i64 kind), (.int .i64 src), (.int .i64 dst), (.int .i64 term), (.int .i64 index), (.int .i64 logTerm), (.int .i64 commit), (.int .i64 round), (.bool rej), (.int .i64 off), (.int .i64 total), (.slice A1 ents.length c1), (.slice A2 data.length c2)] := by rw [hW8]; exact (((((((((((((HG1.out.set 0 (by simp) _).set 1 (by simp) _).set 2 (by simp) _).set 3 (by simp) _).set 4 (by simp) _).set 5 (by simp) _).set 6 (by simp) _).set 7 (by simp) _).set 8 (by simp) _).set 9 (by simp) _).set 10 (by simp) _).set 11 (by simp) _).set 12 (by simp) _)
      have B8 : Below w.heap.size w W8 := by
        rw [hW8]
        have hqq := HQ.out
        exact (((((((((((((HB1.out.setCell (show w.heap.size ≤ q + 1 by omega) _).setCell (show w.heap.size ≤ q + 1 by omega) _).setCell (show w.heap.size ≤ q + 1 by omega) _).setCell (show w.heap.size ≤ q + 1 by omega) _).setCell (show w.heap.size ≤ q + 1 by omega) _).setCell (show w.heap.size ≤ q + 1 by omega) _).setCell (show w.heap.size ≤ q + 1 by omega) _).setCell (show w.heap.size ≤ q + 1 by omega) _).setCell (show w.heap.size ≤ q + 1 by omega) _).setCell (show w.heap.size ≤ q + 1 by omega) _).setCell (show w.heap.size ≤ q + 1 by omega) _).setCell (show w.heap.size ≤ q + 1 by omega) _).setCell (show w.heap.size ≤ q + 1 by omega) _)
      have s0 := (F8.c 0 _ rfl).1; have s1 := (F8.c 1 _ rfl).1; have s2 := (F8.c 2 _ rfl).1; have s3 := (F8.c 3 _ rfl).1; have s4 := (F8.c 4 _ rfl).1; have s5 := (F8.c 5 _ rfl).1; have s6 := (F8.c 6 _ rfl).1; have s7 := (F8.c 7 _ rfl).1; have s8 := (F8.c 8 _ rfl).1; have s9 := (F8.c 9 _ rfl).1; have s10 := (F8.c 10 _ rfl).1; have s11 := (F8.c 11 _ rfl).1; have s12 := (F8.c 12 _ rfl).1
      refine bodyPost_ret (v := .agg #[(.int .i64 kind), (.int .i64 src), (.int .i64 dst), (.int .i64 term), (.int .i64 index), (.int .i64 logTerm), (.int .i64 commit), (.int .i64 round), (.bool rej), (.int .i64 off), (.int .i64 total), (.slice A1 ents.length c1), (.slice A2 data.length c2)]) ?_ rfl ?_
      · simp [results, Tryz.results6, go_sem, s0, s1, s2, s3, s4, s5, s6, s7, s8, s9, s10, s11, s12]
      · exact ⟨_, rfl, ⟨A1, c1, A2, c2, by simp only [msgCs, fewM, HE1.out, HD1.out], by simp only [fewM, HE1.out]; exact good_ents.stays HE2.out (B8.mono HH.out), by simp only [fewM, HD1.out]; exact HD2.out.below (B8.mono HH.out), HI.out⟩, B8⟩
end Go.Proofs.YtkgifbnkkmeoiaaGreatDoor
