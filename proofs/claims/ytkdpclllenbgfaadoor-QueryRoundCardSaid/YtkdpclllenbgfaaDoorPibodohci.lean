/- 1 text of this claim, in build order. -/
import Derived.Test.YtkdpclllenbgfaaDoorPnkjifklb
/- The reference's Reader.Text. -/
namespace Go.Proofs.YtkdpclllenbgfaaDoor
open Go.ChangeShapes Go.WideShapes Go.ChangeAt Go.RowKit
set_option linter.unusedVariables false

theorem rText_err (l : List UInt8) (a : Nat) (e most : Int) (h : e ≠ 0) : rText l a e most = ([], a, e) := by
  unfold rText rInt; simp [h]
theorem rText_bad (l : List UInt8) (a : Nat) (most k : Int) (hk : k ≠ 0) (h : getInt (l.drop a) = (0, 0, k)) : rText l a 0 most = ([], a, k) := by
  unfold rText rInt; simp [h, hk]
theorem rText_out (l : List UInt8) (a n : Nat) (most z : Int) (h : getInt (l.drop a) = (z, (n : Int), 0)) (hz : z < 0 ∨ most < z) : rText l a 0 most = ([], a, 2) := by
  unfold rText rInt; simp [h, hz]
theorem rText_in (l : List UInt8) (a n m : Nat) (most : Int) (h : getInt (l.drop a) = ((m : Int), (n : Int), 0)) (hz : (m : Int) ≤ most) (ha : a + n ≤ l.length) :
    rText l a 0 most = if l.length < a + n + m then ([], a, 3) else ((l.drop (a + n)).take m, a + n + m, 0) := by
  have hr : rInt l a 0 0 most = ((m : Int), a + n, 0) := by
    unfold rInt; rw [if_neg (by simp), h, if_neg (by simp), if_neg (by omega)]; simp
  unfold rText
  rw [hr, if_neg (by simp)]
  by_cases hlt : l.length < a + n + m
  · rw [if_pos hlt, if_pos (by simp; omega)]
  · rw [if_neg hlt, if_neg (by simp; omega)]; simp
theorem Sl.from_ {w : World} {B n c a : Nat} {A : Option Addr} {l : List UInt8} (h : Sl w B (.slice A n c) (bvals l)) (ha : a ≤ l.length) :
    Sl w B (.slice (if c = a then A else Option.map (fun x => x.add a) A) (l.length - a) (c - a)) (bvals (l.drop a)) := by
  have hn : n = l.length := by
    obtain ⟨A', c', e, _⟩ := h
    injection e with _ e2 _
    rw [e2, bvals_len]
  have := h.mid (a := a) (m := l.length - a) (by omega)
  rw [show ((bvals l).drop a).take (l.length - a) = bvals (l.drop a) by
    rw [List.take_of_length_le (by simp [bvals_len])]; simp [bvals, List.map_drop]] at this
  exact this
theorem text_from {w : World} {B c a m : Nat} {A : Option Addr} {l : List UInt8} (h : Sl w B (.slice A l.length c) (bvals l)) (hm : a + m ≤ l.length) (k : Nat) :
    Sem.run Tryd.prog (convert 22 9 (.slice (if c = a then A else Option.map (fun x => x.add a) A) m (c - a))) (w.drewN k) = .ok (.string ⟨((l.drop a).take m).toArray⟩) (w.drewN k) :=
  text_mid (h.qu' ⟨k, rfl⟩) hm
/-- The reader's own number. -/
theorem refGet_from {w : World} {B c a : Nat} {A : Option Addr} {l : List UInt8} (h : Sl w B (.slice A l.length c) (bvals l)) (hB : B ≤ w.heap.size) (ha : a ≤ l.length) (hl : l.length ≤ 140737488355328) {z k e : Int} (hg : getInt (l.drop a) = (z, k, e)) (n : Nat) :
    Calls Tryd.prog 44 #[.slice (if c = a then A else Option.map (fun x => x.add a) A) (l.length - a) (c - a)] (w.drewN n) (fun en w'' => en = .returned (.tuple #[.int .i64 z, .int .i64 k, .int .i64 e]) ∧ w'' = w.drewN n) :=
  (refGetInt_any _ (l.drop a) (w.drewN n) (((h.from_ ha).more hB).qu' ⟨n, rfl⟩) (by rw [List.length_drop]; omega)).mono fun en w'' h => ⟨by rw [h.1, hg], h.2.symm⟩
set_option maxRecDepth 100000 in
set_option maxHeartbeats 400000 in
theorem refReadText_bad (B p : Nat) (l : List UInt8) (a : Nat) (k most : Int) (w : World) (h : RW w B p l a 0) (hk : getInt (l.drop a) = (0, 0, k)) (hk1 : (k == 0) = false) (hk2 : (k != 0) = true) :
    Calls Tryd.prog 24 #[.pointer (some ⟨p, 0, none⟩), .int .i64 most] w (RTextPost ([], a, k) B p l w) := by
  have h' := h
  have hlt := h.lt
  obtain ⟨h1, h2, h3, h4, s, h5, h6, h7, h8⟩ := h
  have f1 := h4 1 (by omega)
  have f2 := h4 2 (by omega)
  have h8' := h8
  obtain ⟨A, c, rfl, hc1, hc2, hA⟩ := h8
  simp only [bvals_len] at hc1 h5 h8' ⊢
  unfold maxLen at hc2
  have HW := hid h'; have HS8 := hid h8'
  clear h' hA h4 h8'
  have HI := hid (refGet_from (w := w) HS8.out (by omega) h2 h3 hk)
  have HK := hid hk; clear hk
  go_enter Tryd.func24, Tryd.ntmps24
  go_wp2
  go_quiet ((go_at_call 44; exact Calls.quiet_of_same (HI.out _)))
  go_wp2
  all_goals go_ret
  all_goals exact ⟨rfl, (HW.out.qu ⟨_, rfl⟩).setE k, ((Upd.refl p w).qu ⟨_, rfl⟩).trans (Upd.setCell _ _ _ _)⟩
set_option maxRecDepth 100000 in
set_option maxHeartbeats 400000 in
theorem refReadText_lo (B p : Nat) (l : List UInt8) (a : Nat) (n : Nat) (z most : Int) (w : World) (h : RW w B p l a 0) (hn : a + n ≤ l.length) (hk : getInt (l.drop a) = (z, (n : Int), 0)) (hz : z < 0) :
    Calls Tryd.prog 24 #[.pointer (some ⟨p, 0, none⟩), .int .i64 most] w (RTextPost ([], a, 2) B p l w) := by
  have h' := h
  have hlt := h.lt
  obtain ⟨h1, h2, h3, h4, s, h5, h6, h7, h8⟩ := h
  have f1 := h4 1 (by omega)
  have f2 := h4 2 (by omega)
  have h8' := h8
  obtain ⟨A, c, rfl, hc1, hc2, hA⟩ := h8
  simp only [bvals_len] at hc1 h5 h8' ⊢
  unfold maxLen at hc2
  have HW := hid h'; have HS8 := hid h8'
  clear h' hA h4 h8'
  have HI := hid (refGet_from (w := w) HS8.out (by omega) h2 h3 hk)
  have HK := hid hk; clear hk
  go_enter Tryd.func24, Tryd.ntmps24
  go_wp2
  go_quiet ((go_at_call 44; exact Calls.quiet_of_same (HI.out _)))
  go_wp2
  all_goals go_ret
  all_goals exact ⟨rfl, (HW.out.qu ⟨_, rfl⟩).setE 2, ((Upd.refl p w).qu ⟨_, rfl⟩).trans (Upd.setCell _ _ _ _)⟩
set_option maxRecDepth 100000 in
set_option maxHeartbeats 400000 in
theorem refReadText_hi (B p : Nat) (l : List UInt8) (a : Nat) (n : Nat) (z most : Int) (w : World) (h : RW w B p l a 0) (hn : a + n ≤ l.length) (hk : getInt (l.drop a) = (z, (n : Int), 0)) (hz : 0 ≤ z) (hz' : most < z) :
    Calls Tryd.prog 24 #[.pointer (some ⟨p, 0, none⟩), .int .i64 most] w (RTextPost ([], a, 2) B p l w) := by
  have h' := h
  have hlt := h.lt
  obtain ⟨h1, h2, h3, h4, s, h5, h6, h7, h8⟩ := h
  have f1 := h4 1 (by omega)
  have f2 := h4 2 (by omega)
  have h8' := h8
  obtain ⟨A, c, rfl, hc1, hc2, hA⟩ := h8
  simp only [bvals_len] at hc1 h5 h8' ⊢
  unfold maxLen at hc2
  have HW := hid h'; have HS8 := hid h8'
  clear h' hA h4 h8'
  have HI := hid (refGet_from (w := w) HS8.out (by omega) h2 h3 hk)
  have HK := hid hk; clear hk
  go_enter Tryd.func24, Tryd.ntmps24
  go_wp2
  go_quiet ((go_at_call 44; exact Calls.quiet_of_same (HI.out _)))
  go_wp2
  all_goals go_ret
  all_goals exact ⟨rfl, (HW.out.qu ⟨_, rfl⟩).setE 2, ((Upd.refl p w).qu ⟨_, rfl⟩).trans (Upd.setCell _ _ _ _)⟩
set_option maxRecDepth 100000 in
set_option maxHeartbeats 400000 in
theorem refReadText_short (B p : Nat) (l : List UInt8) (a : Nat) (n m : Nat) (most : Int) (w : World) (h : RW w B p l a 0) (hn : a + n ≤ l.length) (hk : getInt (l.drop a) = ((m : Int), (n : Int), 0)) (hz : (m : Int) ≤ most) (hlt : l.length < a + n + m) :
    Calls Tryd.prog 24 #[.pointer (some ⟨p, 0, none⟩), .int .i64 most] w (RTextPost ([], a, 3) B p l w) := by
  have h' := h
  have hlt := h.lt
  obtain ⟨h1, h2, h3, h4, s, h5, h6, h7, h8⟩ := h
  have f1 := h4 1 (by omega)
  have f2 := h4 2 (by omega)
  have h8' := h8
  obtain ⟨A, c, rfl, hc1, hc2, hA⟩ := h8
  simp only [bvals_len] at hc1 h5 h8' ⊢
  unfold maxLen at hc2
  have HW := hid h'; have HS8 := hid h8'
  clear h' hA h4 h8'
  have HI := hid (refGet_from (w := w) HS8.out (by omega) h2 h3 hk)
  have HK := hid hk; clear hk
  have td : decide ((l.length : Int) - (a : Int) - (n : Int) < (m : Int)) = true := by rw [decide_eq_true_eq]; omega
  go_enter Tryd.func24, Tryd.ntmps24
  go_wp2
  go_quiet ((go_at_call 44; exact Calls.quiet_of_same (HI.out _)))
  go_wp2
  all_goals go_quiet (fail)
  all_goals go_wp2
  all_goals go_ret
  all_goals exact ⟨rfl, (HW.out.qu ⟨_, rfl⟩).setE 3, ((Upd.refl p w).qu ⟨_, rfl⟩).trans (Upd.setCell _ _ _ _)⟩
set_option maxRecDepth 100000 in
set_option maxHeartbeats 600000 in
theorem refReadText_ok (B p : Nat) (l : List UInt8) (a : Nat) (n m : Nat) (most : Int) (w : World) (h : RW w B p l a 0) (hn0 : 0 < n) (hn : a + n ≤ l.length) (hk : getInt (l.drop a) = ((m : Int), (n : Int), 0)) (hz : (m : Int) ≤ most) (hm : a + n + m ≤ l.length) :
    Calls Tryd.prog 24 #[.pointer (some ⟨p, 0, none⟩), .int .i64 most] w (RTextPost ((l.drop (a + n)).take m, a + n + m, 0) B p l w) := by
  have h' := h
  have hlt := h.lt
  obtain ⟨h1, h2, h3, h4, s, h5, h6, h7, h8⟩ := h
  have f1 := h4 1 (by omega)
  have f2 := h4 2 (by omega)
  have h8' := h8
  obtain ⟨A, c, rfl, hc1, hc2, hA⟩ := h8
  simp only [bvals_len] at hc1 h5 h8' ⊢
  unfold maxLen at hc2
  have HW := hid h'; have HS8 := hid h8'
  clear h' hA h4 h8'
  have HI := hid (refGet_from (w := w) HS8.out (by omega) h2 h3 hk)
  have HK := hid hk; clear hk
  have td : decide ((l.length : Int) - (a : Int) - (n : Int) < (m : Int)) = false := by rw [decide_eq_false_iff_not]; omega
  have HCA := hid (show ¬ c = a by omega); clear hn0
  have hcv := text_from HS8.out hm
  obtain ⟨s0, hs0⟩ : ∃ s, s = (l.drop (a + n)).take m := ⟨_, rfl⟩
  rw [← hs0] at hcv
  rw [← hs0]
  have HCV := hid hcv; clear hs0 hcv
  go_enter Tryd.func24, Tryd.ntmps24
  go_wp2
  go_quiet ((go_at_call 44; exact Calls.quiet_of_same (HI.out _)))
  have hca := HCA.out
  go_wp2
  go_quiet (fail)
  go_wp2
  have hcv := HCV.out
  go_quiet (fail)
  clear hcv
  go_wp2
  all_goals go_ret
  all_goals exact ⟨rfl, (HW.out.qu ⟨_, rfl⟩).setA' hm (by simp), ((Upd.refl p w).qu ⟨_, rfl⟩).trans (Upd.setCell _ _ _ _)⟩
theorem refReadText_any (B p : Nat) (l : List UInt8) (a : Nat) (e most : Int) (w : World) (h : RW w B p l a e) :
    Calls Tryd.prog 24 #[.pointer (some ⟨p, 0, none⟩), .int .i64 most] w (RTextPost (rText l a e most) B p l w) := by
  by_cases he : e = 0
  · subst he
    have ha := h.2.1
    rcases getInt_says (l.drop a) with (hg | hg) | ⟨n, z, h1, h2, hg⟩
    · rw [rText_bad l a most 2 (by decide) hg]; exact refReadText_bad B p l a 2 most w h hg rfl rfl
    · rw [rText_bad l a most 3 (by decide) hg]; exact refReadText_bad B p l a 3 most w h hg rfl rfl
    · rw [List.length_drop] at h2
      by_cases h0 : z < 0
      · rw [rText_out l a n most z hg (.inl h0)]; exact refReadText_lo B p l a n z most w h (by omega) hg h0
      · by_cases h3 : most < z
        · rw [rText_out l a n most z hg (.inr h3)]; exact refReadText_hi B p l a n z most w h (by omega) hg (by omega) h3
        · obtain ⟨m, rfl⟩ := Int.eq_ofNat_of_zero_le (show 0 ≤ z by omega)
          rw [rText_in l a n m most hg (by omega) (by omega)]
          by_cases h4 : l.length < a + n + m
          · rw [if_pos h4]; exact refReadText_short B p l a n m most w h (by omega) hg (by omega) h4
          · rw [if_neg h4]; exact refReadText_ok B p l a n m most w h h1 (by omega) hg (by omega) (by omega)
  · rw [rText_err l a e most he]
    have h' := h
    obtain ⟨h1, h2, h3, h4, s, h5, h6, h7, h8⟩ := h
    have t1 : (e != 0) = true := by simp [he]
    have HW := hid h'; clear he h4 h8 h'
    go_enter Tryd.func24, Tryd.ntmps24
    go_wp2
    go_ret
    exact ⟨rfl, HW.out, Upd.refl _ _⟩
end Go.Proofs.YtkdpclllenbgfaaDoor
