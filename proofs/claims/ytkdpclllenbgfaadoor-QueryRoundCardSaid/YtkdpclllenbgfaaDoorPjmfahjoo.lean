/- 2 texts of this claim, in build order. -/
import Derived.Test.YtkdpclllenbgfaaDoorPlpkgneco
/- The reference's Reader.Int. -/
namespace Go.Proofs.YtkdpclllenbgfaaDoor
open Go.ChangeShapes Go.WideShapes Go.ChangeAt Go.RowKit
set_option linter.unusedVariables false

set_option maxRecDepth 100000 in
set_option maxHeartbeats 400000 in
theorem refReadInt_any (B p : Nat) (l : List UInt8) (a : Nat) (e least most : Int) (w : World) (h : RW w B p l a e) :
    Calls Tryd.prog 23 #[.pointer (some ⟨p, 0, none⟩), .int .i64 least, .int .i64 most] w (RIntPost (rInt l a e least most) B p l w) := by
  have h' := h
  have hlt := h.lt
  obtain ⟨h1, h2, h3, h4, s, h5, h6, h7, h8⟩ := h
  have f1 := h4 1 (by omega)
  have f2 := h4 2 (by omega)
  obtain ⟨A, c, rfl, hc1, hc2, hA⟩ := h8
  simp only [bvals_len] at hc1 h5 ⊢
  unfold maxLen at hc2
  have HW := hid h'; have HA := hid hA; have H4 := hid h4
  clear h' hA h4
  go_enter Tryd.func23, Tryd.ntmps23
  by_cases he : e = 0
  · have t1 : (e != 0) = false := by simp [he]
    have HE := hid he; clear he
    have hi : ∀ w' : World, (∃ n, w' = w.drewN n) → ∀ A' : Option Addr, (a < l.length → ∀ b off, A = some ⟨b, off, none⟩ → A' = some ⟨b, off + a, none⟩) →
        Calls Tryd.prog 44 #[.slice A' (l.length - a) (c - a)] w' (fun e w'' => e = .returned (.tuple #[.int .i64 (getInt (l.drop a)).1, .int .i64 (getInt (l.drop a)).2.1, .int .i64 (getInt (l.drop a)).2.2]) ∧ w'' = w') := by
      intro w' hw A' hA'
      refine (refGetInt_any _ (l.drop a) w' (sl_drop HA.out hA' (by omega) (by rw [maxLen]; omega) (by rw [Qu.size hw]; omega) hw) (by rw [List.length_drop]; omega)).mono fun e w'' h => ⟨h.1, h.2.symm⟩
    have hs := getInt_says (l.drop a)
    have hAA : (∃ b off, A = some ⟨b, off, none⟩) ∨ (¬ a < l.length ∧ A = none) ∨ (¬ a < l.length ∧ ∃ x, A = some x) := by
      by_cases h0 : 0 < l.length
      · obtain ⟨b, off, h, -, -⟩ := HA.out (by rw [bvals_len]; exact h0)
        exact .inl ⟨b, off, h⟩
      · cases A with
        | none => exact .inr (.inl ⟨by omega, rfl⟩)
        | some x => exact .inr (.inr ⟨by omega, x, rfl⟩)
    have hE : ∀ k : Int, k ≠ 0 → getInt (l.drop a) = (0, 0, k) → rInt l a e least most = (0, a, k) := fun k hk h => by
      unfold rInt; rw [if_neg (by simp [HE.out]), h, if_pos hk]
    have hO : ∀ (z : Int) (n : Nat), getInt (l.drop a) = (z, (n : Int), 0) → rInt l a e least most = if z < least ∨ most < z then (0, a, 2) else (z, a + n, 0) := fun z n h => by
      unfold rInt; rw [if_neg (by simp [HE.out]), h, if_neg (by simp)]; simp
    have HS := hid hs; have HHE := hid hE; have HHO := hid hO
    clear hs hE hO
    have hres : (∃ k : Int, k ≠ 0 ∧ (k == 0) = false ∧ (k != 0) = true ∧ getInt (l.drop a) = (0, 0, k)) ∨ ∃ (n : Nat) (z : Int), a + n ≤ l.length ∧ getInt (l.drop a) = (z, (n : Int), 0) := by
      rcases HS.out with (h | h) | ⟨n, z, h1, h2, h3⟩
      · exact .inl ⟨2, by decide, rfl, rfl, h⟩
      · exact .inl ⟨3, by decide, rfl, rfl, h⟩
      · rw [List.length_drop] at h2
        exact .inr ⟨n, z, by omega, h3⟩
    have HAA := hid hAA; clear hAA
    rcases hres with ⟨k, hk0, hk1, hk2, hk⟩ | ⟨n, z, hn, hk⟩
    · have hr := HHE.out k hk0 hk
      simp only [hk] at hi
      have HI := hid hi; have HR := hid hr
      clear hi hr hk
      rcases HAA.out with ⟨b, off, rfl⟩ | ⟨h0, rfl⟩ | ⟨h0, x, rfl⟩
      all_goals
        go_wp2
        go_quiet ((go_at_call 44; exact Calls.quiet_of_same (HI.out _ ⟨_, rfl⟩ _ (fun h b' off' hb' => by first | (exfalso; omega) | (injection hb' with hb'; injection hb' with e1 e2; subst e1; subst e2; rw [if_neg (by omega)])))))
        go_wp2
        all_goals go_ret
        all_goals
          exact ⟨by rw [HR.out]; rfl, by rw [HR.out]; exact (HW.out.qu ⟨_, rfl⟩).setE k, ((Upd.refl p w).qu ⟨_, rfl⟩).trans (Upd.setCell _ _ _ _)⟩
    · have hr := HHO.out z n hk
      simp only [hk] at hi
      have HI := hid hi
      clear hi hk
      have hin : ((least ≤ z) ∧ (z ≤ most)) ∨ z < least ∨ (least ≤ z ∧ most < z) := by omega
      have HN := hid hin; clear hin
      rcases HAA.out with ⟨b, off, rfl⟩ | ⟨h0, rfl⟩ | ⟨h0, x, rfl⟩
      all_goals
        rcases HN.out with ⟨hm1, hm2⟩ | hm1 | ⟨hm1, hm2⟩
        · rw [if_neg (by omega)] at hr
          have HR := hid hr; clear hr
          go_wp2
          go_quiet ((go_at_call 44; exact Calls.quiet_of_same (HI.out _ ⟨_, rfl⟩ _ (fun h b' off' hb' => by first | (exfalso; omega) | (injection hb' with hb'; injection hb' with e1 e2; subst e1; subst e2; rw [if_neg (by omega)])))))
          go_wp2
          all_goals go_ret
          all_goals
            exact ⟨by rw [HR.out]; rfl, by rw [HR.out]; exact (HE.out ▸ (HW.out.qu ⟨_, rfl⟩).setA hn), ((Upd.refl p w).qu ⟨_, rfl⟩).trans (Upd.setCell _ _ _ _)⟩
        all_goals
          rw [if_pos (by omega)] at hr
          have HR := hid hr; clear hr
          go_wp2
          go_quiet ((go_at_call 44; exact Calls.quiet_of_same (HI.out _ ⟨_, rfl⟩ _ (fun h b' off' hb' => by first | (exfalso; omega) | (injection hb' with hb'; injection hb' with e1 e2; subst e1; subst e2; rw [if_neg (by omega)])))))
          go_wp2
          all_goals go_ret
          all_goals
            exact ⟨by rw [HR.out]; rfl, by rw [HR.out]; exact (HW.out.qu ⟨_, rfl⟩).setE 2, ((Upd.refl p w).qu ⟨_, rfl⟩).trans (Upd.setCell _ _ _ _)⟩
  · have t1 : (e != 0) = true := by simp [he]
    have hr : rInt l a e least most = (0, a, e) := by unfold rInt; rw [if_pos he]
    have HR := hid hr; clear he hr
    go_wp2
    go_ret
    exact ⟨by rw [HR.out]; rfl, by rw [HR.out]; exact HW.out, Upd.refl _ _⟩
end Go.Proofs.YtkdpclllenbgfaaDoor
/- The small methods of the readers. -/
namespace Go.Proofs.YtkdpclllenbgfaaDoor
open Go.ChangeShapes Go.WideShapes Go.ChangeAt Go.RowKit
set_option linter.unusedVariables false

theorem readAt_any (B p : Nat) (l : List UInt8) (a : Nat) (e : Int) (w : World) (h : RW w B p l a e) :
    Calls Tryd.prog 9 #[.pointer (some ⟨p, 0, none⟩)] w (Stays (.int .i64 a) w) := by
  obtain ⟨h1, h2, h3, h4, s, h5, h6, h7, h8⟩ := h
  clear h8
  go_enter Tryd.func9, Tryd.ntmps9
  go_wp2
  go_ret
  exact ⟨rfl, Qu.refl _⟩
theorem readFailed_any (B p : Nat) (l : List UInt8) (a : Nat) (e : Int) (w : World) (h : RW w B p l a e) :
    Calls Tryd.prog 22 #[.pointer (some ⟨p, 0, none⟩)] w (Stays (.bool (e != 0)) w) := by
  obtain ⟨h1, h2, h3, h4, s, h5, h6, h7, h8⟩ := h
  clear h8
  go_enter Tryd.func22, Tryd.ntmps22
  go_wp2
  go_ret
  exact ⟨rfl, Qu.refl _⟩
def BadPost (B p : Nat) (l : List UInt8) (a : Nat) (e : Int) (w : World) (en : Ending) (w' : World) : Prop := en = .returned (.tuple #[]) ∧ RW w' B p l a (if e = 0 then 2 else e) ∧ Upd p w w'
theorem readBad_any (B p : Nat) (l : List UInt8) (a : Nat) (e : Int) (w : World) (h : RW w B p l a e) :
    Calls Tryd.prog 21 #[.pointer (some ⟨p, 0, none⟩)] w (BadPost B p l a e w) := by
  have h' := h
  obtain ⟨h1, h2, h3, h4, s, h5, h6, h7, h8⟩ := h
  have f2 := h4 2 (by omega)
  have HW := hid h'; clear h8 h4 h'
  go_enter Tryd.func21, Tryd.ntmps21
  by_cases he : e = 0
  · have t1 : (e == 0) = true := by simp [he]
    have hi : (if e = 0 then (2 : Int) else e) = 2 := if_pos he
    have HI := hid hi; clear he hi
    go_wp2
    refine bodyPost_ret (v := .tuple #[]) (by simp [results, Tryd.results21, go_sem]) rfl ?_
    exact ⟨rfl, by rw [HI.out]; exact HW.out.setE 2, Upd.setCell _ _ _ _⟩
  · have t1 : (e == 0) = false := by simp [he]
    have hi : (if e = 0 then (2 : Int) else e) = e := if_neg he
    have HI := hid hi; clear he hi
    go_wp2
    refine bodyPost_ret (v := .tuple #[]) (by simp [results, Tryd.results21, go_sem]) rfl ?_
    exact ⟨rfl, by rw [HI.out]; exact HW.out, Upd.refl _ _⟩
theorem refReadBad_any (B p : Nat) (l : List UInt8) (a : Nat) (e : Int) (w : World) (h : RW w B p l a e) :
    Calls Tryd.prog 26 #[.pointer (some ⟨p, 0, none⟩)] w (BadPost B p l a e w) := by
  have h' := h
  obtain ⟨h1, h2, h3, h4, s, h5, h6, h7, h8⟩ := h
  have f2 := h4 2 (by omega)
  have HW := hid h'; clear h8 h4 h'
  go_enter Tryd.func26, Tryd.ntmps26
  by_cases he : e = 0
  · have t1 : (e == 0) = true := by simp [he]
    have hi : (if e = 0 then (2 : Int) else e) = 2 := if_pos he
    have HI := hid hi; clear he hi
    go_wp2
    refine bodyPost_ret (v := .tuple #[]) (by simp [results, Tryd.results26, go_sem]) rfl ?_
    exact ⟨rfl, by rw [HI.out]; exact HW.out.setE 2, Upd.setCell _ _ _ _⟩
  · have t1 : (e == 0) = false := by simp [he]
    have hi : (if e = 0 then (2 : Int) else e) = e := if_neg he
    have HI := hid hi; clear he hi
    go_wp2
    refine bodyPost_ret (v := .tuple #[]) (by simp [results, Tryd.results26, go_sem]) rfl ?_
    exact ⟨rfl, by rw [HI.out]; exact HW.out, Upd.refl _ _⟩
/-- What End answers. -/
def rEnd (l : List UInt8) (a : Nat) (e : Int) : Int := if e ≠ 0 then e else if a < l.length then 2 else 0
theorem readEnd_any (B p : Nat) (l : List UInt8) (a : Nat) (e : Int) (w : World) (h : RW w B p l a e) :
    Calls Tryd.prog 10 #[.pointer (some ⟨p, 0, none⟩)] w (Stays (.int .i64 (rEnd l a e)) w) := by
  obtain ⟨h1, h2, h3, h4, s, h5, h6, h7, A, c, rfl, hc1, hc2, h8⟩ := h
  simp only [bvals_len] at h5
  clear h8 h4 hc1 hc2
  go_enter Tryd.func10, Tryd.ntmps10
  by_cases he : e = 0
  · subst he
    by_cases ha : a < l.length
    · have hr : rEnd l a 0 = 2 := by unfold rEnd; simp [ha]
      have HR := hid hr; clear hr
      go_wp2
      go_quiet (fail)
      go_wp2
      go_ret
      exact ⟨by rw [HR.out]; rfl, _, rfl⟩
    · have hr : rEnd l a 0 = 0 := by unfold rEnd; simp [ha]
      have HR := hid hr; clear hr
      go_wp2
      go_quiet (fail)
      go_wp2
      go_ret
      exact ⟨by rw [HR.out]; rfl, _, rfl⟩
  · have t1 : (e == 0) = false := by simp [he]
    have hr : rEnd l a e = e := by unfold rEnd; simp [he]
    have HR := hid hr; clear hr he
    go_wp2
    go_quiet (fail)
    go_wp2
    go_ret
    exact ⟨by rw [HR.out]; rfl, _, rfl⟩
theorem refReadEnd_any (B p : Nat) (l : List UInt8) (a : Nat) (e : Int) (w : World) (h : RW w B p l a e) :
    Calls Tryd.prog 11 #[.pointer (some ⟨p, 0, none⟩)] w (Stays (.int .i64 (rEnd l a e)) w) := by
  obtain ⟨h1, h2, h3, h4, s, h5, h6, h7, A, c, rfl, hc1, hc2, h8⟩ := h
  simp only [bvals_len] at h5
  clear h8 h4 hc1 hc2
  go_enter Tryd.func11, Tryd.ntmps11
  by_cases he : e = 0
  · subst he
    have t1 : ((0 : Int) != 0) = false := rfl
    by_cases ha : a < l.length
    · have hr : rEnd l a 0 = 2 := by unfold rEnd; simp [ha]
      have HR := hid hr; clear hr
      go_wp2
      go_quiet (fail)
      go_wp2
      go_ret
      exact ⟨by rw [HR.out]; rfl, _, rfl⟩
    · have hr : rEnd l a 0 = 0 := by unfold rEnd; simp [ha]
      have HR := hid hr; clear hr
      go_wp2
      go_quiet (fail)
      go_wp2
      go_ret
      exact ⟨by rw [HR.out]; rfl, _, rfl⟩
  · have t1 : (e != 0) = true := by simp [he]
    have hr : rEnd l a e = e := by unfold rEnd; simp [he]
    have HR := hid hr; clear hr he
    go_wp2
    go_ret
    exact ⟨by rw [HR.out]; rfl, Qu.refl _⟩
end Go.Proofs.YtkdpclllenbgfaaDoor
