/- The small methods of the readers. -/
import Derived.Test.YtbledkffkckjbaaWireRefRead
namespace Go.Proofs.Ytbledkffkckjbaa
open Go.ChangeShapes Go.WideShapes Go.ChangeAt Go.RowKit
set_option linter.unusedVariables false

def Stays (v : Value) (w : World) (e : Ending) (w' : World) : Prop := e = .returned v ∧ Qu w w'
theorem readAt_any (B p : Nat) (l : List UInt8) (a : Nat) (e : Int) (w : World) (h : RW w B p l a e) :
    Calls Try.prog 25 #[.pointer (some ⟨p, 0, none⟩)] w (Stays (.int .i64 a) w) := by
  obtain ⟨h1, h2, h3, h4, s, h5, h6, h7, h8⟩ := h
  clear h8
  go_enter Try.func25, Try.ntmps25
  go_wp2
  go_ret
  exact ⟨rfl, Qu.refl _⟩
theorem readFailed_any (B p : Nat) (l : List UInt8) (a : Nat) (e : Int) (w : World) (h : RW w B p l a e) :
    Calls Try.prog 47 #[.pointer (some ⟨p, 0, none⟩)] w (Stays (.bool (e != 0)) w) := by
  obtain ⟨h1, h2, h3, h4, s, h5, h6, h7, h8⟩ := h
  clear h8
  go_enter Try.func47, Try.ntmps47
  go_wp2
  go_ret
  exact ⟨rfl, Qu.refl _⟩
def BadPost (B p : Nat) (l : List UInt8) (a : Nat) (e : Int) (w : World) (en : Ending) (w' : World) : Prop := en = .returned (.tuple #[]) ∧ RW w' B p l a (if e = 0 then 2 else e) ∧ Upd p w w'
theorem readBad_any (B p : Nat) (l : List UInt8) (a : Nat) (e : Int) (w : World) (h : RW w B p l a e) :
    Calls Try.prog 45 #[.pointer (some ⟨p, 0, none⟩)] w (BadPost B p l a e w) := by
  have h' := h
  obtain ⟨h1, h2, h3, h4, s, h5, h6, h7, h8⟩ := h
  have f2 := h4 2 (by omega)
  have HW := hid h'; clear h8 h4 h'
  go_enter Try.func45, Try.ntmps45
  by_cases he : e = 0
  · have t1 : (e == 0) = true := by simp [he]
    have hi : (if e = 0 then (2 : Int) else e) = 2 := if_pos he
    have HI := hid hi; clear he hi
    go_wp2
    refine bodyPost_ret (v := .tuple #[]) (by simp [results, Try.results45, go_sem]) rfl ?_
    exact ⟨rfl, by rw [HI.out]; exact HW.out.setE 2, Upd.setCell _ _ _ _⟩
  · have t1 : (e == 0) = false := by simp [he]
    have hi : (if e = 0 then (2 : Int) else e) = e := if_neg he
    have HI := hid hi; clear he hi
    go_wp2
    refine bodyPost_ret (v := .tuple #[]) (by simp [results, Try.results45, go_sem]) rfl ?_
    exact ⟨rfl, by rw [HI.out]; exact HW.out, Upd.refl _ _⟩
theorem refReadBad_any (B p : Nat) (l : List UInt8) (a : Nat) (e : Int) (w : World) (h : RW w B p l a e) :
    Calls Try.prog 51 #[.pointer (some ⟨p, 0, none⟩)] w (BadPost B p l a e w) := by
  have h' := h
  obtain ⟨h1, h2, h3, h4, s, h5, h6, h7, h8⟩ := h
  have f2 := h4 2 (by omega)
  have HW := hid h'; clear h8 h4 h'
  go_enter Try.func51, Try.ntmps51
  by_cases he : e = 0
  · have t1 : (e == 0) = true := by simp [he]
    have hi : (if e = 0 then (2 : Int) else e) = 2 := if_pos he
    have HI := hid hi; clear he hi
    go_wp2
    refine bodyPost_ret (v := .tuple #[]) (by simp [results, Try.results51, go_sem]) rfl ?_
    exact ⟨rfl, by rw [HI.out]; exact HW.out.setE 2, Upd.setCell _ _ _ _⟩
  · have t1 : (e == 0) = false := by simp [he]
    have hi : (if e = 0 then (2 : Int) else e) = e := if_neg he
    have HI := hid hi; clear he hi
    go_wp2
    refine bodyPost_ret (v := .tuple #[]) (by simp [results, Try.results51, go_sem]) rfl ?_
    exact ⟨rfl, by rw [HI.out]; exact HW.out, Upd.refl _ _⟩
/-- What End answers. -/
def rEnd (l : List UInt8) (a : Nat) (e : Int) : Int := if e ≠ 0 then e else if a < l.length then 2 else 0
theorem readEnd_any (B p : Nat) (l : List UInt8) (a : Nat) (e : Int) (w : World) (h : RW w B p l a e) :
    Calls Try.prog 23 #[.pointer (some ⟨p, 0, none⟩)] w (Stays (.int .i64 (rEnd l a e)) w) := by
  obtain ⟨h1, h2, h3, h4, s, h5, h6, h7, A, c, rfl, hc1, hc2, h8⟩ := h
  simp only [bvals_len] at h5
  clear h8 h4 hc1 hc2
  go_enter Try.func23, Try.ntmps23
  by_cases he : e = 0
  · subst he
    by_cases ha : a < l.length
    · have hr : rEnd l a 0 = 2 := by unfold rEnd; simp [ha]
      have HR := hid hr; clear hr
      go_wp2
      go_quiet (fail)
      go_wp2
      go_ret
      exact ⟨by rw [HR.out]; rfl, _, rfl⟩
    · have hr : rEnd l a 0 = 0 := by unfold rEnd; simp [ha]
      have HR := hid hr; clear hr
      go_wp2
      go_quiet (fail)
      go_wp2
      go_ret
      exact ⟨by rw [HR.out]; rfl, _, rfl⟩
  · have t1 : (e == 0) = false := by simp [he]
    have hr : rEnd l a e = e := by unfold rEnd; simp [he]
    have HR := hid hr; clear hr he
    go_wp2
    go_quiet (fail)
    go_wp2
    go_ret
    exact ⟨by rw [HR.out]; rfl, _, rfl⟩
theorem refReadEnd_any (B p : Nat) (l : List UInt8) (a : Nat) (e : Int) (w : World) (h : RW w B p l a e) :
    Calls Try.prog 26 #[.pointer (some ⟨p, 0, none⟩)] w (Stays (.int .i64 (rEnd l a e)) w) := by
  obtain ⟨h1, h2, h3, h4, s, h5, h6, h7, A, c, rfl, hc1, hc2, h8⟩ := h
  simp only [bvals_len] at h5
  clear h8 h4 hc1 hc2
  go_enter Try.func26, Try.ntmps26
  by_cases he : e = 0
  · subst he
    have t1 : ((0 : Int) != 0) = false := rfl
    by_cases ha : a < l.length
    · have hr : rEnd l a 0 = 2 := by unfold rEnd; simp [ha]
      have HR := hid hr; clear hr
      go_wp2
      go_quiet (fail)
      go_wp2
      go_ret
      exact ⟨by rw [HR.out]; rfl, _, rfl⟩
    · have hr : rEnd l a 0 = 0 := by unfold rEnd; simp [ha]
      have HR := hid hr; clear hr
      go_wp2
      go_quiet (fail)
      go_wp2
      go_ret
      exact ⟨by rw [HR.out]; rfl, _, rfl⟩
  · have t1 : (e != 0) = true := by simp [he]
    have hr : rEnd l a e = e := by unfold rEnd; simp [he]
    have HR := hid hr; clear hr he
    go_wp2
    go_ret
    exact ⟨by rw [HR.out]; rfl, Qu.refl _⟩
end Go.Proofs.Ytbledkffkckjbaa
