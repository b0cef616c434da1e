/- The walk of NamesPaths. -/
import Derived.Test.YtompjcadhodapaaDoorNLives
import Derived.Test.YtompjcadhodapaaDoorPathRef
namespace Go.Proofs.YtompjcadhodapaaDoor
open Go.ChangeShapes Go.WideShapes Go.ChangeAt Go.RowKit
set_option linter.unusedVariables false
set_option linter.unusedSimpArgs false

theorem extract_size (s : ByteArray) (n : Nat) : (s.extract 0 n).size ≤ n := by
  have := congrArg List.length (Lib.extract_data s 0 n)
  rw [Array.length_toList, List.length_take] at this
  show (s.extract 0 n).data.size ≤ n
  omega
theorem own_sl {w w' : World} {base : Nat} {v : Value} {l : List ByteArray} (h : w.ownsRow base 9 1 v l.length (svals l)) (hb : Below w.heap.size w w') : Sl w' w'.heap.size v (svals l) := Sl.of_own (own_kept h (fun g hg => hb.block g (h.lt g hg).2))
set_option maxRecDepth 100000 in
set_option maxHeartbeats 1600000 in
theorem walk_NamesPaths (w : World) (hm : MaxL w) (s : ByteArray) (hz : s.size ≤ maxLen) :
    Calls Tryd.prog 6 #[.string s] w (Gives (.bool true) w) := by
  have hw : ∃ s' : ByteArray, s'.size ≤ 100 ∧ ((100 < s.size ∧ s.extract 0 100 = s') ∨ (¬ 100 < s.size ∧ s = s')) := by
    by_cases h : 100 < s.size
    · exact ⟨_, extract_size s 100, .inl ⟨h, rfl⟩⟩
    · exact ⟨s, by omega, .inr ⟨h, rfl⟩⟩
  obtain ⟨x, hx, hw⟩ := hw
  have HP := hid (fun W hm => path_any x W (by omega) hm)
  have HR := hid (fun W => refPath_any x W (by omega))
  have hcs := pathR_cases x
  have htx := fun p => @textR_path x p
  obtain ⟨p, pe⟩ : ∃ p, p = pathR x := ⟨_, rfl⟩
  rw [← pe] at hcs
  simp only [← pe] at HP HR htx
  obtain ⟨q, e⟩ := p
  unfold PathPost at HP HR
  simp only at HP HR hcs htx
  have HM := hid hm; have HCS := hid hcs; have HTX := hid htx
  have hxx : (x.toList == x.toList) = true := by simp
  have hee : (e != e) = false := by simp
  clear hm hcs htx pe
  rcases hw with ⟨h1, h2⟩ | ⟨h1, h2⟩
  case' inl =>
    have H2 := hid h2
    have t1 : decide ((100 : Int) < (s.size : Int)) = true := by rw [decide_eq_true_eq]; omega
    have b1 : (100 : Int) < (s.size : Int) := by omega
    have b2 : 100 ≤ s.size := by omega
    clear h1 h2
    go_enter Tryd.func6, Tryd.ntmps6
    go_wp2_with fail
    rw [H2.out]
  case' inr =>
    subst h2
    have t1 : decide ((100 : Int) < (s.size : Int)) = false := by rw [decide_eq_false_iff_not]; omega
    clear h1
    go_enter Tryd.func6, Tryd.ntmps6
    go_wp2_with fail
  all_goals
    refine (HP.out _ HM.out).mono ?_
    rintro e1 w1 ⟨v1, rfl, ho1, hb1⟩
    have B1 := hid hb1; have O1 := hid ho1
    clear hb1 ho1
    go_wp2_with fail
    refine (HR.out _).mono ?_
    rintro e1 w2 ⟨v2, rfl, ho2, hb2⟩
    have B2 := hid (B1.out.trans (hb2.mono B1.out.size))
    have HS := hid (sameS_any v1 v2 q q w2 (own_sl O1.out hb2) (Sl.of_own ho2))
    have O2 := hid (own_kept O1.out (fun g hg => hb2.block g (O1.out.lt g hg).2))
    rw [decide_eq_true rfl] at HS
    clear hb2 ho2
    go_wp2_with fail
    refine HS.out.mono ?_
    rintro e1 w3 ⟨rfl, hq3⟩
    have B3 := hid (B2.out.trans ((hq3.below w2.heap.size).mono B2.out.size))
    by_cases he : e = 0
    · have hmb : mayB q = true := by
        rcases HCS.out with h | h
        · exact h.2
        · injection h with _ h; omega
      have hsz := (mayB_size hmb)
      have HT := hid (text_any v1 q w3 (own_sl O2.out (hq3.below w2.heap.size)) (fun y hy => by have := hsz.2 y hy; omega) (by omega))
      rw [HTX.out q (by rw [he])] at HT
      unfold GivesT at HT
      subst he
      clear hq3 hmb hsz
      go_wp2_with fail
      refine HT.out.mono ?_
      rintro e1 w4 ⟨rfl, hb4⟩
      have B4 := hid (B3.out.trans (hb4.mono B3.out.size)); clear hb4
      go_wp2_with fail
      refine (lives_true _ (HM.out.on B4.out)).mono ?_
      rintro e1 w5 ⟨rfl, hb5⟩
      have B5 := hid (B4.out.trans (hb5.mono B4.out.size)); clear hb5
      go_wp2
      go_ret
      exact ⟨rfl, B5.out⟩
    · have t2 : (e == 0) = false := by simpa using he
      clear he hq3
      go_wp2_with fail
      refine (lives_true _ (HM.out.on B3.out)).mono ?_
      rintro e1 w5 ⟨rfl, hb5⟩
      have B5 := hid (B3.out.trans (hb5.mono B3.out.size)); clear hb5
      go_wp2
      go_ret
      exact ⟨rfl, B5.out⟩
end Go.Proofs.YtompjcadhodapaaDoor
