/- 20 texts of this claim, in build order. -/
import Derived.Test.YtgoapnkdcfcjgaaGreatPgpmhdfmh
import Derived.Test.YtgoapnkdcfcjgaaGreatPnlepmkbe
import Derived.ScopeJumps
import Derived.WalkMore
import Derived.Deep.Cut
import Derived.Deep.DeepCutAuto
import Derived.Laws.BytesArg
import Derived.Test.YtgoapnkdcfcjgaaGreatPacmmcljk
import Derived.Deep.AppendLies
/- The reference's Name and May (layer 6). -/
namespace Go.Proofs.YtgoapnkdcfcjgaaGreat
open Go.ChangeShapes Go.WideShapes Go.ChangeAt Go.RowKit
set_option linter.unusedVariables false
set_option linter.unusedSimpArgs false

def NameRel2 (s : ByteArray) (i : Value) : Prop := ∃ k : Nat, i = .int .i64 k ∧ k ≤ s.size ∧ ∀ j (h : j < s.size), j < k → okN (s[j]'h).toNat
set_option maxHeartbeats 800000 in
theorem refName_any (s : ByteArray) (w : World) :
    Calls Tryz.prog 57 #[.string s] w (Stays (.bool (nameB s)) w) := by
  by_cases hsz : 1 ≤ s.size ∧ s.size ≤ 12
  · obtain ⟨h1, h12⟩ := hsz
    go_enter Tryz.func57, Tryz.ntmps57
    go_wp2
    go_loop [3] (fun i => NameRel2 s i) (fun i => s.size - (intOf i).toNat)
    case atStart => exact ⟨0, rfl, by omega, fun j h h' => by omega⟩
    case round =>
      obtain ⟨k, rfl, hk, hok⟩ := hrel
      have HOK := hid hok; clear hok
      by_cases hlt : k < s.size
      · have hno := fun h => name_no (s := s) hlt h
        have HNO := hid hno; clear hno
        have hnb : (s[k]'hlt).toNat < 256 := UInt8.toNat_lt _
        generalize hn : (s[k]'hlt).toNat = n at *
        have HN := hid hn
        by_cases hok : okN n
        · have hok' := hok
          unfold okN at hok'
          have HO := hid hok; clear hok
          have hrel1 : ∀ j (h : j < s.size), j < k + 1 → okN (s[j]'h).toNat := fun j h hj => by
            by_cases e : j = k
            · subst e; rw [HN.out]; exact HO.out
            · exact HOK.out j h (by omega)
          have HR := hid hrel1; clear hrel1
          rcases hok' with ⟨h1, h2⟩ | ⟨h1, h2⟩ | rfl | rfl
          · have d1 : decide ((97 : Int) ≤ (n : Int)) = true := by rw [decide_eq_true_eq]; omega
            have d2 : decide ((n : Int) ≤ 122) = true := by rw [decide_eq_true_eq]; omega
            have d3 : decide ((48 : Int) ≤ (n : Int)) = true := by rw [decide_eq_true_eq]; omega
            have d4 : decide ((n : Int) ≤ 57) = false := by rw [decide_eq_false_iff_not]; omega
            go_wp2
            go_round
            case rel => exact ⟨k + 1, by go_num, by omega, HR.out⟩
            case measure => simp [intOf]; omega
          · have d1 : decide ((97 : Int) ≤ (n : Int)) = false := by rw [decide_eq_false_iff_not]; omega
            have d2 : decide ((n : Int) ≤ 122) = true := by rw [decide_eq_true_eq]; omega
            have d3 : decide ((48 : Int) ≤ (n : Int)) = true := by rw [decide_eq_true_eq]; omega
            have d4 : decide ((n : Int) ≤ 57) = true := by rw [decide_eq_true_eq]; omega
            go_wp2
            go_round
            case rel => exact ⟨k + 1, by go_num, by omega, HR.out⟩
            case measure => simp [intOf]; omega
          · go_wp2
            go_round
            case rel => exact ⟨k + 1, by go_num, by omega, HR.out⟩
            case measure => simp [intOf]; omega
          · go_wp2
            go_round
            case rel => exact ⟨k + 1, by go_num, by omega, HR.out⟩
            case measure => simp [intOf]; omega
        · have hno := HNO.out hok
          unfold okN at hok
          have HNB := hid hno
          have h45 : ((n : Int) != 45) = true := by rw [bne_iff_ne]; omega
          have h95 : ((n : Int) != 95) = true := by rw [bne_iff_ne]; omega
          have hcase : ((122 < n) ∨ (57 < n ∧ n < 97) ∨ (n < 48)) := by omega
          clear hno hok
          rcases hcase with h | ⟨h, h'⟩ | h
          · have d1 : decide ((97 : Int) ≤ (n : Int)) = true := by rw [decide_eq_true_eq]; omega
            have d2 : decide ((n : Int) ≤ 122) = false := by rw [decide_eq_false_iff_not]; omega
            have d3 : decide ((48 : Int) ≤ (n : Int)) = true := by rw [decide_eq_true_eq]; omega
            have d4 : decide ((n : Int) ≤ 57) = false := by rw [decide_eq_false_iff_not]; omega
            go_wp2
            go_ret
            exact ⟨by rw [HNB.out]; rfl, Qu.refl _⟩
          · have d1 : decide ((97 : Int) ≤ (n : Int)) = false := by rw [decide_eq_false_iff_not]; omega
            have d2 : decide ((n : Int) ≤ 122) = true := by rw [decide_eq_true_eq]; omega
            have d3 : decide ((48 : Int) ≤ (n : Int)) = true := by rw [decide_eq_true_eq]; omega
            have d4 : decide ((n : Int) ≤ 57) = false := by rw [decide_eq_false_iff_not]; omega
            go_wp2
            go_ret
            exact ⟨by rw [HNB.out]; rfl, Qu.refl _⟩
          · have d1 : decide ((97 : Int) ≤ (n : Int)) = false := by rw [decide_eq_false_iff_not]; omega
            have d2 : decide ((n : Int) ≤ 122) = true := by rw [decide_eq_true_eq]; omega
            have d3 : decide ((48 : Int) ≤ (n : Int)) = false := by rw [decide_eq_false_iff_not]; omega
            have d4 : decide ((n : Int) ≤ 57) = true := by rw [decide_eq_true_eq]; omega
            go_wp2
            go_ret
            exact ⟨by rw [HNB.out]; rfl, Qu.refl _⟩
      · have hB : nameB s = true := by
          unfold nameB; rw [decide_eq_true_eq]
          exact ⟨h1, h12, fun j hj => HOK.out j hj (by omega)⟩
        have HB := hid hB; clear hB
        go_wp2
        go_ret
        exact ⟨by rw [HB.out]; rfl, Qu.refl _⟩
  · have hB : nameB s = false := by
      unfold nameB; rw [decide_eq_false_iff_not]; rintro ⟨h1, h2, _⟩; exact hsz ⟨h1, h2⟩
    have HB := hid hB; clear hB
    have hcase : s.size < 1 ∨ (1 ≤ s.size ∧ 12 < s.size) := by omega
    clear hsz
    go_enter Tryz.func57, Tryz.ntmps57
    rcases hcase with h | ⟨h, h'⟩
    all_goals
      go_wp2
      go_ret
      exact ⟨by rw [HB.out]; rfl, Qu.refl _⟩

def MayRel2 (p : List ByteArray) (w : World) (i : Value) (wr : World) : Prop := ∃ k : Nat, i = .int .i64 k ∧ k ≤ p.length ∧ (p.take k).all nameB = true ∧ Qu w wr
set_option maxHeartbeats 400000 in
theorem refMayN_any (v : Value) (p : List ByteArray) (w : World) (hv : Sl w w.heap.size v (svals p)) :
    Calls Tryz.prog 38 #[v] w (Stays (.bool (mayB p)) w) := by
  obtain ⟨A, c, rfl, hc1, hc2, hA⟩ := hv
  simp only [svals_len] at hc1 ⊢
  unfold maxLen at hc2
  have HA := hid hA; clear hA
  by_cases h3 : p.length ≤ 3
  · have hm : mayB p = p.all nameB := by unfold mayB; rw [decide_eq_true h3]; rfl
    rw [hm]; clear hm
    go_enter Tryz.func38, Tryz.ntmps38
    go_wp2
    go_loopw [3] (fun i wr => MayRel2 p w i wr) (fun i _ => p.length - (intOf i).toNat)
    case atStart => exact ⟨0, rfl, by omega, by simp, Qu.refl _⟩
    case round =>
      obtain ⟨k, rfl, hk, hall, hq⟩ := hrel
      have HALL := hid hall; have HQ := hid hq; clear hall hq
      by_cases hlt : k < p.length
      · obtain ⟨b, off, rfl, hbl, hcell⟩ := Sl.str HA.out hlt
        replace hcell : wr.cell? ⟨b, off + k, none⟩ = _ := (HQ.out.cell _).trans hcell
        have e1 : (p.take (k + 1)).all nameB = ((p.take k).all nameB && nameB p[k]) := by
          rw [List.take_succ_eq_append_getElem hlt, List.all_append]; simp
        have e2 : nameB p[k] = false → p.all nameB = false := fun h => by
          rw [List.all_eq_false]; exact ⟨_, List.getElem_mem hlt, by rw [h]; simp⟩
        generalize p[k] = s at *
        have E1 := hid e1; have E2 := hid e2; clear e1 e2
        go_wp2_with fail
        refine (refName_any s _).mono ?_
        rintro e w1 ⟨rfl, hq1⟩
        have HQ1 := hid (HQ.out.trans hq1); clear hq1
        cases hnb : nameB s with
        | true =>
          have HNB := hid hnb; clear hnb
          go_wp2
          go_roundw
          case rel => exact ⟨k + 1, by go_num, by omega, by rw [E1.out, HALL.out, HNB.out]; rfl, HQ1.out⟩
          case measure => simp [intOf]; omega
        | false =>
          have HNB := hid (E2.out hnb); clear hnb
          go_wp2
          go_ret
          exact ⟨by rw [HNB.out]; rfl, HQ1.out⟩
      · have hall : p.all nameB = true := by
          have := HALL.out
          rwa [List.take_of_length_le (by omega)] at this
        have HP := hid hall; clear hall
        go_wp2
        go_ret
        exact ⟨by rw [HP.out]; rfl, HQ.out⟩
  · have hm : mayB p = false := by unfold mayB; rw [decide_eq_false h3]; rfl
    have HM := hid hm; clear hm
    go_enter Tryz.func38, Tryz.ntmps38
    go_wp2
    go_ret
    exact ⟨by rw [HM.out]; rfl, Qu.refl _⟩
end Go.Proofs.YtgoapnkdcfcjgaaGreat
/- Plain facts on numbers as bytes, seven bits a byte. -/
namespace Go.Proofs.YtgoapnkdcfcjgaaGreat

end Go.Proofs.YtgoapnkdcfcjgaaGreat
/- Contracts of slices.Clip, slices.Clone at []byte, and of wire.PutInt (seats without PutText). -/
namespace Go.Proofs.YtgoapnkdcfcjgaaGreat
open Go.ChangeShapes Go.WideShapes Go.ChangeAt Go.RowKit
set_option linter.unusedVariables false

def bvals (l : List UInt8) : List Value := l.map fun c => Value.int .u8 (c.toNat : Int)
theorem bvals_len (l : List UInt8) : (bvals l).length = l.length := by simp [bvals]
end Go.Proofs.YtgoapnkdcfcjgaaGreat
/- Laws behind wire's get and the reference's put. -/
namespace Go.Proofs.YtgoapnkdcfcjgaaGreat
open Go.ChangeShapes Go.WideShapes Go.ChangeAt Go.RowKit
set_option linter.unusedVariables false

end Go.Proofs.YtgoapnkdcfcjgaaGreat
/- Contracts of slices.Clip, slices.Clone at []byte, and of wire.PutInt, wire.PutText. -/
namespace Go.Proofs.YtgoapnkdcfcjgaaGreat
open Go.ChangeShapes Go.WideShapes Go.ChangeAt Go.RowKit
set_option linter.unusedVariables false

end Go.Proofs.YtgoapnkdcfcjgaaGreat
/- Laws behind wire's get and the reference's put. -/
namespace Go.Proofs.YtgoapnkdcfcjgaaGreat
open Go.ChangeShapes Go.WideShapes Go.ChangeAt Go.RowKit
set_option linter.unusedVariables false

end Go.Proofs.YtgoapnkdcfcjgaaGreat
/- Contract of wire.GetInt. -/
namespace Go.Proofs.YtgoapnkdcfcjgaaGreat
open Go.ChangeShapes Go.WideShapes Go.ChangeAt Go.RowKit
set_option linter.unusedVariables false

end Go.Proofs.YtgoapnkdcfcjgaaGreat
/- Contract of the reference's GetInt. -/
namespace Go.Proofs.YtgoapnkdcfcjgaaGreat
open Go.ChangeShapes Go.WideShapes Go.ChangeAt Go.RowKit
set_option linter.unusedVariables false

end Go.Proofs.YtgoapnkdcfcjgaaGreat
/- The Readers (the program's and the reference's): their state, and what each method does to it. -/
namespace Go.Proofs.YtgoapnkdcfcjgaaGreat
open Go.ChangeShapes Go.WideShapes Go.ChangeAt Go.RowKit
set_option linter.unusedVariables false

end Go.Proofs.YtgoapnkdcfcjgaaGreat
/- The reference's Reader.Int. -/
namespace Go.Proofs.YtgoapnkdcfcjgaaGreat
open Go.ChangeShapes Go.WideShapes Go.ChangeAt Go.RowKit
set_option linter.unusedVariables false

end Go.Proofs.YtgoapnkdcfcjgaaGreat
/- Reader.At. -/
namespace Go.Proofs.YtgoapnkdcfcjgaaGreat
open Go.ChangeShapes Go.WideShapes Go.ChangeAt Go.RowKit
set_option linter.unusedVariables false
set_option linter.unusedSimpArgs false

end Go.Proofs.YtgoapnkdcfcjgaaGreat
/- The small methods of the readers. -/
namespace Go.Proofs.YtgoapnkdcfcjgaaGreat
open Go.ChangeShapes Go.WideShapes Go.ChangeAt Go.RowKit
set_option linter.unusedVariables false

end Go.Proofs.YtgoapnkdcfcjgaaGreat
/- Plain laws on numbers as bytes: what is put is got again, a part of it is too short, no other bytes say the same number, lesser numbers have no more bytes. -/
namespace Go.Proofs.YtgoapnkdcfcjgaaGreat

end Go.Proofs.YtgoapnkdcfcjgaaGreat
/- Bytes that are put, one behind the other. -/
namespace Go.Proofs.YtgoapnkdcfcjgaaGreat
open Go.ChangeShapes Go.WideShapes Go.ChangeAt Go.RowKit
set_option linter.unusedVariables false

end Go.Proofs.YtgoapnkdcfcjgaaGreat
/- slices.Clone at bytes. -/
namespace Go.Proofs.YtgoapnkdcfcjgaaGreat
open Go.ChangeShapes Go.WideShapes Go.ChangeAt Go.RowKit
set_option linter.unusedVariables false

end Go.Proofs.YtgoapnkdcfcjgaaGreat
/- slices.Clone at bytes, wire.New. -/
namespace Go.Proofs.YtgoapnkdcfcjgaaGreat
open Go.ChangeShapes Go.WideShapes Go.ChangeAt Go.RowKit
set_option linter.unusedVariables false

end Go.Proofs.YtgoapnkdcfcjgaaGreat
/- A slice of bytes as a text. -/
namespace Go.Proofs.YtgoapnkdcfcjgaaGreat
open Go.ChangeShapes Go.WideShapes Go.ChangeAt Go.RowKit
set_option linter.unusedVariables false
set_option linter.unusedSimpArgs false

end Go.Proofs.YtgoapnkdcfcjgaaGreat
/- Text of the readers. -/
namespace Go.Proofs.YtgoapnkdcfcjgaaGreat
open Go.ChangeShapes Go.WideShapes Go.ChangeAt Go.RowKit
set_option linter.unusedVariables false

end Go.Proofs.YtgoapnkdcfcjgaaGreat
/- The reference's Reader.Text. -/
namespace Go.Proofs.YtgoapnkdcfcjgaaGreat
open Go.ChangeShapes Go.WideShapes Go.ChangeAt Go.RowKit
set_option linter.unusedVariables false

end Go.Proofs.YtgoapnkdcfcjgaaGreat
/- More words on readers and on slices of bytes. -/
namespace Go.Proofs.YtgoapnkdcfcjgaaGreat
open Go.ChangeShapes Go.WideShapes Go.ChangeAt Go.RowKit
set_option linter.unusedVariables false

theorem Sl.form {w : World} {B : Nat} {v : Value} {l : List UInt8} (h : Sl w B v (bvals l)) : ∃ A c, v = .slice A l.length c ∧ l.length ≤ c ∧ c ≤ maxLen := by
  obtain ⟨A, c, rfl, h1, h2, -⟩ := h
  rw [bvals_len] at h1 ⊢
  exact ⟨A, c, rfl, h1, h2⟩
end Go.Proofs.YtgoapnkdcfcjgaaGreat
