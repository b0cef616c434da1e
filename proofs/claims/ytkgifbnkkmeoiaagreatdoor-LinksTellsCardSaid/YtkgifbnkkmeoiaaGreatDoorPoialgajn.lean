/- 3 texts of this claim, in build order. -/
import Derived.Test.YtkgifbnkkmeoiaaGreatDoorPlnplcbck
import Derived.Test.YtkgifbnkkmeoiaaGreatDoorPhoigjkig
import Derived.Test.YtkgifbnkkmeoiaaGreatDoorPlommplbg
import Derived.BigQuiet
/- The reference's Name and May (layer 6). -/
namespace Go.Proofs.YtkgifbnkkmeoiaaGreatDoor
open Go.ChangeShapes Go.WideShapes Go.ChangeAt Go.RowKit
set_option linter.unusedVariables false
set_option linter.unusedSimpArgs false

def NameRel2 (s : ByteArray) (i : Value) : Prop := ∃ k : Nat, i = .int .i64 k ∧ k ≤ s.size ∧ ∀ j (h : j < s.size), j < k → okN (s[j]'h).toNat
set_option maxHeartbeats 800000 in
theorem refName_any (s : ByteArray) (w : World) :
    Calls Tryz.prog 130 #[.string s] w (Stays (.bool (nameB s)) w) := by
  by_cases hsz : 1 ≤ s.size ∧ s.size ≤ 12
  · obtain ⟨h1, h12⟩ := hsz
    go_enter Tryz.func130, Tryz.ntmps130
    go_wp2
    go_loop [3] (fun i => NameRel2 s i) (fun i => s.size - (intOf i).toNat)
    case atStart => exact ⟨0, rfl, by omega, fun j h h' => by omega⟩
    case round =>
      obtain ⟨k, rfl, hk, hok⟩ := hrel
      have HOK := hid hok; clear hok
      by_cases hlt : k < s.size
      · have hno := fun h => name_no (s := s) hlt h
        have HNO := hid hno; clear hno
        have hnb : (s[k]'hlt).toNat < 256 := UInt8.toNat_lt _
        generalize hn : (s[k]'hlt).toNat = n at *
        have HN := hid hn
        by_cases hok : okN n
        · have hok' := hok
          unfold okN at hok'
          have HO := hid hok; clear hok
          have hrel1 : ∀ j (h : j < s.size), j < k + 1 → okN (s[j]'h).toNat := fun j h hj => by
            by_cases e : j = k
            · subst e; rw [HN.out]; exact HO.out
            · exact HOK.out j h (by omega)
          have HR := hid hrel1; clear hrel1
          rcases hok' with ⟨h1, h2⟩ | ⟨h1, h2⟩ | rfl | rfl
          · have d1 : decide ((97 : Int) ≤ (n : Int)) = true := by rw [decide_eq_true_eq]; omega
            have d2 : decide ((n : Int) ≤ 122) = true := by rw [decide_eq_true_eq]; omega
            have d3 : decide ((48 : Int) ≤ (n : Int)) = true := by rw [decide_eq_true_eq]; omega
            have d4 : decide ((n : Int) ≤ 57) = false := by rw [decide_eq_false_iff_not]; omega
            go_wp2
            go_round
            case rel => exact ⟨k + 1, by go_num, by omega, HR.out⟩
            case measure => simp [intOf]; omega
          · have d1 : decide ((97 : Int) ≤ (n : Int)) = false := by rw [decide_eq_false_iff_not]; omega
            have d2 : decide ((n : Int) ≤ 122) = true := by rw [decide_eq_true_eq]; omega
            have d3 : decide ((48 : Int) ≤ (n : Int)) = true := by rw [decide_eq_true_eq]; omega
            have d4 : decide ((n : Int) ≤ 57) = true := by rw [decide_eq_true_eq]; omega
            go_wp2
            go_round
            case rel => exact ⟨k + 1, by go_num, by omega, HR.out⟩
            case measure => simp [intOf]; omega
          · go_wp2
            go_round
            case rel => exact ⟨k + 1, by go_num, by omega, HR.out⟩
            case measure => simp [intOf]; omega
          · go_wp2
            go_round
            case rel => exact ⟨k + 1, by go_num, by omega, HR.out⟩
            case measure => simp [intOf]; omega
        · have hno := HNO.out hok
          unfold okN at hok
          have HNB := hid hno
          have h45 : ((n : Int) != 45) = true := by rw [bne_iff_ne]; omega
          have h95 : ((n : Int) != 95) = true := by rw [bne_iff_ne]; omega
          have hcase : ((122 < n) ∨ (57 < n ∧ n < 97) ∨ (n < 48)) := by omega
          clear hno hok
          rcases hcase with h | ⟨h, h'⟩ | h
          · have d1 : decide ((97 : Int) ≤ (n : Int)) = true := by rw [decide_eq_true_eq]; omega
            have d2 : decide ((n : Int) ≤ 122) = false := by rw [decide_eq_false_iff_not]; omega
            have d3 : decide ((48 : Int) ≤ (n : Int)) = true := by rw [decide_eq_true_eq]; omega
            have d4 : decide ((n : Int) ≤ 57) = false := by rw [decide_eq_false_iff_not]; omega
            go_wp2
            go_ret
            exact ⟨by rw [HNB.out]; rfl, Qu.refl _⟩
          · have d1 : decide ((97 : Int) ≤ (n : Int)) = false := by rw [decide_eq_false_iff_not]; omega
            have d2 : decide ((n : Int) ≤ 122) = true := by rw [decide_eq_true_eq]; omega
            have d3 : decide ((48 : Int) ≤ (n : Int)) = true := by rw [decide_eq_true_eq]; omega
            have d4 : decide ((n : Int) ≤ 57) = false := by rw [decide_eq_false_iff_not]; omega
            go_wp2
            go_ret
            exact ⟨by rw [HNB.out]; rfl, Qu.refl _⟩
          · have d1 : decide ((97 : Int) ≤ (n : Int)) = false := by rw [decide_eq_false_iff_not]; omega
            have d2 : decide ((n : Int) ≤ 122) = true := by rw [decide_eq_true_eq]; omega
            have d3 : decide ((48 : Int) ≤ (n : Int)) = false := by rw [decide_eq_false_iff_not]; omega
            have d4 : decide ((n : Int) ≤ 57) = true := by rw [decide_eq_true_eq]; omega
            go_wp2
            go_ret
            exact ⟨by rw [HNB.out]; rfl, Qu.refl _⟩
      · have hB : nameB s = true := by
          unfold nameB; rw [decide_eq_true_eq]
          exact ⟨h1, h12, fun j hj => HOK.out j hj (by omega)⟩
        have HB := hid hB; clear hB
        go_wp2
        go_ret
        exact ⟨by rw [HB.out]; rfl, Qu.refl _⟩
  · have hB : nameB s = false := by
      unfold nameB; rw [decide_eq_false_iff_not]; rintro ⟨h1, h2, _⟩; exact hsz ⟨h1, h2⟩
    have HB := hid hB; clear hB
    have hcase : s.size < 1 ∨ (1 ≤ s.size ∧ 12 < s.size) := by omega
    clear hsz
    go_enter Tryz.func130, Tryz.ntmps130
    rcases hcase with h | ⟨h, h'⟩
    all_goals
      go_wp2
      go_ret
      exact ⟨by rw [HB.out]; rfl, Qu.refl _⟩

def MayRel2 (p : List ByteArray) (w : World) (i : Value) (wr : World) : Prop := ∃ k : Nat, i = .int .i64 k ∧ k ≤ p.length ∧ (p.take k).all nameB = true ∧ Qu w wr
set_option maxHeartbeats 400000 in
theorem refMayN_any (v : Value) (p : List ByteArray) (w : World) (hv : Sl w w.heap.size v (svals p)) :
    Calls Tryz.prog 112 #[v] w (Stays (.bool (mayB p)) w) := by
  obtain ⟨A, c, rfl, hc1, hc2, hA⟩ := hv
  simp only [svals_len] at hc1 ⊢
  unfold maxLen at hc2
  have HA := hid hA; clear hA
  by_cases h3 : p.length ≤ 3
  · have hm : mayB p = p.all nameB := by unfold mayB; rw [decide_eq_true h3]; rfl
    rw [hm]; clear hm
    go_enter Tryz.func112, Tryz.ntmps112
    go_wp2
    go_loopw [3] (fun i wr => MayRel2 p w i wr) (fun i _ => p.length - (intOf i).toNat)
    case atStart => exact ⟨0, rfl, by omega, by simp, Qu.refl _⟩
    case round =>
      obtain ⟨k, rfl, hk, hall, hq⟩ := hrel
      have HALL := hid hall; have HQ := hid hq; clear hall hq
      by_cases hlt : k < p.length
      · obtain ⟨b, off, rfl, hbl, hcell⟩ := Sl.str HA.out hlt
        replace hcell : wr.cell? ⟨b, off + k, none⟩ = _ := (HQ.out.cell _).trans hcell
        have e1 : (p.take (k + 1)).all nameB = ((p.take k).all nameB && nameB p[k]) := by
          rw [List.take_succ_eq_append_getElem hlt, List.all_append]; simp
        have e2 : nameB p[k] = false → p.all nameB = false := fun h => by
          rw [List.all_eq_false]; exact ⟨_, List.getElem_mem hlt, by rw [h]; simp⟩
        generalize p[k] = s at *
        have E1 := hid e1; have E2 := hid e2; clear e1 e2
        go_wp2_with fail
        refine (refName_any s _).mono ?_
        rintro e w1 ⟨rfl, hq1⟩
        have HQ1 := hid (HQ.out.trans hq1); clear hq1
        cases hnb : nameB s with
        | true =>
          have HNB := hid hnb; clear hnb
          go_wp2
          go_roundw
          case rel => exact ⟨k + 1, by go_num, by omega, by rw [E1.out, HALL.out, HNB.out]; rfl, HQ1.out⟩
          case measure => simp [intOf]; omega
        | false =>
          have HNB := hid (E2.out hnb); clear hnb
          go_wp2
          go_ret
          exact ⟨by rw [HNB.out]; rfl, HQ1.out⟩
      · have hall : p.all nameB = true := by
          have := HALL.out
          rwa [List.take_of_length_le (by omega)] at this
        have HP := hid hall; clear hall
        go_wp2
        go_ret
        exact ⟨by rw [HP.out]; rfl, HQ.out⟩
  · have hm : mayB p = false := by unfold mayB; rw [decide_eq_false h3]; rfl
    have HM := hid hm; clear hm
    go_enter Tryz.func112, Tryz.ntmps112
    go_wp2
    go_ret
    exact ⟨by rw [HM.out]; rfl, Qu.refl _⟩
end Go.Proofs.YtkgifbnkkmeoiaaGreatDoor
/- The reference's Text (layer 6). -/
namespace Go.Proofs.YtkgifbnkkmeoiaaGreatDoor
open Go.ChangeShapes Go.WideShapes Go.ChangeAt Go.RowKit
set_option linter.unusedVariables false
set_option linter.unusedSimpArgs false

def TxRel (p : List ByteArray) (w : World) (s i : Value) (wr : World) : Prop := ∃ k : Nat, i = .int .i64 k ∧ k ≤ p.length ∧ s = .string (accT p k) ∧ Qu w wr
set_option maxHeartbeats 800000 in
theorem refText_any (v : Value) (p : List ByteArray) (w : World) (hv : Sl w w.heap.size v (svals p)) :
    Calls Tryz.prog 86 #[v] w (GivesT (textR p) w) := by
  have HM := hid (refMayN_any v p w hv)
  obtain ⟨A, c, rfl, hc1, hc2, hA⟩ := hv
  simp only [svals_len] at hc1 HM ⊢
  unfold maxLen at hc2
  have HA := hid hA; clear hA
  cases hm : mayB p
  · have HR := hid (show textR p = (⟨#[]⟩, 10) by unfold textR; rw [hm]; rfl)
    rw [hm] at HM
    clear hm
    go_enter Tryz.func86, Tryz.ntmps86
    go_wp2_with fail
    refine HM.out.mono ?_
    rintro e w1 ⟨rfl, hb⟩
    go_wp2
    go_ret2
    exact ⟨by rw [HR.out]; rfl, hb.below _⟩
  · have hlen3 := (mayB_size hm).1
    have hR : textR p = (textB p, 0) := by unfold textR; rw [hm]; rfl
    have HAS := hid (fun k => accT_size hm k)
    have HX := hid (mayB_size hm).2
    rw [hm] at HM
    clear hm
    by_cases h0 : p.length = 0
    · have HR := hid (show textR p = (⟨#[42]⟩, 0) by rw [hR]; unfold textB; rw [if_pos (List.eq_nil_of_length_eq_zero h0)])
      rw [h0] at HM ⊢
      clear hR h0 hlen3
      go_enter Tryz.func86, Tryz.ntmps86
      go_wp2_with fail
      refine HM.out.mono ?_
      rintro e w1 ⟨rfl, hb⟩
      go_wp2
      go_ret2
      exact ⟨by rw [HR.out]; rfl, hb.below _⟩
    · have HR := hid (show textR p = (accT p p.length, 0) by rw [hR, accT_eq p _ (Nat.le_refl _), List.take_length]; unfold textB; rw [if_neg (by rintro rfl; exact h0 rfl)])
      have t1 : ((p.length : Int) == 0) = false := by rw [beq_eq_false_iff_ne]; omega
      clear hR h0
      go_enter Tryz.func86, Tryz.ntmps86
      go_wp2_with fail
      refine HM.out.mono ?_
      rintro e w1 ⟨rfl, hq1⟩
      have HQ1 := hid hq1; clear hq1
      go_wp2
      go_loopw [5, 6] (fun s i wr => TxRel p w s i wr) (fun _ i _ => p.length - (intOf i).toNat)
      case atStart => exact ⟨0, rfl, by omega, rfl, HQ1.out⟩
      case round =>
        obtain ⟨k, rfl, hk, rfl, hq⟩ := hrel
        have HQ := hid hq; clear hq
        by_cases hlt : k < p.length
        · obtain ⟨b, off, rfl, hbl, hcell⟩ := Sl.str HA.out hlt
          replace hcell : wr.cell? ⟨b, off + k, none⟩ = _ := (HQ.out.cell _).trans hcell
          have e1 : accT p (k + 1) = (if 0 < k then accT p k ++ slash else accT p k) ++ p[k] := by
            rw [accT, List.getD_eq_getElem?_getD, List.getElem?_eq_getElem hlt, Option.getD_some]
          have hs1 := HAS.out k (by omega)
          have hs2 := HAS.out (k + 1) (by omega)
          have hsx := HX.out p[k] (List.getElem_mem hlt)
          have E1 := hid e1; clear e1
          generalize p[k] = x at *
          have hz1 : ¬ 9223372036854775807 < (accT p k).size + 1 + x.size := by omega
          have hz2 : ¬ 9223372036854775807 < (accT p k).size + x.size := by omega
          by_cases hk0 : 0 < k
          · have t2 : decide ((0 : Int) < (k : Int)) = true := by rw [decide_eq_true_eq]; omega
            have t2' : decide (0 < k) = true := decide_eq_true hk0
            go_wp2
            go_roundw
            case rel => exact ⟨k + 1, by go_num, by omega, by rw [E1.out, if_pos hk0]; rfl, HQ.out⟩
            case measure => simp [intOf]; omega
          · have t2 : decide ((0 : Int) < (k : Int)) = false := by rw [decide_eq_false_iff_not]; omega
            have t2' : decide (0 < k) = false := decide_eq_false hk0
            go_wp2
            go_roundw
            case rel => exact ⟨k + 1, by go_num, by omega, by rw [E1.out, if_neg hk0], HQ.out⟩
            case measure => simp [intOf]; omega
        · obtain rfl : k = p.length := by omega
          go_wp2
          go_ret2
          exact ⟨by rw [HR.out]; rfl, HQ.out.below _⟩
end Go.Proofs.YtkgifbnkkmeoiaaGreatDoor
/- The reference's values and plain facts. -/
namespace Go.Proofs.YtkgifbnkkmeoiaaGreatDoor
open Go.ChangeShapes Go.WideShapes Go.ChangeAt Go.RowKit
set_option linter.unusedVariables false
set_option linter.unusedSimpArgs false

theorem refIn_any (n : Int) (w : World) : Calls Tryz.prog 129 #[.int .i64 n, .int .i64 2305843009213693952] w (Stays (.bool (valB n)) w) := by
  unfold valB
  by_cases h : -2305843009213693952 ≤ n
  · have d1 : decide (-2305843009213693952 ≤ n) = true := decide_eq_true h
    rw [d1, Bool.true_and]
    go_enter Tryz.func129, Tryz.ntmps129
    go_wp2
    go_ret
    exact ⟨rfl, Qu.refl _⟩
  · have d1 : decide (-2305843009213693952 ≤ n) = false := decide_eq_false h
    rw [d1, Bool.false_and]
    go_enter Tryz.func129, Tryz.ntmps129
    go_wp2
    go_ret
    exact ⟨rfl, Qu.refl _⟩
def RvRel {α : Type} (p : α → Bool) (l : List α) (w : World) (i : Value) (wr : World) : Prop := ∃ k : Nat, k ≤ l.length ∧ i = .int .i64 k ∧ (∀ j (h : j < l.length), j < k → p l[j] = true) ∧ Qu w wr
set_option maxRecDepth 100000 in
set_option maxHeartbeats 800000 in
theorem refValues_any (v : Value) (l : List Int) (w : World) (hv : rdInts w w.heap.size [v] l) :
    Calls Tryz.prog 111 #[.int .i64 l.length, v] w (Stays (.bool (l.all valB)) w) := by
  obtain ⟨A, c, e, hc, hm⟩ := hv.open_
  simp only [List.cons.injEq, and_true] at e
  subst e
  have HV := hid hv
  have t0 : ((l.length : Int) != (l.length : Int)) = false := by simp
  clear hv
  go_enter Tryz.func111, Tryz.ntmps111
  go_wp2
  go_loopw [5] (fun i wr => RvRel valB l w i wr) (fun i _ => l.length - (intOf i).toNat)
  case atStart => exact ⟨0, by omega, rfl, fun j h h' => by omega, Qu.refl _⟩
  case round =>
    obtain ⟨k, hk, rfl, hall, hq⟩ := hrel
    have HQ := hid hq; have HALL := hid hall
    clear hq hall
    by_cases hlt : k < l.length
    · obtain ⟨b, off, rfl, hbl, hcell, -⟩ := ints_at' HV.out hlt
      replace hcell : wr.cell? ⟨b, off + k, none⟩ = _ := (HQ.out.cell _).trans hcell
      have hst := all_more (p := valB) HALL.out hlt
      have hno : valB l[k] = false → l.all valB = false := all_no (p := valB) hlt
      generalize l[k] = n at *
      have HI := hid (refIn_any n wr)
      generalize valB n = bn at *
      have HST := hid hst; have HNO := hid hno
      clear hst hno
      go_wp2_with fail
      refine HI.out.mono ?_
      rintro e w1 ⟨rfl, hq1⟩
      have HQ1 := hid (HQ.out.trans hq1); clear hq1
      cases bn
      · have HN := hid (HNO.out (by first | rfl | trivial))
        go_wp2
        go_ret
        exact ⟨by rw [HN.out]; rfl, HQ1.out⟩
      · have HS := hid (HST.out (by first | rfl | trivial))
        go_wp2
        go_roundw
        case rel => exact ⟨k + 1, by omega, by go_num, HS.out, HQ1.out⟩
        case measure => simp [intOf]; omega
    · have HN := hid (all_yes (p := valB) (l := l) (fun j hj => HALL.out j hj (by omega)))
      go_wp2
      go_ret
      exact ⟨by rw [HN.out]; rfl, HQ.out⟩
theorem plainFt_ref (f : FactX) : plainFt f = (f.2.all valB && decide (f.2.length ≤ 2) && decide (f.1.length ≤ 3) && f.1.all mayB) := by
  unfold plainFt
  rw [any_not, any_not]
  cases f.1.all mayB <;> cases f.2.all valB <;> cases decide (f.1.length ≤ 3) <;> cases decide (f.2.length ≤ 2) <;> rfl
set_option maxRecDepth 100000 in
set_option maxHeartbeats 1600000 in
theorem refPlainFt_any (v : Value) (f : FactX) (w : World) (hv : FactV w w.heap.size v f) :
    Calls Tryz.prog 85 #[v] w (Gives (.bool (plainFt f)) w) := by
  obtain ⟨A1, c1, A2, c2, rfl, h1, h2⟩ := hv
  obtain ⟨hc1, hm1⟩ := h1.cap
  obtain ⟨hc2, hm2⟩ := h2.cap
  obtain ⟨W0, hW0⟩ : ∃ W, W = w.alloc (.cells #[.slice A1 f.1.length c1, .slice A2 f.2.length c2] 127) := ⟨_, rfl⟩
  have g0 : Below w.heap.size w W0 := by rw [hW0]; exact bl1 _ _
  have z0 : W0.heap.size = w.heap.size + 1 := by rw [hW0]; simp
  have y0 : W0.cell? ⟨w.heap.size, 0, none⟩ = some (.slice A1 f.1.length c1) := by rw [hW0]; simp [go_sem]
  have y1 : W0.cell? ⟨w.heap.size, 1, none⟩ = some (.slice A2 f.2.length c2) := by rw [hW0]; simp [go_sem]
  have HW0 := hid hW0
  have G0 := hid g0; have Y0 := hid y0; have Y1 := hid y1
  have H1 := hid (good_paths.on h1 g0)
  have HVS := hid (refValues_any _ f.2 W0 (good_ints.on h2 g0))
  have hres := plainFt_ref f
  generalize plainFt f = res at *
  generalize f.2.all valB = bV at *
  generalize hn2 : f.2.length = n2 at *
  generalize hn1 : f.1.length = n1 at *
  have HRES := hid hres
  have HN1 := hid hn1
  clear hW0 g0 h1 h2 hres
  go_enter Tryz.func85, Tryz.ntmps85
  go_wp2_with fail
  rw [← HW0.out]
  refine HVS.out.mono ?_
  rintro e w1 ⟨rfl, hq1⟩
  have HQ1 := hid hq1
  replace y0 : w1.cell? ⟨w.heap.size, 0, none⟩ = _ := (hq1.cell _).trans Y0.out
  replace y1 : w1.cell? ⟨w.heap.size, 1, none⟩ = _ := (hq1.cell _).trans Y1.out
  clear hq1
  cases bV
  · have HN := hid (show res = false by rw [HRES.out]; rfl)
    go_wp2
    go_ret
    exact ⟨by rw [HN.out]; rfl, G0.out.trans (HQ1.out.below _)⟩
  · by_cases l2 : 2 < n2
    · have t1 : decide (2 < n2) = true := decide_eq_true l2
      have t1' : decide ((2 : Int) < (n2 : Int)) = true := by rw [decide_eq_true_eq]; omega
      have HN := hid (show res = false by rw [HRES.out, decide_eq_false (show ¬ n2 ≤ 2 by omega)]; rfl)
      clear l2
      go_wp2
      go_ret
      exact ⟨by rw [HN.out]; rfl, G0.out.trans (HQ1.out.below _)⟩
    have t1 : decide (2 < n2) = false := decide_eq_false l2
    have t1' : decide ((2 : Int) < (n2 : Int)) = false := by rw [decide_eq_false_iff_not]; omega
    by_cases l1 : 3 < n1
    · have t2 : decide (3 < n1) = true := decide_eq_true l1
      have t2' : decide ((3 : Int) < (n1 : Int)) = true := by rw [decide_eq_true_eq]; omega
      have HN := hid (show res = false by rw [HRES.out, decide_eq_false (show ¬ n1 ≤ 3 by omega)]; simp)
      clear l2 l1
      go_wp2
      go_ret
      exact ⟨by rw [HN.out]; rfl, G0.out.trans (HQ1.out.below _)⟩
    have t2 : decide (3 < n1) = false := decide_eq_false l1
    have t2' : decide ((3 : Int) < (n1 : Int)) = false := by rw [decide_eq_false_iff_not]; omega
    have HR := hid (show res = f.1.all mayB by rw [HRES.out, decide_eq_true (show n1 ≤ 3 by omega), decide_eq_true (show n2 ≤ 2 by omega)]; simp)
    clear l2 l1
    go_wp2
    go_loopw [4] (fun i wr => RvRel mayB f.1 W0 i wr) (fun i _ => n1 - (intOf i).toNat)
    case atStart => exact ⟨0, by omega, rfl, fun j h h' => by omega, HQ1.out⟩
    case round =>
      clear y0 y1
      obtain ⟨k, hk, rfl, hall, hq⟩ := hrel
      have HQ := hid hq; have HALL := hid hall
      have y0 : wr.cell? ⟨w.heap.size, 0, none⟩ = _ := (hq.cell _).trans Y0.out
      clear hq hall
      by_cases hlt : k < n1
      · have hlt' : k < f.1.length := by have := HN1.out; omega
        obtain ⟨b3, o3, AQ, cQ, rfl, hb3, hcq, hqq⟩ := paths_at H1.out hlt'
        replace hcq : wr.cell? ⟨b3, o3 + k, none⟩ = _ := (HQ.out.cell _).trans hcq
        have hqs := (strs_sl (good_strs.on hqq (HQ.out.below _))).1
        have hst := all_more (p := mayB) HALL.out hlt'
        have hno : mayB f.1[k] = false → f.1.all mayB = false := all_no (p := mayB) hlt'
        generalize f.1[k] = m at *
        have HMY := hid (refMayN_any (.slice AQ m.length cQ) m wr hqs)
        generalize mayB m = bm at *
        have HST := hid hst; have HNO := hid hno
        clear hst hno hqq hqs
        go_wp2_with fail
        refine HMY.out.mono ?_
        rintro e w4 ⟨rfl, hq4⟩
        have HQ4 := hid (HQ.out.trans hq4)
        clear hq4
        cases bm
        · have HN := hid (show res = false by rw [HR.out, HNO.out (by first | rfl | trivial)])
          go_wp2
          go_ret
          exact ⟨by rw [HN.out]; rfl, G0.out.trans (HQ4.out.below _)⟩
        · have HS := hid (HST.out (by first | rfl | trivial))
          go_wp2
          go_roundw
          case rel => exact ⟨k + 1, by have := HN1.out; omega, by go_num, HS.out, HQ4.out⟩
          case measure => simp [intOf]; omega
      · have HN := hid (show res = true by rw [HR.out]; exact all_yes (p := mayB) (l := f.1) (fun i hi => HALL.out i hi (by have := HN1.out; omega)))
        go_wp2
        go_ret
        exact ⟨by rw [HN.out]; rfl, G0.out.trans (HQ.out.below _)⟩
end Go.Proofs.YtkgifbnkkmeoiaaGreatDoor
