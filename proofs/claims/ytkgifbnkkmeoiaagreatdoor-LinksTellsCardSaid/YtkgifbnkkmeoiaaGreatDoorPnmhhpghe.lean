/- 2 texts of this claim, in build order. -/
import Derived.Test.YtkgifbnkkmeoiaaGreatDoorPmfcnoomp
import Derived.Test.YtkgifbnkkmeoiaaGreatDoorPeanbkbag
import Derived.Test.YtkgifbnkkmeoiaaGreatDoorPoialgajn
import Derived.Test.YtkgifbnkkmeoiaaGreatDoorPlommplbg
/- The reference's puts, one behind the other. -/
namespace Go.Proofs.YtkgifbnkkmeoiaaGreatDoor
open Go.ChangeShapes Go.WideShapes Go.ChangeAt Go.RowKit
set_option linter.unusedVariables false

theorem refPutI8 (v : Value) (l : List UInt8) (n : Int) (w : World) (hv : Sl w w.heap.size v (bvals l)) (hl : l.length ≤ 100000) (hn : InI64 n) :
    Calls Tryz.prog 22 #[v, .int .i64 n] w (Put8 (l ++ putInt n) w) := by
  unfold InI64 at hn
  refine (refPutInt_any v l n w hv (by omega) (by omega) (by omega)).mono ?_
  rintro e w' ⟨v', rfl, h, hb⟩
  exact ⟨v', rfl, by unfold Own8; rw [List.length_append]; exact h, hb⟩
theorem refPutT8 (v : Value) (l : List UInt8) (s : ByteArray) (w : World) (hv : Sl w w.heap.size v (bvals l)) (hl : l.length ≤ 100000) (hs : s.size ≤ 100000) :
    Calls Tryz.prog 24 #[v, .string s] w (Put8 (l ++ (putInt s.size ++ s.data.toList)) w) := by
  refine (refPutText_any v l s w hv (by omega)).mono ?_
  rintro e w' ⟨v', rfl, h, hb⟩
  refine ⟨v', rfl, ?_, hb⟩
  unfold Own8
  rw [← List.append_assoc]
  have : (l ++ putInt ↑s.size ++ s.data.toList).length = l.length + (putInt ↑s.size).length + s.size := by
    rw [List.length_append, List.length_append, Array.length_toList]; rfl
  rw [this]
  exact h
end Go.Proofs.YtkgifbnkkmeoiaaGreatDoor
/- The reference's Put of facts. -/
namespace Go.Proofs.YtkgifbnkkmeoiaaGreatDoor
open Go.ChangeShapes Go.WideShapes Go.ChangeAt Go.RowKit
set_option linter.unusedVariables false
set_option linter.unusedSimpArgs false

set_option maxRecDepth 100000 in
set_option maxHeartbeats 3200000 in
theorem refPutFacts_any (v x : Value) (b : List UInt8) (l : List FactX) (w : World) (hv : Sl w w.heap.size v (bvals b)) (hb0 : b.length ≤ 50000) (hx : rdSlice 2 rdFact w w.heap.size [x] l) :
    Calls Tryz.prog 72 #[v, x] w (PutFP b l w) := by
  obtain ⟨X, d, e, hc, hm⟩ := hx.open_
  simp only [List.cons.injEq, and_true] at e
  subst e
  have HV := hid hv
  have HX := hid hx
  clear hx
  by_cases l8 : 8 < l.length
  · have t2 : decide ((8 : Int) < (l.length : Int)) = true := by rw [decide_eq_true_eq]; omega
    have t2' : decide (8 < l.length) = true := decide_eq_true l8
    have HN := hid (show putE l = 13 by unfold putE; rw [if_pos l8])
    clear l8 hv
    go_enter Tryz.func72, Tryz.ntmps72
    go_wp2
    go_ret2
    exact .inr ⟨by rw [HN.out]; decide, by rw [HN.out]; rfl, Below.refl _ _⟩
  · have t2 : decide ((8 : Int) < (l.length : Int)) = false := by rw [decide_eq_false_iff_not]; omega
    have t2' : decide (8 < l.length) = false := decide_eq_false l8
    have HE := hid (show putE l = if l.all plainFt then 0 else 12 by unfold putE; rw [if_neg l8])
    have HPI := hid (refPutI8 v b (l.length : Int) w hv (by omega) (by unfold InI64; omega))
    have hp := putInt_le (l.length : Int)
    have hhd : (b ++ putInt (l.length : Int)).length ≤ 50010 := by rw [List.length_append]; omega
    have HTT := hid (show b ++ putFacts l = (b ++ putInt (l.length : Int)) ++ l.flatMap putFact by unfold putFacts; rw [List.append_assoc])
    have hl8 : l.length ≤ 8 := by omega
    clear l8 hv
    go_enter Tryz.func72, Tryz.ntmps72
    go_wp2_with fail
    refine HPI.out.mono ?_
    rintro e w1 ⟨v1, rfl, ho1, hb1⟩
    have HB1 := hid hb1; have HO1 := hid ho1
    clear hb1 ho1
    generalize b ++ putInt (l.length : Int) = hd at *
    go_wp2
    go_loopw [6, 7] (fun b i wr => PbRel hd l w b i wr) (fun _ i _ => l.length - (intOf i).toNat)
    case atStart => exact ⟨0, by omega, rfl, fun j h h' => by omega, by rw [List.take_zero, List.flatMap_nil, List.append_nil]; exact HO1.out, HB1.out⟩
    case round =>
      obtain ⟨k, hk, rfl, hall, hown, hb⟩ := hrel
      have hs := hb.size
      have hacc := pb_len hl8 hhd hall
      have HB := hid hb; have HALL := hid hall; have HOW := hid hown
      clear hb hall hown
      by_cases hlt : k < l.length
      · obtain ⟨b2, off, AP, cP, AV, cV, rfl, hbl, q0, q1, r0, r1⟩ := facts_at (good_facts.stays HX.out HB.out) hlt
        have hst := all_more (p := plainFt) HALL.out hlt
        have hno : plainFt l[k] = false → l.all plainFt = false := all_no (p := plainFt) hlt
        have e1 := flat_take hlt putFact
        generalize l[k] = f at *
        obtain ⟨hcP, hmP⟩ := r0.cap
        obtain ⟨hcV, hmV⟩ := r1.cap
        have hsf : wr.heap.size ≤ wr.heap.size := Nat.le_refl _
        have HPF := hid (refPlainFt_any _ f wr ⟨AP, cP, AV, cV, rfl, good_paths.more r0 hs, good_ints.more r1 hs⟩)
        have HR0 := hid (good_paths.more r0 hs)
        have HR1 := hid (good_ints.more r1 hs)
        have Q0 := hid q0; have Q1 := hid q1
        have hbr : b2 < wr.heap.size := by omega
        have hpp : plainFt f = true → (f.1.length ≤ 3 ∧ f.2.length ≤ 2 ∧ (∀ p ∈ f.1, mayB p = true) ∧ ∀ n ∈ f.2, valB n = true) ∧ (putFact f).length ≤ 184 := fun h => ⟨plainFt_parts h, putFact_len h⟩
        have HPP := hid hpp
        have hpf : putFact f = putInt f.1.length ++ (f.1.flatMap putP ++ (putInt f.2.length ++ f.2.flatMap putInt)) := rfl
        generalize plainFt f = bP at *
        have HST := hid hst; have HNO := hid hno; have E1 := hid e1; have HPFB := hid hpf
        clear hst hno r0 r1 e1 hpp hpf
        generalize hac0 : hd ++ (l.take k).flatMap putFact = acc at *
        have HAC0 := hid hac0
        clear hac0
        go_wp2_with fail
        refine HPF.out.mono ?_
        rintro e w2 ⟨rfl, hb2⟩
        have B2 := hid hb2
        have GW2 := hid (HB.out.trans (hb2.mono (by omega)))
        have m0 := cellK hb2 hbr Q0.out
        have m1 := cellK hb2 hbr Q1.out
        clear hb2
        cases bP
        · have HN := hid (show putE l = 12 by rw [HE.out, HNO.out (by first | rfl | trivial)]; rfl)
          go_wp2
          go_ret2
          exact .inr ⟨by rw [HN.out]; decide, by rw [HN.out]; rfl, GW2.out⟩
        · obtain ⟨⟨hl1, hl2, hmay, hval⟩, hfl⟩ := HPP.out (by first | rfl | trivial)
          have HMAY := hid hmay
          obtain ⟨T, hT⟩ : ∃ T, T = acc ++ putFact f := ⟨_, rfl⟩
          have hTl : T.length ≤ 52700 := by rw [hT, List.length_append]; omega
          have HTL := hid hTl
          have HT := hid hT
          have HO2 := hid ((HOW.out.on B2.out).sl)
          have HP1 := hid (refPutI8 u6 acc (f.1.length : Int) w2 HO2.out (by omega) (by unfold InI64; omega))
          have e5 : (acc ++ putInt (f.1.length : Int)) ++ ((f.1.drop 0).flatMap putP ++ (putInt (f.2.length : Int) ++ f.2.flatMap putInt)) = T := by rw [hT, HPFB.out]; simp only [List.drop_zero, List.append_assoc]
          have E5 := hid e5
          clear hmay hval hT e5
          go_wp2_with fail
          refine HP1.out.mono ?_
          rintro e w3 ⟨v3, rfl, ho3, hb3⟩
          have B3 := hid (B2.out.trans (hb3.mono B2.out.size))
          have HO3 := hid (ho3.less B2.out.size)
          have m0 := cellK B3.out hbr Q0.out
          clear hb3 ho3 m1
          obtain ⟨Wf, hWf⟩ : ∃ wo : World, wo = wr := ⟨_, rfl⟩
          subst hWf
          go_wp2
          go_loopw [6, 9] (fun b i wq => Pq Wf T f.1 putP (putInt (f.2.length : Int) ++ f.2.flatMap putInt) b i wq) (fun _ i _ => f.1.length - (intOf i).toNat)
          case atStart => exact ⟨0, by omega, rfl, _, HO3.out, E5.out, B3.out⟩
          case round =>
            clear m0 q0 q1
            obtain ⟨j, hj, rfl, acc2, hown2, heq2, hb2⟩ := hrel
            have hs2 := hb2.size
            have HB4 := hid hb2; have HOW2 := hid hown2
            have m0 := cellK hb2 hbr Q0.out
            have hac2 := len_of_eq heq2 HTL.out
            by_cases hjl : j < f.1.length
            · obtain ⟨b3, o3, AQ, cQ, rfl, hb3, hcq, hqq⟩ := paths_at (good_paths.stays HR0.out hb2) hjl
              have heq3 := pq_step hjl heq2
              have hmp := HMAY.out _ (List.getElem_mem hjl)
              generalize f.1[j] = p at *
              have hpcap := hqq.cap
              have HTX := hid (refText_any (.slice AQ p.length cQ) p wr ((strs_sl hqq).1.more hs2))
              have htr : textR p = (textB p, 0) := by unfold textR; rw [hmp]; rfl
              rw [htr] at HTX
              have hsz := textB_size hmp
              have HEQ3 := hid heq3
              unfold putP at HEQ3
              generalize textB p = tx at *
              have HPT := hid (fun W (h : Sl W W.heap.size u6 (bvals acc2)) => refPutT8 u6 acc2 tx W h (by omega) (by omega))
              clear heq2 heq3 hown2 hb2 hqq hmp htr
              go_wp2_with fail
              refine HTX.out.mono ?_
              rintro e w7 ⟨rfl, hb7⟩
              have HB7 := hid hb7
              have HOW7 := hid (HOW2.out.on hb7)
              clear hb7
              go_wp2_with fail
              refine (HPT.out _ HOW7.out.sl).mono ?_
              rintro e w8 ⟨v8, rfl, ho8, hb8⟩
              have HB8 := hid (HB4.out.trans ((HB7.out.trans (hb8.mono HB7.out.size)).mono hs2))
              have HO8 := hid (ho8.less (Nat.le_trans hs2 HB7.out.size))
              clear hb8 ho8
              go_wp2
              go_roundw
              case rel => exact ⟨j + 1, by omega, by go_num, _, HO8.out, HEQ3.out, HB8.out⟩
              case measure => simp [intOf]; omega
            · obtain rfl : j = f.1.length := by omega
              have heq3 := pq_end heq2
              have HP2 := hid (refPutI8 u6 acc2 (f.2.length : Int) wr hown2.sl (by omega) (by unfold InI64; omega))
              have e6 : (acc2 ++ putInt (f.2.length : Int)) ++ ((f.2.drop 0).flatMap putInt ++ []) = T := by rw [List.drop_zero, List.append_nil, List.append_assoc]; exact heq3
              have E6 := hid e6
              have m1 := cellK hb2 hbr Q1.out
              clear heq2 heq3 hown2 hb2 e6
              go_wp2_with fail
              refine HP2.out.mono ?_
              rintro e w5 ⟨v5, rfl, ho5, hb5⟩
              have B5 := hid (HB4.out.trans (hb5.mono hs2))
              have HO5 := hid (ho5.less hs2)
              have m1 := cellK B5.out hbr Q1.out
              clear hb5 ho5
              go_wp2
              go_loopw [6, 12] (fun b i wq => Pq Wf T f.2 putInt [] b i wq) (fun _ i _ => f.2.length - (intOf i).toNat)
              case atStart => exact ⟨0, by omega, rfl, _, HO5.out, E6.out, B5.out⟩
              case round =>
                clear m1
                obtain ⟨j2, hj2, rfl, acc3, hown3, heq3, hb3⟩ := hrel
                have hs3 := hb3.size
                have HB6 := hid hb3; have HOW3 := hid hown3
                have m1 := cellK hb3 hbr Q1.out
                have hac3 := len_of_eq heq3 HTL.out
                by_cases hjl2 : j2 < f.2.length
                · obtain ⟨b4, o4, rfl, hb4, hcell, hii⟩ := ints_at' HR1.out hjl2
                  have hcw := cellK hb3 hb4 hcell
                  have heq4 := pq_step hjl2 heq3
                  generalize f.2[j2] = n at *
                  have HEQ4 := hid heq4
                  have HPI4 := hid (refPutI8 u6 acc3 n wr hown3.sl (by omega) hii)
                  clear heq3 heq4 hb3 hown3 hcell
                  go_wp2_with fail
                  refine HPI4.out.mono ?_
                  rintro e w9 ⟨v9, rfl, ho9, hb9⟩
                  have HB9 := hid (HB6.out.trans (hb9.mono hs3))
                  have HO9 := hid (ho9.less hs3)
                  clear hb9 ho9
                  go_wp2
                  go_roundw
                  case rel => exact ⟨j2 + 1, by omega, by go_num, _, HO9.out, HEQ4.out, HB9.out⟩
                  case measure => simp [intOf]; omega
                · obtain rfl : j2 = f.2.length := by omega
                  have heq4 := pq_end heq3
                  rw [List.append_nil] at heq4
                  subst heq4
                  have hnx : PbRel hd l w u6 (.int .i64 ((k : Int) + 1)) wr := by
                    refine ⟨k + 1, by omega, by go_num, HST.out (by first | rfl | trivial), ?_, HB.out.trans (hb3.mono (by omega))⟩
                    rw [E1.out, ← List.append_assoc, HAC0.out, ← HT.out]
                    exact hown3.less (show w.heap.size ≤ Wf.heap.size by omega)
                  have HNX := hid hnx
                  clear hnx heq3 hb3 hown3
                  go_wp2
                  go_roundw
                  case rel => exact HNX.out
                  case measure => simp [intOf]; omega
      · have hle : k = l.length := by omega
        have hal := all_yes (p := plainFt) (l := l) (fun j hj => HALL.out j hj (by omega))
        have HN := hid (show putE l = 0 by rw [HE.out, hal]; rfl)
        have hfin := HOW.out
        rw [hle, List.take_length, ← HTT.out] at hfin
        have HF := hid hfin
        clear hfin hal hle
        go_wp2
        go_ret2
        exact .inl ⟨HN.out, _, rfl, HF.out, HB.out⟩
end Go.Proofs.YtkgifbnkkmeoiaaGreatDoor
