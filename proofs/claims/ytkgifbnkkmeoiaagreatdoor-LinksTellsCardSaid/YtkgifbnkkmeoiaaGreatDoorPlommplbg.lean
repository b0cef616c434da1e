/- 2 texts of this claim, in build order. -/
import Derived.Test.YtkgifbnkkmeoiaaGreatDoorPanpecdlh
import Derived.Test.YtkgifbnkkmeoiaaGreatDoorPodkhkmbg
import Derived.Test.YtkgifbnkkmeoiaaGreatDoorPpmbgbmgk
import Derived.Test.YtkgifbnkkmeoiaaGreatDoorPmfcnoomp
/- batch.plain, and slices.ContainsFunc at facts. -/
namespace Go.Proofs.YtkgifbnkkmeoiaaGreatDoor
open Go.ChangeShapes Go.WideShapes Go.ChangeAt Go.RowKit
set_option linter.unusedVariables false
set_option linter.unusedSimpArgs false

theorem valMay_any (n : Int) (w : World) : Calls Tryz.prog 109 #[.int .i64 n] w (Stays (.bool (valB n)) w) := by
  unfold valB
  by_cases h : -2305843009213693952 ≤ n
  · have d1 : decide (-2305843009213693952 ≤ n) = true := decide_eq_true h
    rw [d1, Bool.true_and]
    go_enter Tryz.func109, Tryz.ntmps109
    go_wp2
    go_ret
    exact ⟨rfl, Qu.refl _⟩
  · have d1 : decide (-2305843009213693952 ≤ n) = false := decide_eq_false h
    rw [d1, Bool.false_and]
    go_enter Tryz.func109, Tryz.ntmps109
    go_wp2
    go_ret
    exact ⟨rfl, Qu.refl _⟩
theorem valNot_any (n : Int) (w : World) : Calls Tryz.prog 108 #[.int .i64 n] w (Gives (.bool (!valB n)) w) := by
  have HI := hid (valMay_any n)
  go_enter Tryz.func108, Tryz.ntmps108
  go_wp2_with fail
  refine (HI.out _).mono ?_
  rintro e w1 ⟨rfl, hq⟩
  go_wp2
  go_ret
  exact ⟨rfl, hq.below _⟩
theorem enters_valNot : Enters 108 := enters_of Tryz.func108 (by kernel_rfl) rfl
theorem hasVal_any (v : Value) (l : List Int) (w : World) (hv : rdInts w w.heap.size [v] l) :
    Calls Tryz.prog 107 #[v, .func (Fn.func 108) #[] #[]] w (Gives (.bool (l.any fun n => !valB n)) w) :=
  hasI_any 108 #[] (fun n => !valB n) v l w hv good_ints enters_valNot (fun x u W hx hr hb => by
    obtain ⟨e, hs⟩ := hr
    simp only [List.cons.injEq, and_true] at e
    subst e
    exact valNot_any x W)
theorem notMay_any (v : Value) (p : List ByteArray) (w : World) (hv : rdStrs w w.heap.size [v] p) : Calls Tryz.prog 105 #[v] w (Gives (.bool (!mayB p)) w) := by
  have HI := hid (mayN_any v p w (strs_sl hv).1 (strs_sl hv).2 (strs_len hv))
  clear hv
  go_enter Tryz.func105, Tryz.ntmps105
  go_wp2_with fail
  refine HI.out.mono ?_
  rintro e w1 ⟨rfl, hb⟩
  go_wp2
  go_ret
  exact ⟨rfl, hb⟩
theorem enters_notMay : Enters 105 := enters_of Tryz.func105 (by kernel_rfl) rfl
theorem hasBad_any (v : Value) (l : List (List ByteArray)) (w : World) (hv : rdSlice 1 rdStrs w w.heap.size [v] l) :
    Calls Tryz.prog 104 #[v, .func (Fn.func 105) #[] #[]] w (Gives (.bool (l.any fun p => !mayB p)) w) :=
  hasP_any 105 #[] (fun p => !mayB p) v l w hv good_paths enters_notMay (fun x u W hx hr hb => notMay_any u x W hr)
set_option maxRecDepth 100000 in
set_option maxHeartbeats 1600000 in
theorem plainFt_any (v : Value) (f : FactX) (w : World) (hv : FactV w w.heap.size v f) :
    Calls Tryz.prog 82 #[v] w (Gives (.bool (plainFt f)) w) := by
  obtain ⟨A1, c1, A2, c2, rfl, h1, h2⟩ := hv
  obtain ⟨hc1, hm1⟩ := h1.cap
  obtain ⟨hc2, hm2⟩ := h2.cap
  obtain ⟨W0, hW0⟩ : ∃ W, W = w.alloc (.cells #[.slice A1 f.1.length c1, .slice A2 f.2.length c2] 127) := ⟨_, rfl⟩
  have g0 : Below w.heap.size w W0 := by rw [hW0]; exact bl1 _ _
  have z0 : W0.heap.size = w.heap.size + 1 := by rw [hW0]; simp
  have y0 : W0.cell? ⟨w.heap.size, 0, none⟩ = some (.slice A1 f.1.length c1) := by rw [hW0]; simp [go_sem]
  have y1 : W0.cell? ⟨w.heap.size, 1, none⟩ = some (.slice A2 f.2.length c2) := by rw [hW0]; simp [go_sem]
  have HW0 := hid hW0
  have G0 := hid g0; have Y0 := hid y0; have Y1 := hid y1
  have HB1 := hid (hasBad_any _ f.1 W0 (good_paths.on h1 g0))
  have HV := hid (fun W (hb : Below W0.heap.size W0 W) => hasVal_any _ f.2 W (good_ints.on (good_ints.on h2 g0) hb))
  have hpl : plainFt f = ((!(f.1.any fun p => !mayB p) && !(f.2.any fun n => !valB n)) && decide (f.1.length ≤ 3) && decide (f.2.length ≤ 2)) := rfl
  generalize plainFt f = res at *
  generalize (f.1.any fun p => !mayB p) = a at *
  generalize (f.2.any fun n => !valB n) = b at *
  generalize hn1 : f.1.length = n1 at *
  generalize hn2 : f.2.length = n2 at *
  have HPL := hid hpl
  clear hW0 g0 h1 h2 hpl
  go_enter Tryz.func82, Tryz.ntmps82
  go_wp2_with fail
  rw [← HW0.out]
  refine HB1.out.mono ?_
  rintro e w1 ⟨rfl, hb1⟩
  have y1 := cellK hb1 (by omega) Y1.out
  have HB2 := hid hb1
  clear hb1
  go_wp2_with fail
  refine (HV.out _ HB2.out).mono ?_
  rintro e w2 ⟨rfl, hb2⟩
  have HB3 := hid (HB2.out.trans (hb2.mono HB2.out.size))
  have y0 := cellK HB3.out (by omega) Y0.out
  have y1 := cellK HB3.out (by omega) Y1.out
  clear hb2
  have hw : (a = true) ∨ (a = false ∧ b = true) ∨ (a = false ∧ b = false) := by cases a <;> cases b <;> simp
  rcases hw with rfl | ⟨rfl, rfl⟩ | ⟨rfl, rfl⟩
  · have HN := hid (show res = false by rw [HPL.out]; rfl)
    go_wp2
    go_ret
    exact ⟨by rw [HN.out]; rfl, G0.out.trans (HB3.out.mono (by omega))⟩
  · have HN := hid (show res = false by rw [HPL.out]; rfl)
    go_wp2
    go_ret
    exact ⟨by rw [HN.out]; rfl, G0.out.trans (HB3.out.mono (by omega))⟩
  · by_cases l1 : n1 ≤ 3
    · have t1 : decide ((n1 : Int) ≤ 3) = true := by rw [decide_eq_true_eq]; omega
      have t1' : decide (n1 ≤ 3) = true := decide_eq_true l1
      have HN := hid (show res = decide (n2 ≤ 2) by rw [HPL.out, t1']; rfl)
      by_cases l2 : n2 ≤ 2
      · have t2 : decide ((n2 : Int) ≤ 2) = true := by rw [decide_eq_true_eq]; omega
        have t2' : decide (n2 ≤ 2) = true := decide_eq_true l2
        rw [t2'] at HN
        clear l1 l2
        go_wp2
        go_ret
        exact ⟨by rw [HN.out]; rfl, G0.out.trans (HB3.out.mono (by omega))⟩
      · have t2 : decide ((n2 : Int) ≤ 2) = false := by rw [decide_eq_false_iff_not]; omega
        have t2' : decide (n2 ≤ 2) = false := decide_eq_false l2
        rw [t2'] at HN
        clear l1 l2
        go_wp2
        go_ret
        exact ⟨by rw [HN.out]; rfl, G0.out.trans (HB3.out.mono (by omega))⟩
    · have t1 : decide ((n1 : Int) ≤ 3) = false := by rw [decide_eq_false_iff_not]; omega
      have t1' : decide (n1 ≤ 3) = false := decide_eq_false l1
      have HN := hid (show res = false by rw [HPL.out, t1']; rfl)
      clear l1
      go_wp2
      go_ret
      exact ⟨by rw [HN.out]; rfl, G0.out.trans (HB3.out.mono (by omega))⟩
end Go.Proofs.YtkgifbnkkmeoiaaGreatDoor
/- batch.Put. -/
namespace Go.Proofs.YtkgifbnkkmeoiaaGreatDoor
open Go.ChangeShapes Go.WideShapes Go.ChangeAt Go.RowKit
set_option linter.unusedVariables false
set_option linter.unusedSimpArgs false

/-- The error that Put tells. -/
def putE (l : List FactX) : Int := if 8 < l.length then 13 else if l.all plainFt then 0 else 12
def PutFP (b : List UInt8) (l : List FactX) (w : World) (e : Ending) (w' : World) : Prop :=
  (putE l = 0 ∧ ∃ r, e = .returned (.tuple #[r, .int .i64 0]) ∧ Own8 w' w.heap.size r (b ++ putFacts l) ∧ Below w.heap.size w w') ∨
  (putE l ≠ 0 ∧ e = .returned (.tuple #[.slice none 0 0, .int .i64 (putE l)]) ∧ Below w.heap.size w w')
/-- What is put so far, and what is still to be put, are all. -/
def Pq {α : Type} (W0 : World) (T : List UInt8) (xs : List α) (f : α → List UInt8) (rest : List UInt8) (b i : Value) (wr : World) : Prop :=
  ∃ k : Nat, k ≤ xs.length ∧ i = .int .i64 k ∧ ∃ acc, Own8 wr W0.heap.size b acc ∧ acc ++ ((xs.drop k).flatMap f ++ rest) = T ∧ Below W0.heap.size W0 wr
theorem pq_step {α : Type} {T acc : List UInt8} {xs : List α} {f : α → List UInt8} {rest : List UInt8} {k : Nat} (hk : k < xs.length) (h : acc ++ ((xs.drop k).flatMap f ++ rest) = T) : (acc ++ f xs[k]) ++ ((xs.drop (k + 1)).flatMap f ++ rest) = T := by
  rw [flat_drop hk] at h
  rw [← h]
  simp only [List.append_assoc]
theorem pq_end {α : Type} {T acc : List UInt8} {xs : List α} {f : α → List UInt8} {rest : List UInt8} (h : acc ++ ((xs.drop xs.length).flatMap f ++ rest) = T) : acc ++ rest = T := by
  rw [flat_done] at h
  exact h
theorem len_of_eq {a b T : List UInt8} {n : Nat} (h : a ++ b = T) (hT : T.length ≤ n) : a.length ≤ n := by
  have := congrArg List.length h
  rw [List.length_append] at this
  omega
theorem flat_take {α : Type} {l : List α} {k : Nat} (hk : k < l.length) (f : α → List UInt8) : (l.take (k + 1)).flatMap f = (l.take k).flatMap f ++ f l[k] := by
  rw [List.take_succ_eq_append_getElem hk, List.flatMap_append]; simp
/-- Behind some facts that are plain. -/
def PbRel (hd : List UInt8) (l : List FactX) (W0 : World) (b i : Value) (wr : World) : Prop :=
  ∃ k : Nat, k ≤ l.length ∧ i = .int .i64 k ∧ (∀ j (h : j < l.length), j < k → plainFt l[j] = true) ∧ Own8 wr W0.heap.size b (hd ++ (l.take k).flatMap putFact) ∧ Below W0.heap.size W0 wr
theorem pb_len {hd : List UInt8} {l : List FactX} {k : Nat} (hl : l.length ≤ 8) (hh : hd.length ≤ 50010) (h : ∀ j (h : j < l.length), j < k → plainFt l[j] = true) : (hd ++ (l.take k).flatMap putFact).length ≤ 52500 := by
  have := flat_len (l.take k) putFact 184 (fun f hf => by
    obtain ⟨j, hj, rfl⟩ := List.mem_iff_getElem.1 hf
    rw [List.length_take] at hj
    rw [List.getElem_take]
    exact putFact_len (h j (by omega) (by omega)))
  rw [List.length_append]
  rw [List.length_take] at this
  have : 184 * min k l.length ≤ 184 * 8 := Nat.mul_le_mul_left _ (by omega)
  omega
set_option maxRecDepth 100000 in
set_option maxHeartbeats 3200000 in
theorem putFacts_any (v x : Value) (b : List UInt8) (l : List FactX) (w : World) (hv : Sl w w.heap.size v (bvals b)) (hb0 : b.length ≤ 50000) (hx : rdSlice 2 rdFact w w.heap.size [x] l) :
    Calls Tryz.prog 69 #[v, x] w (PutFP b l w) := by
  obtain ⟨X, d, e, hc, hm⟩ := hx.open_
  simp only [List.cons.injEq, and_true] at e
  subst e
  have HV := hid hv
  have HX := hid hx
  clear hx
  by_cases l8 : 8 < l.length
  · have t2 : decide ((8 : Int) < (l.length : Int)) = true := by rw [decide_eq_true_eq]; omega
    have t2' : decide (8 < l.length) = true := decide_eq_true l8
    have HN := hid (show putE l = 13 by unfold putE; rw [if_pos l8])
    clear l8 hv
    go_enter Tryz.func69, Tryz.ntmps69
    go_wp2
    go_ret2
    exact .inr ⟨by rw [HN.out]; decide, by rw [HN.out]; rfl, Below.refl _ _⟩
  · have t2 : decide ((8 : Int) < (l.length : Int)) = false := by rw [decide_eq_false_iff_not]; omega
    have t2' : decide (8 < l.length) = false := decide_eq_false l8
    have HE := hid (show putE l = if l.all plainFt then 0 else 12 by unfold putE; rw [if_neg l8])
    have HPI := hid (putI8 v b (l.length : Int) w hv (by omega) (by unfold InI64; omega))
    have hp := putInt_le (l.length : Int)
    have hhd : (b ++ putInt (l.length : Int)).length ≤ 50010 := by rw [List.length_append]; omega
    have HTT := hid (show b ++ putFacts l = (b ++ putInt (l.length : Int)) ++ l.flatMap putFact by unfold putFacts; rw [List.append_assoc])
    have hl8 : l.length ≤ 8 := by omega
    clear l8 hv
    go_enter Tryz.func69, Tryz.ntmps69
    go_wp2_with fail
    refine HPI.out.mono ?_
    rintro e w1 ⟨v1, rfl, ho1, hb1⟩
    have HB1 := hid hb1; have HO1 := hid ho1
    clear hb1 ho1
    generalize b ++ putInt (l.length : Int) = hd at *
    go_wp2
    go_loopw [0, 23] (fun b i wr => PbRel hd l w b i wr) (fun _ i _ => l.length - (intOf i).toNat)
    case atStart => exact ⟨0, by omega, rfl, fun j h h' => by omega, by rw [List.take_zero, List.flatMap_nil, List.append_nil]; exact HO1.out, HB1.out⟩
    case round =>
      obtain ⟨k, hk, rfl, hall, hown, hb⟩ := hrel
      have hs := hb.size
      have hacc := pb_len hl8 hhd hall
      have HB := hid hb; have HALL := hid hall; have HOW := hid hown
      clear hb hall hown
      by_cases hlt : k < l.length
      · obtain ⟨b2, off, AP, cP, AV, cV, rfl, hbl, q0, q1, r0, r1⟩ := facts_at (good_facts.stays HX.out HB.out) hlt
        have hst := all_more (p := plainFt) HALL.out hlt
        have hno : plainFt l[k] = false → l.all plainFt = false := all_no (p := plainFt) hlt
        have e1 := flat_take hlt putFact
        generalize l[k] = f at *
        obtain ⟨hcP, hmP⟩ := r0.cap
        obtain ⟨hcV, hmV⟩ := r1.cap
        obtain ⟨Wf, hWf⟩ : ∃ W, W = wr.alloc (.cells #[.slice AP f.1.length cP, .slice AV f.2.length cV] 127) := ⟨_, rfl⟩
        have gf : Below wr.heap.size wr Wf := by rw [hWf]; exact bl1 _ _
        have zf : Wf.heap.size = wr.heap.size + 1 := by rw [hWf]; simp
        have f0 : Wf.cell? ⟨wr.heap.size, 0, none⟩ = some (.slice AP f.1.length cP) := by rw [hWf]; simp [go_sem]
        have f1 : Wf.cell? ⟨wr.heap.size, 1, none⟩ = some (.slice AV f.2.length cV) := by rw [hWf]; simp [go_sem]
        have HPF := hid (plainFt_any _ f Wf ⟨AP, cP, AV, cV, rfl, good_paths.on (good_paths.more r0 hs) gf, good_ints.on (good_ints.more r1 hs) gf⟩)
        have HR0 := hid (good_paths.on (good_paths.more r0 hs) gf)
        have HR1 := hid (good_ints.on (good_ints.more r1 hs) gf)
        have f0i := f0; have f1i := f1
        rw [hWf] at f0i f1i
        have HWf := hid hWf; have GF := hid gf; have F0 := hid f0; have F1 := hid f1
        have GW := hid (HB.out.trans (gf.mono hs))
        have hpp : plainFt f = true → (f.1.length ≤ 3 ∧ f.2.length ≤ 2 ∧ (∀ p ∈ f.1, mayB p = true) ∧ ∀ n ∈ f.2, valB n = true) ∧ (putFact f).length ≤ 184 := fun h => ⟨plainFt_parts h, putFact_len h⟩
        have HPP := hid hpp
        have hpf : putFact f = putInt f.1.length ++ (f.1.flatMap putP ++ (putInt f.2.length ++ f.2.flatMap putInt)) := rfl
        generalize plainFt f = bP at *
        have HST := hid hst; have HNO := hid hno; have E1 := hid e1; have HPFB := hid hpf
        clear hWf gf hst hno r0 r1 f0 f1 e1 hpp hpf
        generalize hac0 : hd ++ (l.take k).flatMap putFact = acc at *
        have HAC0 := hid hac0
        clear hac0
        go_wp2_with fail
        rw [← HWf.out]
        refine HPF.out.mono ?_
        rintro e w2 ⟨rfl, hb2⟩
        have B2 := hid hb2
        have GW2 := hid (GW.out.trans (hb2.mono (by omega)))
        have m0 := cellK hb2 (by omega) F0.out
        have m1 := cellK hb2 (by omega) F1.out
        clear hb2 f0i f1i
        cases bP
        · have HN := hid (show putE l = 12 by rw [HE.out, HNO.out (by first | rfl | trivial)]; rfl)
          go_wp2
          go_ret2
          exact .inr ⟨by rw [HN.out]; decide, by rw [HN.out]; rfl, GW2.out⟩
        · obtain ⟨⟨hl1, hl2, hmay, hval⟩, hfl⟩ := HPP.out (by first | rfl | trivial)
          have HMAY := hid hmay
          obtain ⟨T, hT⟩ : ∃ T, T = acc ++ putFact f := ⟨_, rfl⟩
          have hTl : T.length ≤ 52700 := by rw [hT, List.length_append]; omega
          have HTL := hid hTl
          have HT := hid hT
          have HO2 := hid (((HOW.out.on GF.out).on B2.out).sl)
          have HP1 := hid (putI8 u0 acc (f.1.length : Int) w2 HO2.out (by omega) (by unfold InI64; omega))
          have e5 : (acc ++ putInt (f.1.length : Int)) ++ ((f.1.drop 0).flatMap putP ++ (putInt (f.2.length : Int) ++ f.2.flatMap putInt)) = T := by rw [hT, HPFB.out]; simp only [List.drop_zero, List.append_assoc]
          have E5 := hid e5
          clear hmay hval hT e5
          go_wp2_with fail
          refine HP1.out.mono ?_
          rintro e w3 ⟨v3, rfl, ho3, hb3⟩
          have B3 := hid (B2.out.trans (hb3.mono B2.out.size))
          have HO3 := hid (ho3.less B2.out.size)
          have m0 := cellK B3.out (by omega) F0.out
          clear hb3 ho3 m1
          obtain ⟨wo, rfl⟩ : ∃ wo : World, wo = wr := ⟨_, rfl⟩
          go_wp2
          go_loopw [0, 38] (fun b i wq => Pq Wf T f.1 putP (putInt (f.2.length : Int) ++ f.2.flatMap putInt) b i wq) (fun _ i _ => f.1.length - (intOf i).toNat)
          case atStart => exact ⟨0, by omega, rfl, _, HO3.out, E5.out, B3.out⟩
          case round =>
            clear m0 q0 q1
            obtain ⟨j, hj, rfl, acc2, hown2, heq2, hb2⟩ := hrel
            have hs2 := hb2.size
            have HB4 := hid hb2; have HOW2 := hid hown2
            have hac2 := len_of_eq heq2 HTL.out
            by_cases hjl : j < f.1.length
            · obtain ⟨b3, o3, AQ, cQ, rfl, hb3, hcq, hqq⟩ := paths_at (good_paths.stays HR0.out hb2) hjl
              have heq3 := pq_step hjl heq2
              have hmp := HMAY.out _ (List.getElem_mem hjl)
              generalize f.1[j] = p at *
              have hpcap := hqq.cap
              have HTX := hid (text_any (.slice AQ p.length cQ) p wr ((strs_sl hqq).1.more hs2) (strs_sl hqq).2 (by omega))
              have htr : textR p = (textB p, 0) := by unfold textR; rw [hmp]; rfl
              rw [htr] at HTX
              have hsz := textB_size hmp
              have HEQ3 := hid heq3
              unfold putP at HEQ3
              generalize textB p = tx at *
              have HPT := hid (fun W (h : Sl W W.heap.size u0 (bvals acc2)) => putT8 u0 acc2 tx W h (by omega) (by omega))
              clear heq2 heq3 hown2 hb2 hqq hmp htr
              go_wp2_with fail
              refine HTX.out.mono ?_
              rintro e w7 ⟨rfl, hb7⟩
              have HB7 := hid hb7
              have HOW7 := hid (HOW2.out.on hb7)
              clear hb7
              go_wp2_with fail
              refine (HPT.out _ HOW7.out.sl).mono ?_
              rintro e w8 ⟨v8, rfl, ho8, hb8⟩
              have HB8 := hid (HB4.out.trans ((HB7.out.trans (hb8.mono HB7.out.size)).mono hs2))
              have HO8 := hid (ho8.less (Nat.le_trans hs2 HB7.out.size))
              clear hb8 ho8
              go_wp2
              go_roundw
              case rel => exact ⟨j + 1, by omega, by go_num, _, HO8.out, HEQ3.out, HB8.out⟩
              case measure => simp [intOf]; omega
            · obtain rfl : j = f.1.length := by omega
              have heq3 := pq_end heq2
              have HP2 := hid (putI8 u0 acc2 (f.2.length : Int) wr hown2.sl (by omega) (by unfold InI64; omega))
              have e6 : (acc2 ++ putInt (f.2.length : Int)) ++ ((f.2.drop 0).flatMap putInt ++ []) = T := by rw [List.drop_zero, List.append_nil, List.append_assoc]; exact heq3
              have E6 := hid e6
              have m1 := cellK hb2 (by omega) F1.out
              clear heq2 heq3 hown2 hb2 e6
              go_wp2_with fail
              refine HP2.out.mono ?_
              rintro e w5 ⟨v5, rfl, ho5, hb5⟩
              have B5 := hid (HB4.out.trans (hb5.mono hs2))
              have HO5 := hid (ho5.less hs2)
              have m1 := cellK B5.out (by omega) F1.out
              clear hb5 ho5
              go_wp2
              go_loopw [0, 59] (fun b i wq => Pq Wf T f.2 putInt [] b i wq) (fun _ i _ => f.2.length - (intOf i).toNat)
              case atStart => exact ⟨0, by omega, rfl, _, HO5.out, E6.out, B5.out⟩
              case round =>
                clear m1
                obtain ⟨j2, hj2, rfl, acc3, hown3, heq3, hb3⟩ := hrel
                have hs3 := hb3.size
                have HB6 := hid hb3; have HOW3 := hid hown3
                have hac3 := len_of_eq heq3 HTL.out
                by_cases hjl2 : j2 < f.2.length
                · obtain ⟨b4, o4, rfl, hb4, hcell, hii⟩ := ints_at' HR1.out hjl2
                  have hcw := cellK hb3 hb4 hcell
                  have heq4 := pq_step hjl2 heq3
                  generalize f.2[j2] = n at *
                  have HEQ4 := hid heq4
                  have HPI4 := hid (putI8 u0 acc3 n wr hown3.sl (by omega) hii)
                  clear heq3 heq4 hb3 hown3 hcell
                  go_wp2_with fail
                  refine HPI4.out.mono ?_
                  rintro e w9 ⟨v9, rfl, ho9, hb9⟩
                  have HB9 := hid (HB6.out.trans (hb9.mono hs3))
                  have HO9 := hid (ho9.less hs3)
                  clear hb9 ho9
                  go_wp2
                  go_roundw
                  case rel => exact ⟨j2 + 1, by omega, by go_num, _, HO9.out, HEQ4.out, HB9.out⟩
                  case measure => simp [intOf]; omega
                · obtain rfl : j2 = f.2.length := by omega
                  have heq4 := pq_end heq3
                  rw [List.append_nil] at heq4
                  subst heq4
                  have hnx : PbRel hd l w u0 (.int .i64 ((k : Int) + 1)) wr := by
                    refine ⟨k + 1, by omega, by go_num, HST.out (by first | rfl | trivial), ?_, GW.out.trans (hb3.mono (by omega))⟩
                    rw [E1.out, ← List.append_assoc, HAC0.out, ← HT.out]
                    exact hown3.less (show w.heap.size ≤ Wf.heap.size by omega)
                  have HNX := hid hnx
                  clear hnx heq3 hb3 hown3
                  go_wp2
                  go_roundw
                  case rel => exact HNX.out
                  case measure => simp [intOf]; omega
      · have hle : k = l.length := by omega
        have hal := all_yes (p := plainFt) (l := l) (fun j hj => HALL.out j hj (by omega))
        have HN := hid (show putE l = 0 by rw [HE.out, hal]; rfl)
        have hfin := HOW.out
        rw [hle, List.take_length, ← HTT.out] at hfin
        have HF := hid hfin
        clear hfin hal hle
        go_wp2
        go_ret2
        exact .inl ⟨HN.out, _, rfl, HF.out, HB.out⟩
end Go.Proofs.YtkgifbnkkmeoiaaGreatDoor
