/- 1 text of this claim, in build order. -/
import Derived.Test.YtkdpclllenbgfaaDoorPieecdmeb
import Derived.Test.YtkdpclllenbgfaaDoorPnpoaplpa
import Derived.Deep.RegionHeld3
/- The walk of query.Put. -/
namespace Go.Proofs.YtkdpclllenbgfaaDoor
open Go.ChangeShapes Go.WideShapes Go.ChangeAt Go.RowKit
set_option linter.unusedVariables false
set_option linter.unusedSimpArgs false

def PutQP (l : List UInt8) (q : QueryX) (w : World) (e : Ending) (w' : World) : Prop :=
  (plainQ q = true ∧ ∃ r, e = .returned (.tuple #[r, .int .i64 0]) ∧ Own8 w' w.heap.size r (l ++ putQ q) ∧ Below w.heap.size w w') ∨
  (plainQ q = false ∧ e = .returned (.tuple #[.slice none 0 0, .int .i64 16]) ∧ Below w.heap.size w w')
/-- What is put so far, and what is still to be put, are all. -/
def Pq {α : Type} (W0 : World) (T : List UInt8) (xs : List α) (f : α → List UInt8) (rest : List UInt8) (b i : Value) (wr : World) : Prop :=
  ∃ k : Nat, k ≤ xs.length ∧ i = .int .i64 k ∧ ∃ acc, Own8 wr W0.heap.size b acc ∧ acc ++ ((xs.drop k).flatMap f ++ rest) = T ∧ Below W0.heap.size W0 wr
theorem pq_step {α : Type} {T acc : List UInt8} {xs : List α} {f : α → List UInt8} {rest : List UInt8} {k : Nat} (hk : k < xs.length) (h : acc ++ ((xs.drop k).flatMap f ++ rest) = T) : (acc ++ f xs[k]) ++ ((xs.drop (k + 1)).flatMap f ++ rest) = T := by
  rw [flat_drop hk] at h
  rw [← h]
  simp only [List.append_assoc]
theorem pq_end {α : Type} {T acc : List UInt8} {xs : List α} {f : α → List UInt8} {rest : List UInt8} (h : acc ++ ((xs.drop xs.length).flatMap f ++ rest) = T) : acc ++ rest = T := by
  rw [flat_done] at h
  exact h
theorem len_of_eq {a b T : List UInt8} {n : Nat} (h : a ++ b = T) (hT : T.length ≤ n) : a.length ≤ n := by
  have := congrArg List.length h
  rw [List.length_append] at this
  omega
set_option maxRecDepth 100000 in
set_option maxHeartbeats 3200000 in
theorem putQ_any (v x : Value) (l : List UInt8) (q : QueryX) (w : World) (hv : Sl w w.heap.size v (bvals l)) (hl : l.length ≤ 1000) (hx : QueryV w w.heap.size x q) :
    Calls Tryd.prog 15 #[v, x] w (PutQP l q w) := by
  have hx0 := hx
  obtain ⟨A1, c1, A2, c2, rfl, h1, h2⟩ := hx
  obtain ⟨hc1, hm1⟩ := h1.cap
  obtain ⟨hc2, hm2⟩ := h2.cap
  obtain ⟨W0, hW0⟩ : ∃ W, W = w.alloc (.cells #[.slice A1 q.1.length c1, .slice A2 q.2.length c2] 32) := ⟨_, rfl⟩
  have g0 : Below w.heap.size w W0 := by rw [hW0]; exact bl1 _ _
  have z0 : W0.heap.size = w.heap.size + 1 := by rw [hW0]; simp
  have y0 : W0.cell? ⟨w.heap.size, 0, none⟩ = some (.slice A1 q.1.length c1) := by rw [hW0]; simp [go_sem]
  have y1 : W0.cell? ⟨w.heap.size, 1, none⟩ = some (.slice A2 q.2.length c2) := by rw [hW0]; simp [go_sem]
  have HW0 := hid hW0
  have G0 := hid g0; have Y0 := hid y0; have Y1 := hid y1
  have H1 := hid (good_ints.on h1 g0)
  have H2 := hid (good_filters.on h2 g0)
  have HV := hid ((hv.below g0).more g0.size)
  have HPL := hid (plain_any _ q W0 (hx0.on g0))
  cases hpl : plainQ q
  · have HN := hid hpl
    rw [hpl] at HPL
    clear hW0 g0 h1 h2 hx0 hv hpl
    go_enter Tryd.func15, Tryd.ntmps15
    go_wp2_with fail
    rw [← HW0.out]
    refine HPL.out.mono ?_
    rintro e w1 ⟨rfl, hb1⟩
    go_wp2
    go_ret2
    exact .inr ⟨HN.out, rfl, G0.out.trans (hb1.mono (by omega))⟩
  · obtain ⟨T, hT⟩ : ∃ T, T = l ++ putQ q := ⟨_, rfl⟩
    have hTl : T.length ≤ 2004 := by rw [hT, List.length_append]; have := putQ_len hpl; omega
    have HTL := hid hTl
    have HT := hid hT
    have HPP := hid (plainQ_parts hpl)
    have HN := hid hpl
    rw [hpl] at HPL
    have e1 : (l ++ putInt (q.1.length : Int)) ++ ((q.1.drop 0).flatMap putInt ++ putTail q) = T := by rw [hT, List.drop_zero, List.append_assoc]; rfl
    have E1 := hid e1
    clear hW0 g0 h1 h2 hx0 hv hpl hT hTl e1
    go_enter Tryd.func15, Tryd.ntmps15
    go_wp2_with fail
    rw [← HW0.out]
    refine HPL.out.mono ?_
    rintro e w1 ⟨rfl, hb1⟩
    have HB1 := hid hb1
    have k0 := cellK hb1 (by omega) Y0.out
    have k1 := cellK hb1 (by omega) Y1.out
    have HV1 := hid ((HV.out.below hb1).more hb1.size)
    clear hb1
    go_wp2_with fail
    refine (putI8 _ l (q.1.length : Int) w1 HV1.out (by omega) (by unfold InI64; omega)).mono ?_
    rintro e w2 ⟨v2, rfl, ho2, hb2⟩
    have HB2 := hid (HB1.out.trans (hb2.mono HB1.out.size))
    have k0 := cellK HB2.out (by omega) Y0.out
    have HO2 := hid (ho2.less HB1.out.size)
    clear hb2 ho2 k1
    go_wp2
    go_loopw [0, 25] (fun b i wr => Pq W0 T q.1 putInt (putTail q) b i wr) (fun _ i _ => q.1.length - (intOf i).toNat)
    case atStart => exact ⟨0, by omega, rfl, _, HO2.out, E1.out, HB2.out⟩
    case round =>
      obtain ⟨k, hk, rfl, acc, hown, heq, hb⟩ := hrel
      have hs := hb.size
      have HB := hid hb; have HOW := hid hown
      have hac := len_of_eq heq HTL.out
      have y0 := cellK hb (by omega) Y0.out
      have y1 := cellK hb (by omega) Y1.out
      by_cases hlt : k < q.1.length
      · obtain ⟨b, off, rfl, hbl, hcell, hii⟩ := ints_at' H1.out hlt
        have hcw := cellK HB.out hbl hcell
        have heq' := pq_step hlt heq
        generalize q.1[k] = n at *
        have HEQ := hid heq'
        have HPI := hid (putI8 _ acc n wr hown.sl (by omega) hii)
        clear heq heq' hb hown hcell
        go_wp2_with fail
        refine HPI.out.mono ?_
        rintro e w3 ⟨v3, rfl, ho3, hb3⟩
        have HB3 := hid (HB.out.trans (hb3.mono hs))
        have HO3 := hid (ho3.less hs)
        clear hb3 ho3
        go_wp2
        go_roundw
        case rel => exact ⟨k + 1, by omega, by go_num, _, HO3.out, HEQ.out, HB3.out⟩
        case measure => simp [intOf]; omega
      · obtain rfl : k = q.1.length := by omega
        have heq2 := pq_end heq
        have HE2 := hid heq2
        have HPI := hid (putI8 _ acc (q.2.length : Int) wr hown.sl (by omega) (by unfold InI64; omega))
        have e3 : (acc ++ putInt (q.2.length : Int)) ++ ((q.2.drop 0).flatMap putFl ++ []) = T := by rw [List.drop_zero, List.append_nil, List.append_assoc]; exact heq2
        have E3 := hid e3
        clear heq heq2 hb hown e3
        go_wp2_with fail
        refine HPI.out.mono ?_
        rintro e w3 ⟨v3, rfl, ho3, hb3⟩
        have HB3 := hid (HB.out.trans (hb3.mono hs))
        have HO3 := hid (ho3.less hs)
        have y1 := cellK HB3.out (by omega) Y1.out
        clear hb3 ho3 y0
        go_wp2
        go_loopw [0, 41] (fun b i wr => Pq W0 T q.2 putFl [] b i wr) (fun _ i _ => q.2.length - (intOf i).toNat)
        case atStart => exact ⟨0, by omega, rfl, _, HO3.out, E3.out, HB3.out⟩
        case round =>
          clear y1
          obtain ⟨k, hk, rfl, acc, hown, heq, hb⟩ := hrel
          have hs := hb.size
          have HB := hid hb; have HOW := hid hown
          have hac := len_of_eq heq HTL.out
          by_cases hlt : k < q.2.length
          · obtain ⟨b, off, AM, cM, rfl, hbl, q0, q1, q2, i1, i2, hms⟩ := filters_at H2.out hlt
            have heq' := pq_step hlt heq
            have hpf := HPP.out.2.2 _ (List.getElem_mem hlt)
            replace q0 := cellK HB.out hbl q0
            replace q1 := cellK HB.out hbl q1
            replace q2 := cellK HB.out hbl q2
            generalize q.2[k] = f at *
            obtain ⟨d, lv, ms⟩ := f
            simp only at q0 q1 q2 hms i1 i2
            obtain ⟨hm6, hmm⟩ := plainF_parts hpf
            simp only at hm6 hmm
            have HMM := hid hmm
            have HEQ := hid heq'
            have HMS := hid hms
            obtain ⟨hcM, hmM⟩ := hms.cap
            obtain ⟨Wf, hWf⟩ : ∃ W, W = wr.alloc (.cells #[.int .i64 d, .int .i64 lv, .slice AM ms.length cM] 57) := ⟨_, rfl⟩
            have gf : Below wr.heap.size wr Wf := by rw [hWf]; exact bl1 _ _
            have zf : Wf.heap.size = wr.heap.size + 1 := by rw [hWf]; simp
            have f0 : Wf.cell? ⟨wr.heap.size, 0, none⟩ = some (.int .i64 d) := by rw [hWf]; simp [go_sem]
            have f1 : Wf.cell? ⟨wr.heap.size, 1, none⟩ = some (.int .i64 lv) := by rw [hWf]; simp [go_sem]
            have f2 : Wf.cell? ⟨wr.heap.size, 2, none⟩ = some (.slice AM ms.length cM) := by rw [hWf]; simp [go_sem]
            have ZF := hid (show wr.heap.size < Wf.heap.size by omega)
            have HWf := hid hWf; have GF := hid gf; have F1 := hid f1; have F2 := hid f2
            have GW := hid (HB.out.trans (gf.mono hs))
            have hofs : Sl Wf.drew Wf.drew.heap.size u0 (bvals acc) := ((hown.on gf).sl.below (Below.refl _ _).drew)
            have HSF := hid hofs
            have D1 := hid (fun W (h : Sl W W.heap.size u0 (bvals acc)) => putI8 u0 acc d W h (by omega) i1)
            have D2 := hid (fun v W (h : Sl W W.heap.size v (bvals (acc ++ putInt d))) => putI8 v _ lv W h (by have := putInt_le d; rw [List.length_append]; omega) i2)
            have D3 := hid (fun v W (h : Sl W W.heap.size v (bvals ((acc ++ putInt d) ++ putInt lv))) => putI8 v _ (ms.length : Int) W h (by have := putInt_le d; have := putInt_le lv; rw [List.length_append, List.length_append]; omega) (by unfold InI64; omega))
            have e5 : (((acc ++ putInt d) ++ putInt lv) ++ putInt (ms.length : Int)) ++ ((ms.drop 0).flatMap putP ++ ((q.2.drop (k + 1)).flatMap putFl ++ [])) = T := by rw [← heq']; simp only [List.drop_zero, putFl, putM, List.append_assoc]
            have E5 := hid e5
            clear hWf gf heq heq' hb hown hofs hms e5
            go_wp2
            rw [← HWf.out]
            go_region_held3 (fun w' => w'.cell? ⟨wr.heap.size, 0, none⟩ = some (.int .i64 d) ∧ w'.cell? ⟨wr.heap.size, 1, none⟩ = some (.int .i64 lv) ∧ w'.cell? ⟨wr.heap.size, 2, none⟩ = some (.slice AM ms.length cM)) (go_keep)
              (first
                | (go_at_call 34; refine (D3.out _ _ HS5.out.sl).mono ?_; rintro e w6 ⟨v6, rfl, ho6, hb6⟩; have HS6 := hid ho6; have B6 := hid (B5.out.trans (hb6.mono B5.out.size)); have m0'' := cellK hb6 (Nat.lt_of_lt_of_le ZF.out B5.out.size) m0'; have m1'' := cellK hb6 (Nat.lt_of_lt_of_le ZF.out B5.out.size) m1'; have m2'' := cellK hb6 (Nat.lt_of_lt_of_le ZF.out B5.out.size) m2'; clear ho6 hb6)
                | (go_at_call 34; refine (D2.out _ _ HS4.out.sl).mono ?_; rintro e w5 ⟨v5, rfl, ho5, hb5⟩; have HS5 := hid ho5; have B5 := hid (B4.out.trans (hb5.mono B4.out.size)); have m0' := cellK hb5 (Nat.lt_of_lt_of_le ZF.out B4.out.size) m0; have m1' := cellK hb5 (Nat.lt_of_lt_of_le ZF.out B4.out.size) m1; have m2' := cellK hb5 (Nat.lt_of_lt_of_le ZF.out B4.out.size) m2; clear ho5 hb5)
                | (go_at_call 34; refine (D1.out _ HSF.out).mono ?_; rintro e w4 ⟨v4, rfl, ho4, hb4⟩; have HS4 := hid ho4; have B4 := hid ((Below.refl Wf.heap.size Wf).drew.trans hb4); have m0 := cellK B4.out ZF.out f0; have m1 := cellK B4.out ZF.out F1.out; have m2 := cellK B4.out ZF.out F2.out; clear ho4 hb4))
            have BW := hid (GW.out.trans (B6.out.mono (by have := ZF.out; omega)))
            have HA6 := hid (HS6.out.less (show W0.heap.size ≤ w5.heap.size from Nat.le_trans HB.out.size (Nat.le_trans GF.out.size B5.out.size)))
            clear q0 q1 q2 f0 f1 f2 m0 m1 m2 m0' m1' HS4 HS5 HS6 HSF D1 D2 D3
            go_wp2
            clear m0'' m1'' m2''
            generalize hR2 : (q.2.drop (k + 1)).flatMap putFl ++ [] = R2 at *
            have HR2 := hid hR2
            clear hR2
            go_loopw [0, 59] (fun b i wr => Pq W0 T ms putP R2 b i wr) (fun _ i _ => ms.length - (intOf i).toNat)
            case atStart => exact ⟨0, by omega, rfl, _, HA6.out, E5.out, BW.out⟩
            case round =>
              obtain ⟨j, hj, rfl, acc2, hown2, heq2, hb2⟩ := hrel
              have hs2 := hb2.size
              have HB2' := hid hb2; have HOW2 := hid hown2
              have hac2 := len_of_eq heq2 HTL.out
              by_cases hjl : j < ms.length
              · obtain ⟨b3, o3, AQ, cQ, rfl, hb3, hcq, hqq⟩ := paths_at (good_paths.stays HMS.out hb2) hjl
                have heq3 := pq_step hjl heq2
                have hmp := HMM.out _ (List.getElem_mem hjl)
                generalize ms[j] = p at *
                have hpcap := hqq.cap
                have HTX := hid (text_any (.slice AQ p.length cQ) p wr ((strs_sl hqq).1.more hs2) (strs_sl hqq).2 (by omega))
                have htr : textR p = (textB p, 0) := by unfold textR; rw [hmp]; rfl
                rw [htr] at HTX
                have hsz := textB_size hmp
                have HEQ3 := hid heq3
                unfold putP at HEQ3
                generalize textB p = tx at *
                have HPT := hid (fun W (h : Sl W W.heap.size u0 (bvals acc2)) => putT8 u0 acc2 tx W h (by omega) (by omega))
                clear heq2 heq3 hown2 hb2 hqq hmp htr
                go_wp2_with fail
                refine HTX.out.mono ?_
                rintro e w7 ⟨rfl, hb7⟩
                have HB7 := hid hb7
                have HOW7 := hid (HOW2.out.on hb7)
                clear hb7
                go_wp2_with fail
                refine (HPT.out _ HOW7.out.sl).mono ?_
                rintro e w8 ⟨v8, rfl, ho8, hb8⟩
                have HB8 := hid (HB2'.out.trans ((HB7.out.trans (hb8.mono HB7.out.size)).mono hs2))
                have HO8 := hid (ho8.less (Nat.le_trans hs2 HB7.out.size))
                clear hb8 ho8
                go_wp2
                go_roundw
                case rel => exact ⟨j + 1, by omega, by go_num, _, HO8.out, HEQ3.out, HB8.out⟩
                case measure => simp [intOf]; omega
              · obtain rfl : j = ms.length := by omega
                have heq3 := pq_end heq2
                rw [← HR2.out] at heq3
                have HEQ3 := hid heq3
                clear heq2 heq3 hown2 hb2
                go_wp2
                go_roundw
                case rel => exact ⟨k + 1, by omega, by go_num, _, HOW2.out, HEQ3.out, HB2'.out⟩
                case measure => simp [intOf]; omega
          · obtain rfl : k = q.2.length := by omega
            have heq2 := pq_end heq
            rw [List.append_nil] at heq2
            subst heq2
            have HF := hid (hown.less (show w.heap.size ≤ W0.heap.size by omega))
            clear heq hown hb
            go_wp2
            go_ret2
            refine .inl ⟨HN.out, _, rfl, ?_, G0.out.trans (HB.out.mono (by omega))⟩
            rw [← HT.out]
            exact HF.out
end Go.Proofs.YtkdpclllenbgfaaDoor
