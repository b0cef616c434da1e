/- 2 texts of this claim, in build order. -/
import Derived.Test.YtkgifbnkkmeoiaaGreatDoorPogmeecij
import Derived.Test.YtkgifbnkkmeoiaaGreatDoorPbfhakgfm
import Derived.Test.YtkgifbnkkmeoiaaGreatDoorPfimkpfpn
import Derived.Test.YtkgifbnkkmeoiaaGreatDoorPkcgdjgcb
import Derived.Test.YtkgifbnkkmeoiaaGreatDoorPmoagdfll
/- The reference's Put of messages. -/
namespace Go.Proofs.YtkgifbnkkmeoiaaGreatDoor
open Go.ChangeShapes Go.WideShapes Go.ChangeAt Go.RowKit
set_option linter.unusedVariables false
set_option linter.unusedSimpArgs false

set_option maxRecDepth 100000 in
set_option maxHeartbeats 3200000 in
theorem refPutMsg_any (v : Value) (m : MsgX) (w : World) (hv : MsgV w w.heap.size v m) : Calls Tryz.prog 8 #[v] w (Put8E (putMsg m).1 (putMsg m).2 w) := by
  have hv0 := hv
  obtain ⟨A1, c1, A2, c2, rfl, hE, hD, hIn⟩ := hv
  obtain ⟨W1, hW1⟩ : ∃ W1, W1 = w.alloc (.cells (msgCs m (.slice A1 m.ents.length c1) (.slice A2 m.data.length c2)).toArray 25) := ⟨_, rfl⟩
  have hcl : ∀ i v, (msgCs m (.slice A1 m.ents.length c1) (.slice A2 m.data.length c2))[i]? = some v → W1.cell? ⟨w.heap.size, i, none⟩ = some v := fun i v h => by
    rw [hW1, World.cell?_alloc_at _ _ _ _ rfl, List.getElem?_toArray]; exact h
  have hb1 : Below w.heap.size w W1 := by rw [hW1]; exact bl1 _ _
  have hz1 : W1.heap.size = w.heap.size + 1 := by rw [hW1]; simp
  have HE := hid (good_ents.on hE hb1)
  have HD := hid ((hD.below hb1).more hb1.size)
  obtain ⟨Pb, hPb⟩ : ∃ P, P = (putMsg m).1 := ⟨_, rfl⟩
  obtain ⟨Pe, hPe⟩ : ∃ P, P = (putMsg m).2 := ⟨_, rfl⟩
  rw [← hPb, ← hPe]
  have HHD := hid (show ¬ headM m → Pb = [] ∧ Pe = 1 from fun h => by rw [hPb, hPe, putMsg_no (fun g => h g.1)]; exact ⟨rfl, rfl⟩)
  have HNB := hid (show ∀ j, j < 11 → numB ((numsM m).getD j 0) 0 = false → Pb = [] ∧ Pe = 1 from fun j hj h => by rw [hPb, hPe, putMsg_no (fun g => by have := g.2.1 j hj; rw [h] at this; cases this)]; exact ⟨rfl, rfl⟩)
  have HEB := hid (show ∀ j (h : j < m.ents.length), errN m.ents[j] ≠ 0 → Pb = [] ∧ Pe = 1 from fun j hj h => by rw [hPb, hPe, putMsg_no (fun g => h (g.2.2 j hj))]; exact ⟨rfl, rfl⟩)
  have HOK := hid (show headM m → (∀ j, j < 11 → numB ((numsM m).getD j 0) 0 = true) → (∀ j (h : j < m.ents.length), errN m.ents[j] = 0) → Pb = frameB m.kind.toNat ((numsM m).flatMap putInt ++ m.ents.flatMap putN ++ putInt (m.data.length : Nat) ++ m.data) ∧ Pe = 0 ∧ ((numsM m).flatMap putInt ++ m.ents.flatMap putN ++ putInt (m.data.length : Nat) ++ m.data).length ≤ 12000 from fun h1 h2 h3 => by
    have hm : MayM m := ⟨h1, h2, h3⟩
    rw [hPb, hPe, putMsg_yes hm]
    exact ⟨rfl, rfl, bodyM_le hm⟩)
  have HMY := hid (refMayM_any _ m W1 (hv0.on hb1))
  have HNO := hid (show ¬ MayM m → Pb = [] ∧ Pe = 1 from fun h => by rw [hPb, hPe, putMsg_no h]; exact ⟨rfl, rfl⟩)
  have HYES := hid (show MayM m → headM m ∧ (∀ j, j < 11 → numB ((numsM m).getD j 0) 0 = true) ∧ ∀ j (h : j < m.ents.length), errN m.ents[j] = 0 from fun h => h)
  have HHL := hid (show headM m → (1 ≤ m.kind ∧ m.kind ≤ 8) ∧ m.ents.length ≤ 6 ∧ m.data.length ≤ 160 from fun h => ⟨h.1, h.2.2.2.2.1, h.2.2.2.2.2⟩)
  have hnl := fun k (hk : k ≤ 11) => nums_le m k hk
  have hns : numsM m = [m.src, m.dst, m.term, m.index, m.logTerm, m.commit, m.round, if m.reject = true then 1 else 0, m.off, m.total, (m.ents.length : Int)] := rfl
  have hec : m.ents.length ≤ c1 ∧ c1 ≤ 9223372036854775807 := by obtain ⟨A, c, e, h1, h2⟩ := hE.open_; injection e with e _; injection e with _ _ e3; subst e3; exact ⟨h1, h2⟩
  have hdc : m.data.length ≤ c2 ∧ c2 ≤ 9223372036854775807 := by obtain ⟨A, c, e, h1, h2, -⟩ := hD; injection e with _ _ e3; subst e3; rw [bvals_len] at h1; exact ⟨h1, h2⟩
  have q0 := hcl 0 _ rfl; have q1 := hcl 1 _ rfl; have q2 := hcl 2 _ rfl; have q3 := hcl 3 _ rfl; have q4 := hcl 4 _ rfl; have q5 := hcl 5 _ rfl; have q6 := hcl 6 _ rfl; have q7 := hcl 7 _ rfl; have q8 := hcl 8 _ rfl; have q9 := hcl 9 _ rfl; have q10 := hcl 10 _ rfl; have q11 := hcl 11 _ rfl; have q12 := hcl 12 _ rfl
  obtain ⟨q, hq⟩ : ∃ q, q = w.heap.size := ⟨_, rfl⟩
  rw [← hq] at q0 q1 q2 q3 q4 q5 q6 q7 q8 q9 q10 q11 q12 hb1
  have HQ := hid hq.symm; have HW1 := hid hW1; have HB1 := hid hb1
  have hq1 : q < W1.heap.size := by omega
  unfold msgCs at HW1 HMY ⊢
  have hkn : 0 ≤ m.kind → ((m.kind.toNat : Nat) : Int) = m.kind := fun h => Int.toNat_of_nonneg h
  obtain ⟨kind, src, dst, term, index, logTerm, commit, round, rej, off, total, ents, data⟩ := m
  simp only at *
  generalize hNS : numsM ⟨kind, src, dst, term, index, logTerm, commit, round, rej, off, total, ents, data⟩ = ns at *
  generalize hMM : MayM ⟨kind, src, dst, term, index, logTerm, commit, round, rej, off, total, ents, data⟩ = Mm at *
  have HHM := hid (show ∀ p : Prop, (headM ⟨kind, src, dst, term, index, logTerm, commit, round, rej, off, total, ents, data⟩ → p) → (headM ⟨kind, src, dst, term, index, logTerm, commit, round, rej, off, total, ents, data⟩ → p) from fun _ h => h)
  generalize hHm : headM ⟨kind, src, dst, term, index, logTerm, commit, round, rej, off, total, ents, data⟩ = Hm at *
  have HNS := hid hns
  clear hPb hPe hcl hb1 hz1 hE hD hIn hW1 hq hNS hHm HHM hns hMM hv0
  go_enter Tryz.func8, Tryz.ntmps8
  go_upto_region 1 with (fail)
  rw [← HW1.out, HQ.out]
  go_wp2_with fail
  (with_reducible refine HMY.out.mono ?_)
  rintro e w2 ⟨bb, rfl, hbb, hb2⟩
  cases bb with
  | false =>
    obtain ⟨e1, e2⟩ := HNO.out (fun h => by have := hbb.2 h; cases this)
    have E1 := hid e1; have E2 := hid e2; have HB2 := hid hb2
    clear hbb e1 e2 hb2
    go_wp2
    go_ret2
    rw [E1.out, E2.out]
    exact ⟨_, rfl, Own8.nil_ _ _, by rw [HQ.out]; exact HB1.out.trans (HB2.out.mono (by omega))⟩
  | true =>
    obtain ⟨hH, hA, hEn⟩ := HYES.out (hbb.1 rfl)
    obtain ⟨hp1, hp2, hp3⟩ := HOK.out hH hA hEn
    obtain ⟨hkk, hel, hdl⟩ := HHL.out hH
    have HP1 := hid hp1; have HP2 := hid hp2; have HP3 := hid hp3; have HKK := hid hkk; have HEL := hid hel; have HDL := hid hdl; have HA := hid hA; have HEN := hid hEn
    have q0 := cellK hb2 hq1 q0; have q1 := cellK hb2 hq1 q1; have q2 := cellK hb2 hq1 q2; have q3 := cellK hb2 hq1 q3; have q4 := cellK hb2 hq1 q4; have q5 := cellK hb2 hq1 q5; have q6 := cellK hb2 hq1 q6; have q7 := cellK hb2 hq1 q7; have q8 := cellK hb2 hq1 q8; have q9 := cellK hb2 hq1 q9; have q10 := cellK hb2 hq1 q10; have q11 := cellK hb2 hq1 q11; have q12 := cellK hb2 hq1 q12
    have hq2 := Nat.lt_of_lt_of_le hq1 hb2.size
    have HE2 := hid (good_ents.on HE.out hb2); have HD2 := hid ((HD.out.below hb2).more hb2.size)
    have HB02 := hid (HB1.out.trans (hb2.mono (by omega)))
    clear hbb hH hA hEn hp1 hp2 hp3 hkk hel hdl hb2 HMY
    go_upto_if 15 with (fail)
    obtain ⟨rz, hrz⟩ : ∃ rz : Int, rz = (if rej = true then 1 else 0) := ⟨_, rfl⟩
    rw [← hrz] at HNS
    go_cut [5] (fun s5 wx => s5 = .int .i64 rz ∧ w2 = wx)
    case first =>
      cases rej with
      | true =>
        rw [if_pos rfl] at hrz
        subst hrz
        go_wp2
        go_meet
        case rel => exact ⟨rfl, rfl⟩
      | false =>
        rw [if_neg (by decide)] at hrz
        subst hrz
        go_wp2
        go_meet
        case rel => exact ⟨rfl, rfl⟩
    case rest =>
    obtain ⟨rfl, rfl⟩ := hcut
    clear hrz
    go_upto_region 8 with (fail)
    obtain ⟨W2, hW2⟩ : ∃ W, W = w2.alloc (.cells #[.int .i64 src, .int .i64 dst, .int .i64 term, .int .i64 index, .int .i64 logTerm, .int .i64 commit, .int .i64 round, .int .i64 rz, .int .i64 off, .int .i64 total, .int .i64 ents.length] 3) := ⟨_, rfl⟩
    rw [← hW2]
    have hic : ∀ k, k < 11 → W2.cell? ⟨w2.heap.size, k, none⟩ = some (.int .i64 (ns.getD k 0)) := fun k hk => by
      rw [hW2, World.cell?_alloc_at _ _ _ _ rfl, HNS.out]
      match k, hk with
      | 0, _ => rfl
      | 1, _ => rfl
      | 2, _ => rfl
      | 3, _ => rfl
      | 4, _ => rfl
      | 5, _ => rfl
      | 6, _ => rfl
      | 7, _ => rfl
      | 8, _ => rfl
      | 9, _ => rfl
      | 10, _ => rfl
    have hnlen : ns.length = 11 := by rw [HNS.out]; rfl
    have hb2 : Below w2.heap.size w2 W2 := by rw [hW2]; exact bl1 _ _
    have hz2 : w2.heap.size < W2.heap.size := by rw [hW2]; simp
    have HIC := hid hic; have HB2 := hid hb2; have HNL := hid hnl; have HKN := hid hkn; have HLEN := hid hnlen; have HEC := hid hec; have HDC := hid hdc
    clear hW2 hic hb2 hnl hkn hnlen hdc
    go_wp2
    go_loopw [7, 8] (fun b i wr => PmRel ns W2 b i wr) (fun _ i _ => 11 - (intOf i).toNat)
    case atStart => exact ⟨0, by omega, rfl, fun j hj => by omega, Own8.nil_ _ _, Below.refl _ _⟩
    case round =>
    obtain ⟨k, hk, rfl, -, ho, hb⟩ := hrel
    by_cases hlt : k < 11
    · have qk := cellK hb hz2 (HIC.out k hlt)
      have hsu := take_flat_int (ns := ns) (k := k) (by rw [HLEN.out]; exact hlt)
      have hle := HNL.out k (by omega)
      have hin := in_of_numB (HA.out k hlt)
      obtain ⟨A, c, rfl⟩ := ho.form
      have HO := hid ho; have HB := hid hb; have HSU := hid hsu; have HIN := hid hin
      generalize ns.getD k 0 = z at *
      generalize (ns.take k).flatMap putInt = acc at *
      have HPU := hid (refPutI8 (.slice A acc.length c) acc z wr HO.out.sl (by omega) HIN.out)
      rw [← HSU.out] at HPU
      clear ho hb hsu hin
      go_wp2_with fail
      (with_reducible refine HPU.out.mono ?_)
      rintro e w1 ⟨v1, rfl, ho1, hb1⟩
      have HO1 := hid (Own8.less ho1 (show W2.heap.size ≤ wr.heap.size from HB.out.size)); have HB1' := hid (HB.out.trans (hb1.mono HB.out.size))
      clear ho1 hb1
      go_wp2
      go_roundw
      case rel => exact ⟨k + 1, by omega, by go_num, fun j hj => HA.out j (by omega), HO1.out, HB1'.out⟩
      case measure => simp [intOf]; omega
    · obtain rfl : k = 11 := by omega
      rw [List.take_of_length_le (by rw [HLEN.out]; exact Nat.le_refl _)] at ho
      have hle := HNL.out 11 (Nat.le_refl _)
      rw [List.take_of_length_le (by rw [HLEN.out]; exact Nat.le_refl _)] at hle
      obtain ⟨wo, hwo⟩ : ∃ wo : World, wo = wr := ⟨_, rfl⟩
      subst hwo
      have hbo := HB2.out.trans (hb.mono (Nat.le_of_lt hz2))
      have hzo := hbo.size
      have hW2o := hb.size
      have q0 := cellK hbo hq2 q0
      have q11 := cellK hbo hq2 q11
      have q12 := cellK hbo hq2 q12
      obtain ⟨A, c, rfl⟩ := ho.form
      have HO := hid ho; have HBO := hid hbo
      generalize hnb : ns.flatMap putInt = nb at *
      clear ho hb hbo hnb q1 q2 q3 q4 q5 q6 q7 q8 q9 q10 HIC HB2
      go_wp2
      go_loopw [7, 9] (fun b i wr => PmEnt nb ents W2.heap.size wo b i wr) (fun _ i _ => ents.length - (intOf i).toNat)
      case atStart => exact ⟨0, by omega, rfl, fun j _ hj => by omega, by simpa using HO.out, Below.refl _ _⟩
      case round =>
      obtain ⟨k, hk, rfl, hall, ho, hb⟩ := hrel
      have hbw := HBO.out.trans (hb.mono hzo)
      have hqo := Nat.lt_of_lt_of_le hq2 hzo
      have q0 := cellK hb hqo q0
      have q11 := cellK hb hqo q11
      have q12 := cellK hb hqo q12
      by_cases hlt : k < ents.length
      · obtain ⟨eb, eo, AF, cF, rfl, heb, e0, e1, e2, e3, e4, e5, hev⟩ := ents_at HE2.out hlt
        have e0 := cellK hbw heb e0; have e1 := cellK hbw heb e1; have e2 := cellK hbw heb e2; have e3 := cellK hbw heb e3; have e4 := cellK hbw heb e4; have e5 := cellK hbw heb e5
        have hsu := take_flat_ent hlt
        have hle2 := ents_le (l := ents) (k := k) HEL.out hall
        have hno := HEN.out k hlt
        have hsu : nb ++ (ents.take (k + 1)).flatMap putN = nb ++ (ents.take k).flatMap putN ++ putN (ents[k]'hlt) := by rw [hsu, List.append_assoc]
        have hal : (nb ++ (ents.take k).flatMap putN).length ≤ 12000 := by rw [List.length_append]; omega
        have HSU := hid hsu; have HNOE := hid hno
        obtain ⟨A, c, rfl⟩ := ho.form
        generalize nb ++ (ents.take k).flatMap putN = acc at *
        generalize ents[k]'hlt = x at *
        obtain ⟨ix, tm, op, ses, seq, fs⟩ := x
        simp only at e0 e1 e2 e3 e4 e5 hev
        have hzw := hbw.size
        have HPE := hid ((refPutEnt_any (.slice A acc.length c) (.agg #[.int .i64 ix, .int .i64 tm, .int .i64 op, .int .i64 ses, .int .i64 seq, .slice AF fs.length cF]) acc (ix, tm, op, ses, seq, fs) wr ho.sl (by omega) (hev.on hbw)).mono (fun e w' h => h.one))
        have HB := hid hb
        have hWB : W2.heap.size ≤ wr.heap.size := Nat.le_trans hW2o hb.size
        rw [HNOE.out] at HPE
        generalize putN (ix, tm, op, ses, seq, fs) = pn at *
        clear ho hb hbw hall hsu hno hev
        go_wp2_with fail
        (with_reducible refine HPE.out.mono ?_)
        rintro e w8 ⟨v8, rfl, ho8, hb8⟩
        rcases ho8 with ⟨-, ho8⟩ | ⟨hne, -⟩
        · obtain ⟨A8, c8, rfl⟩ := ho8.form
          have HO8 := hid (Own8.less ho8 hWB); have HB8 := hid (HB.out.trans (hb8.mono HB.out.size))
          rw [List.length_append] at HO8
          clear ho8 hb8
          go_wp2
          go_roundw
          case rel =>
            repeat (apply Exists.intro)
            refine ⟨?_, rfl⟩
            exact ⟨k + 1, by omega, by go_num, fun j hj _ => HEN.out j hj, by rw [HSU.out]; exact HO8.out, HB8.out⟩
          case measure => simp [intOf]; omega
        · exact absurd rfl hne
      · obtain rfl : k = ents.length := by omega
        rw [List.take_length] at ho
        have hzw := hbw.size
        have hDw := (HD2.out.below hbw).more hzw
        have hp3 := HP3.out
        have hdl := HDL.out
        obtain ⟨A, c, rfl⟩ := ho.form
        generalize nb ++ ents.flatMap putN = acc at *
        have hacl : acc.length ≤ 12000 := by simp only [List.length_append] at hp3; omega
        have hsz : (⟨data.toArray⟩ : ByteArray).size = data.length := by show data.toArray.size = _; simp
        have hcv : (convert 23 9 (.slice A2 data.length c2)).run Tryz.prog wr = .ok (.string ⟨data.toArray⟩) wr := text_sl (h := hDw)
        have hTT : acc ++ putInt (data.length : Nat) ++ data = acc ++ (putInt ((⟨data.toArray⟩ : ByteArray).size : Nat) ++ (⟨data.toArray⟩ : ByteArray).data.toList) := by rw [hsz, List.append_assoc]
        have hp1 := HP1.out
        obtain ⟨T, hT⟩ : ∃ T, T = acc ++ putInt (data.length : Nat) ++ data := ⟨_, rfl⟩
        rw [← hT] at hp1 hp3 hTT
        obtain ⟨sd, hsd⟩ : ∃ sd : ByteArray, sd = ⟨data.toArray⟩ := ⟨_, rfl⟩
        rw [← hsd] at hcv hTT hsz
        have HPT := hid (refPutT8 (.slice A acc.length c) acc sd wr ho.sl (by omega) (by omega))
        rw [← hTT] at HPT
        have hfp : framePut [] kind T = (Pb, Pe) := by
          have hkk := HKK.out
          unfold framePut
          rw [if_pos ⟨by omega, by omega, by omega⟩, hp1, HP2.out]; rfl
        have HFR := hid (fun v W (hx : Sl W W.heap.size v (bvals T)) => frameR_any (.slice none 0 0) v [] kind T W Sl.nil_ (by simp) hx (by have hkk := HKK.out; unfold InI64; omega))
        rw [hfp] at HFR
        have HB := hid (HBO.out.trans (hb.mono hzo))
        have hqw : q < wr.heap.size := Nat.lt_of_lt_of_le hqo hb.size
        clear ho hb hbw hall hp1 hp3 hDw hT hTT hsd hsz hfp hdl hacl
        go_wp2_with fail
        (with_reducible refine HPT.out.mono ?_)
        rintro e w5 ⟨v5, rfl, ho5, hb5⟩
        have q0 := cellK hb5 hqw q0
        have HO5 := hid ho5; have HB5 := hid hb5
        clear ho5 hb5
        go_wp2_with fail
        refine (HFR.out _ _ HO5.out.sl).mono ?_
        rintro e w6 ⟨v6, rfl, ho6, hb6⟩
        have HO6 := hid ho6; have HB6 := hid (HB5.out.trans (hb6.mono HB5.out.size))
        clear ho6 hb6
        go_wp2
        go_ret2
        have z5 := HB5.out.size
        have z0 := HB.out.size
        have z1 := HB02.out.size
        exact ⟨_, rfl, Own8.less HO6.out (by have := HQ.out; omega), by rw [HQ.out]; exact HB02.out.trans ((HB.out.trans (HB6.out.mono z0)).mono (by omega))⟩
end Go.Proofs.YtkgifbnkkmeoiaaGreatDoor
/- What is read lies in its bounds. -/
namespace Go.Proofs.YtkgifbnkkmeoiaaGreatDoor
open Go.ChangeShapes Go.WideShapes Go.ChangeAt Go.RowKit
set_option linter.unusedVariables false

theorem rInt_lies (l : List UInt8) (a : Nat) (e least most : Int) (ha : a ≤ l.length) (h0 : -9223372036854775808 ≤ least) (h1 : most ≤ 9223372036854775807) : InI64 (rInt l a e least most).1 ∧ (rInt l a e least most).2.1 ≤ l.length := by
  unfold rInt
  have hz : InI64 0 := ⟨by omega, by omega⟩
  split
  · exact ⟨hz, ha⟩
  · split
    · exact ⟨hz, ha⟩
    · split
      · exact ⟨hz, ha⟩
      · rename_i h2 h3 h4
        refine ⟨⟨by show _ ≤ (getInt (l.drop a)).1; omega, by show (getInt (l.drop a)).1 ≤ _; omega⟩, ?_⟩
        rcases getInt_says (l.drop a) with (h | h) | ⟨k, z, q1, q2, h⟩
        · rw [h] at h3; exact absurd h3 (by decide)
        · rw [h] at h3; exact absurd h3 (by decide)
        · rw [h]; rw [List.length_drop] at q2; simp; omega
def CmdIn (c : CmdX) : Prop := InI64 c.1 ∧ InI64 c.2.1 ∧ InI64 c.2.2.1 ∧ FactsIn c.2.2.2
theorem c0_in : CmdIn c0X := ⟨⟨by decide, by decide⟩, ⟨by decide, by decide⟩, ⟨by decide, by decide⟩, fun f hf => by cases hf⟩
theorem e0_in : EntIn e0X := ⟨⟨by decide, by decide⟩, ⟨by decide, by decide⟩, c0_in⟩
theorem cmdR_in (l : List UInt8) (a : Nat) (e : Int) (ha : a ≤ l.length) : CmdIn (cmdR l a e).1 ∧ (cmdR l a e).2.1 ≤ l.length := by
  obtain ⟨h1, h2⟩ := rInt_lies l a e 0 3 ha (by omega) (by omega)
  obtain ⟨h3, h4⟩ := rInt_lies l _ (rInt l a e 0 3).2.2 0 1099511627776 h2 (by omega) (by omega)
  obtain ⟨h5, h6⟩ := rInt_lies l _ (rInt l (rInt l a e 0 3).2.1 (rInt l a e 0 3).2.2 0 1099511627776).2.2 0 1099511627776 h4 (by omega) (by omega)
  unfold cmdR
  simp only
  have h7 := fun e' => readB_ok l _ e' h6
  refine ⟨?_, (h7 _).2.2⟩
  split
  · exact ⟨h1, h3, h5, FactOk.in_ (h7 _).2.1⟩
  · exact c0_in
theorem entR_in (l : List UInt8) (a : Nat) (e : Int) (ha : a ≤ l.length) : EntIn (entR l a e).1 ∧ (entR l a e).2.1 ≤ l.length := by
  obtain ⟨h1, h2⟩ := rInt_lies l a e 1 1099511627776 ha (by omega) (by omega)
  obtain ⟨h3, h4⟩ := rInt_lies l _ (rInt l a e 1 1099511627776).2.2 1 1099511627776 h2 (by omega) (by omega)
  obtain ⟨h5, h6⟩ := cmdR_in l _ (rInt l (rInt l a e 1 1099511627776).2.1 (rInt l a e 1 1099511627776).2.2 1 1099511627776).2.2 h4
  unfold entR
  simp only
  refine ⟨?_, h6⟩
  split
  · exact ⟨h1, h3, h5⟩
  · exact e0_in
theorem entsR_in (l : List UInt8) : ∀ (k a : Nat) (e : Int), a ≤ l.length → (∀ x ∈ (entsR l k a e).1, EntIn x) ∧ (entsR l k a e).2.1 ≤ l.length ∧ (entsR l k a e).1.length = k := by
  intro k
  induction k with
  | zero => intro a e ha; exact ⟨fun x hx => (by cases hx), ha, rfl⟩
  | succ k ih =>
    intro a e ha
    obtain ⟨h1, h2⟩ := entR_in l a e ha
    obtain ⟨i1, i2, i3⟩ := ih _ (entR l a e).2.2 h2
    unfold entsR
    refine ⟨fun x hx => ?_, i2, by simp [i3]⟩
    rcases List.mem_cons.1 hx with rfl | hx
    · exact h1
    · exact i1 x hx
theorem msgTail_in (l : List UInt8) (kind src dst : Int) (a : Nat) (e : Int) (ha : a ≤ l.length) (hk : InI64 kind) (hs : InI64 src) (hd : InI64 dst) : MsgIn (msgTail l kind src dst a e).1 ∧ ∀ x ∈ (msgTail l kind src dst a e).1.ents, EntIn x := by
  unfold msgTail
  simp only
  obtain ⟨h1, a1⟩ := rInt_lies l a e 0 1099511627776 ha (by omega) (by omega)
  generalize rInt l a e 0 1099511627776 = r1 at *
  obtain ⟨h2, a2⟩ := rInt_lies l r1.2.1 r1.2.2 0 1099511627776 a1 (by omega) (by omega)
  generalize rInt l r1.2.1 r1.2.2 0 1099511627776 = r2 at *
  obtain ⟨h3, a3⟩ := rInt_lies l r2.2.1 r2.2.2 0 1099511627776 a2 (by omega) (by omega)
  generalize rInt l r2.2.1 r2.2.2 0 1099511627776 = r3 at *
  obtain ⟨h4, a4⟩ := rInt_lies l r3.2.1 r3.2.2 0 1099511627776 a3 (by omega) (by omega)
  generalize rInt l r3.2.1 r3.2.2 0 1099511627776 = r4 at *
  obtain ⟨h5, a5⟩ := rInt_lies l r4.2.1 r4.2.2 0 1099511627776 a4 (by omega) (by omega)
  generalize rInt l r4.2.1 r4.2.2 0 1099511627776 = r5 at *
  obtain ⟨h6, a6⟩ := rInt_lies l r5.2.1 r5.2.2 0 1 a5 (by omega) (by omega)
  generalize rInt l r5.2.1 r5.2.2 0 1 = r6 at *
  obtain ⟨h7, a7⟩ := rInt_lies l r6.2.1 r6.2.2 0 1099511627776 a6 (by omega) (by omega)
  generalize rInt l r6.2.1 r6.2.2 0 1099511627776 = r7 at *
  obtain ⟨h8, a8⟩ := rInt_lies l r7.2.1 r7.2.2 0 1099511627776 a7 (by omega) (by omega)
  generalize rInt l r7.2.1 r7.2.2 0 1099511627776 = r8 at *
  obtain ⟨h9, a9⟩ := rInt_lies l r8.2.1 r8.2.2 0 6 a8 (by omega) (by omega)
  generalize rInt l r8.2.1 r8.2.2 0 6 = r9 at *
  obtain ⟨h10, -, -⟩ := entsR_in l r9.1.toNat r9.2.1 r9.2.2 a9
  exact ⟨⟨hk, hs, hd, h1, h2, h3, h4, h5, h7, h8⟩, h10⟩
theorem msgBody_in (lo hi kind : Int) (l : List UInt8) (hk : InI64 kind) (h0 : -9223372036854775808 ≤ lo) (h1 : hi ≤ 9223372036854775807) : MsgIn (msgBody lo hi kind l).1 ∧ ∀ x ∈ (msgBody lo hi kind l).1.ents, EntIn x := by
  unfold msgBody
  simp only
  obtain ⟨g1, a1⟩ := rInt_lies l 0 0 lo hi (by omega) h0 h1
  obtain ⟨g2, a2⟩ := rInt_lies l _ (rInt l 0 0 lo hi).2.2 lo hi a1 h0 h1
  exact msgTail_in l kind _ _ _ _ a2 hk g1 g2
end Go.Proofs.YtkgifbnkkmeoiaaGreatDoor
