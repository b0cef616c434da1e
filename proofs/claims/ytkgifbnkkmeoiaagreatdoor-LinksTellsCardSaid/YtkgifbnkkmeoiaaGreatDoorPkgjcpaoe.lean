/- 1 text of this claim, in build order. -/
import Derived.Test.YtkgifbnkkmeoiaaGreatDoorPkdfgmfbn
import Derived.Test.YtkgifbnkkmeoiaaGreatDoorPnadfnpkm
import Derived.Test.YtkgifbnkkmeoiaaGreatDoorPbdcknajg
/- links.Put: a message's bytes, or refused. -/
namespace Go.Proofs.YtkgifbnkkmeoiaaGreatDoor
open Go.ChangeShapes Go.WideShapes Go.ChangeAt Go.RowKit
set_option linter.unusedVariables false
set_option linter.unusedSimpArgs false

/-- Behind some numbers of a message. -/
def PmRel (ns : List Int) (w : World) (b i : Value) (wr : World) : Prop := ∃ k : Nat, k ≤ 11 ∧ i = .int .i64 k ∧ (∀ j, j < k → numB (ns.getD j 0) 0 = true) ∧ Own8 wr w.heap.size b ((ns.take k).flatMap putInt) ∧ Below w.heap.size w wr
/-- Behind some of its entries. -/
def PmEnt (hd : List UInt8) (l : List EntX) (B : Nat) (w : World) (b i : Value) (wr : World) : Prop := ∃ k : Nat, k ≤ l.length ∧ i = .int .i64 k ∧ (∀ j (h : j < l.length), j < k → errN l[j] = 0) ∧ Own8 wr B b (hd ++ (l.take k).flatMap putN) ∧ Below w.heap.size w wr
theorem take_flat_int {ns : List Int} {k : Nat} (hk : k < ns.length) : (ns.take (k + 1)).flatMap putInt = (ns.take k).flatMap putInt ++ putInt (ns.getD k 0) := by
  rw [List.take_succ_eq_append_getElem hk, List.flatMap_append, List.getD_eq_getElem?_getD, List.getElem?_eq_getElem hk]
  simp
theorem take_flat_ent {l : List EntX} {k : Nat} (hk : k < l.length) : (l.take (k + 1)).flatMap putN = (l.take k).flatMap putN ++ putN l[k] := by
  rw [List.take_succ_eq_append_getElem hk, List.flatMap_append]
  simp
theorem in_of_numB {n : Int} (h : numB n 0 = true) : InI64 n := by have := of_decide_eq_true h; unfold InI64; omega
set_option maxRecDepth 100000 in
set_option maxHeartbeats 3200000 in
theorem putMsg_any (v : Value) (m : MsgX) (w : World) (hv : MsgV w w.heap.size v m) : Calls Tryz.prog 7 #[v] w (Put8E (putMsg m).1 (putMsg m).2 w) := by
  obtain ⟨A1, c1, A2, c2, rfl, hE, hD, hIn⟩ := hv
  obtain ⟨W1, hW1⟩ : ∃ W1, W1 = w.alloc (.cells (msgCs m (.slice A1 m.ents.length c1) (.slice A2 m.data.length c2)).toArray 25) := ⟨_, rfl⟩
  have hcl : ∀ i v, (msgCs m (.slice A1 m.ents.length c1) (.slice A2 m.data.length c2))[i]? = some v → W1.cell? ⟨w.heap.size, i, none⟩ = some v := fun i v h => by
    rw [hW1, World.cell?_alloc_at _ _ _ _ rfl, List.getElem?_toArray]; exact h
  have hb1 : Below w.heap.size w W1 := by rw [hW1]; exact bl1 _ _
  have hz1 : W1.heap.size = w.heap.size + 1 := by rw [hW1]; simp
  have HE := hid (good_ents.on hE hb1)
  have HD := hid ((hD.below hb1).more hb1.size)
  have hways := head_ways m
  obtain ⟨Pb, hPb⟩ : ∃ P, P = (putMsg m).1 := ⟨_, rfl⟩
  obtain ⟨Pe, hPe⟩ : ∃ P, P = (putMsg m).2 := ⟨_, rfl⟩
  rw [← hPb, ← hPe]
  have HHD := hid (show ¬ headM m → Pb = [] ∧ Pe = 1 from fun h => by rw [hPb, hPe, putMsg_no (fun g => h g.1)]; exact ⟨rfl, rfl⟩)
  have HNB := hid (show ∀ j, j < 11 → numB ((numsM m).getD j 0) 0 = false → Pb = [] ∧ Pe = 1 from fun j hj h => by rw [hPb, hPe, putMsg_no (fun g => by have := g.2.1 j hj; rw [h] at this; cases this)]; exact ⟨rfl, rfl⟩)
  have HEB := hid (show ∀ j (h : j < m.ents.length), errN m.ents[j] ≠ 0 → Pb = [] ∧ Pe = 1 from fun j hj h => by rw [hPb, hPe, putMsg_no (fun g => h (g.2.2 j hj))]; exact ⟨rfl, rfl⟩)
  have HOK := hid (show headM m → (∀ j, j < 11 → numB ((numsM m).getD j 0) 0 = true) → (∀ j (h : j < m.ents.length), errN m.ents[j] = 0) → Pb = frameB m.kind.toNat ((numsM m).flatMap putInt ++ m.ents.flatMap putN ++ putInt (m.data.length : Nat) ++ m.data) ∧ Pe = 0 ∧ ((numsM m).flatMap putInt ++ m.ents.flatMap putN ++ putInt (m.data.length : Nat) ++ m.data).length ≤ 12000 from fun h1 h2 h3 => by
    have hm : MayM m := ⟨h1, h2, h3⟩
    rw [hPb, hPe, putMsg_yes hm]
    exact ⟨rfl, rfl, bodyM_le hm⟩)
  have hnl := fun k (hk : k ≤ 11) => nums_le m k hk
  have hns : numsM m = [m.src, m.dst, m.term, m.index, m.logTerm, m.commit, m.round, if m.reject = true then 1 else 0, m.off, m.total, (m.ents.length : Int)] := rfl
  have hec : m.ents.length ≤ c1 ∧ c1 ≤ 9223372036854775807 := by obtain ⟨A, c, e, h1, h2⟩ := hE.open_; injection e with e _; injection e with _ _ e3; subst e3; exact ⟨h1, h2⟩
  have hdc : m.data.length ≤ c2 ∧ c2 ≤ 9223372036854775807 := by obtain ⟨A, c, e, h1, h2, -⟩ := hD; injection e with _ _ e3; subst e3; rw [bvals_len] at h1; exact ⟨h1, h2⟩
  have q0 := hcl 0 _ rfl; have q1 := hcl 1 _ rfl; have q2 := hcl 2 _ rfl; have q3 := hcl 3 _ rfl; have q4 := hcl 4 _ rfl; have q5 := hcl 5 _ rfl; have q6 := hcl 6 _ rfl; have q7 := hcl 7 _ rfl; have q8 := hcl 8 _ rfl; have q9 := hcl 9 _ rfl; have q10 := hcl 10 _ rfl; have q11 := hcl 11 _ rfl; have q12 := hcl 12 _ rfl
  obtain ⟨q, hq⟩ : ∃ q, q = w.heap.size := ⟨_, rfl⟩
  rw [← hq] at q0 q1 q2 q3 q4 q5 q6 q7 q8 q9 q10 q11 q12 hb1
  have HQ := hid hq.symm; have HW1 := hid hW1; have HB1 := hid hb1
  have hq1 : q < W1.heap.size := by omega
  unfold msgCs at HW1 ⊢
  have hkn : 0 ≤ m.kind → ((m.kind.toNat : Nat) : Int) = m.kind := fun h => Int.toNat_of_nonneg h
  obtain ⟨kind, src, dst, term, index, logTerm, commit, round, rej, off, total, ents, data⟩ := m
  simp only at *
  generalize hNS : numsM ⟨kind, src, dst, term, index, logTerm, commit, round, rej, off, total, ents, data⟩ = ns at *
  have HHM := hid (show ∀ p : Prop, (headM ⟨kind, src, dst, term, index, logTerm, commit, round, rej, off, total, ents, data⟩ → p) → (headM ⟨kind, src, dst, term, index, logTerm, commit, round, rej, off, total, ents, data⟩ → p) from fun _ h => h)
  generalize hHm : headM ⟨kind, src, dst, term, index, logTerm, commit, round, rej, off, total, ents, data⟩ = Hm at *
  have HNS := hid hns
  clear hPb hPe hcl hb1 hz1 hE hD hIn hW1 hq hNS hHm HHM hns
  rcases hways with ⟨g1, hH⟩ | ⟨g1, g2, hH⟩ | ⟨g1, g2, g3, hH⟩ | ⟨g1, g2, g3, g4, hH⟩ | ⟨g1, g2, g3, g4, g5, hH⟩ | ⟨g1, g2, g3, g4, g5, g6, hH⟩ | ⟨g1, g2, g3, g4, g5, g6, hH⟩
  · have HN1 := hid (number_eq kind 1 8)
    rw [g1] at HN1
    have hH := hid hH
    clear g1
    go_enter Tryz.func7, Tryz.ntmps7
    go_upto_region 1 with (fail)
    rw [← HW1.out, HQ.out]
    go_wp2_with fail
    refine (HN1.out _).mono ?_
    rintro e w2 ⟨rfl, rfl⟩
    go_wp2
    go_ret2
    obtain ⟨e1, e2⟩ := HHD.out hH.out
    rw [e1, e2]
    exact ⟨_, rfl, Own8.nil_ _ _, by rw [HQ.out]; exact HB1.out⟩
  · have HN1 := hid (number_eq kind 1 8); have HN2 := hid (number_eq src 1 7)
    rw [g1] at HN1; rw [g2] at HN2
    have hH := hid hH
    clear g1 g2
    go_enter Tryz.func7, Tryz.ntmps7
    go_upto_region 1 with (fail)
    rw [← HW1.out, HQ.out]
    go_wp2_with fail
    refine (HN1.out _).mono ?_
    rintro e w2 ⟨rfl, rfl⟩
    go_wp2_with fail
    refine (HN2.out _).mono ?_
    rintro e w2 ⟨rfl, rfl⟩
    go_wp2
    go_ret2
    obtain ⟨e1, e2⟩ := HHD.out hH.out
    rw [e1, e2]
    exact ⟨_, rfl, Own8.nil_ _ _, by rw [HQ.out]; exact HB1.out⟩
  · have HN1 := hid (number_eq kind 1 8); have HN2 := hid (number_eq src 1 7); have HN3 := hid (number_eq dst 1 7)
    rw [g1] at HN1; rw [g2] at HN2; rw [g3] at HN3
    have hH := hid hH
    clear g1 g2 g3
    go_enter Tryz.func7, Tryz.ntmps7
    go_upto_region 1 with (fail)
    rw [← HW1.out, HQ.out]
    go_wp2_with fail
    refine (HN1.out _).mono ?_
    rintro e w2 ⟨rfl, rfl⟩
    go_wp2_with fail
    refine (HN2.out _).mono ?_
    rintro e w2 ⟨rfl, rfl⟩
    go_wp2_with fail
    refine (HN3.out _).mono ?_
    rintro e w2 ⟨rfl, rfl⟩
    go_wp2
    go_ret2
    obtain ⟨e1, e2⟩ := HHD.out hH.out
    rw [e1, e2]
    exact ⟨_, rfl, Own8.nil_ _ _, by rw [HQ.out]; exact HB1.out⟩
  all_goals
    have HN1 := hid (number_eq kind 1 8); have HN2 := hid (number_eq src 1 7); have HN3 := hid (number_eq dst 1 7)
    rw [g1] at HN1; rw [g2] at HN2; rw [g3] at HN3
    have hH := hid hH
    have G1 := hid g1
    clear g1 g2 g3
    go_enter Tryz.func7, Tryz.ntmps7
    go_upto_region 1 with (fail)
    rw [← HW1.out, HQ.out]
    go_wp2_with fail
    refine (HN1.out _).mono ?_
    rintro e w2 ⟨rfl, rfl⟩
    go_wp2_with fail
    refine (HN2.out _).mono ?_
    rintro e w2 ⟨rfl, rfl⟩
    go_wp2_with fail
    refine (HN3.out _).mono ?_
    rintro e w2 ⟨rfl, rfl⟩
  iterate 3
    · go_wp2
      go_ret2
      obtain ⟨e1, e2⟩ := HHD.out hH.out
      rw [e1, e2]
      exact ⟨_, rfl, Own8.nil_ _ _, by rw [HQ.out]; exact HB1.out⟩
  go_upto_if 48 with (fail)
  obtain ⟨rz, hrz⟩ : ∃ rz : Int, rz = (if rej = true then 1 else 0) := ⟨_, rfl⟩
  rw [← hrz] at HNS
  go_cut [4] (fun s4 wx => s4 = .int .i64 rz ∧ W1 = wx)
  case first =>
    cases rej with
    | true =>
      rw [if_pos rfl] at hrz
      subst hrz
      go_wp2
      go_meet
      case rel => exact ⟨rfl, rfl⟩
    | false =>
      rw [if_neg (by decide)] at hrz
      subst hrz
      go_wp2
      go_meet
      case rel => exact ⟨rfl, rfl⟩
  case rest =>
  obtain ⟨rfl, rfl⟩ := hcut
  clear hrz
  go_upto_region 8 with (fail)
  obtain ⟨W2, hW2⟩ : ∃ W2, W2 = W1.alloc (.cells #[.int .i64 src, .int .i64 dst, .int .i64 term, .int .i64 index, .int .i64 logTerm, .int .i64 commit, .int .i64 round, .int .i64 rz, .int .i64 off, .int .i64 total, .int .i64 ents.length] 3) := ⟨_, rfl⟩
  rw [← hW2]
  have hic : ∀ k, k < 11 → W2.cell? ⟨W1.heap.size, k, none⟩ = some (.int .i64 (ns.getD k 0)) := fun k hk => by
    rw [hW2, World.cell?_alloc_at _ _ _ _ rfl, HNS.out]
    match k, hk with
    | 0, _ => rfl
    | 1, _ => rfl
    | 2, _ => rfl
    | 3, _ => rfl
    | 4, _ => rfl
    | 5, _ => rfl
    | 6, _ => rfl
    | 7, _ => rfl
    | 8, _ => rfl
    | 9, _ => rfl
    | 10, _ => rfl
  have hnlen : ns.length = 11 := by rw [HNS.out]; rfl
  have hb2 : Below W1.heap.size W1 W2 := by rw [hW2]; exact bl1 _ _
  have hz2 : W1.heap.size < W2.heap.size := by rw [hW2]; simp
  have HIC := hid hic; have HB2 := hid hb2; have HNL := hid hnl; have HKN := hid hkn; have HLEN := hid hnlen; have HEC := hid hec; have HDC := hid hdc
  clear hW2 hic hb2 hnl hkn hnlen hdc
  go_loopw [5, 73] (fun b i wr => PmRel ns W2 b i wr) (fun _ i _ => 11 - (intOf i).toNat)
  case atStart => exact ⟨0, by omega, rfl, fun j hj => by omega, Own8.nil_ _ _, Below.refl _ _⟩
  case round =>
  obtain ⟨k, hk, rfl, hall, ho, hb⟩ := hrel
  by_cases hlt : k < 11
  · have qk := cellK hb hz2 (HIC.out k hlt)
    have hsu := take_flat_int (ns := ns) (k := k) (by rw [HLEN.out]; exact hlt)
    have hle := HNL.out k (by omega)
    have hbad := HNB.out k hlt
    have HN := hid (fun W => number_eq (ns.getD k 0) 0 1099511627776 W)
    have hall' : numB (ns.getD k 0) 0 = true → ∀ j, j < k + 1 → numB (ns.getD j 0) 0 = true := fun h j hj => by
      rcases Nat.lt_or_ge j k with h1 | h1
      · exact hall j h1
      · rw [show j = k by omega]; exact h
    obtain ⟨A, c, rfl⟩ := ho.form
    have HO := hid ho; have HB := hid hb; have HSU := hid hsu; have HBAD := hid hbad; have HALL := hid hall'
    have hzb : decide (0 ≤ ns.getD k 0 ∧ ns.getD k 0 ≤ 1099511627776) = numB (ns.getD k 0) 0 := rfl
    rw [hzb] at HN
    generalize ns.getD k 0 = z at *
    generalize (ns.take k).flatMap putInt = acc at *
    clear ho hb hsu hbad hall hall' hzb
    cases hnb : numB z 0 with
    | false =>
      rw [hnb] at HN
      obtain ⟨e1, e2⟩ := HBAD.out hnb
      have E1 := hid e1; have E2 := hid e2
      clear hnb e1 e2
      go_wp2_with fail
      refine (HN.out wr).mono ?_
      rintro e w1 ⟨rfl, rfl⟩
      go_wp2
      go_ret2
      rw [E1.out, E2.out]
      exact ⟨_, rfl, Own8.nil_ _ _, by rw [HQ.out]; exact HB1.out.trans ((HB2.out.trans (HB.out.mono (by omega))).mono (by omega))⟩
    | true =>
      rw [hnb] at HN
      have HALL' := hid (HALL.out hnb)
      have HPU := hid (putI8 (.slice A acc.length c) acc z wr HO.out.sl (by omega) (in_of_numB hnb))
      rw [← HSU.out] at HPU
      clear hnb
      go_wp2_with fail
      refine (HN.out wr).mono ?_
      rintro e w1 ⟨rfl, rfl⟩
      go_wp2_with fail
      refine HPU.out.mono ?_
      rintro e w1 ⟨v1, rfl, ho1, hb1⟩
      have HO1 := hid (Own8.less ho1 (show W2.heap.size ≤ wr.heap.size from HB.out.size)); have HB1' := hid (HB.out.trans (hb1.mono HB.out.size))
      clear ho1 hb1
      go_wp2
      go_roundw
      case rel => exact ⟨k + 1, by omega, by go_num, HALL'.out, HO1.out, HB1'.out⟩
      case measure => simp [intOf]; omega
  · obtain rfl : k = 11 := by omega
    rw [List.take_of_length_le (by rw [HLEN.out]; exact Nat.le_refl _)] at ho
    have hle := HNL.out 11 (Nat.le_refl _)
    rw [List.take_of_length_le (by rw [HLEN.out]; exact Nat.le_refl _)] at hle
    obtain ⟨wo, hwo⟩ : ∃ wo : World, wo = wr := ⟨_, rfl⟩
    subst hwo
    have hbo := HB2.out.trans (hb.mono (Nat.le_of_lt hz2))
    have hzo := hbo.size
    have hW2o := hb.size
    have q0 := cellK hbo hq1 q0
    have q11 := cellK hbo hq1 q11
    have q12 := cellK hbo hq1 q12
    obtain ⟨A, c, rfl⟩ := ho.form
    have HO := hid ho; have HBO := hid hbo; have HALL := hid hall
    have HG5 := hid g5; have HG6 := hid g6
    generalize hnb : ns.flatMap putInt = nb at *
    clear ho hb hbo hall hnb q1 q2 q3 q4 q5 q6 q7 q8 q9 q10 HIC HB2 g4 g5 g6
    go_wp2
    go_loopw [5, 87] (fun b i wr => PmEnt nb ents W2.heap.size wo b i wr) (fun _ i _ => ents.length - (intOf i).toNat)
    case atStart => exact ⟨0, by omega, rfl, fun j _ hj => by omega, by simpa using HO.out, Below.refl _ _⟩
    case round =>
    obtain ⟨k, hk, rfl, hall, ho, hb⟩ := hrel
    have hbw := HBO.out.trans (hb.mono hzo)
    by_cases hlt : k < ents.length
    · obtain ⟨eb, eo, AF, cF, rfl, heb, e0, e1, e2, e3, e4, e5, hev⟩ := ents_at HE.out hlt
      have e0 := cellK hbw heb e0; have e1 := cellK hbw heb e1; have e2 := cellK hbw heb e2; have e3 := cellK hbw heb e3; have e4 := cellK hbw heb e4; have e5 := cellK hbw heb e5
      have hsu := take_flat_ent hlt
      have hbad := HEB.out k hlt
      have hle2 := ents_le (l := ents) (k := k) (by have := HG5.out; omega) hall
      have hall' : errN (ents[k]'hlt) = 0 → ∀ j (h : j < ents.length), j < k + 1 → errN ents[j] = 0 := fun h j hj hjk => by
        rcases Nat.lt_or_ge j k with h1 | h1
        · exact hall j hj h1
        · have : j = k := by omega
          subst this
          exact h
      have hsu : nb ++ (ents.take (k + 1)).flatMap putN = nb ++ (ents.take k).flatMap putN ++ putN (ents[k]'hlt) := by rw [hsu, List.append_assoc]
      have hal : (nb ++ (ents.take k).flatMap putN).length ≤ 12000 := by rw [List.length_append]; omega
      have HSU := hid hsu; have HBAD := hid hbad; have HALL2 := hid hall'
      obtain ⟨A, c, rfl⟩ := ho.form
      have HO2 := hid ho
      generalize nb ++ (ents.take k).flatMap putN = acc at *
      generalize ents[k]'hlt = x at *
      obtain ⟨ix, tm, op, ses, seq, fs⟩ := x
      simp only at e0 e1 e2 e3 e4 e5 hev
      obtain ⟨W3, hW3⟩ : ∃ W3, W3 = wr.alloc (.cells #[.int .i64 ix, .int .i64 tm, .int .i64 op, .int .i64 ses, .int .i64 seq, .slice AF fs.length cF] 49) := ⟨_, rfl⟩
      have hb3 : Below wr.heap.size wr W3 := by rw [hW3]; exact bl1 _ _
      have hzw := hbw.size
      have HPE := hid ((putEnt_any (.slice A acc.length c) (.agg #[.int .i64 ix, .int .i64 tm, .int .i64 op, .int .i64 ses, .int .i64 seq, .slice AF fs.length cF]) acc (ix, tm, op, ses, seq, fs) W3 ((ho.sl.below hb3).more hb3.size) (by omega) (hev.on (hbw.trans (hb3.mono hzw)))).mono (fun e w' h => h.one))
      have HB := hid (hb.trans (hb3.mono hb.size))
      have f0 : W3.cell? ⟨wr.heap.size, 0, none⟩ = some (.int .i64 ix) := by rw [hW3]; simp [go_sem]
      have f1 : W3.cell? ⟨wr.heap.size, 1, none⟩ = some (.int .i64 tm) := by rw [hW3]; simp [go_sem]
      have f2 : W3.cell? ⟨wr.heap.size, 2, none⟩ = some (.int .i64 op) := by rw [hW3]; simp [go_sem]
      have f3 : W3.cell? ⟨wr.heap.size, 3, none⟩ = some (.int .i64 ses) := by rw [hW3]; simp [go_sem]
      have f4 : W3.cell? ⟨wr.heap.size, 4, none⟩ = some (.int .i64 seq) := by rw [hW3]; simp [go_sem]
      have f5 : W3.cell? ⟨wr.heap.size, 5, none⟩ = some (.slice AF fs.length cF) := by rw [hW3]; simp [go_sem]
      have HW3 := hid hW3
      have hWB : W2.heap.size ≤ W3.heap.size := Nat.le_trans hW2o (Nat.le_trans hb.size hb3.size)
      generalize errN (ix, tm, op, ses, seq, fs) = er at *
      generalize putN (ix, tm, op, ses, seq, fs) = pn at *
      clear ho hb hbw hall hsu hbad hall' hW3 hev hb3
      go_upto_region 17 with (fail)
      rw [← HW3.out]
      go_wp2_with fail
      refine HPE.out.mono ?_
      rintro e w8 ⟨v8, rfl, ho8, hb8⟩
      rcases ho8 with ⟨rfl, ho8⟩ | ⟨hne, rfl⟩
      · obtain ⟨A8, c8, rfl⟩ := ho8.form
        have HALL3 := hid (HALL2.out rfl)
        have HO8 := hid (Own8.less ho8 hWB); have HB8 := hid (HB.out.trans (hb8.mono HB.out.size))
        rw [List.length_append] at HO8
        clear ho8 hb8
        go_wp2
        go_roundw
        case rel =>
          repeat (apply Exists.intro)
          refine ⟨?_, rfl⟩
          exact ⟨k + 1, by omega, by go_num, HALL3.out, by rw [HSU.out]; exact HO8.out, HB8.out⟩
        case measure => simp [intOf]; omega
      · have hnz : (er != 0) = true := by simpa using hne
        obtain ⟨e1, e2⟩ := HBAD.out hne
        have E1 := hid e1; have E2 := hid e2
        have HB8 := hid (HBO.out.trans ((HB.out.trans (hb8.mono HB.out.size)).mono hzo))
        clear hne e1 e2 hb8
        go_wp2
        go_ret2
        rw [E1.out, E2.out]
        exact ⟨_, rfl, Own8.nil_ _ _, by rw [HQ.out]; exact HB1.out.trans (HB8.out.mono (by omega))⟩
    · obtain rfl : k = ents.length := by omega
      rw [List.take_length] at ho
      have q0 := cellK hb (by omega) q0
      have q12 := cellK hb (by omega) q12
      obtain ⟨hp1, hp2, hp3⟩ := HOK.out hH.out HALL.out (fun j hj => hall j hj hj)
      have hkk := of_decide_eq_true G1.out
      have hzw := hbw.size
      have hDw := (HD.out.below hbw).more hzw
      have hdn : data.length ≤ 160 := by have := HG6.out; omega
      obtain ⟨A, c, rfl⟩ := ho.form
      generalize nb ++ ents.flatMap putN = acc at *
      have hacl : acc.length ≤ 12000 := by simp only [List.length_append] at hp3; omega
      have hsz : (⟨data.toArray⟩ : ByteArray).size = data.length := by show data.toArray.size = _; simp
      have hcv : (convert 23 9 (.slice A2 data.length c2)).run Tryz.prog wr.drew = .ok (.string ⟨data.toArray⟩) wr.drew := text_sl (h := hDw.qu' ⟨1, rfl⟩)
      have hTT : acc ++ putInt (data.length : Nat) ++ data = acc ++ putInt ((⟨data.toArray⟩ : ByteArray).size : Nat) ++ (⟨data.toArray⟩ : ByteArray).data.toList := by rw [hsz]
      obtain ⟨T, hT⟩ : ∃ T, T = acc ++ putInt (data.length : Nat) ++ data := ⟨_, rfl⟩
      rw [← hT] at hp1 hp3 hTT
      obtain ⟨sd, hsd⟩ : ∃ sd : ByteArray, sd = ⟨data.toArray⟩ := ⟨_, rfl⟩
      rw [← hsd] at hcv hTT hsz
      have HPT := hid (fun W (hq : Qu wr W) => (putText8 (.slice A acc.length c) acc sd W ((ho.sl.qu' hq).more (by rw [hq.size]; exact Nat.le_refl _)) (by omega)).mono (fun e w' h => (show ∃ v, e = .returned v ∧ Own8 w' wr.heap.size v T ∧ Below wr.heap.size wr w' by
        obtain ⟨v, e1, h1, h2⟩ := h
        rw [← hTT] at h1
        exact ⟨v, e1, Own8.less h1 (by rw [hq.size]; exact Nat.le_refl _), (hq.below _).trans (h2.mono (by rw [hq.size]; exact Nat.le_refl _))⟩)))
      have hfp : framePut [] kind T = (Pb, Pe) := by
        unfold framePut
        rw [if_pos ⟨by omega, by omega, by omega⟩, hp1, hp2]; rfl
      have HFR := hid (fun v W (hx : Sl W W.heap.size v (bvals T)) => frameP_any (.slice none 0 0) v [] kind T W Sl.nil_ (by simp) hx (by unfold InI64; omega))
      rw [hfp] at HFR
      have HB := hid (HBO.out.trans (hb.mono hzo))
      have hqw : q < wr.heap.size := by omega
      clear ho hb hbw hall hp1 hp2 hp3 hDw hT hTT hsd hsz hfp hkk hdn hacl
      go_upto_region 22 with (fail)
      go_region_law (first
        | (go_simp; go_at_call 20; refine (HPT.out _ ⟨1, rfl⟩).mono ?_; rintro e w5 ⟨v5, rfl, ho5, hb5⟩; have q0 := cellK hb5 hqw q0; have HO5 := hid ho5; have HB5 := hid hb5; clear ho5 hb5)
        | (go_simp; go_at_call 19; refine (HFR.out _ _ HO5.out.sl).mono ?_; rintro e w6 ⟨v6, rfl, ho6, hb6⟩; have HO6 := hid ho6; have HB6 := hid (HB5.out.trans (hb6.mono HB5.out.size)); clear ho6 hb6))
      all_goals
        go_wp2
        go_ret2
        have z5 := HB5.out.size
        have z0 := HB.out.size
        have z1 := HB1.out.size
        exact ⟨_, rfl, Own8.less HO6.out (by have := HQ.out; omega), by rw [HQ.out]; exact HB1.out.trans ((HB.out.trans (HB6.out.mono z0)).mono (by omega))⟩
end Go.Proofs.YtkgifbnkkmeoiaaGreatDoor
