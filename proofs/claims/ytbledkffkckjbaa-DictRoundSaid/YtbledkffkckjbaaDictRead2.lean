/- The program's dict.Read. -/
import Derived.Test.YtbledkffkckjbaaDictRead
namespace Go.Proofs.Ytbledkffkckjbaa
open Go.ChangeShapes Go.WideShapes Go.ChangeAt Go.RowKit Go.Maps
set_option linter.unusedVariables false

theorem Upd.new {p : Nat} {a b c : World} (h : Upd p a b) (k : Below a.heap.size b c) : Upd p a c :=
  ⟨k.os.trans h.os, k.tape.trans h.tape, k.output.trans h.output, Nat.le_trans h.size k.size, fun i hi hn => (k.block i hi).trans (h.block i hi hn)⟩
theorem DictW.upd {w w' : World} {D : Nat → Prop} {d p : Nat} {L : Int} {ns : List DNode} (h : DictW w D d L ns) (hu : Upd p w w') (hp : ¬ D p) : DictW w' D d L ns :=
  h.kept (fun k hk => hu.block k (h.2.1 k hk) (fun e => by injection e with e; exact hp (e ▸ hk))) hu.size
theorem RefW.upd {w w' : World} {R : Nat → Prop} {r p : Nat} {L : Int} {pl : List (List ByteArray)} (h : RefW w R r L pl) (hu : Upd p w w') (hp : ¬ R p) : RefW w' R r L pl :=
  h.kept (fun k hk => hu.block k (h.2.1 k hk) (fun e => by injection e with e; exact hp (e ▸ hk))) hu.size
theorem RW.keep {w w' : World} {B p a : Nat} {l : List UInt8} {e : Int} (h : RW w B p l a e) (hb : Below (p + 1) w w') : RW w' B p l a e := by
  obtain ⟨h1, h2, h3, h4, s, h5, h6, h7, h8⟩ := h
  exact ⟨h1, h2, h3, fun i hi => frozenK hb (by omega) (h4 i hi), s, cellK hb (by omega) h5, cellK hb (by omega) h6, cellK hb (by omega) h7, h8.below (hb.mono (by omega))⟩
theorem Upd.cellAt {p b i : Nat} {w w' : World} {v : Option Value} (hu : Upd p w w') (hb : b < w.heap.size) (hne : b ≠ p) (h : w.cell? ⟨b, i, none⟩ = v) : w'.cell? ⟨b, i, none⟩ = v :=
  (World.grownBy.cell_far hu _ hb (fun h => hne (by injection h))).trans h
theorem Upd.frozenAt {p b i : Nat} {w w' : World} {v : Bool} (hu : Upd p w w') (hb : b < w.heap.size) (hne : b ≠ p) (h : w.frozen? ⟨b, i, none⟩ = v) : w'.frozen? ⟨b, i, none⟩ = v :=
  (World.grownBy.frozen_far hu _ hb (fun h => hne (by injection h))).trans h
/-- What Read leaves there. -/
def ReadDPost (r : Option (List DNode) × Nat × Int) (B p : Nat) (l : List UInt8) (L : Int) (w : World) (e : Ending) (w' : World) : Prop :=
  RW w' B p l r.2.1 r.2.2 ∧ Upd p w w' ∧ ((r.1 = none ∧ e = .returned (.pointer none)) ∨ ∃ ns d D, r.1 = some ns ∧ OkR L ns ∧ e = .returned (.pointer (some ⟨d, 0, none⟩)) ∧ DictW w' D d L ns ∧ ∀ k, D k → w.heap.size ≤ k)
/-- At the head of each round. -/
def ReadRel (L : Int) (l : List UInt8) (cnt : Nat) (r : Option (List DNode) × Nat × Int) (B p d : Nat) (w : World) (i : Value) (wr : World) : Prop :=
  ∃ (D : Nat → Prop) (ns : List DNode) (a : Nat) (e : Int), i = .int .i64 ((ns.length : Nat) : Int) ∧ ns.length ≤ cnt ∧ OkR L ns ∧ r = readF L l (cnt - ns.length) ns a e ∧ DictW wr D d L ns ∧ (∀ k, D k → w.heap.size ≤ k) ∧ RW wr B p l a e ∧ Upd p w wr
theorem readD_out (B p : Nat) (l : List UInt8) (a : Nat) (e L : Int) (w : World) (h : RW w B p l a e) (hL : L < 1 ∨ 3 < L) :
    Calls Try.prog 22 #[.pointer (some ⟨p, 0, none⟩), .int .i64 L] w (ReadDPost (readD L l a e) B p l L w) := by
  have hr : readD L l a e = (none, a, e) := if_pos hL
  have HN := hid (newD_no L w hL)
  have HR := hid hr; have HW := hid h; clear hr h hL
  go_enter Try.func22, Try.ntmps22
  go_wp2_with fail
  refine HN.out.mono ?_
  rintro e w1 ⟨rfl, hq⟩
  go_wp2
  go_ret
  rw [HR.out]
  exact ⟨HW.out.qu hq, (Upd.refl _ _).qu hq, .inl ⟨rfl, rfl⟩⟩
theorem finF_none {L : Int} {a : Nat} {e : Int} : finF L (none, a, e) = (none, a, e) := rfl
theorem finF_short {L : Int} {ns : List DNode} {a : Nat} {e : Int} (h0 : 0 < ns.length) (h : ((pathOf ns ns.length).length : Int) < L) : finF L (some ns, a, e) = (none, a, if e = 0 then 2 else e) := if_pos ⟨h0, h⟩
theorem finF_err {L : Int} {ns : List DNode} {a : Nat} {e : Int} (h : ¬ (0 < ns.length ∧ ((pathOf ns ns.length).length : Int) < L)) (he : e ≠ 0) : finF L (some ns, a, e) = (none, a, e) := (if_neg h).trans (if_pos he)
theorem finF_ok {L : Int} {ns : List DNode} {a : Nat} (h : ¬ (0 < ns.length ∧ ((pathOf ns ns.length).length : Int) < L)) : finF L (some ns, a, 0) = (some ns, a, 0) := (if_neg h).trans (if_neg (by simp))
set_option maxRecDepth 100000 in
set_option maxHeartbeats 3200000 in
theorem readD_in (B p : Nat) (l : List UInt8) (a : Nat) (e L : Int) (w : World) (h : RW w B p l a e) (h1 : 1 ≤ L) (h3 : L ≤ 3) (hl : l.length ≤ 1000000) :
    Calls Try.prog 22 #[.pointer (some ⟨p, 0, none⟩), .int .i64 L] w (ReadDPost (readD L l a e) B p l L w) := by
  have hr : readD L l a e = finF L (readF L l (rInt l a e 0 40).1.toNat [] (rInt l a e 0 40).2.1 (rInt l a e 0 40).2.2) := if_neg (by omega)
  have hp := h.lt
  have hpB := h.1
  obtain ⟨cnt, a0, e0, hc, hcn, -, -⟩ := rInt_in l a e 40 h.2.1
  rw [show ((40 : Nat) : Int) = 40 from rfl] at hc
  rw [hc] at hr
  simp only [Int.toNat_natCast] at hr
  generalize hrr : readF L l cnt [] a0 e0 = r at *
  have HN := hid (newD_yes L w h1 h3)
  have HI := hid (fun W (hw : Below (p + 1) w W) => readInt_any B p l a e 0 40 W (h.keep hw))
  rw [hc] at HI
  have HR := hid hr; have HRR := hid hrr; clear hr hrr hc h
  go_enter Try.func22, Try.ntmps22
  go_wp2_with fail
  refine HN.out.mono ?_
  rintro en w1 ⟨d, D, rfl, hd1, hD1, hb1⟩
  have HD1 := hid hd1; have HG1 := hid hD1; have HB1 := hid hb1; clear hd1 hD1 hb1
  go_wp2_with fail
  refine (HI.out w1 (HB1.out.mono (by omega))).mono ?_
  rintro en w2 ⟨rfl, hrw2, hu2⟩
  have HRW2 := hid hrw2
  have HD2 := hid (HD1.out.upd hu2 (fun hx => by have := HG1.out p hx; omega))
  have HU2 := hid (((Upd.refl p w).new HB1.out).trans hu2)
  clear hrw2 hu2 HD1 HI HN
  simp only at HRW2
  go_wp2
  go_loopw [7, 19] (fun _ i wr => ReadRel L l cnt r B p d w i wr) (fun _ i _ => cnt - (intOf i).toNat)
  case atStart => exact ⟨D, [], a0, e0, rfl, by simp, okR_nil h1, by rw [← HRR.out]; rfl, HD2.out, HG1.out, HRW2.out, HU2.out⟩
  case round =>
    clear HD2 HG1 HRW2 HU2 HRR D
    obtain ⟨D, ns, a, e, rfl, hk, hok, hrd, hdw, hg, hrw, hu⟩ := hrel
    have hns40 := hok.ok.len
    have HOK := hid hok; have HRD := hid hrd; have HDW := hid hdw; have HG := hid hg; have HRW := hid hrw; have HU := hid hu
    clear hok hrd hdw hg hrw hu
    have hpD : ¬ D p := fun hx => by have := HG.out p hx; omega
    by_cases hlt : ns.length < cnt
    · have hns : ns.length < 40 := by omega
      have ha := HRW.out.2.1
      obtain ⟨u, a1, e1, hr1, hun, -, ha1⟩ := rInt_in l a e ns.length ha
      obtain ⟨t, a2, e2, hr2, -, -, -, htl⟩ := rText_says l a1 e1 12 ha1
      have hst := readF_step (L := L) (k := cnt - (ns.length + 1)) hr1 hr2
      rw [Int.toNat_natCast, show cnt - (ns.length + 1) + 1 = cnt - ns.length by omega, ← HRD.out] at hst
      have HLN := hid (lenD_any D d L ns wr HDW.out)
      have HRI := hid (fun W (hw : Qu wr W) => readInt_any B p l a e 0 ((ns.length : Nat) : Int) W (HRW.out.qu hw))
      rw [hr1] at HRI
      have hss : (⟨t.toArray⟩ : ByteArray).size ≤ 1000000 := by
        have : (⟨t.toArray⟩ : ByteArray).size = t.length := by simp [ByteArray.size]
        omega
      have HRT : Hid (∀ W, RW W B p l a1 e1 → Calls Try.prog 43 #[.pointer (some ⟨p, 0, none⟩), .int .i64 12] W (fun en w' => en = .returned (.string ⟨t.toArray⟩) ∧ RW w' B p l a2 e2 ∧ Upd p W w')) := hid (fun W h => (readText_any B p l a1 e1 12 W h).mono (fun en w' hp => by unfold RTextPost at hp; rw [hr2] at hp; exact hp))
      generalize (⟨t.toArray⟩ : ByteArray) = s at *
      have HST := hid hst; clear hst hr1 hr2 ha ha1 htl
      go_wp2_with fail
      refine HLN.out.mono ?_
      rintro en w3 ⟨rfl, hq3⟩
      have HQ3 := hid hq3; clear hq3
      go_wp2_with fail
      refine (HRI.out w3 HQ3.out).mono ?_
      rintro en w4 ⟨rfl, hrw4, hu4⟩
      simp only at hrw4
      have HRW4 := hid hrw4
      have HU4 := hid (((Upd.refl p wr).qu HQ3.out).trans hu4)
      clear hrw4 hu4
      have hs4 := HU4.out.size
      have hsz := HU.out.size
      go_wp2_with fail
      refine (HRT.out _ (HRW4.out.below (bl1 _ _))).mono ?_
      rintro en w5 ⟨rfl, hrw5, hu5⟩
      have c0 : w5.cell? ⟨w4.heap.size, 0, none⟩ = some (.int .i64 (u : Int)) := hu5.cellAt (by simp) (by omega) (by simp [go_sem])
      have c1 : w5.cell? ⟨w4.heap.size, 1, none⟩ = some (.string ByteArray.empty) := hu5.cellAt (by simp) (by omega) (by simp [go_sem]; rfl)
      have f1 : w5.frozen? ⟨w4.heap.size, 1, none⟩ = false := hu5.frozenAt (by simp) (by omega) (by simp [go_sem])
      have hs5 := hu5.size
      simp at hs5
      have hDN : ¬ D w4.heap.size := fun hx => by have := HDW.out.2.1 _ hx; omega
      have HD5 := hid (((HDW.out.upd HU4.out hpD).below (bl1 w4 (.cells #[.int .i64 (u : Int), .string ByteArray.empty] 67))).upd hu5 hpD)
      have HU5 := hid (((HU.out.trans HU4.out).new ((bl1 w4 (.cells #[.int .i64 (u : Int), .string ByteArray.empty] 67)).mono (by omega))).trans hu5)
      have HRW5 := hid hrw5
      clear hrw5 hu5
      have HD6 := hid (HD5.out.upd (Upd.setCell w4.heap.size 1 w5 (.string s)) hDN)
      have hb6 : ∀ n, n ≤ w4.heap.size → Below n w5 (w5.setCell ⟨w4.heap.size, 1, none⟩ (.string s)) := fun n hn => (Upd.setCell w4.heap.size 1 w5 (.string s)).below hn (by omega)
      have HU6 := hid (HU5.out.new (hb6 w.heap.size (by omega)))
      have HRW6 := hid (HRW5.out.keep (hb6 (p + 1) (by omega)))
      have d0 : (w5.setCell ⟨w4.heap.size, 1, none⟩ (.string s)).cell? ⟨w4.heap.size, 0, none⟩ = some (.int .i64 (u : Int)) := cell_beside (by decide) c0
      have d1 : (w5.setCell ⟨w4.heap.size, 1, none⟩ (.string s)).cell? ⟨w4.heap.size, 1, none⟩ = some (.string s) := cell_here c1
      have hs6 : (w5.setCell ⟨w4.heap.size, 1, none⟩ (.string s)).heap.size = w5.heap.size := by simp [World.setCell]
      have HNX := hid (nextD_any D d L ns u s _ HD6.out HOK.out.ok hun (by omega))
      clear hb6 HD5 HU5 HRW5
      have HD0 := hid d0; have HD1 := hid d1; clear d0 d1
      go_wp2_with fail
      refine HNX.out.mono ?_
      rintro en w7 ⟨rfl, hb7⟩
      have e0 := cellK hb7 (by rw [hs6]; omega) HD0.out
      have e1 := cellK hb7 (by rw [hs6]; omega) HD1.out
      rw [hs6] at hb7
      have hs7 := hb7.size
      rw [hs6] at hs7
      have HD7 := hid (HD6.out.below (by rw [hs6]; exact hb7))
      have HU7 := hid (HU6.out.new (hb7.mono (by omega)))
      have HRW7 := hid (HRW6.out.keep (hb7.mono (by omega)))
      clear hb7 HNX HD6 HU6 HRW6 HD0 HD1 c0 c1 f1
      have hst := HST.out
      cases hnb : nextB ns L u s with
      | false =>
        rw [hnb, if_neg (by simp)] at hst
        have HST2 := hid hst; clear hst hnb HST
        have HBD := hid (readBad_any B p l a2 e2 w7 HRW7.out)
        go_wp2_with fail
        refine HBD.out.mono ?_
        rintro en w8 ⟨rfl, hrw8, hu8⟩
        go_wp2
        go_ret
        rw [HR.out, HST2.out, finF_none]
        exact ⟨hrw8, HU7.out.trans hu8, .inl ⟨rfl, rfl⟩⟩
      | true =>
        rw [hnb, if_pos rfl] at hst
        obtain ⟨hok2, hnot⟩ := okR_next (up := u) (s := s) HOK.out hun hns hnb
        have HST2 := hid hst; have HOK2 := hid hok2; clear hst hnb HST hok2
        have HPT := hid (putD_any D d L ns u s w7 HD7.out (by omega) (by omega) (by omega) hnot)
        clear hnot
        go_wp2_with fail
        refine HPT.out.mono ?_
        rintro en w8 ⟨D', rfl, hg8, hd8, hc8⟩
        have HC8 := hid (hc8.below (B := w.heap.size) (by omega) HG.out)
        have HG8 := hid (show ∀ k, D' k → w.heap.size ≤ k from fun k hk => (hg8.2 k hk).elim (HG.out k) (fun h => by omega))
        have HD8 := hid hd8
        clear hg8 hd8 hc8
        have hln : (ns ++ [(u, s)]).length = ns.length + 1 := by simp
        go_wp2
        go_roundw
        case rel => exact ⟨D', ns ++ [(u, s)], a2, e2, by rw [hln]; go_num, by omega, HOK2.out, by rw [hln]; exact HST2.out, HD8.out, HG8.out, HRW7.out.keep (HC8.out.mono (by omega)), HU7.out.new HC8.out⟩
        case measure => simp [intOf]; omega
    · obtain rfl : cnt = ns.length := by omega
      have hrd := HRD.out
      rw [Nat.sub_self] at hrd
      have hrd2 : r = (some ns, a, e) := hrd
      have HRD2 := hid hrd2; clear hrd hrd2 HRD
      have HSZ := hid (sizeD_any D d L ns ns.length wr HDW.out HOK.out.ok.inv (by omega) (Nat.le_refl _))
      generalize hq : (pathOf ns ns.length).length = q at *
      have HQ := hid hq; clear hq
      by_cases h0 : ns.length = 0
      case' pos =>
        have hns : ¬ (0 < ns.length ∧ ((pathOf ns ns.length).length : Int) < L) := by omega
        have HNS := hid hns; clear hns
        obtain ⟨w5, hw5⟩ : ∃ w5, w5 = wr := ⟨_, rfl⟩
        have HB5 := hid (show Below wr.heap.size wr w5 by rw [hw5]; exact Below.refl _ _)
      case' neg =>
        have h0' : 0 < ns.length := by omega
        go_wp2_with fail
        refine HSZ.out.mono ?_
        rintro en w5 ⟨rfl, hb5⟩
        have HB5 := hid hb5; clear hb5
        by_cases hs : (q : Int) < L
        · have HFN := hid (finF_short (L := L) (a := a) (e := e) h0' (by rw [HQ.out]; exact hs))
          have HRW5 := hid (HRW.out.below HB5.out)
          have HBD := hid (readBad_any B p l a e w5 HRW5.out)
          go_wp2_with fail
          refine HBD.out.mono ?_
          rintro en w6 ⟨rfl, hrw6, hu6⟩
          have HRW6 := hid hrw6; have HU6 := hid hu6; clear hrw6 hu6
          have hne : (if e = 0 then (2 : Int) else e) ≠ 0 := by split <;> omega
          generalize (if e = 0 then (2 : Int) else e) = e' at *
          have hne' : (e' != 0) = true := by simpa using hne
          go_wp2_with fail
          refine (readFailed_any B p l a e' w6 HRW6.out).mono ?_
          rintro en w7 ⟨rfl, hq7⟩
          go_wp2
          go_ret
          rw [HR.out, HRD2.out, HFN.out]
          exact ⟨HRW6.out.qu hq7, ((HU.out.new (HB5.out.mono HU.out.size)).trans HU6.out).qu hq7, .inl ⟨rfl, rfl⟩⟩
        have hns : ¬ (0 < ns.length ∧ ((pathOf ns ns.length).length : Int) < L) := by rw [HQ.out]; omega
        have HNS := hid hns; clear hns
      all_goals
        have HRW5 := hid (HRW.out.below HB5.out)
        have HU5 := hid (HU.out.new (HB5.out.mono HU.out.size))
        by_cases he : e = 0
        · subst he
          have HFN := hid (finF_ok (L := L) (ns := ns) (a := a) HNS.out)
          have HD5 := hid (HDW.out.below HB5.out)
          try subst hw5
          go_wp2_with fail
          refine (readFailed_any B p l a 0 _ HRW5.out).mono ?_
          rintro en w7 ⟨rfl, hq7⟩
          go_wp2
          go_ret
          rw [HR.out, HRD2.out, HFN.out]
          exact ⟨HRW5.out.qu hq7, HU5.out.qu hq7, .inr ⟨ns, d, D, rfl, HOK.out, rfl, HD5.out.below (hq7.below _), HG.out⟩⟩
        · have HFN := hid (finF_err (L := L) (ns := ns) (a := a) HNS.out he)
          have hne' : (e != 0) = true := by simpa using he
          clear he
          try subst hw5
          go_wp2_with fail
          refine (readFailed_any B p l a e _ HRW5.out).mono ?_
          rintro en w7 ⟨rfl, hq7⟩
          go_wp2
          go_ret
          rw [HR.out, HRD2.out, HFN.out]
          exact ⟨HRW5.out.qu hq7, HU5.out.qu hq7, .inl ⟨rfl, rfl⟩⟩
theorem readD_any (B p : Nat) (l : List UInt8) (a : Nat) (e L : Int) (w : World) (h : RW w B p l a e) (hl : l.length ≤ 1000000) :
    Calls Try.prog 22 #[.pointer (some ⟨p, 0, none⟩), .int .i64 L] w (ReadDPost (readD L l a e) B p l L w) := by
  by_cases hL : L < 1 ∨ 3 < L
  · exact readD_out B p l a e L w h hL
  · exact readD_in B p l a e L w h (by omega) (by omega) hl
end Go.Proofs.Ytbledkffkckjbaa
