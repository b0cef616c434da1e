/- The reference's Read of a dictionary. -/
import Derived.Test.YtbledkffkckjbaaDictRead2
namespace Go.Proofs.Ytbledkffkckjbaa
open Go.ChangeShapes Go.WideShapes Go.ChangeAt Go.RowKit Go.Maps
set_option linter.unusedVariables false

/-- What the reference's Read leaves there. -/
def RefReadDPost (r : Option (List DNode) × Nat × Int) (B p : Nat) (l : List UInt8) (L : Int) (w : World) (e : Ending) (w' : World) : Prop :=
  RW w' B p l r.2.1 r.2.2 ∧ Upd p w w' ∧ ∃ (d : Nat) (R : Nat → Prop), (r.1 = none ∧ e = .returned (.tuple #[.pointer (some ⟨d, 0, none⟩), .bool false])) ∨
    ∃ ns, r.1 = some ns ∧ OkR L ns ∧ e = .returned (.tuple #[.pointer (some ⟨d, 0, none⟩), .bool true]) ∧ RefW w' R d L (paths ns) ∧ ∀ k, R k → w.heap.size ≤ k
def RefReadRel (L : Int) (l : List UInt8) (cnt : Nat) (r : Option (List DNode) × Nat × Int) (B p d : Nat) (w : World) (i : Value) (wr : World) : Prop :=
  ∃ (R : Nat → Prop) (ns : List DNode) (a : Nat) (e : Int), i = .int .i64 ((ns.length : Nat) : Int) ∧ ns.length ≤ cnt ∧ OkR L ns ∧ r = readF L l (cnt - ns.length) ns a e ∧ RefW wr R d L (paths ns) ∧ (∀ k, R k → w.heap.size ≤ k) ∧ RW wr B p l a e ∧ Upd p w wr
theorem refReadD_out (B p : Nat) (l : List UInt8) (a : Nat) (e L : Int) (w : World) (h : RW w B p l a e) (hL : L < 1 ∨ 3 < L) :
    Calls Try.prog 24 #[.pointer (some ⟨p, 0, none⟩), .int .i64 L] w (RefReadDPost (readD L l a e) B p l L w) := by
  have hr : readD L l a e = (none, a, e) := if_pos hL
  have hp := h.lt
  have HR := hid hr; have HW := hid h; clear hr h
  have hL' : L < 1 ∨ (1 ≤ L ∧ 3 < L) := by omega
  clear hL
  rcases hL' with hL | ⟨hL, hL3⟩
  all_goals
    go_enter Try.func24, Try.ntmps24
    go_wp2
    go_ret2
    rw [HR.out]
    exact ⟨HW.out.below (bl1 _ _), (Upd.refl _ _).new (bl1 _ _), _, fun _ => False, .inl ⟨rfl, rfl⟩⟩
/-- One path's header, in a block of its own. -/
theorem rows_one {w : World} {H g : Nat} {v : Value} {p : List ByteArray} {o : Obj} {n : Nat} {t : TypeId} (hown : w.ownsRow H t 1 v n (svals p)) (hg : w.heap.size = g) :
    RowsS (w.alloc o) H (.slice (some ⟨g, 0, none⟩) 1 1) [v] [p] := by
  subst hg
  refine ⟨rfl, fun u hu => by rw [List.mem_singleton] at hu; subst hu; exact own_one _ hown, fun i x hx => ?_⟩
  cases i with
  | succ i => simp at hx
  | zero =>
    simp only [List.getElem?_cons_zero, Option.some.injEq] at hx
    subst hx
    refine ⟨v, rfl, ?_⟩
    have h1 : SlE w (fun g => H ≤ g ∧ g < w.heap.size) v (svals p) := SlE.of_own hown (fun g hg => hown.lt g hg)
    refine (h1.kept (fun k hk => (bl1 w o).block k hk.2)).mono (fun k hk => ⟨hk.1, by simp; omega, fun e => by simp [Value.ownBlock] at e; omega⟩)
/-- The four conditions, one behind the other. -/
theorem conds {ns : List DNode} {L : Int} {u : Nat} {s : ByteArray} (h : OkR L ns) (hu : u ≤ ns.length) :
    (nextB ns L u s = false ∧ nameB s = false) ∨ (nextB ns L u s = false ∧ nameB s = true ∧ L < ((pathOf ns u).length : Int) + 1) ∨ (nextB ns L u s = false ∧ nameB s = true ∧ ¬ L < ((pathOf ns u).length : Int) + 1 ∧ code (paths ns) (pathOf ns u ++ [s]) ≠ 0) ∨
    (nextB ns L u s = false ∧ nameB s = true ∧ ¬ L < ((pathOf ns u).length : Int) + 1 ∧ code (paths ns) (pathOf ns u ++ [s]) = 0 ∧ 0 < (pathOf ns ns.length).length ∧ ((pathOf ns ns.length).length : Int) < L ∧ u ≠ ns.length) ∨
    (nextB ns L u s = true ∧ nameB s = true ∧ ¬ L < ((pathOf ns u).length : Int) + 1 ∧ code (paths ns) (pathOf ns u ++ [s]) = 0 ∧ ((pathOf ns ns.length).length = 0 ∨ (0 < (pathOf ns ns.length).length ∧ ¬ ((pathOf ns ns.length).length : Int) < L) ∨ (0 < (pathOf ns ns.length).length ∧ ((pathOf ns ns.length).length : Int) < L ∧ u = ns.length))) := by
  have hiff := nextB_iff (s := s) h hu
  rw [List.length_append, List.length_singleton] at hiff
  cases hnm : nameB s with
  | false => exact .inl ⟨nextB_name hnm, rfl⟩
  | true =>
    by_cases h2 : L < ((pathOf ns u).length : Int) + 1
    · refine .inr (.inl ⟨?_, rfl, h2⟩)
      cases hb : nextB ns L u s with
      | false => rfl
      | true => have := hiff.1 hb; omega
    · by_cases h3 : code (paths ns) (pathOf ns u ++ [s]) = 0
      · by_cases h4 : 0 < (pathOf ns ns.length).length ∧ ((pathOf ns ns.length).length : Int) < L ∧ u ≠ ns.length
        · refine .inr (.inr (.inr (.inl ⟨?_, rfl, h2, h3, h4⟩)))
          cases hb : nextB ns L u s with
          | false => rfl
          | true => exact absurd h4 (hiff.1 hb).2.2.2
        · refine .inr (.inr (.inr (.inr ⟨hiff.2 ⟨hnm, by omega, h3, h4⟩, rfl, h2, h3, by omega⟩)))
      · refine .inr (.inr (.inl ⟨?_, rfl, h2, h3⟩))
        cases hb : nextB ns L u s with
        | false => rfl
        | true => exact absurd (hiff.1 hb).2.2.1 h3
set_option maxRecDepth 100000 in
set_option maxHeartbeats 3200000 in
theorem refReadD_in (B p : Nat) (l : List UInt8) (a : Nat) (e L : Int) (w : World) (h : RW w B p l a e) (h1 : 1 ≤ L) (h3 : L ≤ 3) (hl : l.length ≤ 1000000) :
    Calls Try.prog 24 #[.pointer (some ⟨p, 0, none⟩), .int .i64 L] w (RefReadDPost (readD L l a e) B p l L w) := by
  obtain ⟨i0, hi, hz0, hz1, hz2⟩ := info_parts info_str
  obtain ⟨i1, hi1, hy0, hy1, hy2⟩ := info_parts info_strs
  have hr : readD L l a e = finF L (readF L l (rInt l a e 0 40).1.toNat [] (rInt l a e 0 40).2.1 (rInt l a e 0 40).2.2) := if_neg (by omega)
  have hp := h.lt
  have hpB := h.1
  obtain ⟨cnt, a0, e0, hc, hcn, -, -⟩ := rInt_in l a e 40 h.2.1
  rw [show ((40 : Nat) : Int) = 40 from rfl] at hc
  rw [hc] at hr
  simp only [Int.toNat_natCast] at hr
  generalize hrr : readF L l cnt [] a0 e0 = r at *
  have HI := hid (fun W (hw : Below (p + 1) w W) => refReadInt_any B p l a e 0 40 W (h.keep hw))
  rw [hc] at HI
  have HR := hid hr; have HRR := hid hrr; clear hr hrr hc h
  go_enter Try.func24, Try.ntmps24
  go_wp2_with fail
  have hb1 := bl1 w (.cells #[.int .i64 L, .slice none 0 0] 50)
  have HR1 := hid (refNew (w := w) (L := L) (t := 50))
  have hsz1 : (w.alloc (.cells #[.int .i64 L, .slice none 0 0] 50)).heap.size = w.heap.size + 1 := by simp
  have HB1 := hid hb1; clear hb1
  refine (HI.out _ (HB1.out.mono (by omega))).mono ?_
  rintro en w2 ⟨rfl, hrw2, hu2⟩
  have HRW2 := hid hrw2
  have HD2 := hid (HR1.out.upd hu2 (fun hx => by have hx' : p = w.heap.size := hx; omega))
  have HU2 := hid (((Upd.refl p w).new HB1.out).trans hu2)
  clear hrw2 hu2 HR1 HI HB1 hsz1
  simp only at HRW2
  go_wp2
  go_loopw [8] (fun i wr => RefReadRel L l cnt r B p w.heap.size w i wr) (fun i _ => cnt - (intOf i).toNat)
  case atStart => exact ⟨_, [], a0, e0, rfl, by simp, okR_nil h1, by rw [← HRR.out]; rfl, HD2.out, fun k hk => by have hk' : k = w.heap.size := hk; omega, HRW2.out, HU2.out⟩
  case round =>
    clear HD2 HRW2 HU2 HRR
    obtain ⟨R, ns, a, e, rfl, hk, hok, hrd, hdw, hg, hrw, hu⟩ := hrel
    have hns40 := hok.ok.len
    have HOK := hid hok; have HRD := hid hrd; have HDW := hid hdw; have HG := hid hg; have HRW := hid hrw; have HU := hid hu
    clear hok hrd hdw hg hrw hu
    have hpD : ¬ R p := fun hx => by have := HG.out p hx; omega
    obtain ⟨A, c, h5, hc1, hc2, -⟩ := HDW.out.row
    rw [paths_len] at h5 hc1
    unfold maxLen at hc2
    by_cases hlt : ns.length < cnt
    · have hns : ns.length < 40 := by omega
      have ha := HRW.out.2.1
      obtain ⟨u, a1, e1, hr1, hun, -, ha1⟩ := rInt_in l a e ns.length ha
      obtain ⟨t, a2, e2, hr2, -, -, ht0, htl⟩ := rText_says l a1 e1 12 ha1
      have hst := readF_step (L := L) (k := cnt - (ns.length + 1)) hr1 hr2
      rw [Int.toNat_natCast, show cnt - (ns.length + 1) + 1 = cnt - ns.length by omega, ← HRD.out] at hst
      have hbad : e2 ≠ 0 → nextB ns L u ⟨t.toArray⟩ = false := fun h => by rw [ht0 h]; exact nextB_name name_nil
      have HRI := hid (refReadInt_any B p l a e 0 ((ns.length : Nat) : Int) wr HRW.out)
      rw [hr1] at HRI
      have hss : (⟨t.toArray⟩ : ByteArray).size ≤ 1000000 := by
        have : (⟨t.toArray⟩ : ByteArray).size = t.length := by simp [ByteArray.size]
        omega
      have HRT : Hid (∀ W, RW W B p l a1 e1 → Calls Try.prog 49 #[.pointer (some ⟨p, 0, none⟩), .int .i64 12] W (fun en w' => en = .returned (.string ⟨t.toArray⟩) ∧ RW w' B p l a2 e2 ∧ Upd p W w')) := hid (fun W h => (refReadText_any B p l a1 e1 12 W h).mono (fun en w' hp => by unfold RTextPost at hp; rw [hr2] at hp; exact hp))
      generalize (⟨t.toArray⟩ : ByteArray) = s at *
      have HST := hid hst; have HBAD := hid hbad; clear hst hr1 hr2 ha ha1 htl ht0 hbad
      go_wp2_with fail
      refine HRI.out.mono ?_
      rintro en w4 ⟨rfl, hrw4, hu4⟩
      simp only at hrw4
      have HRW4 := hid hrw4
      have HU4 := hid hu4
      clear hrw4 hu4
      go_wp2_with fail
      refine (HRT.out _ HRW4.out).mono ?_
      rintro en w5 ⟨rfl, hrw5, hu5⟩
      have ce := hrw5.cellE
      have HD5 := hid ((HDW.out.upd HU4.out hpD).upd hu5 hpD)
      have HU5 := hid ((HU.out.trans HU4.out).trans hu5)
      have HRW5 := hid hrw5
      clear hrw5 hu5 HU4 HRW4 HDW h5
      have hp5 := HRW5.out.lt
      have hsz5 := HU5.out.size
      by_cases he2 : e2 = 0
      · have te : (e2 != 0) = false := by simp [he2]
        have HE2 := hid he2; clear he2
        have hpa := refPath_any R w.heap.size L (paths ns) (u : Int) w5 HD5.out (by rw [paths_len]; omega)
        have hpu : pathR (paths ns) (u : Int) = pathOf ns u := link_pathN u hun
        unfold pathR at hpu
        unfold RefPathPost at hpa
        rw [hpu, if_neg (show ¬ ((u : Int) < 0 ∨ ((paths ns).length : Int) < (u : Int)) by rw [paths_len]; omega)] at hpa
        have HPA := hid hpa; clear hpa hpu
        have hpl := path_len_le HOK.out.ok.inv u hun
        have hpl2 := path_len_le HOK.out.ok.inv ns.length (Nat.le_refl _)
        have hcd := conds (s := s) HOK.out hun
        have HPN := hid (fun (hx : (u, s) ∉ ns) => paths_next HOK.out.ok hun hx)
        have HPLA := hid (fun W (h : RefW W R w.heap.size L (paths ns)) => refPath_any R w.heap.size L (paths ns) ((ns.length : Nat) : Int) W h (by rw [paths_len]; omega))
        have hpu2 : pathR (paths ns) ((ns.length : Nat) : Int) = pathOf ns ns.length := link_pathN ns.length (Nat.le_refl _)
        unfold pathR at hpu2
        unfold RefPathPost at HPLA
        rw [hpu2, if_neg (show ¬ (((ns.length : Nat) : Int) < 0 ∨ ((paths ns).length : Int) < ((ns.length : Nat) : Int)) by rw [paths_len]; omega)] at HPLA
        clear hpu2
        generalize pathOf ns u = above at *
        generalize pathOf ns ns.length = last at *
        have HCD := hid hcd; clear hcd
        go_wp2_with fail
        refine HPA.out.mono ?_
        rintro en w6 ⟨va, rfl, hsa, rfl⟩
        obtain ⟨Aa, ca, rfl, hca1, hca2⟩ := hsa.formS
        unfold maxLen at hca2
        have HSA := hid hsa; clear hsa HPA
        go_wp2_with (at_builtin; refine stop_here ?_)
        refine go_on ?_
        refine app_own (.tmp 57) (.tmp 58) 30 30 rfl rfl w5.heap.size 9 i0 (.string ByteArray.empty) 1 16 Try.underlying30 hi hz0 hz1 hz2 rfl (by omega) _ 0 [] rfl (World.ownsRow_nil _ _ _ _) (.slice Aa above.length ca) above.length (svals above) rfl (by
          have := src_sl w5 Try.underlying30 HSA.out (svals_one _)
          rwa [svals_len] at this) (by unfold maxLen; omega) (by omega) (Nat.le_refl _) ?_
        intro v6 w6 ho6 hg6 hb6
        rw [Nat.zero_add, List.nil_append] at ho6
        have HO6 := hid ho6; have HB6 := hid hb6; clear ho6 hg6 hb6
        have hs6 := HB6.out.size
        go_wp2_with (at_builtin; refine stop_here ?_)
        refine go_on ?_
        refine app_own (.tmp 60) (.tmp 62) 30 30 rfl rfl w5.heap.size 9 i0 (.string ByteArray.empty) 1 16 Try.underlying30 hi hz0 hz1 hz2 rfl (by omega) v6 _ _ rfl (HO6.out.alloc _) (.slice (some ⟨w6.heap.size, 0, none⟩) 1 1) 1 [.string s] rfl (Src.ofSlice _ Try.underlying30 _ 1 1 _ rfl (cell_one_new _ _ _) (by simp; rfl)) (by unfold maxLen; omega) (by omega) (by simp; omega) ?_
        intro v7 w7 ho7 hg7 hb7
        rw [show svals above ++ [.string s] = svals (above ++ [s]) by simp [svals]] at ho7
        have HB7 := hid ((HB6.out.alloc hs6 _).trans hb7)
        obtain ⟨A7, c7, rfl, hc71, hc72, -⟩ := own_cells ho7
        have HO7 := hid ho7; clear ho7 hg7 hb7
        unfold maxLen at hc72
        have hs7 := HB7.out.size
        obtain ⟨A5, c5, h55, hc51, hc52, -⟩ := HD5.out.row
        rw [paths_len] at h55 hc51
        unfold maxLen at hc52
        have hr5 := HD5.out.2.1 _ HD5.out.1
        have HFI := hid (fun v W (h : RefW W R w.heap.size L (paths ns)) (hv : Sl W W.heap.size v (svals (above ++ [s]))) => refFind_any R w.heap.size L (paths ns) v (above ++ [s]) W h (by rw [paths_len]; omega) hv)
        have hcd := HCD.out
        have hNM := refName_any s w7
        generalize code (paths ns) (above ++ [s]) = m at *
        rcases hcd with ⟨hx, hn⟩ | ⟨hx, hn, h2⟩ | ⟨hx, hn, h2, h3⟩ | ⟨hx, hn, h2, h3, h4, h5, h6⟩ | ⟨hx, hn, h2, h3, h4⟩
        all_goals
          rw [hn] at hNM
          have HNM := hid hNM; clear hNM
          have hst := HST.out
          rw [hx] at hst
          have HST1 := hid hst
          have HX := hid hx; have HN := hid hn
          clear hst HST HCD hx hn
          go_wp2_with fail
          refine HNM.out.mono ?_
          rintro en w8 ⟨rfl, hq8⟩
          have HB8 := hid (HB7.out.trans (hq8.below _))
          have HO8 := hid (own_kept HO7.out (fun g hg => (hq8.below w7.heap.size).block g (HO7.out.lt g hg).2))
          have hz8 : w8.heap.size = w7.heap.size := Qu.size hq8
          clear hq8 HO7 HB7
          have h58 := cellK HB8.out hr5 h55
          have HD8 := hid (HD5.out.below HB8.out)
          have HRW8 := hid (HRW5.out.keep (HB8.out.mono (by omega)))
          have HU8 := hid (HU5.out.new (HB8.out.mono hsz5))
          go_wp2_with fail
          refine (HPLA.out _ HD8.out).mono ?_
          rintro en w9 ⟨vl, rfl, hsl, rfl⟩
          obtain ⟨Al, cl, rfl, hcl1, hcl2⟩ := hsl.formS
          unfold maxLen at hcl2
          clear hsl HPLA
        · have HST2 := hid (HST1.out.trans (if_neg (by simp)))
          have HBD := hid (refReadBad_any B p l a2 e2 w8 HRW8.out)
          go_wp2_with fail
          refine HBD.out.mono ?_
          rintro en w10 ⟨rfl, hrw10, hu10⟩
          go_wp2
          go_ret2
          rw [HR.out, HST2.out, finF_none]
          exact ⟨hrw10, HU8.out.trans hu10, _, fun _ => False, .inl ⟨rfl, rfl⟩⟩
        · have HST2 := hid (HST1.out.trans (if_neg (by simp)))
          have HBD := hid (refReadBad_any B p l a2 e2 w8 HRW8.out)
          go_wp2_with fail
          refine HBD.out.mono ?_
          rintro en w10 ⟨rfl, hrw10, hu10⟩
          go_wp2
          go_ret2
          rw [HR.out, HST2.out, finF_none]
          exact ⟨hrw10, HU8.out.trans hu10, _, fun _ => False, .inl ⟨rfl, rfl⟩⟩
        · have t3 : ((m : Int) != 0) = true := by rw [bne_iff_ne]; omega
          clear h3
          have HFI2 := hid (HFI.out _ w8 HD8.out (Sl.of_own HO8.out))
          go_wp2_with fail
          refine HFI2.out.mono ?_
          rintro en w9 ⟨rfl, hq9⟩
          have HRW9 := hid (HRW8.out.qu hq9)
          have HU9 := hid (HU8.out.qu hq9)
          have h59 : w9.cell? ⟨w.heap.size, 1, none⟩ = _ := (hq9.cell _).trans h58
          have HST2 := hid (HST1.out.trans (if_neg (by simp)))
          have HBD := hid (refReadBad_any B p l a2 e2 w9 HRW9.out)
          go_wp2_with fail
          refine HBD.out.mono ?_
          rintro en w10 ⟨rfl, hrw10, hu10⟩
          go_wp2
          go_ret2
          rw [HR.out, HST2.out, finF_none]
          exact ⟨hrw10, HU9.out.trans hu10, _, fun _ => False, .inl ⟨rfl, rfl⟩⟩
        · subst h3
          have t6 : ((u : Int) != (ns.length : Int)) = true := by rw [bne_iff_ne]; omega
          clear h6
          have HFI2 := hid (HFI.out _ w8 HD8.out (Sl.of_own HO8.out))
          go_wp2_with fail
          refine HFI2.out.mono ?_
          rintro en w9 ⟨rfl, hq9⟩
          have HRW9 := hid (HRW8.out.qu hq9)
          have HU9 := hid (HU8.out.qu hq9)
          have h59 : w9.cell? ⟨w.heap.size, 1, none⟩ = _ := (hq9.cell _).trans h58
          have HST2 := hid (HST1.out.trans (if_neg (by simp)))
          have HBD := hid (refReadBad_any B p l a2 e2 w9 HRW9.out)
          go_wp2_with fail
          refine HBD.out.mono ?_
          rintro en w10 ⟨rfl, hrw10, hu10⟩
          go_wp2
          go_ret2
          rw [HR.out, HST2.out, finF_none]
          exact ⟨hrw10, HU9.out.trans hu10, _, fun _ => False, .inl ⟨rfl, rfl⟩⟩
        · subst h3
          have HST2 := hid (HST1.out.trans (if_pos (by trivial)))
          have HFI2 := hid (HFI.out _ w8 HD8.out (Sl.of_own HO8.out))
          go_wp2_with fail
          refine HFI2.out.mono ?_
          rintro en w9 ⟨rfl, hq9⟩
          have HRW9 := hid (HRW8.out.qu hq9)
          have HU9 := hid (HU8.out.qu hq9)
          have h59 : w9.cell? ⟨w.heap.size, 1, none⟩ = _ := (hq9.cell _).trans h58
          have HO9 := hid (own_kept HO8.out (fun g hg => (hq9.below w8.heap.size).block g (HO8.out.lt g hg).2))
          have HD9 := hid (HD8.out.below (hq9.below _))
          have HB9 := hid (HB8.out.trans (hq9.below _))
          clear hq9
          rcases h4 with h4 | ⟨h4, h5⟩ | ⟨h4, h5, h6⟩
          case' inr.inr =>
            have t6 : ((u : Int) != (ns.length : Int)) = false := by rw [bne_eq_false_iff_eq]; omega
          all_goals
            clear HRW8 HU8 h58 HD8
            obtain ⟨hok2, hnot⟩ := okR_next (up := u) (s := s) HOK.out hun hns HX.out
            have hpn := HPN.out hnot
            have HOK2 := hid hok2; have HPN2 := hid hpn; clear hok2 hnot hpn
            have hbA := HB9.out.trans ((bl1 w9 (.cells #[.slice A7 (above.length + 1) c7] 30)).mono HB9.out.size)
            obtain ⟨k1, k2, k3, k4, vL, vsL, E, k5, k6, k7, k8, k9⟩ := HD9.out.below (bl1 w9 (.cells #[.slice A7 (above.length + 1) c7] 30))
            have ek5 : (w9.alloc (.cells #[.slice A7 (above.length + 1) c7] 30)).cell? ⟨w.heap.size, 1, none⟩ = _ := cellK (bl1 w9 _) (World.block_lt_of_cell? w9 _ h59) h59
            have eL := ek5.symm.trans k5
            injection eL with eL
            subst eL
            have hro := rows_one (o := .cells #[.slice A7 (above.length + 1) c7] 30) HO9.out (g := w9.heap.size) rfl
            have hs9 := HB9.out.size
            go_wp2_with (at_builtin; refine stop_here ?_)
            refine go_on ?_
            refine app_own_at (.tmp 117) (.tmp 119) 22 22 rfl rfl 0 30 i1 (.slice none 0 0) 1 24 Try.underlying22 hi1 hy0 hy1 hy2 rfl (by omega) (.slice A5 ns.length c5) _ vsL rfl k6 (.slice (some ⟨w9.heap.size, 0, none⟩) 1 1) 1 [.slice A7 (above.length + 1) c7] rfl (Src.ofSlice _ Try.underlying22 _ 1 1 _ rfl (cell_one_new _ _ _) (by simp; rfl)) (by unfold maxLen; rw [paths_len]; omega) (by rw [paths_len]; omega) (by omega) ?_
            intro v10 w10 ho10 hg10 hb10 hat10
            obtain ⟨A10, c10, rfl, -, -, -⟩ := own_cells ho10
            obtain ⟨c10', f10, hrw10, hchg10⟩ := ref_grow rfl HD5.out.1 HD5.out.2.1 hbA k3 k4 k5 k6 k7 k8 k9 hro ho10 hg10 hat10
            have f101 := f10 1 (by omega)
            have HRF := hid hrw10
            have HCB := hid (hchg10.below (B := w.heap.size) hsz5 HG.out)
            clear ho10 hg10 hb10 hat10 hrw10 hchg10 f10 k1 k2 k3 k4 k5 k6 k7 k8 k9 hro hbA ek5
            have hln : (ns ++ [(u, s)]).length = ns.length + 1 := by simp
            go_wp2
            go_roundw
            case rel =>
              refine ⟨_, ns ++ [(u, s)], a2, e2, by rw [hln]; go_num, by omega, HOK2.out, by rw [hln]; exact HST2.out, by rw [HPN2.out]; exact HRF.out, ?_, HRW5.out.keep (HCB.out.mono (by omega)), HU5.out.new HCB.out⟩
              rintro k (hk | hk)
              · exact HG.out k hk
              · omega
            case measure => simp [intOf]; omega
      · have te : (e2 != 0) = true := by simpa using he2
        have hst := HST.out
        rw [HBAD.out he2, if_neg (by simp), if_neg he2] at hst
        have HST2 := hid hst; clear hst HST HBAD he2
        go_wp2
        go_ret2
        rw [HR.out, HST2.out, finF_none]
        exact ⟨HRW5.out, HU5.out, _, fun _ => False, .inl ⟨rfl, rfl⟩⟩
    · obtain rfl : cnt = ns.length := by omega
      have hrd := HRD.out
      rw [Nat.sub_self] at hrd
      have hrd2 : r = (some ns, a, e) := hrd
      have HRD2 := hid hrd2; clear hrd hrd2 HRD
      have hpla := refPath_any R w.heap.size L (paths ns) ((ns.length : Nat) : Int) wr HDW.out (by rw [paths_len]; omega)
      have hpu2 : pathR (paths ns) ((ns.length : Nat) : Int) = pathOf ns ns.length := link_pathN ns.length (Nat.le_refl _)
      unfold pathR at hpu2
      unfold RefPathPost at hpla
      rw [hpu2, if_neg (show ¬ (((ns.length : Nat) : Int) < 0 ∨ ((paths ns).length : Int) < ((ns.length : Nat) : Int)) by rw [paths_len]; omega)] at hpla
      have hlp := last_pos HOK.out.ok.inv
      have hfs := fun h0 h => finF_short (L := L) (ns := ns) (a := a) (e := e) h0 h
      have hfe := fun h he => finF_err (L := L) (ns := ns) (a := a) (e := e) h he
      have hfo := fun h => finF_ok (L := L) (ns := ns) (a := a) h
      have hpl2 := path_len_le HOK.out.ok.inv ns.length (Nat.le_refl _)
      generalize pathOf ns ns.length = last at *
      have HPLA := hid hpla; have HFS := hid hfs; have HFE := hid hfe; have HFO := hid hfo
      clear hpla hpu2 hfs hfe hfo
      have ce := HRW.out.cellE
      go_wp2_with fail
      refine HPLA.out.mono ?_
      rintro en w5 ⟨vl, rfl, hsl, rfl⟩
      obtain ⟨Al, cl, rfl, hcl1, hcl2⟩ := hsl.formS
      unfold maxLen at hcl2
      clear hsl HPLA
      have h3w : (last.length = 0) ∨ (0 < last.length ∧ ¬ (last.length : Int) < L) ∨ (0 < last.length ∧ (last.length : Int) < L) := by omega
      rcases h3w with h0 | ⟨h0, hs⟩ | ⟨h0, hs⟩
      case' inr.inr =>
        have HFN := hid (HFS.out (hlp.1 h0) hs)
        have HBD := hid (refReadBad_any B p l a e wr HRW.out)
        clear ce
        go_wp2_with fail
        refine HBD.out.mono ?_
        rintro en w6 ⟨rfl, hrw6, hu6⟩
        have ce6 := hrw6.cellE
        have HRW6 := hid hrw6; have HU6 := hid hu6; clear hrw6 hu6
        have hne : (if e = 0 then (2 : Int) else e) ≠ 0 := by split <;> omega
        have HFN2 := hid (HRD2.out ▸ HFN.out)
        clear HFN HBD
        generalize (if e = 0 then (2 : Int) else e) = e' at *
        have hne' : (e' == 0) = false := by simpa using hne
        go_wp2
        go_quiet (fail)
        go_wp2
        go_ret2
        rw [HR.out, HFN2.out]
        exact ⟨HRW6.out.qu ⟨_, rfl⟩, (HU.out.trans HU6.out).qu ⟨_, rfl⟩, _, fun _ => False, .inl ⟨rfl, rfl⟩⟩
      all_goals
        have hns : ¬ (0 < ns.length ∧ (last.length : Int) < L) := by omega
        have HNS := hid hns; clear hns
        by_cases he : e = 0
        · subst he
          have HFN := hid (HFO.out HNS.out)
          go_wp2
          go_quiet (fail)
          go_wp2
          go_ret2
          rw [HR.out, HRD2.out, HFN.out]
          exact ⟨HRW.out.qu ⟨_, rfl⟩, HU.out.qu ⟨_, rfl⟩, _, R, .inr ⟨ns, rfl, HOK.out, rfl, HDW.out.below (below_drewN (Below.refl _ _) _), HG.out⟩⟩
        · have HFN := hid (HFE.out HNS.out he)
          have hne' : (e == 0) = false := by simpa using he
          clear he
          go_wp2
          go_quiet (fail)
          go_wp2
          go_ret2
          rw [HR.out, HRD2.out, HFN.out]
          exact ⟨HRW.out.qu ⟨_, rfl⟩, HU.out.qu ⟨_, rfl⟩, _, fun _ => False, .inl ⟨rfl, rfl⟩⟩
theorem refReadD_any (B p : Nat) (l : List UInt8) (a : Nat) (e L : Int) (w : World) (h : RW w B p l a e) (hl : l.length ≤ 1000000) :
    Calls Try.prog 24 #[.pointer (some ⟨p, 0, none⟩), .int .i64 L] w (RefReadDPost (readD L l a e) B p l L w) := by
  by_cases hL : L < 1 ∨ 3 < L
  · exact refReadD_out B p l a e L w h hL
  · exact refReadD_in B p l a e L w h (by omega) (by omega) hl
end Go.Proofs.Ytbledkffkckjbaa
