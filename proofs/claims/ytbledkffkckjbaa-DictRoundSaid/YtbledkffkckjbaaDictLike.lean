/- The laws' helpers of layer 7: pick, ints, like. -/
import Derived.Test.YtbledkffkckjbaaDictLaw
import Derived.Test.YtbledkffkckjbaaReads
import Derived.BigQuiet
import Derived.Deep.QuietTactic
namespace Go.Proofs.Ytbledkffkckjbaa
open Go.ChangeShapes Go.WideShapes Go.ChangeAt Go.RowKit Go.Maps
set_option linter.unusedVariables false

/-- Both dictionaries hold the same, each in blocks of its own from B on. -/
def BothW (w : World) (B : Nat) (D R : Nat → Prop) (d r : Nat) (L : Int) (ns : List DNode) : Prop :=
  DictW w D d L ns ∧ RefW w R r L (paths ns) ∧ DOk ns ∧ (∀ k, D k → ¬ R k) ∧ (∀ k, D k → B ≤ k) ∧ (∀ k, R k → B ≤ k)
theorem BothW.below {w w' : World} {B : Nat} {D R : Nat → Prop} {d r : Nat} {L : Int} {ns : List DNode} (h : BothW w B D R d r L ns) (hb : Below w.heap.size w w') : BothW w' B D R d r L ns :=
  ⟨h.1.below hb, h.2.1.below hb, h.2.2⟩
def pickN (c n : Int) : Int := (if c < 0 then -(c + 1) else c) % n
theorem pickN_in (c n : Int) (hn : 0 < n) : 0 ≤ pickN c n ∧ pickN c n < n := ⟨Int.emod_nonneg _ (by omega), Int.emod_lt_of_pos _ hn⟩
theorem pick_any (c n : Int) (w : World) (hc : InI64 c) (hn : 0 < n) (hn2 : n ≤ 1000) : Calls Try.prog 27 #[.int .i64 c, .int .i64 n] w (Stays (.int .i64 (pickN c n)) w) := by
  obtain ⟨hc1, hc2⟩ := hc
  have hp : pickN c n = (if c < 0 then -(c + 1) else c) % n := rfl
  by_cases h0 : c < 0
  · rw [if_pos h0] at hp
    rw [hp]; clear hp
    have h1 := Int.tmod_eq_emod_of_nonneg (a := -(c + 1)) (b := n) (by omega)
    have h2 := Int.emod_nonneg (-(c + 1)) (show n ≠ 0 by omega)
    have h3 := Int.emod_lt_of_pos (-(c + 1)) hn
    go_enter Try.func27, Try.ntmps27
    go_wp2
    go_ret
    exact ⟨rfl, Qu.refl _⟩
  · rw [if_neg h0] at hp
    rw [hp]; clear hp
    have h1 := Int.tmod_eq_emod_of_nonneg (a := c) (b := n) (by omega)
    have h2 := Int.emod_nonneg c (show n ≠ 0 by omega)
    have h3 := Int.emod_lt_of_pos c hn
    go_enter Try.func27, Try.ntmps27
    go_wp2
    go_ret
    exact ⟨rfl, Qu.refl _⟩
/-- Two lists of the same numbers are the same. -/
theorem ints_yes (v x : Value) (l : List Nat) (w : World) (hv : Sl w w.heap.size v (nvals l)) (hx : Sl w w.heap.size x (nvals l)) (hl : l.length ≤ 1000) :
    Calls Try.prog 16 #[v, x] w (Stays (.bool true) w) := by
  obtain ⟨A, c, rfl, hc1, hc2, hA⟩ := hv
  obtain ⟨A', c', rfl, hc1', hc2', hA'⟩ := hx
  simp only [nvals_len] at hc1 hc1' hA hA' ⊢
  have HA := hid hA; have HA' := hid hA'
  clear hA hA'
  go_enter Try.func16, Try.ntmps16
  go_wp2
  go_loopw [5] (fun i wr => ∃ k : Nat, i = .int .i64 k ∧ k ≤ l.length ∧ Qu w wr) (fun i _ => l.length - (intOf i).toNat)
  case atStart => exact ⟨0, rfl, by omega, Qu.refl _⟩
  case round =>
    obtain ⟨k, rfl, hk, hq⟩ := hrel
    by_cases hlt : k < l.length
    · obtain ⟨b, off, rfl, hbl, hcell⟩ := HA.out (by omega)
      obtain ⟨b', off', rfl, hbl', hcell'⟩ := HA'.out (by omega)
      have q1 : wr.cell? ⟨b, off + k, none⟩ = some (.int .i64 (l[k] : Int)) := (hq.cell _).trans (hcell k _ (by simp [nvals, List.getElem?_eq_getElem hlt]))
      have q2 : wr.cell? ⟨b', off' + k, none⟩ = some (.int .i64 (l[k] : Int)) := (hq.cell _).trans (hcell' k _ (by simp [nvals, List.getElem?_eq_getElem hlt]))
      generalize l[k] = x at *
      clear hcell hcell'
      go_wp2
      go_quiet (fail)
      go_wp2
      go_roundw
      case rel => exact ⟨k + 1, by go_num, by omega, hq.drewN _⟩
      case measure => simp [intOf]; omega
    · obtain rfl : k = l.length := by omega
      go_wp2
      go_ret
      exact ⟨rfl, hq⟩
theorem path_small {ns : List DNode} (h : DOk ns) (c : Int) : StrOk (pathDR ns c).1 ∧ (pathDR ns c).1.length ≤ 1000 := by
  unfold pathDR
  by_cases hc : c < 0 ∨ (ns.length : Int) < c
  · rw [if_pos hc]; exact ⟨by intro s hs; simp at hs, by simp⟩
  · rw [if_neg hc]
    have := h.len
    refine ⟨fun s hs => ?_, ?_⟩
    · have := (path_names h c.toNat (by omega) s hs).2.1
      omega
    · have := path_len_le h.inv c.toNat (by omega)
      show (pathOf ns c.toNat).length ≤ 1000
      omega
theorem putDR_len {ns : List DNode} (h : DOk ns) : (putDR ns).length ≤ 10000 := by
  have h1 : ∀ l : List DNode, (∀ x ∈ l, x.2.size ≤ 12) → (l.flatMap itemD).length ≤ l.length * 100 := by
    intro l hl
    induction l with
    | nil => simp
    | cons x l ih =>
      have := ih (fun y hy => hl y (List.mem_cons_of_mem _ hy))
      have := itemD_len x (hl x List.mem_cons_self)
      simp only [List.flatMap_cons, List.length_append, List.length_cons]; omega
  have h2 := h1 ns (fun x hx => (h.small x hx).2)
  have h3 := putInt_le ((ns.length : Nat) : Int)
  have h4 := h.len
  unfold putDR
  rw [List.length_append]; omega
set_option maxRecDepth 100000 in
set_option maxHeartbeats 1600000 in
theorem like_any (B : Nat) (D R : Nat → Prop) (d r : Nat) (L : Int) (ns : List DNode) (w : World) (h : BothW w B D R d r L ns) :
    Calls Try.prog 11 #[.pointer (some ⟨d, 0, none⟩), .pointer (some ⟨r, 0, none⟩)] w (Gives (.bool true) w) := by
  have hlen := h.2.2.1.len
  obtain ⟨A, c, h5, hc1, hc2, -⟩ := h.2.1.row
  rw [paths_len] at h5 hc1
  unfold maxLen at hc2
  have hr := h.2.1.2.1 r h.2.1.1
  have hd := h.1.2.1 d h.1.1
  have HLN := hid (fun W (hq : Qu w W) => lenD_any D d L ns W (h.1.below (hq.below _)))
  have HP := hid (fun c W (hb : Below w.heap.size w W) => pathD_any D d L ns c W (h.1.below hb) h.2.2.1.inv (by omega))
  have HRP := hid (fun c W (hb : Below w.heap.size w W) => refPath_any R r L (paths ns) c W (h.2.1.below hb) (by rw [paths_len]; omega))
  have HU := hid (fun c k W (hb : Below w.heap.size w W) => upD_any D d L ns c k W (h.1.below hb) h.2.2.1.inv (by omega))
  have HRU := hid (fun c k W (hb : Below w.heap.size w W) => refUp_any R r L (paths ns) c k W (h.2.1.below hb) (by rw [paths_len]; omega))
  have HC := hid (fun v p W (hb : Below w.heap.size w W) hv hs hpl => codeD_any D d L ns v p W (h.1.below hb) h.2.2.1.inv (by omega) hv hs hpl)
  have HRC := hid (fun v p W (hb : Below w.heap.size w W) hv => refCode_any R r L (paths ns) v p W (h.2.1.below hb) (by rw [paths_len]; omega) hv)
  have HPU := hid (fun W (hb : Below w.heap.size w W) => putDict_any D d L ns (.slice none 0 0) [] W (h.1.below hb) (by omega) h.2.2.1.small Sl.nil_ (by simp))
  have HRPU := hid (fun W (hb : Below w.heap.size w W) => refDPut_any R r L (paths ns) (.slice none 0 0) [] W (h.2.1.below hb) (by rw [paths_len]; omega) (plok h.2.2.1) Sl.nil_ (by simp))
  have HOK := hid h.2.2.1
  have HPL := hid (putDR_len h.2.2.1)
  have t0 : (((ns.length : Nat) : Int) != (ns.length : Int)) = false := by simp
  clear h
  go_enter Try.func11, Try.ntmps11
  go_wp2
  go_quiet ((go_at_call 19; exact Calls.quiet_of (HLN.out _ ⟨_, rfl⟩)))
  go_wp2
  go_loopw [5] (fun i wr => ∃ c : Nat, i = .int .i64 ((c : Int) - 1) ∧ c ≤ ns.length + 3 ∧ Below w.heap.size w wr) (fun i _ => ns.length + 10 - (intOf i + 1).toNat)
  case atStart => exact ⟨0, rfl, by omega, (by repeat' first | with_reducible exact Below.refl _ _ | assumption | (with_reducible refine Below.alloc ?_ ?_ _) | (with_reducible refine Below.setCell ?_ ?_ _) | (with_reducible refine Below.drew ?_) | (with_reducible refine below_drewN ?_ _) | (with_reducible refine Below.trans ?_ (Below.mono ‹_› ?_)) | omega | (with_reducible refine le_alloc ?_) | (with_reducible refine le_setCell ?_) | (with_reducible refine le_drew ?_) | (with_reducible refine le_drewN ?_) | (with_reducible refine Nat.le_trans ?_ (Below.size ‹_›)) | (simp <;> omega))⟩
  case round =>
    obtain ⟨cN, rfl, hcN, hb⟩ := hrel
    have h5' := cellK hb hr h5
    have HB := hid hb; clear hb
    by_cases hlt : cN < ns.length + 3
    · generalize hC : (cN : Int) - 1 = C at *
      have hC0 : -1 ≤ C ∧ C ≤ ns.length + 1 := by omega
      obtain ⟨hp1, hp2⟩ := link_path ns C
      have hps := path_small HOK.out C
      generalize hpd : pathDR ns C = pd at *
      obtain ⟨p, pe⟩ := pd
      simp only at hp1 hp2 hps
      have hk := link_code HOK.out.inv p
      generalize hcd : codeDR ns p = cd at *
      obtain ⟨cx, ce⟩ := cd
      have HC1 := hid hp1; have HC2 := hid hp2; have HPS := hid hps; have HPD := hid hpd; have HK := hid hk; have HCD := hid hcd; have HCC := hid hC; clear hp1 hp2 hps hpd hk hcd hC
      go_wp2_with fail
      refine (HP.out C _ HB.out).mono ?_
      rw [HPD.out]
      rintro e w1 ⟨v1, rfl, hown1, hb1⟩
      have S1 := hid (Sl.of_own hown1); have B1 := hid (HB.out.trans (hb1.mono HB.out.size)); clear hown1 hb1
      go_wp2_with fail
      refine (HRP.out C _ B1.out).mono ?_
      rintro e w2 ⟨v2, rfl, hv2, rfl⟩
      rw [HC2.out]
      have hv2' : Sl w1 w1.heap.size v2 (svals (pathR (paths ns) C)) := hv2
      rw [HC1.out] at hv2'
      have S2 := hid hv2'; clear hv2 hv2'
      go_wp2_with fail
      refine (sameS_any v1 v2 p p w1 S1.out S2.out).mono ?_
      rintro e w3 ⟨rfl, hq3⟩
      rw [decide_eq_true (rfl : p = p)]
      have B3 := hid (B1.out.trans (hq3.below w.heap.size))
      have S3 : Hid (Sl w3 w3.heap.size v2 (svals p)) := hid (by have := S2.out.qu' hq3; rwa [Qu.size hq3]); clear hq3
      have t1 : (pe != pe) = false := by simp
      go_wp2
      clear hcN hlt
      go_loopw [11] (fun i wq => ∃ k : Nat, i = .int .i64 ((k : Int) - 1) ∧ k ≤ 6 ∧ Below w3.heap.size w3 wq) (fun i _ => 10 - (intOf i + 1).toNat)
      case atStart => exact ⟨0, rfl, by omega, Below.refl _ _⟩
      case round =>
        obtain ⟨kN, rfl, hkN, hb4⟩ := hrel
        have HB4 := hid hb4; clear hb4
        by_cases hlt2 : kN < 6
        · generalize hK2 : (kN : Int) - 1 = K2 at *
          have hK0 : -1 ≤ K2 ∧ K2 ≤ 4 := by omega
          have hu := link_up HOK.out.inv C K2
          generalize hud : upDR ns C K2 = ud at *
          obtain ⟨ux, ue⟩ := ud
          have B4 := hid (B3.out.trans (HB4.out.mono B3.out.size))
          have HU1 := hid hu; have HU2 := hid hud; have HKK := hid hK2; clear hu hud hK2
          go_wp2_with fail
          refine (HU.out C K2 _ B4.out).mono ?_
          rw [HU2.out]
          rintro e w5 ⟨rfl, hb5⟩
          have B5 := hid (B4.out.trans (hb5.mono B4.out.size))
          have B5' := hid (HB4.out.trans (hb5.mono HB4.out.size)); clear hb5
          go_wp2_with fail
          refine (HRU.out C K2 _ B5.out).mono ?_
          rw [HU1.out]
          rintro e w6 ⟨rfl, hq6⟩
          have B6 := hid (B5'.out.trans (hq6.below w3.heap.size)); clear hq6
          have t2 : (ux != ux) = false := by simp
          have t3 : (ue != ue) = false := by simp
          go_wp2
          go_roundw
          case rel => exact ⟨kN + 1, by rw [← HKK.out]; go_num, by omega, B6.out⟩
          case measure => have := HKK.out; simp [intOf]; omega
        · obtain rfl : kN = 6 := by omega
          have B4 := hid (B3.out.trans (HB4.out.mono B3.out.size))
          have S4 := hid ((S3.out.below HB4.out).more HB4.out.size)
          go_wp2_with fail
          refine (HC.out v2 p _ B4.out S4.out HPS.out.1 (by have := HPS.out.2; omega)).mono ?_
          rw [HCD.out]
          rintro e w5 ⟨rfl, hb5⟩
          have B5 := hid (B4.out.trans (hb5.mono B4.out.size))
          have S5 := hid ((S4.out.below hb5).more hb5.size); clear hb5
          go_wp2_with fail
          refine (HRC.out v2 p _ B5.out S5.out).mono ?_
          rw [HK.out]
          rintro e w6 ⟨rfl, hq6⟩
          have B6 := hid (B5.out.trans (hq6.below w.heap.size)); clear hq6
          have t2 : (cx != cx) = false := by simp
          have t3 : (ce != ce) = false := by simp
          go_wp2
          go_roundw
          case rel => exact ⟨cN + 1, by have := HCC.out; rw [← this]; go_num, by have := HCC.out; omega, B6.out⟩
          case measure => have := HCC.out; simp [intOf]; omega
    · obtain rfl : cN = ns.length + 3 := by omega
      go_wp2_with fail
      refine (HPU.out _ HB.out).mono ?_
      rintro e w1 ⟨v1, rfl, hs1, hb1⟩
      have S1 := hid hs1; have B1 := hid (HB.out.trans (hb1.mono HB.out.size)); clear hs1 hb1
      go_wp2_with fail
      refine (HRPU.out _ B1.out).mono ?_
      rintro e w2 ⟨v2, rfl, hs2, hb2⟩
      have S2 := hid hs2; have B2 := hid (B1.out.trans (hb2.mono B1.out.size)); have S1' := hid ((S1.out.below hb2).more hb2.size); clear hs2 hb2
      rw [link_put HOK.out.inv] at S2
      go_wp2_with fail
      refine (same_any v1 v2 _ _ w2 ?_ ?_ S1'.out S2.out).mono ?_
      · have := HPL.out; simp only [List.nil_append]; omega
      · have := HPL.out; simp only [List.nil_append]; omega
      rintro e w3 ⟨rfl, hq3⟩
      rw [decide_eq_true (rfl : _ = _)]
      go_wp2
      go_ret
      exact ⟨rfl, B2.out.trans (hq3.below _)⟩
end Go.Proofs.Ytbledkffkckjbaa
