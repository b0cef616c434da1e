/- 2 texts of this claim, in build order. -/
import Derived.Test.YtompjcadhodapaaDoorPpnkebffl
import Derived.Test.YtompjcadhodapaaDoorPalffnpbp
import Derived.Test.YtompjcadhodapaaDoorPloiplkkg
/- A fact is appended to facts of one's own (counted apart). -/
namespace Go.Proofs.YtompjcadhodapaaDoor
open Go.ChangeShapes Go.WideShapes Go.ChangeAt Go.RowKit
set_option linter.unusedVariables false
set_option linter.unusedSimpArgs false

theorem CRow.app_n {wa w4 : World} {base n : Nat} {out v' pv vv : Value} {M : List FactX} {f : FactX} {vs : List (Value × Value)} (hn : n = M.length) (h1 : vs.length = M.length) (h2 : wa.ownsRow base 54 2 out n (fvs vs))
    (h3 : ∀ j (h : j < M.length), RowL wa base (vs[j]'(by omega)).1 M[j].1 ∧ wa.ownsRow base 3 1 (vs[j]'(by omega)).2 M[j].2.length (ivals M[j].2))
    (hm : RowL wa base pv f.1) (hi : wa.ownsRow base 3 1 vv f.2.length (ivals f.2))
    (ho : w4.ownsRow base 54 2 v' (n + 1) (fvs vs ++ fv2 (pv, vv))) (hg : wa.grownBy w4 out.ownBlock) : CRow w4 base v' (M ++ [f]) := by
  subst hn
  exact CRow.app h1 h2 h3 hm hi ho hg
end Go.Proofs.YtompjcadhodapaaDoor
/- batch.Read. -/
namespace Go.Proofs.YtompjcadhodapaaDoor
open Go.ChangeShapes Go.WideShapes Go.ChangeAt Go.RowKit
set_option linter.unusedVariables false
set_option linter.unusedSimpArgs false

theorem Upd.over {p B : Nat} {a b c : World} (h : Upd p a b) (k : Below B b c) (hB : a.heap.size ≤ B) : Upd p a c :=
  ⟨k.os.trans h.os, k.tape.trans h.tape, k.output.trans h.output, Nat.le_trans h.size k.size, fun g hg hn => (k.block g (by omega)).trans (h.block g hg hn)⟩
def ReadBPost (r : List FactX × Nat × Int) (B p : Nat) (l : List UInt8) (w : World) (e : Ending) (w' : World) : Prop :=
  ∃ v, e = .returned v ∧ CRow w' w.heap.size v r.1 ∧ RW w' B p l r.2.1 r.2.2 ∧ Upd p w w'
def RdRel (l : List UInt8) (B p : Nat) (w : World) (n : Nat) (T : List FactX × Nat × Int) (out i : Value) (wq : World) : Prop :=
  ∃ (j : Nat) (acc : List FactX) (a : Nat) (e : Int), j ≤ n ∧ i = .int .i64 j ∧ j = acc.length ∧ CRow wq (w.heap.size + 1) out acc ∧ RW wq B p l a e ∧ T = (acc ++ (factsR l (n - j) a e).1, (factsR l (n - j) a e).2) ∧
    wq.cell? ⟨w.heap.size, 0, none⟩ = some (.pointer (some ⟨p, 0, none⟩)) ∧ Upd p w wq
theorem rd_step {l : List UInt8} {n j a : Nat} {e : Int} {acc : List FactX} {T : List FactX × Nat × Int} (hj : j < n) (h : T = (acc ++ (factsR l (n - j) a e).1, (factsR l (n - j) a e).2)) :
    T = ((acc ++ [(factR l a e).1]) ++ (factsR l (n - (j + 1)) (factR l a e).2.1 (factR l a e).2.2).1, (factsR l (n - (j + 1)) (factR l a e).2.1 (factR l a e).2.2).2) := by
  obtain ⟨k, hk⟩ : ∃ k, n - j = k + 1 := ⟨n - j - 1, by omega⟩
  rw [h, hk, show n - (j + 1) = k by omega]
  show (acc ++ ((factR l a e).1 :: _), _) = _
  rw [List.append_assoc]; rfl
set_option maxRecDepth 100000 in
set_option maxHeartbeats 3200000 in
theorem readBt_any (B p : Nat) (l : List UInt8) (a : Nat) (e : Int) (w : World) (h : RW w B p l a e) (hm : MaxL w) (hpm : p ≠ 0) (hll : l.length ≤ 1000000) :
    Calls Tryd.prog 11 #[.pointer (some ⟨p, 0, none⟩)] w (ReadBPost (readB l a e) B p l w) := by
  obtain ⟨i1, hi', hz0', hz1', hz2'⟩ := info_parts info_fact
  have hp := h.lt
  obtain ⟨n, a1, e1, hr1, hn8, -, -⟩ := rInt_in l a e 8 h.2.1
  obtain ⟨T, hT⟩ : ∃ T, T = factsR l n a1 e1 := ⟨_, rfl⟩
  have hrb : readB l a e = (if T.2.2 = 0 then T.1 else [], T.2) := by
    unfold readB
    rw [show ((8 : Int)) = ((8 : Nat) : Int) from rfl, hr1]
    simp only [Int.toNat_natCast]
    rw [hT]
  obtain ⟨W0, hW0⟩ : ∃ W, W = w.alloc (.cells #[.pointer (some ⟨p, 0, none⟩)] 29) := ⟨_, rfl⟩
  have g0 : Below w.heap.size w W0 := by rw [hW0]; exact bl1 _ _
  have z0 : W0.heap.size = w.heap.size + 1 := by rw [hW0]; simp
  have hb0 : W0.cell? ⟨w.heap.size, 0, none⟩ = some (.pointer (some ⟨p, 0, none⟩)) := by rw [hW0]; simp [go_sem]
  have hrw0 : RW W0 B p l a e := h.keep (g0.mono (by omega))
  have HI := hid (readInt_any B p l a e 0 8 W0 hrw0)
  rw [show ((8 : Int)) = ((8 : Nat) : Int) from rfl, hr1] at HI
  have HW0 := hid hW0; have HRB := hid hrb; have HM := hid hm; have HT := hid hT; have U0 := hid (Upd.of_below (p := p) g0)
  have hb0' := hb0
  rw [hW0] at hb0'
  clear hW0 hrb hm hr1 h hrw0 g0 hT
  go_enter Tryd.func11, Tryd.ntmps11
  go_wp2_with fail
  rw [← HW0.out]
  refine HI.out.mono ?_
  rintro en w1 ⟨rfl, hrw1, hu1⟩
  have hb1 : w1.cell? ⟨w.heap.size, 0, none⟩ = some (.pointer (some ⟨p, 0, none⟩)) := hu1.cellAt (by omega) (by omega) hb0
  have RW1 := hid hrw1; have U1 := hid (U0.out.trans hu1)
  clear hu1 hrw1 hb0 hb0'
  go_wp2
  go_loopw [4, 10] (fun out i wq => RdRel l B p w n T out i wq) (fun _ i _ => n - (intOf i).toNat)
  case atStart => exact ⟨0, [], a1, e1, by omega, rfl, rfl, CRow.nil_ _ _, RW1.out, by rw [HT.out]; simp, hb1, U1.out⟩
  case round =>
    clear hb1 RW1 U1
    obtain ⟨j, acc, a2, e2, hj, rfl, hjl, hrow, hrw, hTT, hbw, hu⟩ := hrel
    have HRW := hid hrw; have HTT := hid hTT; have HJL := hid hjl; have HRC := hid hrow; have HU := hid hu
    have zs := hu.size
    have hbl := World.block_lt_of_cell? wr _ hbw
    obtain ⟨vs, hv1, hv2, hv3⟩ := hrow
    rw [← hjl] at hv2
    obtain ⟨Ao, co, rfl⟩ := own_formB hv2
    clear hrw hTT hjl hu hv1 hv2 hv3
    by_cases hlt : j < n
    · have HON := hid (one_any B p w.heap.size l a2 e2 wr HRW.out hbw (by omega) (HM.out.upd HU.out hpm) hpm hll)
      have HST := hid (rd_step hlt HTT.out)
      generalize factR l a2 e2 = r at *
      obtain ⟨f, a3, e3⟩ := r
      unfold OnePost at HON
      simp only at HON HST
      go_wp2_with fail
      refine HON.out.mono ?_
      rintro en w2 ⟨pv, vv, rfl, hpv, hvv, hrw2, hu2⟩
      have HPV := hid hpv; have HVV := hid hvv; have RW2 := hid hrw2; have U2 := hid hu2
      have z2 := hu2.size
      obtain ⟨pvs, -, hp2, -⟩ := hpv
      obtain ⟨Ap, cp, rfl⟩ := own_formB hp2
      obtain ⟨Av, cv, rfl⟩ := own_formB hvv
      have hb2 : w2.cell? ⟨w.heap.size, 0, none⟩ = some (.pointer (some ⟨p, 0, none⟩)) := hu2.cellAt (by omega) (by omega) hbw
      have RC2 := hid (HRC.out.keepT (fun _ => KeepT.of_upd hu2 (by omega)))
      clear hvv hrw2 hu2 hp2
      obtain ⟨Wa, hWa⟩ : ∃ W, W = w2.alloc (.cells #[.slice Ap f.1.length cp, .slice Av f.2.length cv] 54) := ⟨_, rfl⟩
      have ba : Below w2.heap.size w2 Wa := by rw [hWa]; exact bl1 _ _
      have za : Wa.heap.size = w2.heap.size + 1 := by rw [hWa]; simp
      obtain ⟨mvs, hm1, hm2, hm3⟩ := RC2.out.on ba
      have hm2' := hm2
      rw [← HJL.out] at hm2'
      have hpva := (HPV.out.stays ba).less (show w.heap.size + 1 ≤ wr.heap.size by omega)
      have hvva := own_lessQ (own_stays HVV.out ba) (show w.heap.size + 1 ≤ wr.heap.size by omega)
      have HSRC := hid (show Src Tryd.prog 2 22 (.slice (some ⟨w2.heap.size, 0, none⟩) 1 1) 1 (fv2 (.slice Ap f.1.length cp, .slice Av f.2.length cv)) Wa from by
        rw [hWa]
        exact Src.ofSlice _ Tryd.underlying22 _ 1 1 _ rfl (cell2_new _ _ _ _ rfl) (by simp [fv2]; exact ⟨rfl, rfl⟩))
      have HWA := hid hWa; have HM3 := hid hm3; have HPA := hid hpva; have HVA := hid hvva; have BA := hid ba
      clear hWa ba hm2 hm3 hpva hvva hbw
      go_wp2_with (at_builtin; refine stop_here ?_)
      refine go_on ?_
      rw [← HWA.out]
      refine app_own_at (.tmp 12) (.tmp 15) 22 22 rfl rfl (w.heap.size + 1) 54 i1 (.agg #[.slice none 0 0, .slice none 0 0]) 2 48 Tryd.underlying22 hi' hz0' hz1' hz2' rfl (by decide) _ j (fvs mvs) rfl hm2' (.slice (some ⟨w2.heap.size, 0, none⟩) 1 1) 1 _ rfl HSRC.out (by simp only [maxLen]; omega) (by omega) (by omega) ?_
      intro v' w7 ho' hg' hb7 hat'
      have hrow' := CRow.app_n (f := f) HJL.out hm1 hm2' HM3.out HPA.out HVA.out ho' hg'
      have b27 : Below (w.heap.size + 1) w2 w7 := (BA.out.mono (by omega)).trans hb7
      have HNX := hid (show RdRel l B p w n T v' (.int .i64 ((j : Int) + 1)) w7 from
        ⟨j + 1, _, a3, e3, by omega, by go_num, by rw [List.length_append, ← HJL.out]; rfl, hrow', RW2.out.keep (b27.mono (by omega)), HST.out, cellK b27 (by omega) hb2, (HU.out.trans U2.out).over b27 (by omega)⟩)
      clear ho' hg' hb7 hat' hrow' hm2' b27 hb2
      go_wp2
      go_roundw
      case rel => exact HNX.out
      case measure => simp [intOf]; omega
    · obtain rfl : j = n := by omega
      have hTe : T = (acc, a2, e2) := by rw [HTT.out, Nat.sub_self]; simp [factsR]
      have HRB2 := hid (show readB l a e = (if e2 = 0 then acc else [], a2, e2) by rw [HRB.out, hTe])
      have HFA := hid (readFailed_any B p l a2 e2 wr HRW.out)
      clear hTe
      go_wp2_with fail
      refine HFA.out.mono ?_
      rintro en w2 ⟨rfl, hq2⟩
      have RW2 := hid (HRW.out.qu hq2); have U2 := hid (HU.out.trans (Upd.of_below (hq2.below wr.heap.size)))
      have RC2 := hid ((HRC.out.on (hq2.below wr.heap.size)).less (show w.heap.size ≤ w.heap.size + 1 by omega))
      clear hq2
      by_cases he : e2 = 0
      · have HR3 := hid (show readB l a e = (acc, a2, e2) by rw [HRB2.out, if_pos he])
        have t1 : (e2 != 0) = false := by simp [he]
        clear he
        go_wp2
        go_ret
        rw [HR3.out]
        exact ⟨_, rfl, RC2.out, RW2.out, U2.out⟩
      · have HR3 := hid (show readB l a e = ([], a2, e2) by rw [HRB2.out, if_neg he])
        have t1 : (e2 != 0) = true := by simpa using he
        clear he
        go_wp2
        go_ret
        rw [HR3.out]
        exact ⟨_, rfl, CRow.nil_ _ _, RW2.out, U2.out⟩
end Go.Proofs.YtompjcadhodapaaDoor
