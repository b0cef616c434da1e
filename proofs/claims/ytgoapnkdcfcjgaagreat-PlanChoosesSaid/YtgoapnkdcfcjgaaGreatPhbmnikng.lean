/- 4 texts of this claim, in build order. -/
import Derived.Test.YtgoapnkdcfcjgaaGreatPeaeeijbd
import Derived.Test.YtgoapnkdcfcjgaaGreatPpdgcmpbc
import Derived.Test.YtgoapnkdcfcjgaaGreatPgkcfdhab
import Derived.Test.YtgoapnkdcfcjgaaGreatPccebdibo
import Derived.Test.YtgoapnkdcfcjgaaGreatPcmbnjpje
import Derived.Test.YtgoapnkdcfcjgaaGreatPfehlkdpg
import Derived.Test.YtgoapnkdcfcjgaaGreatPcmncjimi
import Derived.Test.YtgoapnkdcfcjgaaGreatPanajldfl
set_option linter.unusedVariables false
set_option linter.unusedSimpArgs false
namespace Go.Proofs.YtgoapnkdcfcjgaaGreat
open Go.ChangeShapes Go.WideShapes Go.ChangeAt Go.RowKit
set_option maxRecDepth 100000 in
set_option maxHeartbeats 1600000 in
theorem zfv (v x : Value) (s : ze) (q : zX) (w : World) (hv : zD w w.heap.size v s) (hx : zaH w w.heap.size x q) (hl : s.1.length <= 1000) (hq : q.1.length <= 1000) :
  Calls Tryz.prog 10 #[v, x] w (CovP (covX s q) w) := by
 obtain ⟨i0, hi, hz0, hz1, hz2⟩ := info_parts zaE
 have hv0 := hv; have hx0 := hx
 obtain ⟨A1, c1, A2, c2, A3, c3, rfl, -, -, -⟩ := hv
 obtain ⟨X1, d1, X2, d2, rfl, -, -⟩ := hx
 obtain ⟨W1, hW1⟩ : ∃ W, W = (w.alloc (.cells #[.slice A1 s.1.length c1, .slice A2 s.2.1.length c2, .slice A3 s.2.2.length c3] 26)).alloc (.cells #[.slice X1 q.1.length d1, .slice X2 q.2.length d2] 30) := ⟨_, rfl⟩
 obtain ⟨H, hH⟩ : ∃ H, H = w.heap.size := ⟨_, rfl⟩
 have g1 : Below H w W1 := by rw [hW1, hH]; exact (bl1 w _).alloc (by simp) _
 have z1 : W1.heap.size = H + 1 + 1 := by rw [hW1, hH]; simp
 have q0 : W1.cell? ⟨H, 0, none⟩ = some (.slice A1 s.1.length c1) := by rw [hW1, hH]; simp [go_sem]
 have q1 : W1.cell? ⟨H, 1, none⟩ = some (.slice A2 s.2.1.length c2) := by rw [hW1, hH]; simp [go_sem]
 have q2 : W1.cell? ⟨H, 2, none⟩ = some (.slice A3 s.2.2.length c3) := by rw [hW1, hH]; simp [go_sem]
 have q3 : W1.cell? ⟨H + 1, 0, none⟩ = some (.slice X1 q.1.length d1) := by rw [hW1, hH]; simp [go_sem]
 have q4 : W1.cell? ⟨H + 1, 1, none⟩ = some (.slice X2 q.2.length d2) := by rw [hW1, hH]; simp [go_sem]
 rw [<- hH] at hv0 hx0
 have HN := hid (zjS _ _ s q W1 ((hv0.below g1).more (by omega)) ((hx0.below g1).more (by omega)) hl)
 have HND := hid (fun (W : World) (hb : Below H w W) (hz : H <= W.heap.size) (h0 : mayQ s q = 0) => zjp (.agg #[.slice X1 q.1.length d1, .slice X2 q.2.length d2]) q W ((hx0.below hb).more hz) hq (fun f hf => (zkI h0 f hf).1))
 have HVW := hid (fun (W : World) (hb : Below H w W) (hz : H <= W.heap.size) (hms : mayS s = true) => zcB (.agg #[.slice A1 s.1.length c1, .slice A2 s.2.1.length c2, .slice A3 s.2.2.length c3]) s W ((hv0.below hb).more hz) hl (by have := (zaj hms).1; omega))
 have HVI := hid (zkP hv0)
 have HNI := hid (zmY hx0)
 have HVL := hid (fun (hms : mayS s = true) => show (zh s).length <= 1000 by unfold zh; rw [List.length_cons]; have := (zaj hms).1; omega)
 have HMS := hid (fun (h : mayQ s q = 0) => (zeP h).1)
 have HW1 := hid hW1; have G1 := hid g1; have HH := hid hH; have Z1 := hid z1
 have HRY := hid (fun (h : mayQ s q = 0) => show covX s q = (zb8 (zh s) (zaP q) (zh s).length, 0) from if_pos h)
 have HRN := hid (fun (h : mayQ s q ≠ 0) => show covX s q = ([], mayQ s q) from if_neg h)
 generalize covX s q = R at *
 unfold CovP
 rw [<- hH]
 clear hv0 hx0 hW1 g1 hH z1
 generalize mayQ s q = mq at *
 generalize zaP q = need at *
 generalize s.2.2.length = n3 at *
 generalize s.1.length = n1 at *
 generalize s.2.1.length = n2 at *
 generalize q.1.length = m1 at *
 generalize q.2.length = m2 at *
 go_enter Tryz.func10, Tryz.ntmps10
 go_upto_region 1 with (fail)
 rw [<- HW1.out, <- HH.out]
 go_wp2_with fail
 (with_reducible refine HN.out.mono ?_)
 rintro e w2 ⟨rfl, hb2⟩
 have hlt : H < W1.heap.size := by rw [Z1.out]; omega
 have hlt2 : H + 1 < W1.heap.size := by rw [Z1.out]; omega
 by_cases hmq : mq = 0
 ·subst hmq
  have HMS9 := hid (HMS.out (Eq.refl (0 : Int)))
  have k0 := zc hb2 hlt q0; have k1 := zc hb2 hlt q1; have k2 := zc hb2 hlt q2
  have k3 := zc hb2 hlt2 q3; have k4 := zc hb2 hlt2 q4
  have B2 := hid (G1.out.trans (hb2.mono (Nat.le_of_lt hlt)))
  have Z2 := hid (show H + 1 < w2.heap.size from Nat.lt_of_lt_of_le hlt2 hb2.size)
  have HVL2 := hid (HVL.out HMS9.out)
  have HN2 := hid (HND.out w2 B2.out (by have := Z2.out; omega) (by trivial))
  have HRY9 := hid (HRY.out (Eq.refl (0 : Int)))
  clear q0 q1 q2 q3 q4 hb2
  go_wp2_with fail
  (with_reducible refine HN2.out.mono ?_)
  rintro e w3 ⟨r, rfl, hr, hb3⟩
  obtain ⟨Ar, cr, rfl, -, -, -⟩ := zl hr
  have HRD := hid (zaA rfl hr HNI.out)
  have k0 := zc hb3 (show H < w2.heap.size by have := Z2.out; omega) k0; have k1 := zc hb3 (show H < w2.heap.size by have := Z2.out; omega) k1; have k2 := zc hb3 (show H < w2.heap.size by have := Z2.out; omega) k2
  have B3 := hid (B2.out.trans (hb3.mono (by have := Z2.out; omega)))
  have Z3 := hid (show H <= w3.heap.size by have := Z2.out; have := hb3.size; omega)
  have HVV := hid (HVW.out w3 B3.out Z3.out HMS9.out)
  unfold RVwP at HVV
  generalize hvs : zh s = vs at *
  clear hr hb3 hvs k3 k4
  obtain rfl := HRY9.out
  go_wp2_with fail
  (with_reducible refine HVV.out.mono ?_)
  rintro e w4 ⟨rv, rfl, hrv, hb4⟩
  obtain ⟨Av, cv, ev, hcv1, hcv2⟩ := hrv.open_
  simp only [List.cons.injEq, and_true] at ev
  subst ev
  have HRV := hid hrv
  have HRN3 := hid (zm.on HRD.out hb4)
  have B4 := hid (B3.out.trans (hb4.mono Z3.out))
  have Z4 := hid (show H <= w4.heap.size from Nat.le_trans Z3.out hb4.size)
  clear hrv hb4
  go_wp2
  go_loopw [9, 10] (fun out i wr => zlj vs need w4 out i wr) (fun _ i _ => vs.length - (intOf i).toNat)
  case atStart => exact ⟨0, by omega, rfl, World.ownsRow_nil _ _ _ _, Below.refl _ _⟩
  case round =>
   obtain ⟨k, hk, rfl, hown, hb⟩ := hrel
   obtain ⟨Ao, co, rfl⟩ := zu hown
   have HB := hid hb; have HOW := hid hown
   have hs := hb.size
   clear hb hown
   by_cases hlt : k < vs.length
   ·obtain ⟨b, off, AV, cV, rfl, hbl, p0, r0⟩ := zdb (zaw.stays HRV.out HB.out) hlt
    have HC := hid (zhm (.slice AV vs[k].length cV) (.slice Ar need.length cr) vs[k] need wr (zm.more r0 hs) (zm.on HRN3.out HB.out))
    have e1 := zdr vs need k
    rw [List.getD_eq_getElem?_getD, List.getElem?_eq_getElem hlt, Option.getD_some] at e1
    generalize vs[k] = ns at *
    obtain ⟨hnc, hnm⟩ := r0.cap
    have hcl := zgd vs need k
    have hvl := HVL2.out
    have E1 := hid e1; have HCL := hid hcl
    clear e1 r0 hcl
    cases hcb : zak ns need
    ·rw [hcb] at HC E1
     rw [if_neg (by decide)] at E1
     go_wp2_with fail
     (with_reducible refine HC.out.mono ?_)
     rintro e w5 ⟨rfl, hq4⟩
     have HN4 := hid (show zlj vs need w4 _ (.int .i64 ((k : Int) + 1)) w5 from ⟨k + 1, by omega, by go_num, by rw [E1.out]; exact zo HOW.out (fun g hg => (hq4.below wr.heap.size).block g (HOW.out.lt g hg).2), HB.out.trans (hq4.below _)⟩)
     clear hq4
     go_wp2
     go_roundw
     case rel => exact HN4.out
     case measure => simp [intOf]; omega
    ·rw [hcb] at HC E1
     rw [if_pos rfl] at E1
     go_wp2_with fail
     (with_reducible refine HC.out.mono ?_)
     rintro e w5 ⟨rfl, hq4⟩
     have HO4 := hid (zo HOW.out (fun g hg => (hq4.below wr.heap.size).block g (HOW.out.lt g hg).2))
     have HB4 := hid (HB.out.trans (hq4.below _))
     have hs4 := HB4.out.size
     have hcl := HCL.out
     clear hq4
     go_wp2_with (at_builtin; refine zr ?_)
     refine zar ?_
     refine zav (.tmp 35) (.tmp 37) 27 27 rfl rfl w4.heap.size 3 i0 (.int .i64 0) 1 8 Tryz.underlying27 hi hz0 hz1 hz2 rfl (by decide) _ _ _ rfl (HO4.out.alloc _) (.slice (some ⟨w5.heap.size, 0, none⟩) 1 1) 1 (zk [(k : Int)]) rfl (Src.ofSlice _ Tryz.underlying27 _ 1 1 _ rfl (zG _ _ _ rfl) (by simp [zk]; rfl)) (by simp only [maxLen]; omega) (by omega) (by rw [World.size_alloc]; omega) ?_
     intro v' w6 hown' hg' hb'
     have HN5 := hid (show zlj vs need w4 v' (.int .i64 ((k : Int) + 1)) w6 from ⟨k + 1, by omega, by go_num, by rw [E1.out, za0, List.length_append]; exact hown', ((HB4.out.alloc hs4 _).trans hb')⟩)
     clear hown' hg' hb'
     go_wp2
     go_roundw
     case rel => exact HN5.out
     case measure => simp [intOf]; omega
   ·obtain rfl : k = vs.length := by omega
    go_wp2
    go_ret2
    exact ⟨.slice Ao _ co, rfl, zw HOW.out Z4.out, B4.out.trans (HB.out.mono Z4.out)⟩
 ·have B2 := hid (G1.out.trans (hb2.mono (Nat.le_of_lt hlt)))
  obtain rfl := HRN.out hmq
  have hne' : (mq != 0) = true := by simpa using hmq
  have HNE := hid hmq
  clear q0 q1 q2 q3 q4 hb2 hmq
  go_wp2
  go_ret2
  exact ⟨_, rfl, World.ownsRow_nil _ _ _ _, B2.out⟩
end Go.Proofs.YtgoapnkdcfcjgaaGreat
namespace Go.Proofs.YtgoapnkdcfcjgaaGreat
open Go.ChangeShapes Go.WideShapes Go.ChangeAt Go.RowKit Go.Deep
theorem ziQ (a b c d : Nat) : zhv a b c d = true ↔ a < c \/ (a = c /\ b < d) := by
 unfold zhv
 by_cases h : a ≠ c
 ·rw [if_pos h, decide_eq_true_eq]; omega
 ·rw [if_neg h, decide_eq_true_eq]; omega
theorem zgL (vs : List (List Int)) (need : List Int) (k : Nat) : (zbV vs need k).Pairwise (· < ·) := List.Pairwise.filter _ List.pairwise_lt_range
theorem zpZ {n : Nat -> Nat} {L tl : List Nat} (hL : L = 0 :: tl) (hs : L.Pairwise (· < ·)) {k : Nat} (hk : k < tl.length) : zaN n 0 (tl.take (k + 1)) = if n tl[k] < n (zaN n 0 (tl.take k)) then tl[k] else zaN n 0 (tl.take k) := by
 rw [List.take_succ_eq_append_getElem hk, zgy]
 have hm := zh2 n 0 (tl.take k)
 have hlt : zaN n 0 (tl.take k) < tl[k] := by
  subst hL
  rw [List.pairwise_cons] at hs
  rcases List.mem_cons.1 hm with h | h
  ·rw [h]; exact hs.1 _ (List.getElem_mem hk)
  ·have hp := hs.2
   rw [<- List.take_append_drop k tl, List.pairwise_append] at hp
   refine hp.2.2 _ h _ ?_
   rw [List.drop_eq_getElem_cons hk]; exact List.mem_cons_self
 by_cases h : n tl[k] < n (zaN n 0 (tl.take k))
 ·rw [if_pos h, if_pos ((ziQ _ _ _ _).2 (.inl h))]
 ·rw [if_neg h, if_neg (fun h' => by have := (ziQ _ _ _ _).1 h'; omega)]
def CovQ (l : List Int) (c : Int) (w : World) (e : Ending) (w' : World) : Prop := ∃ v, e = .returned (.tuple #[v, .int .i64 c]) /\ w'.ownsRow w.heap.size 3 1 v l.length (zk l) /\ Below w.heap.size w w'
theorem CovQ.of (l : List Int) (c : Int) : CovP (l, c) = CovQ l c := rfl
def BcRel (n : Nat -> Nat) (L tl : List Nat) (W : World) (b c i : Value) (wr : World) : Prop :=
 ∃ k : Nat, k <= L.length /\ i = .int .i64 k /\ ((k = 0 /\ b = .int .i64 (-1) /\ c = .int .i64 0) \/ (∃ j, k = j + 1 /\ b = .int .i64 (zaN n 0 (tl.take j) : Nat) /\ c = .int .i64 (n (zaN n 0 (tl.take j)) : Nat))) /\ Below W.heap.size W wr
set_option maxRecDepth 100000 in
set_option maxHeartbeats 3200000 in
theorem zgO (H b : Nat) (O : Nat -> Prop) (s : ze) (Ls : List zq) (pls : List PlR) (rp : Nat -> Nat) (x : Value) (q : zX) (n : Nat -> Nat) (w : World) (h : R11W w H b O s Ls pls rp) (hm : mayS s = true) (hall : ∀ f ∈ Ls, f.1.length = s.1.length /\ ∀ p ∈ f.1, p.length <= 1000) (hl : Ls.length <= 500) (hH : H <= w.heap.size)
  (hx : zaH w w.heap.size x q) (hq : q.1.length <= 1000) (hn : ∀ v, v < (zh s).length -> (zan s.2.1.length Ls ((zh s).getD v []) Ls.length).2 = 0 /\ (zan s.2.1.length Ls ((zh s).getD v []) Ls.length).1.length = n v) (hnb : ∀ v, n v <= 100000) :
  Calls Tryz.prog 15 #[.pointer (some ⟨b, 0, none⟩), x] w
   (ChoP (if mayQ s q = 0 then (((zaN n 0 (zbV (zh s) (zaP q) (zh s).length).tail : Nat) : Int), 0) else (0, mayQ s q)) w) := by
 obtain ⟨⟨hd1, hd3⟩, -, -⟩ := zaz hm
 obtain ⟨hv6, -⟩ := zaj hm
 have hW := h
 have hx0 := hx
 obtain ⟨X1, d1, X2, d2, rfl, -, -⟩ := hx
 obtain ⟨W0, hW0⟩ : ∃ W, W = w.alloc (.cells #[.slice X1 q.1.length d1, .slice X2 q.2.length d2] 30) := ⟨_, rfl⟩
 have g0 : Below w.heap.size w W0 := by rw [hW0]; exact bl1 _ _
 have z0 : W0.heap.size = w.heap.size + 1 := by rw [hW0]; simp
 have y0 : W0.cell? ⟨w.heap.size, 0, none⟩ = some (.slice X1 q.1.length d1) := by rw [hW0]; simp [go_sem]
 have y1 : W0.cell? ⟨w.heap.size, 1, none⟩ = some (.slice X2 q.2.length d2) := by rw [hW0]; simp [go_sem]
 obtain ⟨ob, ol, -, ⟨S1, S2, S3, s0, s1, s2, hsv⟩, -, -⟩ := h
 obtain ⟨A1, c1, A2, c2, A3, c3, e, -, -, -⟩ := id hsv
 simp only [Value.agg.injEq, Array.mk.injEq, List.cons.injEq, and_true] at e
 obtain ⟨rfl, rfl, rfl⟩ := e
 have hbl := (ol b ob).2
 have s0 := zc g0 hbl s0
 have s1 := zc g0 hbl s1
 have s2 := zc g0 hbl s2
 have hvW : zD W0 W0.heap.size _ s := (hsv.below (g0.mono hH)).more (by omega)
 have HCV := hid (fun W (hq' : Qu W0 W) => zfv _ _ s q W (hvW.on (hq'.below _)) ((hx0.on g0).on (hq'.below _)) (by omega) hq)
 have HVW := hid (fun W (hb : Below w.heap.size w W) (v : Nat) (hv : v < (zh s).length) => zjd H b O s Ls pls rp v W (hW.kept (hb.mono hH) (fun g hg => hb.block g (hW.ol g hg).2)) hm hall hl hv (by have := hb.size; omega))
 have HW0 := hid hW0; have G0 := hid g0; have HNV := hid hn; have HNB := hid hnb
 have HIN := hid (zqW (s := s) (q := q) (by omega))
 have hvn : (zh s).length <= 7 := by unfold zh; rw [List.length_cons]; omega
 clear hW0 g0 hn hnb hvW hx0 hsv hW hall ol
 generalize hr : (if mayQ s q = 0 then (((zaN n 0 (zbV (zh s) (zaP q) (zh s).length).tail : Nat) : Int), (0 : Int)) else (0, mayQ s q)) = r
 have HR := hid hr
 clear hr
 go_enter Tryz.func15, Tryz.ntmps15
 go_upto_region 1 with (fail)
 rw [<- HW0.out]
 by_cases hz : mayQ s q = 0
 ·obtain ⟨tl, htl⟩ := zf8 hz
  have hcx : covX s q = ((0 :: tl).map (fun n : Nat => (n : Int)), 0) := by unfold covX; rw [if_pos hz, zgJ, htl]
  have hsrt := zgL (zh s) (zaP q) (zh s).length
  have hlt : ∀ v ∈ 0 :: tl, v < (zh s).length := fun v hv => by rw [<- htl] at hv; exact zij hv
  have hll : (0 :: tl).length <= 10 := by
   rw [<- htl]; unfold zbV
   refine Nat.le_trans (List.length_filter_le _ _) ?_
   rw [List.length_range]; omega
  have hr := HR.out
  rw [if_pos hz, htl, List.tail_cons] at hr
  have HR2 := hid hr
  clear hr
  rw [htl] at hsrt
  rw [hcx] at HCV HIN
  obtain ⟨L, hL⟩ : ∃ L, L = 0 :: tl := ⟨_, rfl⟩
  have hLl : L.length = tl.length + 1 := by rw [hL]; rfl
  rw [<- hL, CovQ.of] at HCV
  rw [<- hL] at HIN hlt hll hsrt
  have HUP := hid (fun k (hk : k < tl.length) => zpZ (n := n) hL hsrt hk)
  have HL := hid hL; have HLT := hid hlt; have HLl := hid hLl
  clear hcx htl hlt hsrt hL hz hLl
  go_wp2
  go_region_law (first
   | (go_simp; go_at_call 10; refine (HCV.out _ ⟨1, rfl⟩).mono ?_; rintro e w5 ⟨v, rfl, hov, hb5⟩; obtain ⟨Av, cv, rfl⟩ := zu hov; have HOV := hid hov; have HB5 := hid (G0.out.trans ((Below.refl w.heap.size W0).drew.trans (hb5.mono (by show w.heap.size <= W0.heap.size; omega)))); clear hov hb5))
  all_goals
   have hlm : (L.map (fun n : Nat => (n : Int))).length = L.length := List.length_map ..
   have HRV := hid (zaA (by rfl) HOV.out HIN.out)
   have hcvm : L.length <= cv /\ cv <= 9223372036854775807 := by
    obtain ⟨A9, c9, e9, h1, h2, -⟩ := zaa HOV.out
    injection e9 with _ _ e9
    subst e9
    rw [hlm] at h1
    exact ⟨h1, h2⟩
   try rw [hlm]
   clear s0 s1 s2 y0 y1
   go_wp2
   go_loopw [8, 9, 10, 11, 12] (fun bv cv i _ _ wr => BcRel n L tl w5 bv cv i wr) (fun _ _ i _ _ _ => L.length - (intOf i).toNat)
   case atStart => exact ⟨0, by omega, rfl, .inl ⟨rfl, rfl, rfl⟩, Below.refl _ _⟩
   case round =>
    obtain ⟨k, hk, rfl, hbc, hbr⟩ := hrel
    have HBR := hid hbr
    have hsr := hbr.size
    have hs5 := HB5.out.size
    by_cases hlt : k < L.length
    ·have hmem := List.getElem_mem hlt
     have hv := HLT.out _ hmem
     obtain ⟨n1, n2⟩ := HNV.out _ hv
     have hnb := HNB.out L[k]
     have HVC := hid (HVW.out wr (HB5.out.trans (hbr.mono hs5)) L[k] hv)
     obtain ⟨g, off, rfl, hg, x0, -⟩ := zb4 (zm.on HRV.out hbr) (show k < (L.map (fun n : Nat => (n : Int))).length by rw [hlm]; exact hlt)
     rw [show (L.map (fun n : Nat => (n : Int))).getD k 0 = ((L[k] : Nat) : Int) by rw [List.getD_eq_getElem?_getD, List.getElem?_map, List.getElem?_eq_getElem hlt]; rfl] at x0
     have HX0 := hid x0
     have HUPK := hid (show ∀ j, k = j + 1 -> zaN n 0 (tl.take (j + 1)) = if n L[k] < n (zaN n 0 (tl.take j)) then L[k] else zaN n 0 (tl.take j) from fun j hj => by
          have hL := HL.out
          have hLl := HLl.out
          have e : L[k] = tl[j]'(by omega) := by subst hL; subst hj; rfl
          rw [e]; exact HUP.out j (by omega))
     have HK0 := hid (show k = 0 -> L[k] = 0 from fun e => by have hL := HL.out; subst hL; subst e; rfl)
     generalize zan (s.2.1.length : Int) Ls ((zh s).getD L[k] []) Ls.length = rr at *
     generalize L[k] = lk at *
     have N1 := hid n1; have N2 := hid n2
     clear hmem hbr n1 n2
     rcases hbc with ⟨rfl, rfl, rfl⟩ | ⟨j, hj, rfl, rfl⟩
     ·rw [Nat.add_zero] at x0
      go_wp2_with fail
      (with_reducible refine HVC.out.mono ?_)
      rintro e w7 ⟨o7, rfl, ho7, hb7⟩
      obtain ⟨A7, c7, rfl⟩ := ho7 N1.out
      rw [N1.out, N2.out]
      have HB7 := hid (HBR.out.trans (hb7.mono hsr))
      have x0 := zc hb7 hg x0
      clear hb7 ho7
      go_wp2
      go_roundw
      case rel =>
       have e0 := HK0.out (by first | rfl | trivial)
       subst e0
       exact ⟨1, by omega, by go_num, .inr ⟨0, rfl, rfl, rfl⟩, HB7.out⟩
      case measure => simp [intOf]; omega
     ·have hup := HUPK.out j hj
      have hbb := HNB.out (zaN n 0 (tl.take j))
      have HUQ := hid hup; have HJ := hid hj
      clear hup hj
      generalize hbs : zaN n 0 (tl.take j) = best at *
      have HBS := hid hbs
      clear hbs
      have h0 : ¬ ((best : Int) < 0) := by omega
      by_cases hless : n lk < n best
      ·go_wp2_with fail
       (with_reducible refine HVC.out.mono ?_)
       rintro e w7 ⟨o7, rfl, ho7, hb7⟩
       obtain ⟨A7, c7, rfl⟩ := ho7 N1.out
       rw [N1.out, N2.out]
       have HB7 := hid (HBR.out.trans (hb7.mono hsr))
       have x0 := zc hb7 hg x0
       have hup := HUQ.out
       rw [if_pos hless] at hup
       have HUR := hid hup
       clear hb7 ho7 hup
       go_wp2
       go_roundw
       case rel => exact ⟨k + 1, by omega, by go_num, .inr ⟨j + 1, by have := HJ.out; omega, by rw [HUR.out], by rw [HUR.out]⟩, HB7.out⟩
       case measure => simp [intOf]; omega
      ·go_wp2_with fail
       (with_reducible refine HVC.out.mono ?_)
       rintro e w7 ⟨o7, rfl, ho7, hb7⟩
       obtain ⟨A7, c7, rfl⟩ := ho7 N1.out
       rw [N1.out, N2.out]
       have HB7 := hid (HBR.out.trans (hb7.mono hsr))
       have x0 := zc hb7 hg x0
       have hup := HUQ.out
       rw [if_neg hless] at hup
       have HUR := hid hup
       clear hb7 ho7 hup
       go_wp2
       go_roundw
       case rel => exact ⟨k + 1, by omega, by go_num, .inr ⟨j + 1, by have := HJ.out; omega, by rw [HUR.out], by rw [HUR.out]⟩, HB7.out⟩
       case measure => simp [intOf]; omega
    ·obtain rfl : k = L.length := by omega
     rcases hbc with ⟨h0, -, -⟩ | ⟨j, hj, rfl, rfl⟩
     ·have := HLl.out; omega
     ·obtain rfl : j = tl.length := by have := HLl.out; omega
      clear hj
      rw [List.take_length]
      clear hbr
      go_wp2
      go_ret2
      rw [<- HR2.out]
      exact ⟨rfl, HB5.out.trans (HBR.out.mono hs5)⟩
 ·have hcx : covX s q = ([], mayQ s q) := by unfold covX; rw [if_neg hz]
  rw [hcx, CovQ.of] at HCV
  have hr := HR.out
  rw [if_neg hz] at hr
  clear HR
  have HR2 := hid hr
  clear hr
  generalize mayQ s q = mq at *
  have HZ := hid hz
  clear hcx hz
  go_wp2
  go_region_law (first
   | (go_simp; go_at_call 10; refine (HCV.out _ ⟨1, rfl⟩).mono ?_; rintro e w5 ⟨v, rfl, hov, hb5⟩; have HB5 := hid (G0.out.trans ((Below.refl w.heap.size W0).drew.trans (hb5.mono (by show w.heap.size <= W0.heap.size; omega)))); clear hov hb5))
  all_goals
   have t1 : (mq != 0) = true := by rw [bne_iff_ne]; exact HZ.out
   go_wp2
   go_ret2
   rw [<- HR2.out]
   exact ⟨rfl, HB5.out⟩
end Go.Proofs.YtgoapnkdcfcjgaaGreat
namespace Go.Proofs.YtgoapnkdcfcjgaaGreat
open Go.ChangeShapes Go.WideShapes Go.ChangeAt Go.RowKit
theorem zlh {l : List zp} (h : ∀ c ∈ l, c.n ≠ 0) : zaI l = l := List.filter_eq_self.2 (fun c hc => by simpa using h c hc)
theorem zf9 (M : Nat) (ps : List (List (List Int))) : cntL (ps.map (zi M)) = (ps.flatten.length : Int) := by
 induction ps with
 | nil => rfl
 | cons p ps ih =>
   have e : cntL ((p :: ps).map (zi M)) = (zi M p).n + cntL (ps.map (zi M)) := by unfold cntL; simp
   rw [e, ih, List.flatten_cons, List.length_append]
   show (p.length : Int) + _ = _
   omega
theorem zdx (l k : List (List Int)) (i : Nat) : colL (l ++ k) i = colL l i ++ colL k i := List.map_append ..
theorem zht {l : List (List Int)} (h : l ≠ []) (i : Nat) : colL l i ≠ [] := by
 cases l with
 | nil => exact absurd rfl h
 | cons x l => simp [colL]
theorem zed {M i : Nat} (hi : i < M) (ps : List (List (List Int))) : (sCol (ps.map (zi M)) i).sum = (colL ps.flatten i).sum := by
 induction ps with
 | nil => rfl
 | cons p ps ih =>
   have e : sCol ((p :: ps).map (zi M)) i = (zi M p).s.getD i 0 :: sCol (ps.map (zi M)) i := rfl
   rw [e, List.sum_cons, ih, List.flatten_cons, zdx, List.sum_append]
   congr 1
   exact zF hi
theorem zfn {M i : Nat} (hi : i < M) : ∀ (ps : List (List (List Int))), ps ≠ [] -> (∀ p ∈ ps, p ≠ []) -> minL (zbO (ps.map (zi M)) i) = minL (colL ps.flatten i)
 | [], h, _ => absurd rfl h
 | [p], _, hp => by
   have e : zbO ([p].map (zi M)) i = [minL (colL p i)] := by show [(zi M p).lo.getD i 0] = _; rw [show (zi M p).lo.getD i 0 = minL (colL p i) from zF hi]
   rw [e, zjc (x := minL (colL p i)) (by simp) (by simp)]
   simp
 | p :: q :: ps, _, hp => by
   have ih := zfn hi (q :: ps) (by simp) (fun x hx => hp x (List.mem_cons_of_mem _ hx))
   have e : zbO ((p :: q :: ps).map (zi M)) i = [minL (colL p i)] ++ zbO ((q :: ps).map (zi M)) i := by
    show (zi M p).lo.getD i 0 :: _ = _
    rw [show (zi M p).lo.getD i 0 = minL (colL p i) from zF hi]; rfl
   have hq : q ≠ [] := hp q (by simp)
   have hf : (q :: ps).flatten ≠ [] := by rw [List.flatten_cons]; simp [hq]
   rw [e, zeW (by simp) (by simp [zbO]), ih, zjc (x := minL (colL p i)) (by simp) (by simp), List.flatten_cons (l := p), zdx, zeW (zht (hp p (by simp)) i) (zht hf i)]
theorem zfN {M i : Nat} (hi : i < M) : ∀ (ps : List (List (List Int))), ps ≠ [] -> (∀ p ∈ ps, p ≠ []) -> maxL (zbM (ps.map (zi M)) i) = maxL (colL ps.flatten i)
 | [], h, _ => absurd rfl h
 | [p], _, hp => by
   have e : zbM ([p].map (zi M)) i = [maxL (colL p i)] := by show [(zi M p).hi.getD i 0] = _; rw [show (zi M p).hi.getD i 0 = maxL (colL p i) from zF hi]
   rw [e, zjo (x := maxL (colL p i)) (by simp) (by simp)]
   simp
 | p :: q :: ps, _, hp => by
   have ih := zfN hi (q :: ps) (by simp) (fun x hx => hp x (List.mem_cons_of_mem _ hx))
   have e : zbM ((p :: q :: ps).map (zi M)) i = [maxL (colL p i)] ++ zbM ((q :: ps).map (zi M)) i := by
    show (zi M p).hi.getD i 0 :: _ = _
    rw [show (zi M p).hi.getD i 0 = maxL (colL p i) from zF hi]; rfl
   have hq : q ≠ [] := hp q (by simp)
   have hf : (q :: ps).flatten ≠ [] := by rw [List.flatten_cons]; simp [hq]
   rw [e, zfM (by simp) (by simp [zbM]), ih, zjo (x := maxL (colL p i)) (by simp) (by simp), List.flatten_cons (l := p), zdx, zfM (zht (hp p (by simp)) i) (zht hf i)]
theorem zhO {M : Nat} {ps : List (List (List Int))} (hne : ps ≠ []) (hp : ∀ p ∈ ps, p ≠ []) : zJ M (ps.map (zi M)) = zi M ps.flatten := by
 unfold zJ
 rw [zf9]
 conv => rhs; unfold zi
 congr 1
 ·exact List.map_congr_left (fun i hi => zed (List.mem_range.1 hi) ps)
 ·exact List.map_congr_left (fun i hi => zfn (List.mem_range.1 hi) ps hne hp)
 ·exact List.map_congr_left (fun i hi => zfN (List.mem_range.1 hi) ps hne hp)
structure zqi (M : Nat) (ps : List (List (List Int))) : Prop where
 ne : ∀ p ∈ ps, p ≠ []
 val : ∀ p ∈ ps, ∀ v ∈ p, zaU M v = true
 may : ∀ p ∈ ps, MayP (zi M p)
theorem zk3 {α : Type} {ps : List (List α)} (h0 : ps ≠ []) (h : ∀ p ∈ ps, p ≠ []) : ps.flatten ≠ [] := by
 cases ps with
 | nil => exact absurd rfl h0
 | cons p ps => rw [List.flatten_cons]; simp [h p (by simp)]
theorem zjv {M : Nat} (hM : M <= 2) {ps : List (List (List Int))} (hne : ps ≠ []) (h : zqi M ps) (hn : ps.flatten.length <= 1000000) : sumC (ps.map (zi M)) = zaQ M ps.flatten := by
 have hfl := zk3 hne h.ne
 have hv : ∀ v ∈ ps.flatten, zaU M v = true := fun v hv => by
  obtain ⟨p, hp, hv⟩ := List.mem_flatten.1 hv
  exact h.val p hp v hv
 have hmay := zc2 hM hfl hn hv
 have hfull : ∀ c ∈ ps.map (zi M), c.n ≠ 0 := fun c hc => by
  obtain ⟨p, hp, rfl⟩ := List.mem_map.1 hc
  show (p.length : Int) ≠ 0
  have := List.length_pos_iff.2 (h.ne p hp); omega
 have hlen : ∀ c ∈ ps.map (zi M), c.s.length = M := fun c hc => by
  obtain ⟨p, hp, rfl⟩ := List.mem_map.1 hc
  simp [zi]
 have hmne : ps.map (zi M) ≠ [] := by simpa using hne
 have hhd : ((ps.map (zi M)).headD nilC).s.length = M := by
  cases ps with
  | nil => exact absurd rfl hne
  | cons p ps => exact hlen _ (by simp)
 have hall : (ps.map (zi M)).all (argB M) = true := by
  rw [List.all_eq_true]
  intro c hc
  unfold argB
  have hm : MayP c := by
   obtain ⟨p, hp, rfl⟩ := List.mem_map.1 hc
   exact h.may p hp
  rw [zaO.2 hm, hlen c hc]; simp
 have e1 : zaQ M ps.flatten = if mayC (zi M ps.flatten) then (zi M ps.flatten, 0) else (nilC, 14) := by
  unfold zaQ
  rw [if_neg (by omega), if_neg (by rw [List.all_eq_true.2 hv]; decide), if_neg hfl]
  rfl
 unfold sumC
 rw [hhd, if_neg hmne, if_neg (by rw [hall]; decide), zlh hfull, if_neg hmne, zf9, if_neg (by unfold CNT; omega), e1]
 by_cases hb : (List.range M).all (fun i => inB (sCol (ps.map (zi M)) i).sum SUM) = false
 ·rw [if_pos hb, if_neg]
  rw [zaO, hmay]
  intro hc
  have : (List.range M).all (fun i => inB (sCol (ps.map (zi M)) i).sum SUM) = true := List.all_eq_true.2 (fun i hi => by
   rw [zed (List.mem_range.1 hi)]; exact zcm.2 (hc i (List.mem_range.1 hi)))
  rw [this] at hb; cases hb
 ·rw [if_neg hb, zhO hne h.ne, if_pos]
  rw [zaO, hmay]
  intro i hi
  have hb : (List.range M).all (fun i => inB (sCol (ps.map (zi M)) i).sum SUM) = true := by
   cases hx : (List.range M).all (fun i => inB (sCol (ps.map (zi M)) i).sum SUM)
   ·exact absurd hx hb
   ·rfl
  have := List.all_eq_true.1 hb i (List.mem_range.2 hi)
  rw [zed hi] at this
  exact zcm.1 this
theorem znN {M : Nat} (hM : M <= 2) {v : List Int} (hv : zaU M v = true) : MayP (zi M [v]) /\ zaQ M [v] = (zi M [v], 0) := by
 have hv' : ∀ u ∈ [v], zaU M u = true := fun u hu => by rw [List.mem_singleton.1 hu]; exact hv
 have h : MayP (zi M [v]) := (zc2 hM (by simp) (by simp) hv').2 (fun i hi => by
  have h1 : (colL [v] i).sum = v.getD i 0 := by simp [colL]
  have h2 := (zcH.1 hv).2 (v.getD i 0) (by
   have hl : v.length = M := by have := (zcH.1 hv).1; omega
   rw [List.getD_eq_getElem?_getD, List.getElem?_eq_getElem (by omega)]; exact List.getElem_mem _)
  rw [h1]; unfold VAL at h2; unfold SUM; omega)
 refine ⟨h, ?_⟩
 unfold zaQ
 rw [if_neg (by omega), if_neg (by rw [List.all_eq_true.2 hv']; decide), if_neg (by simp)]
 show (if mayC (zi M [v]) then _ else _) = _
 rw [if_pos (zaO.2 h)]
 rfl
theorem zih {M : Nat} (hM : M <= 2) {l : List (List Int)} (hl : l ≠ []) (hv : ∀ v ∈ l, zaU M v = true) : ((zaQ M l).2 = 0 ↔ MayP (zi M l)) /\ (MayP (zi M l) -> zaQ M l = (zi M l, 0)) := by
 have e : zaQ M l = if mayC (zi M l) then (zi M l, 0) else (nilC, 14) := by
  unfold zaQ
  rw [if_neg (by omega), if_neg (by rw [List.all_eq_true.2 hv]; decide), if_neg hl]
  rfl
 rw [e]
 by_cases h : MayP (zi M l)
 ·rw [if_pos (zaO.2 h)]; exact ⟨⟨fun _ => h, fun _ => rfl⟩, fun _ => rfl⟩
 ·rw [if_neg (by rw [zaO]; exact h)]; exact ⟨⟨fun h' => (by cases h'), fun h' => absurd h' h⟩, fun h' => absurd h' h⟩
end Go.Proofs.YtgoapnkdcfcjgaaGreat
