/- 2 texts of this claim, in build order. -/
import Derived.Test.YtgoapnkdcfcjgaaGreatPibnphadk
import Derived.Test.YtgoapnkdcfcjgaaGreatPbaoabehe
import Derived.Test.YtgoapnkdcfcjgaaGreatPldpedafh
set_option linter.unusedVariables false
set_option linter.unusedSimpArgs false
namespace Go.Proofs.YtgoapnkdcfcjgaaGreat
def zcb (s : ze) (f : zaS) : Bool :=
 (decide (0 <= f.1) && decide (f.1 < (s.1.length : Int)) && decide (1 <= f.2.1) && decide (f.2.1 <= zbu s f.1) && decide (1 <= f.2.2.length) && decide (f.2.2.length <= 6)) && f.2.2.all (fun m => mayB m && decide ((m.length : Int) = f.2.1))
theorem zc0 {s : ze} (h : mayS s = true) : s.1.length <= 3 /\ ∀ d ∈ s.1, d.2.length <= 3 := by
 unfold mayS at h
 rw [Bool.and_eq_true, Bool.and_eq_true, Bool.and_eq_true, Bool.and_eq_true] at h
 obtain ⟨⟨h1, ⟨h2, -⟩, -⟩, -⟩ := h
 constructor
 ·unfold zax at h2
  rw [Bool.and_eq_true, Bool.and_eq_true, Bool.and_eq_true] at h2
  have := of_decide_eq_true h2.1.1.2
  simpa using this
 ·intro d hd
  have := List.all_eq_true.1 h1 d hd
  unfold zax at this
  rw [Bool.and_eq_true, Bool.and_eq_true, Bool.and_eq_true] at this
  exact of_decide_eq_true this.1.1.2
theorem zqq {s : ze} (h : mayS s = true) (d : Int) : zbu s d <= 3 := by
 unfold zbu
 by_cases hd : d.toNat < s.1.length
 ·rw [List.getD_eq_getElem?_getD, List.getElem?_eq_getElem hd]
  have := (zc0 h).2 _ (List.getElem_mem hd)
  simp; omega
 ·rw [List.getD_eq_getElem?_getD, List.getElem?_eq_none (by omega)]
  simp
theorem base3 {s : ze} (h : mayS s = true) (j : Nat) : (zV s).getD j 0 <= 3 := by
 by_cases hd : j < s.1.length
 ·rw [zmu hd]
  have := (zc0 h).2 _ (List.getElem_mem hd)
  omega
 ·rw [List.getD_eq_getElem?_getD, List.getElem?_eq_none (by simp [zV]; omega)]
  simp
theorem group3 {s : ze} {l : List Int} (h : mayS s = true) (hc : zap s l = true) : l.length <= 3 /\ (l.any fun n => !inQ n 3) = false := by
 obtain ⟨h1, h2⟩ := zgH.1 hc
 refine ⟨by have := (zc0 h).1; omega, ?_⟩
 rw [List.any_eq_false]
 intro x hx
 obtain ⟨j, hj, rfl⟩ := List.mem_iff_getElem.1 hx
 have := h2 j hj
 have hb := base3 h j
 rw [List.getD_eq_getElem?_getD, List.getElem?_eq_getElem hj] at this
 simp only [Option.getD_some] at this
 unfold inQ
 simp
 omega
theorem zlN {s : ze} (h : mayS s = true) (f : zaS) : (zby f && okF s f) = zcb s f := by
 obtain ⟨d, lv, ms⟩ := f
 have h3 := (zc0 h).1
 have hl := zqq h d
 unfold zby okF zcb inQ
 simp only
 generalize zbu s d = L at *
 have hall : (ms.all fun m => mayB m && decide ((m.length : Int) = lv)) = (!(ms.any fun p => !mayB p) && !(ms.any fun p => decide ((p.length : Int) ≠ lv))) := by
  induction ms with
  | nil => rfl
  | cons m ms ih =>
    simp only [List.all_cons, List.any_cons, ih]
    cases mayB m <;> by_cases e : (m.length : Int) = lv <;> simp [e]
 rw [hall]
 generalize (ms.any fun p => !mayB p) = b1
 generalize (ms.any fun p => decide ((p.length : Int) ≠ lv)) = b2
 have hne : decide (ms ≠ []) = decide (1 <= ms.length) := by
  rw [decide_eq_decide]
  cases ms <;> simp
 rw [hne]
 generalize ms.length = n
 rw [Bool.eq_iff_iff]
 simp only [Bool.and_eq_true, decide_eq_true_eq]
 constructor
 ·rintro ⟨⟨⟨⟨⟨a1, a2⟩, a3, a4⟩, a5⟩, a6⟩, ⟨⟨⟨a7, a8⟩, a9⟩, a10⟩, a11⟩
  exact ⟨⟨⟨⟨⟨⟨a1, a7⟩, a8⟩, a9⟩, a10⟩, a5⟩, a6, a11⟩
 ·rintro ⟨⟨⟨⟨⟨⟨a1, a7⟩, a8⟩, a9⟩, a10⟩, a5⟩, a6, a11⟩
  exact ⟨⟨⟨⟨⟨a1, by omega⟩, by omega, by omega⟩, a5⟩, a6⟩, ⟨⟨⟨a7, a8⟩, a9⟩, a10⟩, a11⟩
theorem zpC {s : ze} (h : mayS s = true) (q : zX) : mayQ s q = if (zap s q.1 && decide (q.2.length <= 3)) && q.2.all (zcb s) then 0 else 16 := by
 have hf : q.2.all (zcb s) = (q.2.all zby && q.2.all (okF s)) := by
  generalize q.2 = l
  induction l with
  | nil => rfl
  | cons f l ih =>
    simp only [List.all_cons, ih, <- zlN h f]
    cases zby f <;> cases okF s f <;> simp
 rw [hf]
 unfold mayQ
 rw [h]
 cases hc : zap s q.1
 ·simp
 ·obtain ⟨g1, g2⟩ := group3 h hc
  have hp : zbC q = (decide (q.2.length <= 3) && q.2.all zby) := by
   unfold zbC; rw [g2, decide_eq_true g1]; simp
  rw [hp]
  cases decide (q.2.length <= 3) <;> cases q.2.all zby <;> cases q.2.all (okF s) <;> rfl
end Go.Proofs.YtgoapnkdcfcjgaaGreat
namespace Go.Proofs.YtgoapnkdcfcjgaaGreat
open Go.ChangeShapes Go.WideShapes Go.ChangeAt Go.RowKit
theorem zm3 {l : List Int} {f : zaS} (h1 : ∀ x ∈ l, za4 x) (h2 : za4 f.2.1) : ∀ x ∈ zaR l f, za4 x := by
 intro x hx
 unfold zaR at hx
 obtain ⟨k, hk, rfl⟩ := List.mem_iff_getElem.1 hx
 rw [List.length_set] at hk
 rw [List.getElem_set]
 split
 ·next e =>
  subst e
  rw [List.getD_eq_getElem?_getD, List.getElem?_eq_getElem hk]
  have := h1 _ (List.getElem_mem hk)
  simp only [Option.getD_some]
  rcases Int.le_total l[f.1.toNat] f.2.1 with h | h
  ·rw [Int.max_eq_right h]; exact h2
  ·rw [Int.max_eq_left h]; exact this
 ·exact h1 _ (List.getElem_mem hk)
theorem zmY {w : World} {B : Nat} {x : Value} {q : zX} (h : zaH w B x q) : ∀ n ∈ zaP q, za4 n := by
 obtain ⟨A1, c1, A2, c2, rfl, h1, h2⟩ := h
 have a : ∀ n ∈ q.1, za4 n := fun n hn => by
  obtain ⟨k, hk, rfl⟩ := List.mem_iff_getElem.1 hn
  obtain ⟨_, _, _, _, _, h⟩ := zbW h1 hk
  exact h
 have b : ∀ f ∈ q.2, za4 f.2.1 := fun f hf => by
  obtain ⟨k, hk, rfl⟩ := List.mem_iff_getElem.1 hf
  obtain ⟨_, _, _, _, _, _, _, _, _, _, h, _⟩ := zbG h2 hk
  exact h
 unfold zaP
 generalize q.1 = l at *
 generalize q.2 = fs at *
 clear h1 h2
 induction fs generalizing l with
 | nil => exact a
 | cons f fs ih => exact ih _ (zm3 a (b f List.mem_cons_self)) (fun g hg => b g (List.mem_cons_of_mem _ hg))
def zb8 (vs : List (List Int)) (need : List Int) (k : Nat) : List Int := ((List.range k).filter fun i => zak (vs.getD i []) need).map (fun i : Nat => (i : Int))
theorem zdr (vs : List (List Int)) (need : List Int) (k : Nat) : zb8 vs need (k + 1) = if zak (vs.getD k []) need = true then zb8 vs need k ++ [(k : Int)] else zb8 vs need k := by
 unfold zb8
 rw [List.range_succ, List.filter_append, List.map_append]
 by_cases h : zak (vs.getD k []) need = true
 ·rw [if_pos h, List.filter_cons, if_pos h]; rfl
 ·rw [if_neg h, List.filter_cons, if_neg h]; simp
theorem zgd (vs : List (List Int)) (need : List Int) (k : Nat) : (zb8 vs need k).length <= k := by
 induction k with
 | zero => exact Nat.le_refl _
 | succ k ih =>
   rw [zdr]
   split
   ·rw [List.length_append]; simp; omega
   ·omega
def covX (s : ze) (q : zX) : List Int × Int := if mayQ s q = 0 then (zb8 (zh s) (zaP q) (zh s).length, 0) else ([], mayQ s q)
def CovP (r : List Int × Int) (w : World) (e : Ending) (w' : World) : Prop :=
 ∃ v, e = .returned (.tuple #[v, .int .i64 r.2]) /\ w'.ownsRow w.heap.size 3 1 v r.1.length (zk r.1) /\ Below w.heap.size w w'
theorem zaj {s : ze} (h : mayS s = true) : s.2.2.length <= 6 /\ ∀ x ∈ s.2.2, x.length = s.1.length := by
 unfold mayS at h
 rw [Bool.and_eq_true, Bool.and_eq_true, Bool.and_eq_true, Bool.and_eq_true] at h
 obtain ⟨⟨-, -, h3⟩, h4⟩ := h
 refine ⟨of_decide_eq_true h3, fun x hx => ?_⟩
 obtain ⟨j, hj, rfl⟩ := List.mem_iff_getElem.1 hx
 have := List.all_eq_true.1 h4 j (List.mem_range.2 hj)
 rw [Bool.and_eq_true, Bool.and_eq_true] at this
 have h5 := zd9 this.1.1
 rwa [List.getD_eq_getElem?_getD, List.getElem?_eq_getElem hj] at h5
theorem zpe {w : World} {B : Nat} {v : Value} {l : List Int} (h : zC w B [v] l) : ∀ x ∈ l, za4 x := by
 obtain ⟨A, c, e, -, -⟩ := h.open_
 rw [e] at h
 intro x hx
 obtain ⟨k, hk, rfl⟩ := List.mem_iff_getElem.1 hx
 obtain ⟨_, _, _, _, _, h⟩ := zbW h hk
 exact h
theorem zkP {w : World} {B : Nat} {v : Value} {s : ze} (h : zD w B v s) : ∀ l ∈ zh s, ∀ x ∈ l, za4 x := by
 obtain ⟨A1, c1, A2, c2, A3, c3, rfl, h1, h2, h3⟩ := h
 intro l hl x hx
 rcases List.mem_cons.1 hl with rfl | hl
 ·obtain ⟨d, hd, rfl⟩ := List.mem_map.1 hx
  obtain ⟨k, hk, rfl⟩ := List.mem_iff_getElem.1 hd
  obtain ⟨b, off, -, -, es, -, -, hr⟩ := h1.at_ hk
  obtain ⟨-, -, hlv⟩ := hr
  obtain ⟨AL, cL, -, g1, g2⟩ := hlv.open_
  exact ⟨by omega, by omega⟩
 ·obtain ⟨k, hk, rfl⟩ := List.mem_iff_getElem.1 hl
  obtain ⟨_, _, _, _, _, _, _, hr⟩ := zdb h3 hk
  exact zpe hr x hx
def zlj (vs : List (List Int)) (need : List Int) (W : World) (out i : Value) (wr : World) : Prop :=
 ∃ k : Nat, k <= vs.length /\ i = .int .i64 k /\ wr.ownsRow W.heap.size 3 1 out (zb8 vs need k).length (zk (zb8 vs need k)) /\ Below W.heap.size W wr
set_option maxRecDepth 100000 in
set_option maxHeartbeats 1600000 in
theorem zeu (v x : Value) (s : ze) (q : zX) (w : World) (hv : zD w w.heap.size v s) (hx : zaH w w.heap.size x q) (hl : s.1.length <= 1000) (hq : q.1.length <= 1000) :
  Calls Tryz.prog 9 #[v, x] w (CovP (covX s q) w) := by
 obtain ⟨i0, hi, hz0, hz1, hz2⟩ := info_parts zaE
 have hv0 := hv; have hx0 := hx
 obtain ⟨A1, c1, A2, c2, A3, c3, rfl, -, -, -⟩ := hv
 obtain ⟨X1, d1, X2, d2, rfl, -, -⟩ := hx
 obtain ⟨W1, hW1⟩ : ∃ W, W = (w.alloc (.cells #[.slice A1 s.1.length c1, .slice A2 s.2.1.length c2, .slice A3 s.2.2.length c3] 26)).alloc (.cells #[.slice X1 q.1.length d1, .slice X2 q.2.length d2] 30) := ⟨_, rfl⟩
 obtain ⟨H, hH⟩ : ∃ H, H = w.heap.size := ⟨_, rfl⟩
 have g1 : Below H w W1 := by rw [hW1, hH]; exact (bl1 w _).alloc (by simp) _
 have z1 : W1.heap.size = H + 1 + 1 := by rw [hW1, hH]; simp
 have q0 : W1.cell? ⟨H, 0, none⟩ = some (.slice A1 s.1.length c1) := by rw [hW1, hH]; simp [go_sem]
 have q1 : W1.cell? ⟨H, 1, none⟩ = some (.slice A2 s.2.1.length c2) := by rw [hW1, hH]; simp [go_sem]
 have q2 : W1.cell? ⟨H, 2, none⟩ = some (.slice A3 s.2.2.length c3) := by rw [hW1, hH]; simp [go_sem]
 have q3 : W1.cell? ⟨H + 1, 0, none⟩ = some (.slice X1 q.1.length d1) := by rw [hW1, hH]; simp [go_sem]
 have q4 : W1.cell? ⟨H + 1, 1, none⟩ = some (.slice X2 q.2.length d2) := by rw [hW1, hH]; simp [go_sem]
 rw [<- hH] at hv0 hx0
 have HN := hid (zpK _ _ s q W1 ((hv0.below g1).more (by omega)) ((hx0.below g1).more (by omega)) hl hq)
 have HVW := hid (fun (W : World) (hb : Below H w W) (hz : H <= W.heap.size) (hms : mayS s = true) => zfe (.agg #[.slice A1 s.1.length c1, .slice A2 s.2.1.length c2, .slice A3 s.2.2.length c3]) s W ((hv0.below hb).more hz) hl (by have := (zaj hms).1; omega) (fun y hy => by rw [(zaj hms).2 y hy]; exact hl))
 have HVI := hid (zkP hv0)
 have HNI := hid (zmY hx0)
 have HVL := hid (fun (hms : mayS s = true) => show (zh s).length <= 1000 by unfold zh; rw [List.length_cons]; have := (zaj hms).1; omega)
 have HMS := hid (fun (h : mayQ s q = 0) => (zeP h).1)
 have HW1 := hid hW1; have G1 := hid g1; have HH := hid hH; have Z1 := hid z1
 have HRY := hid (fun (h : mayQ s q = 0) => show covX s q = (zb8 (zh s) (zaP q) (zh s).length, 0) from if_pos h)
 have HRN := hid (fun (h : mayQ s q ≠ 0) => show covX s q = ([], mayQ s q) from if_neg h)
 generalize covX s q = R at *
 unfold CovP
 rw [<- hH]
 clear hv0 hx0 hW1 g1 hH z1
 generalize mayQ s q = mq at *
 generalize zaP q = need at *
 generalize s.2.2.length = n3 at *
 generalize s.1.length = n1 at *
 generalize s.2.1.length = n2 at *
 generalize q.1.length = m1 at *
 generalize q.2.length = m2 at *
 go_enter Tryz.func9, Tryz.ntmps9
 go_upto_region 1 with (fail)
 rw [<- HW1.out, <- HH.out]
 go_wp2_with fail
 (with_reducible refine HN.out.mono ?_)
 rintro e w2 (⟨rfl, r, rfl, hr, hb2⟩ | ⟨hne, rfl, hb2⟩)
 ·obtain ⟨Ar, cr, rfl, -, -, -⟩ := zl hr
  have k0 := zc hb2 (show H < W1.heap.size by rw [Z1.out]; omega) q0
  have k1 := zc hb2 (show H < W1.heap.size by rw [Z1.out]; omega) q1
  have k2 := zc hb2 (show H < W1.heap.size by rw [Z1.out]; omega) q2
  have B2 := hid (G1.out.trans (hb2.mono (by rw [Z1.out]; omega)))
  have Z2 := hid (show H <= w2.heap.size by have := Z1.out; have := hb2.size; omega)
  have HRD := hid (zaA rfl hr HNI.out)
  have HVV := hid (HVW.out w2 B2.out Z2.out (HMS.out rfl))
  unfold VwP at HVV
  have HVL2 := hid (HVL.out (HMS.out rfl))
  generalize hvs : zh s = vs at *
  clear q0 q1 q2 q3 q4 hr hb2 hvs
  obtain rfl := HRY.out rfl
  go_wp2_with fail
  (with_reducible refine HVV.out.mono ?_)
  rintro e w3 ⟨rv, rfl, hrv, hb3⟩
  have HRV := hid (hrv.rows HVI.out)
  obtain ⟨us, -, hrv2, -⟩ := hrv
  obtain ⟨Av, cv, rfl, hcv1, hcv2, -⟩ := zl hrv2
  unfold maxLen at hcv2
  have HRN3 := hid (zm.on HRD.out hb3)
  have B3 := hid (B2.out.trans (hb3.mono Z2.out))
  have Z3 := hid (show H <= w3.heap.size from Nat.le_trans Z2.out hb3.size)
  clear hrv2 hb3
  go_wp2
  go_loopw [8, 23] (fun out i wr => zlj vs need w3 out i wr) (fun _ i _ => vs.length - (intOf i).toNat)
  case atStart => exact ⟨0, by omega, rfl, World.ownsRow_nil _ _ _ _, Below.refl _ _⟩
  case round =>
   obtain ⟨k, hk, rfl, hown, hb⟩ := hrel
   have HB := hid hb; have HOW := hid hown
   have hs := hb.size
   clear hb hown
   by_cases hlt : k < vs.length
   ·obtain ⟨b, off, AV, cV, rfl, hbl, p0, r0⟩ := zdb (zaw.stays HRV.out HB.out) hlt
    have HC := hid (zgl (.slice AV vs[k].length cV) (.slice Ar need.length cr) vs[k] need wr (zm.more r0 hs) (zm.on HRN3.out HB.out))
    have e1 := zdr vs need k
    rw [List.getD_eq_getElem?_getD, List.getElem?_eq_getElem hlt, Option.getD_some] at e1
    generalize vs[k] = ns at *
    obtain ⟨hnc, hnm⟩ := r0.cap
    have hcl := zgd vs need k
    have hvl := HVL2.out
    have E1 := hid e1; have HCL := hid hcl
    clear e1 r0 hcl
    cases hcb : zak ns need
    ·rw [hcb] at HC E1
     rw [if_neg (by decide)] at E1
     go_wp2_with fail
     (with_reducible refine HC.out.mono ?_)
     rintro e w4 ⟨rfl, hq4⟩
     have HN4 := hid (show zlj vs need w3 _ (.int .i64 ((k : Int) + 1)) w4 from ⟨k + 1, by omega, by go_num, by rw [E1.out]; exact zo HOW.out (fun g hg => (hq4.below wr.heap.size).block g (HOW.out.lt g hg).2), HB.out.trans (hq4.below _)⟩)
     clear hq4
     go_wp2
     go_roundw
     case rel => exact HN4.out
     case measure => simp [intOf]; omega
    ·rw [hcb] at HC E1
     rw [if_pos rfl] at E1
     go_wp2_with fail
     (with_reducible refine HC.out.mono ?_)
     rintro e w4 ⟨rfl, hq4⟩
     have HO4 := hid (zo HOW.out (fun g hg => (hq4.below wr.heap.size).block g (HOW.out.lt g hg).2))
     have HB4 := hid (HB.out.trans (hq4.below _))
     have hs4 := HB4.out.size
     have hcl := HCL.out
     clear hq4
     go_wp2_with (at_builtin; refine zr ?_)
     refine zar ?_
     refine zav (.tmp 31) (.tmp 33) 27 27 rfl rfl w3.heap.size 3 i0 (.int .i64 0) 1 8 Tryz.underlying27 hi hz0 hz1 hz2 rfl (by decide) _ _ _ rfl (HO4.out.alloc _) (.slice (some ⟨w4.heap.size, 0, none⟩) 1 1) 1 (zk [(k : Int)]) rfl (Src.ofSlice _ Tryz.underlying27 _ 1 1 _ rfl (zG _ _ _ rfl) (by simp [zk]; rfl)) (by simp only [maxLen]; omega) (by omega) (by rw [World.size_alloc]; omega) ?_
     intro v' w5 hown' hg' hb'
     have HN5 := hid (show zlj vs need w3 v' (.int .i64 ((k : Int) + 1)) w5 from ⟨k + 1, by omega, by go_num, by rw [E1.out, za0, List.length_append]; exact hown', ((HB4.out.alloc hs4 _).trans hb')⟩)
     clear hown' hg' hb'
     go_wp2
     go_roundw
     case rel => exact HN5.out
     case measure => simp [intOf]; omega
   ·obtain rfl : k = vs.length := by omega
    go_wp2
    go_ret2
    exact ⟨_, rfl, zw HOW.out Z3.out, B3.out.trans (HB.out.mono Z3.out)⟩
 ·have B2 := hid (G1.out.trans (hb2.mono (by rw [Z1.out]; omega)))
  obtain rfl := HRN.out hne
  have hne' : (mq != 0) = true := by simpa using hne
  have HNE := hid hne
  clear q0 q1 q2 q3 q4 hb2 hne
  go_wp2
  go_ret2
  exact ⟨_, rfl, World.ownsRow_nil _ _ _ _, B2.out⟩
end Go.Proofs.YtgoapnkdcfcjgaaGreat
