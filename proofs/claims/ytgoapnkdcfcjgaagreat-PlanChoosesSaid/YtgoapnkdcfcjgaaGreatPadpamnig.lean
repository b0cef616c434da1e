/- 1 text of this claim, in build order. -/
import Derived.Test.YtgoapnkdcfcjgaaGreatPmlhmhnhg
import Derived.Test.YtgoapnkdcfcjgaaGreatPadgnkgil
import Derived.StillTailTactics
import Derived.Test.YtgoapnkdcfcjgaaGreatPhpfbkhaa
set_option linter.unusedVariables false
set_option linter.unusedSimpArgs false
namespace Go.Proofs.YtgoapnkdcfcjgaaGreat
open Go.ChangeShapes Go.WideShapes Go.ChangeAt Go.RowKit
def TailC (n g : Nat) (wc : World) (s59 s60 s61 : Value) (wx : World) : Prop := ∃ TA tc, s59 = .slice TA (n - 1) tc /\ s60 = .int .i64 ((n - 1 : Nat) : Int) /\ s61 = .int .i64 0 /\ (1 < n -> TA = some ⟨g, 4, none⟩) /\ n - 1 <= tc /\ tc <= maxLen /\ wc = wx
def R4P (m : Nat) (F : List zp) (x : zp) (H : Nat) (wo : World) (C : Nat) (V : Nat -> Value) (s79 : Value) (wr : World) : Prop :=
 ∃ i : Nat, i <= m /\ s79 = .int .i64 i /\ (∀ j, j < i -> inB (sCol F j).sum SUM = true) /\ Bld wr H C (cntL F) V (YM (zJ m F) x i) /\ Below H wo wr
def R5P (F : List zp) (x : zp) (i : Nat) (Y : Nat -> List Int) (H : Nat) (wo : World) (C : Nat) (V : Nat -> Value) (s11 s84 : Value) (wr : World) : Prop :=
 ∃ k : Nat, k <= F.length /\ s84 = .int .i64 k /\ wr.ownsRow wo.heap.size 3 1 s11 k (zk ((sCol F i).take k)) /\
  Bld wr H C (cntL F) V (upd (upd Y 2 ((Y 2).set i (((zbO F i).take k).foldl min (x.lo.getD i 0)))) 3 ((Y 3).set i (((zbM F i).take k).foldl max (x.hi.getD i 0)))) /\ Below H wo wr
theorem zgh {F : List zp} {i k : Nat} (hk : k < F.length) : (zbO F i).getD k 0 = (F.getD k nilC).lo.getD i 0 := by
 simp [zbO, List.getD_eq_getElem?_getD, List.getElem?_eq_getElem hk]
theorem zgb {F : List zp} {i k : Nat} (hk : k < F.length) : (zbM F i).getD k 0 = (F.getD k nilC).hi.getD i 0 := by
 simp [zbM, List.getD_eq_getElem?_getD, List.getElem?_eq_getElem hk]
theorem zfq {l : List Int} (h : l ≠ []) : l.foldl min (l.getD 0 0) = minL l := by
 cases l with
 | nil => exact absurd rfl h
 | cons x l => show l.foldl min (min x x) = _; rw [Int.min_self]; rfl
theorem zfB {l : List Int} (h : l ≠ []) : l.foldl max (l.getD 0 0) = maxL l := by
 cases l with
 | nil => exact absurd rfl h
 | cons x l => show l.foldl max (max x x) = _; rw [Int.max_self]; rfl
theorem ziG {F : List zp} {i j : Nat} {x0 : Int} (hj : j < F.length) : ((zbO F i).take (j + 1)).foldl min x0 = min (((zbO F i).take j).foldl min x0) ((F.getD j nilC).lo.getD i 0) := by
 rw [zP _ _ (by simp [zbO]; exact hj), List.foldl_append, zgh hj]; rfl
theorem zhV {F : List zp} {i j : Nat} {x0 : Int} (hj : j < F.length) : ((zbM F i).take (j + 1)).foldl max x0 = max (((zbM F i).take j).foldl max x0) ((F.getD j nilC).hi.getD i 0) := by
 rw [zP _ _ (by simp [zbM]; exact hj), List.foldl_append, zgb hj]; rfl
theorem zdC (l : List Int) (i : Nat) : l.set i (l.getD i 0) = l := by
 apply List.ext_getElem
 ·simp
 ·intro j h1 h2
  rw [List.getElem_set]
  split
  ·rename_i e; subst e; rw [List.getD_eq_getElem?_getD, List.getElem?_eq_getElem h2]; rfl
  ·rfl
theorem zfo {l : List Int} {i : Nat} {v : Int} (h : i < (l.set i v).length) : (l.set i v).getD i 0 = v := by
 rw [List.getD_eq_getElem?_getD, List.getElem?_eq_getElem h, List.getElem_set_self]; rfl
theorem Blk.grown {w w' : World} {row : Option Nat} {b : Nat} {v0 v1 v2 v3 : Value} (h : Blk w b v0 v1 v2 v3) (hg : w.grownBy w' row) (hlt : b < w.heap.size) (hne : row = some b -> False) : Blk w' b v0 v1 v2 v3 := by
 have e := hg.block b hlt (fun e => hne e.symm)
 have hc := fun i => World.cell?_of_block (a := ⟨b, i, none⟩) e
 have hf := fun i => World.frozen?_of_block (a := ⟨b, i, none⟩) e
 exact ⟨(hc 0).trans h.c0, (hc 1).trans h.c1, (hc 2).trans h.c2, (hc 3).trans h.c3, (hf 0).trans h.f0, (hf 1).trans h.f1, (hf 2).trans h.f2, (hf 3).trans h.f3⟩
theorem Bld.below {w w' : World} {H C B : Nat} {n : Int} {V : Nat -> Value} {X : Nat -> List Int} (h : Bld w H C n V X) (hb : Below B w w') (hC : C < B) (hV : ∀ j, 1 <= j -> j <= 3 -> ∀ g, (V j).ownBlock = some g -> g < B) : Bld w' H C n V X :=
 ⟨Nat.lt_of_lt_of_le h.lt hb.size, Nat.le_trans h.hs hb.size, zc hb hC h.c0, fun j h1 h3 => zc hb hC (h.cj j h1 h3), fun j hj => zy hb hC (h.fz j hj),
  fun j h1 h3 => zo (h.own j h1 h3) (fun g hg => hb.block g (hV j h1 h3 g hg)), h.ne, h.nC⟩
theorem zgB {f : Nat} {args : Array Value} {w : World} {v : Value} (h : Calls Tryz.prog f args w (fun e w' => e = .returned v /\ w = w')) : Calls Tryz.prog f args w (fun e w' => e = .returned v /\ w' = w) := h.mono fun _ _ ⟨h1, h2⟩ => ⟨h1, h2.symm⟩
def R2P (F : List zp) (x : zp) (H : Nat) (wo : World) (C : Nat) (V : Nat -> Value) (s61 : Value) (wr : World) : Prop :=
 ∃ k : Nat, k + 1 <= F.length /\ s61 = .int .i64 k /\ cntL (F.take (k + 1)) <= CNT /\ Bld wr H C (cntL (F.take (k + 1))) V (X3 x) /\ Below H wo wr
theorem zgP {F : List zp} {k : Nat} (hk : k < F.length) : cntL (F.take (k + 1)) = cntL (F.take k) + (F.getD k nilC).n := by
 rw [List.take_succ_eq_append_getElem hk, zog, List.getD_eq_getElem?_getD, List.getElem?_eq_getElem hk]; rfl
theorem RowC.elems {w : World} {B n c : Nat} {A : Option Addr} {L : List zp} (h : RowC w B (.slice A n c) L) (h0 : 0 < L.length) :
  ∃ b off, A = some ⟨b, off, none⟩ /\ b < B /\ ∃ es : List E4, es.length = L.length /\ (∀ k, k < es.length -> At4 w b off k (es.getD k z4)) /\ (∀ x ∈ es, zet x) /\
   ∀ k, k < es.length -> zaZ w B (.agg #[.int .i64 (es.getD k z4).1, (es.getD k z4).2.1, (es.getD k z4).2.2.1, (es.getD k z4).2.2.2]) (L.getD k nilC) := by
 obtain ⟨A', c', es, e, h2, h3, h4, h5, h6⟩ := h
 injection e with e1 e2 e3
 subst e1
 obtain ⟨b, off, e4, hb, hat⟩ := h5 (by omega)
 refine ⟨b, off, e4, hb, es, h2, fun k hk => hat k (by omega), fun x hx => ?_, fun k hk => h6 k (by omega)⟩
 obtain ⟨k, hk, rfl⟩ := List.getElem_of_mem hx
 have hr := h6 k (by omega)
 rw [show es.getD k z4 = es[k] by rw [List.getD_eq_getElem?_getD, List.getElem?_eq_getElem hk]; rfl] at hr
 generalize es[k] = x at hr
 obtain ⟨x0, x1, x2, x3⟩ := x
 obtain ⟨v1, v2, v3, e, s1, s2, s3⟩ := hr
 obtain ⟨A1, c1, f1, -, -⟩ := s1.formI
 obtain ⟨A2, c2, f2, -, -⟩ := s2.formI
 obtain ⟨A3, c3, f3, -, -⟩ := s3.formI
 injection e with e
 have g1 := congrArg (fun a : Array Value => a[1]?) e
 have g2 := congrArg (fun a : Array Value => a[2]?) e
 have g3 := congrArg (fun a : Array Value => a[3]?) e
 simp at g1 g2 g3
 exact ⟨A1, _, c1, A2, _, c2, A3, _, c3, by rw [g1, g2, g3, f1, f2, f3]⟩
theorem zhL (P : E4 -> zp -> Prop) : ∀ {es : List E4} {L : List zp}, es.length = L.length -> (∀ k, k < es.length -> (es.getD k z4).1 = (L.getD k nilC).n /\ P (es.getD k z4) (L.getD k nilC)) ->
  (zaF es).length = (zaI L).length /\ ∀ k, k < (zaF es).length -> P ((zaF es).getD k z4) ((zaI L).getD k nilC)
 | [], [], _, _ => ⟨rfl, fun k hk => by simp [zaF] at hk⟩
 | [], _ :: _, h, _ => by cases h
 | _ :: _, [], h, _ => by cases h
 | x :: es, c :: L, h, hp => by
   obtain ⟨i1, i2⟩ := zhL P (es := es) (L := L) (by simpa using h) (fun k hk => hp (k + 1) (by simpa using hk))
   obtain ⟨h0, h1⟩ := hp 0 (by simp)
   have h0' : x.1 = c.n := h0
   have h1' : P x c := h1
   by_cases hz : c.n = 0
   ·have e1 : zaF (x :: es) = zaF es := by unfold zaF; simp [h0', hz]
    have e2 : zaI (c :: L) = zaI L := by unfold zaI; simp [hz]
    rw [e1, e2]; exact ⟨i1, i2⟩
   ·have e1 : zaF (x :: es) = x :: zaF es := by unfold zaF; simp [h0', hz]
    have e2 : zaI (c :: L) = c :: zaI L := by unfold zaI; simp [hz]
    rw [e1, e2]
    refine ⟨by simp [i1], fun k hk => ?_⟩
    cases k with
    | zero => exact h1'
    | succ k => exact i2 k (by simpa using hk)
theorem zqA {w : World} {B : Nat} {x : E4} {c : zp} (h : zaZ w B (.agg #[.int .i64 x.1, x.2.1, x.2.2.1, x.2.2.2]) c) : x.1 = c.n := by
 obtain ⟨v1, v2, v3, e, -⟩ := h
 injection e with e
 have g0 := congrArg (fun a : Array Value => a[0]?) e
 simpa using g0
structure FullF (m : Nat) (F : List zp) : Prop where
 pos : 0 < F.length
 n64 : F.length <= 65536
 s : ∀ j, j < F.length -> (F.getD j nilC).s.length = m
 lo : ∀ j, j < F.length -> (F.getD j nilC).lo.length = m
 hi : ∀ j, j < F.length -> (F.getD j nilC).hi.length = m
 cnt : ∀ j, j < F.length -> 1 <= (F.getD j nilC).n /\ (F.getD j nilC).n <= CNT
 sb : ∀ i, i < m -> ∀ x ∈ sCol F i, -SUM <= x /\ x <= SUM
 cle : ∀ k, cntL (F.take k) <= cntL F
 c0 : ∀ k, 0 <= cntL (F.take k)
theorem zpF {m : Nat} {l : List zp} (h : SumF m l) (hne : zaI l ≠ []) : FullF m (zaI l) := by
 have hp := full_p h.args
 have h1 : ∀ c ∈ zaI l, 1 <= c.n := fun c hc => (hp c hc).1.1
 refine ⟨List.length_pos_iff.2 hne, Nat.le_trans (by unfold zaI; exact List.length_filter_le _ _) h.n64, fun j hj => (hp _ (zaT hj)).2.1, fun j hj => (hp _ (zaT hj)).2.2.1, fun j hj => (hp _ (zaT hj)).2.2.2.1, fun j hj => (hp _ (zaT hj)).1, fun i hi x hx => ?_, fun k => ziD h1 k, fun k => ?_⟩
 ·unfold sCol at hx
  obtain ⟨c, hc, rfl⟩ := List.mem_map.1 hx
  exact ((hp c hc).2.2.2.2 i hi).2.2.2.1
 ·have := zkh (l := (zaI l).take k) (fun c hc => h1 c (List.mem_of_mem_take hc))
  omega
theorem znZ {w : World} {base n : Nat} {v : Value} {es : List E4} (h : w.ownsRow base 125 4 v n (zb0 es)) (h0 : 0 < n) (he : es.length = n) :
  ∃ g cap, v = .slice (some ⟨g, 0, none⟩) n cap /\ base <= g /\ g < w.heap.size /\ n <= cap /\ cap <= maxLen /\ (∀ k, k < es.length -> At4 w g 0 k (es.getD k z4)) /\ Reg w g 0 (es.length * 4) := by
 have hown := h
 obtain ⟨h1, h2⟩ := h
 rcases h2 with ⟨rfl, rfl⟩ | ⟨g, cap, cur, rfl, hbg, hg, hnc, hcm, hcs, htk⟩
 ·omega
 ·refine ⟨g, cap, rfl, hbg, (hown.lt g rfl).2, hnc, hcm, ?_, fun j hj => ?_⟩
  ·refine zgC (fun j hj => ?_)
   rw [Nat.zero_add]
   exact hown.cellAt j (by omega)
  ·rw [Nat.zero_add]
   refine ⟨?_, hown.frozenAt j⟩
   rw [hown.cellAt (g := g) j (by omega), List.getElem?_eq_getElem (by rw [zfz]; omega)]
   rfl
set_option maxRecDepth 100000 in
set_option maxHeartbeats 40000000 in
theorem zqV (v : Value) (l : List zp) (w : World) (hv : RowC w w.heap.size v l) (hn : l.length <= 1000) :
  Calls Tryz.prog 72 #[v] w (zhk (sumC l) w) := by
 obtain ⟨i0, hi, hz0, hz1, hz2⟩ := info_parts zaE
 have HROW := hid hv
 obtain ⟨A, c, es, rfl, hel, hc, hcm, -, -⟩ := hv
 unfold maxLen at hcm
 have HRW := hid (fun W (hb : Below w.heap.size w W) k (hk : k < l.length) => (HROW.out.below hb).part hk)
 clear hel
 go_enter Tryz.func72, Tryz.ntmps72
 obtain ⟨W0, hW0⟩ : ∃ W, W = w.alloc (.cells #[.int .i64 0, .slice none 0 0, .slice none 0 0, .slice none 0 0] 125) := ⟨_, rfl⟩
 have hb0 : Below w.heap.size w W0 := by rw [hW0]; exact bl1 _ _
 have hs0 : W0.heap.size = w.heap.size + 1 := by rw [hW0]; simp
 have br : Blk W0 w.heap.size (.int .i64 0) (.slice none 0 0) (.slice none 0 0) (.slice none 0 0) := by rw [hW0]; exact Blk.new _ _ _ _ _ _
 have HB0 := hid hb0; have BR := hid br; have HS0 := hid hs0; have HW0 := hid hW0
 clear hb0 br hs0 hW0
 go_wp2
 rw [<- HW0.out]
 go_loopw [20] (fun i wr => zqR (l.headD nilC).s.length l W0 i wr) (fun i _ => l.length - (intOf i).toNat)
 case atStart => exact ⟨0, by omega, rfl, fun j hj => by omega, Below.refl _ _⟩
 case round =>
  obtain ⟨k, hk, rfl, hall, hw⟩ := hrel
  have HA := hid hall; have HW := hid hw
  have hsw := hw.size
  have hsz0 := HS0.out
  have HWW := hid (HB0.out.trans (hw.mono (by omega)))
  have BRr := hid (BR.out.below hw (by omega))
  clear hall hw
  by_cases hlt : k < l.length
  ·have hpos : 0 < l.length := by omega
   obtain ⟨b, off, A1, c1, A2, c2, A3, c3, rfl, hb, hat, ha1, ha2, ha3⟩ := HRW.out wr HWW.out k hlt
   have hcr : zaZ wr w.heap.size (.agg #[.int .i64 (l.getD k nilC).n, .slice A1 (l.getD k nilC).s.length c1, .slice A2 (l.getD k nilC).lo.length c2, .slice A3 (l.getD k nilC).hi.length c3]) (l.getD k nilC) := ⟨_, _, _, rfl, ha1, ha2, ha3⟩
   clear ha1 ha2 ha3
   obtain ⟨b', off', U1, d1, U2, d2, U3, d3, e, -, hat0, -⟩ := HRW.out wr HWW.out 0 (by omega)
   injection e with e; injection e with e1 e2 _; subst e1 e2
   have hh : l.getD 0 nilC = l.headD nilC := by cases l <;> rfl
   rw [hh] at hat0
   have hbad := fun h => zpY (l := l) hlt h
   have HSU := hid (fun h => zc3 (p := fun j => argB (l.headD nilC).s.length (l.getD j nilC) = true) HA.out h)
   clear hh
   generalize (l.headD nilC).s.length = m at *
   generalize l.getD k nilC = x at *
   have HMY := hid (fun W (h : Below wr.heap.size wr W) => zi1 _ x W ((hcr.below (h.mono (by omega))).more (by have := h.size; omega)))
   have HBAD := hid hbad
   obtain ⟨rm, hrm⟩ : ∃ r, r = mayC x := ⟨_, rfl⟩
   rw [<- hrm] at HMY
   have HRM := hid hrm
   clear hrm hbad hcr
   have Hat := hid hat; have Hat0 := hid hat0
   obtain ⟨g0, g1, g2, g3⟩ := hat
   simp only at g0 g1 g2 g3
   have HXB := hid (bl1 wr (.cells #[.int .i64 x.n, .slice A1 x.s.length c1, .slice A2 x.lo.length c2, .slice A3 x.hi.length c3] 125))
   have BX := hid (Blk.new wr (.int .i64 x.n) (.slice A1 x.s.length c1) (.slice A2 x.lo.length c2) (.slice A3 x.hi.length c3) 125)
   go_wp2
   generalize hwa : wr.alloc (.cells #[.int .i64 x.n, .slice A1 x.s.length c1, .slice A2 x.lo.length c2, .slice A3 x.hi.length c3] 125) = wa at *
   have HSA := hid (show wa.heap.size = wr.heap.size + 1 by rw [<- hwa]; simp)
   clear hwa g0 g1 g2 g3 hat0
   have hsa := HSA.out
   have HWA := hid (HWW.out.trans (HXB.out.mono (by omega)))
   have BRa := hid (BRr.out.below HXB.out (by omega))
   have HBa := hid (HW.out.trans (HXB.out.mono (by omega)))
   obtain ⟨p0, p1, p2, p3, -, -, -, -⟩ := BX.out
   obtain ⟨-, q1, -, -⟩ := Hat0.out.of_block (HXB.out.block b (by omega))
   simp only at q1
   rw [Nat.zero_mul, Nat.add_zero] at q1
   cases rm
   ·have HRR := hid (HBAD.out (zp0 HRM.out.symm))
    refine wp_region_noPanic ?_
    refine wp_region_held_drew (S := (fun w' => w'.cell? ⟨wr.heap.size, 0, none⟩ = some (.int .i64 x.n) /\ w'.cell? ⟨wr.heap.size, 1, none⟩ = some (.slice A1 x.s.length c1) /\ w'.cell? ⟨wr.heap.size, 2, none⟩ = some (.slice A2 x.lo.length c2) /\ w'.cell? ⟨wr.heap.size, 3, none⟩ = some (.slice A3 x.hi.length c3) /\ w'.cell? ⟨b, off + 1, none⟩ = some (.slice U1 m d1))) (by kernel_rfl) ?_ (fun hHeld => ?_)
    ·exact ⟨p0, p1, p2, p3, q1⟩
    refine' wpAnyH_take (i := 0) (oi := _) (v := _) ?h1x0 ?h2x0 ?h3x0 ?h4x0 ?h5x0 ?h6x0 (by assumption) ?h8x0
    case h1x0 => (set_option linter.unusedSimpArgs false in simp only [List.getElem?_toArray, List.getElem?_cons_zero, List.getElem?_cons_succ]; rfl)
    case h2x0 => kernel_rfl
    case h3x0 => kernel_rfl
    case h4x0 => kernel_rfl
    case h5x0 => exact fun _ _ _ h => False.elim h
    case h6x0 => (refine Or.inl ⟨by rfl, ?_⟩; intro w hSw; (try dsimp only at hSw); go_simp; (try with_reducible rfl))
    try simp only [Act.put, List.setIfInBounds_toArray, List.set_cons_zero, List.set_cons_succ]
    refine wpAnyH_ready (rs := [1]) (by kernel_rfl) (by simp) ?_
    refine AllReadyH.cons rfl (fun K hK => ?_) AllReadyH.nil
    go_simp
    (with_reducible refine (HMY.out _ (HXB.out.trans (Below.refl _ _).drew)).mono ?_); rintro e w1 ⟨rfl, hb1⟩; have hb1 : Below wa.heap.size wa w1 := (Below.refl _ _).drew.trans hb1; have HB1 := hid (HBa.out.trans (hb1.mono (by omega))); have HB1w := hid hb1; have p0 := zc hb1 (by omega) p0; have p1 := zc hb1 (by omega) p1; have p2 := zc hb1 (by omega) p2; have p3 := zc hb1 (by omega) p3; have q1 := zc hb1 (by omega) q1; clear hb1
    refine hK.out _ _ ?_ (fun hHeld => ?_)
    ·exact ⟨p0, p1, p2, p3, q1⟩
    clear hK K
    try simp only [Act.put, List.setIfInBounds_toArray, List.set_cons_zero, List.set_cons_succ]
    refine' wpAnyH_take (i := 2) (oi := _) (v := _) ?h1x2 ?h2x2 ?h3x2 ?h4x2 ?h5x2 ?h6x2 (by assumption) ?h8x2
    case h1x2 => (set_option linter.unusedSimpArgs false in simp only [List.getElem?_toArray, List.getElem?_cons_zero, List.getElem?_cons_succ]; rfl)
    case h2x2 => kernel_rfl
    case h3x2 => kernel_rfl
    case h4x2 => kernel_rfl
    case h5x2 => exact fun _ _ _ h => False.elim h
    case h6x2 => (refine Or.inl ⟨by rfl, ?_⟩; intro w hSw; (try dsimp only at hSw); go_simp; (try with_reducible rfl))
    try simp only [Act.put, List.setIfInBounds_toArray, List.set_cons_zero, List.set_cons_succ]
    refine' wpAnyH_take (i := 3) (oi := _) (v := _) ?h1x3 ?h2x3 ?h3x3 ?h4x3 ?h5x3 ?h6x3 (by assumption) ?h8x3
    case h1x3 => (set_option linter.unusedSimpArgs false in simp only [List.getElem?_toArray, List.getElem?_cons_zero, List.getElem?_cons_succ]; rfl)
    case h2x3 => kernel_rfl
    case h3x3 => kernel_rfl
    case h4x3 => kernel_rfl
    case h5x3 => exact fun _ _ _ h => False.elim h
    case h6x3 => (refine Or.inl ⟨by rfl, ?_⟩; intro w hSw; (try dsimp only at hSw); go_simp; (try with_reducible rfl))
    try simp only [Act.put, List.setIfInBounds_toArray, List.set_cons_zero, List.set_cons_succ]
    refine' wpAnyH_take (i := 4) (oi := _) (v := undef) ?h1x4 ?h2x4 ?h3x4 ?h4x4 ?h5x4 ?h6x4 (by assumption) ?h8x4
    case h1x4 => (set_option linter.unusedSimpArgs false in simp only [List.getElem?_toArray, List.getElem?_cons_zero, List.getElem?_cons_succ]; rfl)
    case h2x4 => kernel_rfl
    case h3x4 => kernel_rfl
    case h4x4 => kernel_rfl
    case h5x4 => exact fun _ _ _ h => False.elim h
    case h6x4 => exact Or.inr ⟨by kernel_rfl, rfl⟩
    try simp only [Act.put, List.setIfInBounds_toArray, List.set_cons_zero, List.set_cons_succ]
    refine' wpAnyH_take (i := 5) (oi := _) (v := undef) ?h1x5 ?h2x5 ?h3x5 ?h4x5 ?h5x5 ?h6x5 (by assumption) ?h8x5
    case h1x5 => (set_option linter.unusedSimpArgs false in simp only [List.getElem?_toArray, List.getElem?_cons_zero, List.getElem?_cons_succ]; rfl)
    case h2x5 => kernel_rfl
    case h3x5 => kernel_rfl
    case h4x5 => kernel_rfl
    case h5x5 => exact fun _ _ _ h => False.elim h
    case h6x5 => exact Or.inr ⟨by kernel_rfl, rfl⟩
    try simp only [Act.put, List.setIfInBounds_toArray, List.set_cons_zero, List.set_cons_succ]
    refine' wpAnyH_take (i := 6) (oi := _) (v := undef) ?h1x6 ?h2x6 ?h3x6 ?h4x6 ?h5x6 ?h6x6 (by assumption) ?h8x6
    case h1x6 => (set_option linter.unusedSimpArgs false in simp only [List.getElem?_toArray, List.getElem?_cons_zero, List.getElem?_cons_succ]; rfl)
    case h2x6 => kernel_rfl
    case h3x6 => kernel_rfl
    case h4x6 => kernel_rfl
    case h5x6 => exact fun _ _ _ h => False.elim h
    case h6x6 => exact Or.inr ⟨by kernel_rfl, rfl⟩
    try simp only [Act.put, List.setIfInBounds_toArray, List.set_cons_zero, List.set_cons_succ]
    refine' wpAnyH_take (i := 7) (oi := _) (v := undef) ?h1x7 ?h2x7 ?h3x7 ?h4x7 ?h5x7 ?h6x7 (by assumption) ?h8x7
    case h1x7 => (set_option linter.unusedSimpArgs false in simp only [List.getElem?_toArray, List.getElem?_cons_zero, List.getElem?_cons_succ]; rfl)
    case h2x7 => kernel_rfl
    case h3x7 => kernel_rfl
    case h4x7 => kernel_rfl
    case h5x7 => exact fun _ _ _ h => False.elim h
    case h6x7 => exact Or.inr ⟨by kernel_rfl, rfl⟩
    try simp only [Act.put, List.setIfInBounds_toArray, List.set_cons_zero, List.set_cons_succ]
    refine' wpAnyH_take (i := 8) (oi := _) (v := undef) ?h1x8 ?h2x8 ?h3x8 ?h4x8 ?h5x8 ?h6x8 (by assumption) ?h8x8
    case h1x8 => (set_option linter.unusedSimpArgs false in simp only [List.getElem?_toArray, List.getElem?_cons_zero, List.getElem?_cons_succ]; rfl)
    case h2x8 => kernel_rfl
    case h3x8 => kernel_rfl
    case h4x8 => kernel_rfl
    case h5x8 => exact fun _ _ _ h => False.elim h
    case h6x8 => exact Or.inr ⟨by kernel_rfl, rfl⟩
    try simp only [Act.put, List.setIfInBounds_toArray, List.set_cons_zero, List.set_cons_succ]
    refine' wpAnyH_take (i := 9) (oi := _) (v := undef) ?h1x9 ?h2x9 ?h3x9 ?h4x9 ?h5x9 ?h6x9 (by assumption) ?h8x9
    case h1x9 => (set_option linter.unusedSimpArgs false in simp only [List.getElem?_toArray, List.getElem?_cons_zero, List.getElem?_cons_succ]; rfl)
    case h2x9 => kernel_rfl
    case h3x9 => kernel_rfl
    case h4x9 => kernel_rfl
    case h5x9 => exact fun _ _ _ h => False.elim h
    case h6x9 => exact Or.inr ⟨by kernel_rfl, rfl⟩
    try simp only [Act.put, List.setIfInBounds_toArray, List.set_cons_zero, List.set_cons_succ]
    refine' wpAnyH_take (i := 10) (oi := _) (v := undef) ?h1x10 ?h2x10 ?h3x10 ?h4x10 ?h5x10 ?h6x10 (by assumption) ?h8x10
    case h1x10 => (set_option linter.unusedSimpArgs false in simp only [List.getElem?_toArray, List.getElem?_cons_zero, List.getElem?_cons_succ]; rfl)
    case h2x10 => kernel_rfl
    case h3x10 => kernel_rfl
    case h4x10 => kernel_rfl
    case h5x10 => exact fun _ _ _ h => False.elim h
    case h6x10 => exact Or.inr ⟨by kernel_rfl, rfl⟩
    try simp only [Act.put, List.setIfInBounds_toArray, List.set_cons_zero, List.set_cons_succ]
    refine' wpAnyH_take (i := 11) (oi := _) (v := undef) ?h1x11 ?h2x11 ?h3x11 ?h4x11 ?h5x11 ?h6x11 (by assumption) ?h8x11
    case h1x11 => (set_option linter.unusedSimpArgs false in simp only [List.getElem?_toArray, List.getElem?_cons_zero, List.getElem?_cons_succ]; rfl)
    case h2x11 => kernel_rfl
    case h3x11 => kernel_rfl
    case h4x11 => kernel_rfl
    case h5x11 => exact fun _ _ _ h => False.elim h
    case h6x11 => exact Or.inr ⟨by kernel_rfl, rfl⟩
    try simp only [Act.put, List.setIfInBounds_toArray, List.set_cons_zero, List.set_cons_succ]
    refine' wpAnyH_take (i := 12) (oi := _) (v := undef) ?h1x12 ?h2x12 ?h3x12 ?h4x12 ?h5x12 ?h6x12 (by assumption) ?h8x12
    case h1x12 => (set_option linter.unusedSimpArgs false in simp only [List.getElem?_toArray, List.getElem?_cons_zero, List.getElem?_cons_succ]; rfl)
    case h2x12 => kernel_rfl
    case h3x12 => kernel_rfl
    case h4x12 => kernel_rfl
    case h5x12 => exact fun _ _ _ h => False.elim h
    case h6x12 => exact Or.inr ⟨by kernel_rfl, rfl⟩
    try simp only [Act.put, List.setIfInBounds_toArray, List.set_cons_zero, List.set_cons_succ]
    refine' wpAnyH_take (i := 13) (oi := _) (v := _) ?h1x13 ?h2x13 ?h3x13 ?h4x13 ?h5x13 ?h6x13 (by assumption) ?h8x13
    case h1x13 => (set_option linter.unusedSimpArgs false in simp only [List.getElem?_toArray, List.getElem?_cons_zero, List.getElem?_cons_succ]; rfl)
    case h2x13 => kernel_rfl
    case h3x13 => kernel_rfl
    case h4x13 => kernel_rfl
    case h5x13 => exact fun _ _ _ h => False.elim h
    case h6x13 => (refine Or.inl ⟨by rfl, ?_⟩; intro w hSw; (try dsimp only at hSw); go_simp; (try with_reducible rfl))
    try simp only [Act.put, List.setIfInBounds_toArray, List.set_cons_zero, List.set_cons_succ]
    refine wpAnyH_done (by kernel_rfl) ?_ _
    refine NoPanic.normal ?_
    obtain ⟨r0, r1, r2, r3, f0, f1, f2, f3⟩ := BRa.out.below HB1w.out (by omega)
    have hs1 := HB1w.out.size
    have HBL := hid (fun v0 v1 v2 v3 => fin4 (b := w.heap.size) (HWA.out.trans (HB1w.out.mono (by omega))) (Nat.le_refl _) (by omega) v0 v1 v2 v3)
    go_wp2
    exact bodyPost_ret (v := .tuple #[.agg #[.int .i64 0, .slice none 0 0, .slice none 0 0, .slice none 0 0], .int .i64 1]) (by simp [results, Tryz.results72, go_sem, r0, r1, r2, r3]; done) rfl (zdo HRR.out rfl (OwnC.nil_ _ _) (HBL.out _ _ _ _))
   ·have HLB := hid (zoF (m := m) HRM.out.symm)
    by_cases hl : x.s.length = m
    ·have u1 : ((x.s.length : Int) != (m : Int)) = false := by simp [hl]
     have u2 : (x.s.length != m) = false := by simp [hl]
     have HOK := hid (HSU.out (by rw [HLB.out]; exact decide_eq_true hl))
     clear hl
     go_region_held3 (fun w' => w'.cell? ⟨wr.heap.size, 0, none⟩ = some (.int .i64 x.n) /\ w'.cell? ⟨wr.heap.size, 1, none⟩ = some (.slice A1 x.s.length c1) /\ w'.cell? ⟨wr.heap.size, 2, none⟩ = some (.slice A2 x.lo.length c2) /\ w'.cell? ⟨wr.heap.size, 3, none⟩ = some (.slice A3 x.hi.length c3) /\ w'.cell? ⟨b, off + 1, none⟩ = some (.slice U1 m d1)) (go_keep)
      ((go_at_call 105; (with_reducible refine (HMY.out _ (HXB.out.trans (Below.refl _ _).drew)).mono ?_); rintro e w1 ⟨rfl, hb1⟩; have hb1 : Below wa.heap.size wa w1 := (Below.refl _ _).drew.trans hb1; have HB1 := hid (HBa.out.trans (hb1.mono (by omega))); have HB1w := hid hb1; have p0 := zc hb1 (by omega) p0; have p1 := zc hb1 (by omega) p1; have p2 := zc hb1 (by omega) p2; have p3 := zc hb1 (by omega) p3; have q1 := zc hb1 (by omega) q1; clear hb1))
     go_wp2
     go_roundw
     case rel => exact ⟨k + 1, by omega, by go_num, HOK.out, HB1.out⟩
     case measure => simp [intOf]; omega
    ·have u1 : ((x.s.length : Int) != (m : Int)) = true := by rw [bne_iff_ne]; omega
     have u2 : (x.s.length != m) = true := by simpa using hl
     have HRR := hid (HBAD.out (by rw [HLB.out]; exact decide_eq_false hl))
     clear hl
     go_region_held3 (fun w' => w'.cell? ⟨wr.heap.size, 0, none⟩ = some (.int .i64 x.n) /\ w'.cell? ⟨wr.heap.size, 1, none⟩ = some (.slice A1 x.s.length c1) /\ w'.cell? ⟨wr.heap.size, 2, none⟩ = some (.slice A2 x.lo.length c2) /\ w'.cell? ⟨wr.heap.size, 3, none⟩ = some (.slice A3 x.hi.length c3) /\ w'.cell? ⟨b, off + 1, none⟩ = some (.slice U1 m d1)) (go_keep)
      ((go_at_call 105; (with_reducible refine (HMY.out _ (HXB.out.trans (Below.refl _ _).drew)).mono ?_); rintro e w1 ⟨rfl, hb1⟩; have hb1 : Below wa.heap.size wa w1 := (Below.refl _ _).drew.trans hb1; have HB1 := hid (HBa.out.trans (hb1.mono (by omega))); have HB1w := hid hb1; have p0 := zc hb1 (by omega) p0; have p1 := zc hb1 (by omega) p1; have p2 := zc hb1 (by omega) p2; have p3 := zc hb1 (by omega) p3; have q1 := zc hb1 (by omega) q1; clear hb1))
     obtain ⟨r0, r1, r2, r3, f0, f1, f2, f3⟩ := BRa.out.below HB1w.out (by omega)
     have hs1 := HB1w.out.size
     have HBL := hid (fun v0 v1 v2 v3 => fin4 (b := w.heap.size) (HWA.out.trans (HB1w.out.mono (by omega))) (Nat.le_refl _) (by omega) v0 v1 v2 v3)
     go_wp2
     exact bodyPost_ret (v := .tuple #[.agg #[.int .i64 0, .slice none 0 0, .slice none 0 0, .slice none 0 0], .int .i64 1]) (by simp [results, Tryz.results72, go_sem, r0, r1, r2, r3]; done) rfl (zdo HRR.out rfl (OwnC.nil_ _ _) (HBL.out _ _ _ _))
  ·have hkl : k = l.length := by omega
   subst hkl
   by_cases hne : l = []
   ·have HRR := hid (show sumC l = (nilC, 1) by rw [hne]; exact zpz)
    have u0 : ((l.length : Int) == 0) = true := by simp [hne]
    clear hne
    obtain ⟨r0, r1, r2, r3, f0, f1, f2, f3⟩ := BRr.out
    have HBL := hid (fun v0 v1 v2 v3 => fin4 (b := w.heap.size) HWW.out (Nat.le_refl _) (by omega) v0 v1 v2 v3)
    go_wp2
    exact bodyPost_ret (v := .tuple #[.agg #[.int .i64 0, .slice none 0 0, .slice none 0 0, .slice none 0 0], .int .i64 1]) (by simp [results, Tryz.results72, go_sem, r0, r1, r2, r3]; done) rfl (zdo HRR.out rfl (OwnC.nil_ _ _) (HBL.out _ _ _ _))
   ·have hpos := List.length_pos_iff.2 hne
    have u0 : ((l.length : Int) == 0) = false := by simp; omega
    have hallv := zo4 (l := l) (fun j hj => HA.out j (by omega))
    have hF := zre hne (by omega) hallv
    have HMANY := hid (fun h2 h3 => @zmP l hne hallv h2 h3)
    have HFAR := hid (fun h2 i hi h => @zoW l hne hallv h2 i hi h)
    have HYES := hid (fun h2 h3 h4 => @zoQ l hne hallv h2 h3 h4)
    have HEMP := hid (fun h2 => @zmj l hne hallv h2)
    have hh : l.getD 0 nilC = l.headD nilC := by cases l <;> rfl
    generalize (l.headD nilC).s.length = m at *
    obtain ⟨b, off, rfl, hb, es, hel, hat, hl4, hrd⟩ := (HROW.out.below HWW.out).elems hpos
    have HF := hid hF
    have HRD := hid hrd
    have HCL := hid (zl4 b off l.length c es wr hel hpos hc (by simp only [maxLen]; omega) (by omega) (by omega) hat hl4)
    have HEL := hid hel
    have HL4 := hid hl4
    clear hF hne hallv hh hrd hat hl4 hel HA
    go_wp2_with fail
    refine HCL.out.mono ?_
    rintro e w2 ⟨y, rfl, hown, hb2⟩
    have hs2 := hb2.size
    obtain ⟨g, cap, rfl, hg1, hg2, hcap, hcapm, hgat, hgreg⟩ := znZ hown hpos HEL.out
    have HDEL := hid (zji g 0 l.length cap es w2 HEL.out hcap hcapm hg2 hgreg hgat HL4.out)
    have HB2 := hid hb2
    have HRD2 := hid (fun k hk => (HRD.out k hk).below (hb2.mono (by omega)))
    have HGAT := hid hgat; have HGREG := hid hgreg
    clear hown hb2 hgat hgreg
    unfold maxLen at hcapm
    go_wp2_with fail
    refine HDEL.out.mono ?_
    rintro e w3 ⟨rfl, hat3, hu3⟩
    have hb3 := hu3.below (B := wr.heap.size) (by omega) hg2
    have HB3 := hid (HB2.out.trans hb3)
    have hs3 := hu3.size
    obtain ⟨hkl, hpr⟩ := zhL (fun x c => zaZ w3 w3.heap.size (.agg #[.int .i64 x.1, x.2.1, x.2.2.1, x.2.2.2]) c) HEL.out (fun k hk => ⟨zqA (HRD.out k hk), ((HRD.out k hk).below (HB3.out.mono (by omega))).more (by omega)⟩)
    have hle : (zaF es).length <= l.length := by have := List.length_filter_le (fun x : E4 => x.1 != 0) es; unfold zaF; have := HEL.out; omega
    have hrf : RowC w3 w3.heap.size (.slice (some ⟨g, 0, none⟩) (zaI l).length cap) (zaI l) := ⟨some ⟨g, 0, none⟩, cap, zaF es, rfl, hkl, by omega, by simp only [maxLen]; omega, fun _ => ⟨g, 0, rfl, by omega, fun k hk => hat3 k (by omega)⟩, fun k hk => hpr k (by omega)⟩
    have hx0 := HRW.out w3 (HWW.out.trans (HB3.out.mono (by omega))) 0 hpos
    rw [hkl]
    have HRF := hid hrf
    have HW3 := hid (HWW.out.trans (HB3.out.mono (by omega)))
    have BR3 := hid (BRr.out.below HB3.out (by omega))
    have hlim : (zaI l).length <= cap := by omega
    have HF' := hid (fun h => zpF HF.out h)
    have HNO := hid (fun h => znX HF.out.args h (l.getD 0 nilC) (zaT hpos))
    have hl1000 : (zaI l).length <= 1000 := by omega
    clear hrf hpr hat3 hu3 hb3 hle hkl
    by_cases hF0 : zaI l = []
    ·have u1 : (((zaI l).length : Int) == 0) = true := by simp [hF0]
     have HRR := hid (show sumC l = (l.getD 0 nilC, 0) by rw [HNO.out hF0]; exact HEMP.out hF0)
     obtain ⟨b', off', A1, c1, A2, c2, A3, c3, e, -, hat, t1, t2, t3⟩ := hx0
     injection e with e; injection e with e1 e2 _; subst e1 e2
     have hls := HF.out.s 0 hpos; have hll := HF.out.lo 0 hpos; have hlh := HF.out.hi 0 hpos
     have hm2 := HF.out.m2
     clear hF0
     generalize l.getD 0 nilC = x at *
     have HCP := hid (zgF (.agg #[.int .i64 x.n, .slice A1 x.s.length c1, .slice A2 x.lo.length c2, .slice A3 x.hi.length c3]) x w3 (zaZ.more ⟨_, _, _, rfl, t1, t2, t3⟩ (by omega)) (by omega))
     obtain ⟨g0, g1, g2, g3⟩ := hat
     simp only at g0 g1 g2 g3
     rw [Nat.zero_mul, Nat.add_zero] at g0 g1 g2 g3
     clear hls hll hlh t1 t2 t3
     go_wp2_with fail
     refine HCP.out.mono ?_
     rintro e w4 ⟨y, rfl, hoc, hb4⟩
     have hoc' := hoc
     obtain ⟨y1, y2, y3, rfl, ho1, ho2, ho3, -, -⟩ := hoc
     obtain ⟨e1, z1, rfl, -, -, -⟩ := zl ho1
     obtain ⟨e2, z2, rfl, -, -, -⟩ := zl ho2
     obtain ⟨e3, z3, rfl, -, -, -⟩ := zl ho3
     have hs4 := hb4.size
     have HW4 := hid (HW3.out.trans (hb4.mono (by omega)))
     have BR4 := hid (BR3.out.below hb4 (by omega))
     have HO4 := hid hoc'
     clear ho1 ho2 ho3 hoc' hb4
     obtain ⟨r0, r1, r2, r3, f0, f1, f2, f3⟩ := BR4.out
     have HFI := hid (fun v0 v1 v2 v3 => (HO4.out.upd (upd4 w.heap.size w4 v0 v1 v2 v3) (by omega)).le (H' := w.heap.size) (by omega))
     have HBL := hid (fun v0 v1 v2 v3 => fin4 (b := w.heap.size) HW4.out (Nat.le_refl _) (by omega) v0 v1 v2 v3)
     go_wp2
     exact bodyPost_ret (v := .tuple #[.agg #[.int .i64 x.n, .slice e1 x.s.length z1, .slice e2 x.lo.length z2, .slice e3 x.hi.length z3], .int .i64 0]) (by simp [results, Tryz.results72, go_sem, r0, r1, r2, r3]; done) rfl (zdo HRR.out rfl (HFI.out _ _ _ _) (HBL.out _ _ _ _))
    ·have hFF := HF'.out hF0
     have hFp := hFF.pos
     have u1 : (((zaI l).length : Int) == 0) = false := by simp; omega
     have HMN := hid (HMANY.out hF0); have HFR := hid (HFAR.out hF0); have HYS := hid (HYES.out hF0)
     have hm2 := HF.out.m2
     clear hF0 hx0 HMANY HFAR HYES HEMP HF' HNO HF HRD HRD2 HEL HL4 HGAT HGREG HROW HRW
     generalize zaI l = F at *
     have HFF := hid hFF
     have hn64 := hFF.n64
     have hn1000 : F.length <= 1000 := by omega
     obtain ⟨b', off', A1, c1, A2, c2, A3, c3, e, -, hat, t1, t2, t3⟩ := HRF.out.part hFp
     injection e with e; injection e with e1 e2 _; subst e1 e2
     have hls := hFF.s 0 hFp; have hll := hFF.lo 0 hFp; have hlh := hFF.hi 0 hFp
     generalize hx : F.getD 0 nilC = x at *
     have HX := hid hx
     have HCP := hid (zgF (.agg #[.int .i64 x.n, .slice A1 x.s.length c1, .slice A2 x.lo.length c2, .slice A3 x.hi.length c3]) x w3 ⟨_, _, _, rfl, t1, t2, t3⟩ (by omega))
     obtain ⟨g0, g1, g2, g3⟩ := hat
     simp only at g0 g1 g2 g3
     rw [Nat.zero_mul, Nat.add_zero] at g0 g1 g2 g3
     have HLS := hid hls; have HLL := hid hll; have HLH := hid hlh
     clear hls hll hlh t1 t2 t3 hFF hx
     go_wp2_with fail
     refine HCP.out.mono ?_
     rintro e w4 ⟨y, rfl, hoc, hb4⟩
     have hoc' := hoc
     obtain ⟨y1, y2, y3, rfl, ho1, ho2, ho3, -, -⟩ := hoc
     obtain ⟨e1, z1, rfl, -, -, -⟩ := zl (show w4.ownsRow _ _ 1 y1 m _ by have := ho1; rwa [HLS.out] at this)
     obtain ⟨e2, z2, rfl, -, -, -⟩ := zl (show w4.ownsRow _ _ 1 y2 m _ by have := ho2; rwa [HLL.out] at this)
     obtain ⟨e3, z3, rfl, -, -, -⟩ := zl (show w4.ownsRow _ _ 1 y3 m _ by have := ho3; rwa [HLH.out] at this)
     have hs4 := hb4.size
     have hbd := OwnC.bld (c := x) hoc' hs4 125 rfl
     have HB4 := hid hb4
     clear ho1 ho2 ho3 hoc' hb4
     have hV1 : V3 (.slice e1 m z1) (.slice e2 m z2) (.slice e3 m z3) 1 = .slice e1 m z1 := rfl
     have hV2 : V3 (.slice e1 m z1) (.slice e2 m z2) (.slice e3 m z3) 2 = .slice e2 m z2 := rfl
     have hV3 : V3 (.slice e1 m z1) (.slice e2 m z2) (.slice e3 m z3) 3 = .slice e3 m z3 := rfl
     generalize V3 (.slice e1 m z1) (.slice e2 m z2) (.slice e3 m z3) = V at *
     have HBD := hid hbd; have HV1 := hid hV1; have HV2 := hid hV2; have HV3 := hid hV3
     clear hbd hV1 hV2 hV3 g0 g1 g2 g3
     go_upto_region 13 with (fail)
     generalize hw5 : w4.alloc (.cells #[.int .i64 x.n, .slice e1 m z1, .slice e2 m z2, .slice e3 m z3] 125) = w5 at *
     have HW5 := hid (show Below w4.heap.size w4 w5 by rw [<- hw5]; exact bl1 _ _)
     have hs5 : w5.heap.size = w4.heap.size + 1 := by rw [<- hw5]; simp
     have HS5 := hid hs5
     clear hw5 hs5
     go_cut [59, 60, 61] from 58 to 62 (fun s59 s60 s61 wx => TailC F.length g w5 s59 s60 s61 wx)
     case first =>
      go_wp2
      all_goals (try subst_vars)
      all_goals go_meet
      all_goals
       case rel =>
        first
         | exact ⟨some ⟨g, 4, none⟩, cap - 1, rfl, rfl, rfl, fun _ => rfl, (by omega), (by simp only [maxLen]; omega), rfl⟩
         | exact ⟨some ⟨g, 0, none⟩, 0, rfl, rfl, rfl, (fun h => by omega), (by omega), (by simp [maxLen]), rfl⟩
     case rest =>
     obtain ⟨TA, tc, rfl, rfl, rfl, hTA, htc, htm, rfl⟩ := hcut
     have HTA := hid hTA; clear hTA
     unfold maxLen at htm
     have hwo := HS5.out
     have hH5 := hid (HB4.out.trans (HW5.out.mono hs4))
     have HCN0 := hid (show cntL (F.take 1) <= CNT by
      have h1 := HFF.out.cnt 0 hFp
      rw [List.take_succ_eq_append_getElem hFp, List.take_zero]
      rw [List.getD_eq_getElem?_getD, List.getElem?_eq_getElem hFp] at h1
      simpa [cntL] using h1.2)
     have HXN := hid (show x.n = cntL (F.take 1) by
      rw [<- HX.out, List.take_succ_eq_append_getElem hFp, List.take_zero, List.getD_eq_getElem?_getD, List.getElem?_eq_getElem hFp]
      simp [cntL])
     have HBD' := hid (show Bld w5 w3.heap.size w4.heap.size (cntL (F.take 1)) V (X3 x) by rw [<- HXN.out]; exact HBD.out)
     go_wp2
     go_loopw [61] (fun s61 wy => R2P F x w3.heap.size w5 w4.heap.size V s61 wy) (fun s61 _ => F.length - (intOf s61).toNat)
     case atStart => exact ⟨0, by omega, rfl, HCN0.out, HBD'.out, Below.refl _ _⟩
     case round =>
      obtain ⟨k, hk, rfl, hcn, hbl, hw⟩ := hrel
      have HCN := hid hcn; have HBl := hid hbl; have HWr := hid hw
      have hsw5 := hw.size
      clear hcn hbl
      by_cases hlt2 : k + 1 < F.length
      ·obtain rfl := HTA.out (by omega)
       have hb3r : Below w3.heap.size w3 wr := hH5.out.trans hw
       obtain ⟨b', off', A1', c1', A2', c2', A3', c3', e, -, hat, -, -, -⟩ := (HRF.out.below hb3r).part hlt2
       injection e with e; injection e with e1' e2' _; subst e1' e2'
       obtain ⟨g0, g1, g2, g3⟩ := hat
       simp only [show 0 + (k + 1) * 4 = 4 + k * 4 by omega] at g0 g1 g2 g3
       have hyn := HFF.out.cnt (k + 1) hlt2
       have HCT := hid (zgP hlt2)
       have hle := HFF.out.cle (k + 1 + 1)
       have hge := HFF.out.c0 (k + 1)
       have hcn := HCN.out
       generalize F.getD (k + 1) nilC = y at *
       generalize hn0 : cntL (F.take (k + 1)) = n0 at *
       have HN0 := hid hn0
       clear hn0
       unfold CNT at hyn hcn
       have HSB := hid (((hw.setCell (p := ⟨w4.heap.size, 0, none⟩) (by show w3.heap.size <= w4.heap.size; omega) (.int .i64 (n0 + y.n)))).alloc (o := (.cells #[.int .i64 y.n, .slice A1' y.s.length c1', .slice A2' y.lo.length c2', .slice A3' y.hi.length c3'] 125)) (by simp [World.setCell]; omega))
       have HSN := hid ((HBl.out.setN (n0 + y.n)).kept (bl1 _ (.cells #[.int .i64 y.n, .slice A1' y.s.length c1', .slice A2' y.lo.length c2', .slice A3' y.hi.length c3'] 125)))
       have q0 := HBl.out.c0
       have fz := HBl.out.fz 0 (by omega)
       have hlt4 : w4.heap.size < wr.heap.size := HBl.out.lt
       have BRs := hid (BR3.out.below (hH5.out.trans HSB.out) (by omega))
       clear hw
       by_cases hov : 1099511627776 < n0 + y.n
       ·have HRR := hid (HMN.out (by rw [HCT.out] at hle; unfold CNT; omega))
        have HBL := hid (fun v0 v1 v2 v3 => fin4 (b := w.heap.size) (HW3.out.trans ((hH5.out.trans HSB.out).mono (by omega))) (Nat.le_refl _) (by simp [World.setCell]; omega) v0 v1 v2 v3)
        obtain ⟨r0, r1, r2, r3, f0, f1, f2, f3⟩ := BRs.out
        go_wp2
        exact bodyPost_ret (v := .tuple #[.agg #[.int .i64 0, .slice none 0 0, .slice none 0 0, .slice none 0 0], .int .i64 14]) (by simp [results, Tryz.results72, go_sem, r0, r1, r2, r3]; done) rfl (zdo HRR.out rfl (OwnC.nil_ _ _) (HBL.out _ _ _ _))
       ·have HLE := hid (show cntL (F.take (k + 1 + 1)) <= CNT by rw [HCT.out]; unfold CNT; omega)
        go_wp2
        go_roundw
        case rel => exact ⟨k + 1, by omega, by go_num, HLE.out, by rw [HCT.out]; exact HSN.out, HSB.out⟩
        case measure => simp [intOf]; omega
      ·have hkF : F.take (k + 1) = F := List.take_of_length_le (by omega)
       have hb0 := HBl.out
       have hcn := HCN.out
       rw [hkF] at hb0 hcn
       have lz1 : (zJ m F).s.length = m := by simp [zJ]
       have lz2 : (zJ m F).lo.length = m := by simp [zJ]
       have lz3 : (zJ m F).hi.length = m := by simp [zJ]
       have HB0' := hid (zbv (X' := YM (zJ m F) x 0) hb0 (fun _ _ _ => rfl) (zbk rfl rfl rfl))
       have HC0 := hid hcn
       have q1 : wr.cell? ⟨w4.heap.size, 1, none⟩ = some (.slice e1 m z1) := (hb0.cj 1 (by omega) (by omega)).trans (congrArg some HV1.out)
       have hyl := fun i (h : i <= m) => zp7 (z := zJ m F) (o := x) (k := i) (n := m) lz1 HLS.out lz2 HLL.out lz3 HLH.out h
       have HYL := hid hyl
       clear hkF hb0 hcn HBl HCN hyl
       have hkd : decide (k < F.length - 1) = false := by rw [decide_eq_false_iff_not]; omega
       go_wp2
       clear hkd
       go_loopw [79] (fun s79 wy => R4P m F x w3.heap.size w5 w4.heap.size V s79 wy) (fun s79 _ => m - (intOf s79).toNat)
       case atStart => exact ⟨0, by omega, rfl, fun j hj => by omega, HB0'.out, HWr.out⟩
       case round =>
        obtain ⟨i, hi', rfl, hall, hbl, hwi⟩ := hrel
        have HAi := hid hall; have HBi := hid hbl; have HWi := hid hwi
        have hsi := hwi.size
        clear hall hbl
        by_cases hlti : i < m
        ·obtain ⟨gg1, rfl, hg1'⟩ : ∃ g, e1 = some ⟨g, 0, none⟩ /\ w3.heap.size <= g := by
          obtain ⟨A, c, e, -, -, h⟩ := zl (HBi.out.own 1 (by omega) (by omega))
          rw [HV1.out] at e; injection e with e _ _; subst e
          obtain ⟨g, hg, hg', -⟩ := h (by rw [HYL.out i hi' 1 (by omega) (by omega)]; omega)
          exact ⟨g, hg, hg'⟩
         obtain ⟨gg2, rfl, hg2'⟩ : ∃ g, e2 = some ⟨g, 0, none⟩ /\ w3.heap.size <= g := by
          obtain ⟨A, c, e, -, -, h⟩ := zl (HBi.out.own 2 (by omega) (by omega))
          rw [HV2.out] at e; injection e with e _ _; subst e
          obtain ⟨g, hg, hg', -⟩ := h (by rw [HYL.out i hi' 2 (by omega) (by omega)]; omega)
          exact ⟨g, hg, hg'⟩
         obtain ⟨gg3, rfl, hg3'⟩ : ∃ g, e3 = some ⟨g, 0, none⟩ /\ w3.heap.size <= g := by
          obtain ⟨A, c, e, -, -, h⟩ := zl (HBi.out.own 3 (by omega) (by omega))
          rw [HV3.out] at e; injection e with e _ _; subst e
          obtain ⟨g, hg, hg', -⟩ := h (by rw [HYL.out i hi' 3 (by omega) (by omega)]; omega)
          exact ⟨g, hg, hg'⟩
         have hl1 : i < (YM (zJ m F) x i 1).length := by rw [HYL.out i hi' 1 (by omega) (by omega)]; exact hlti
         have hl2 : i < (YM (zJ m F) x i 2).length := by rw [HYL.out i hi' 2 (by omega) (by omega)]; exact hlti
         have hl3 : i < (YM (zJ m F) x i 3).length := by rw [HYL.out i hi' 3 (by omega) (by omega)]; exact hlti
         have v2 : (YM (zJ m F) x i 2).getD i 0 = x.lo.getD i 0 := zkx (by omega) (by have := HLL.out; omega)
         have v3 : (YM (zJ m F) x i 3).getD i 0 = x.hi.getD i 0 := zkx (by omega) (by have := HLH.out; omega)
         have m1s : (YM (zJ m F) x i 1).set i (sCol F i).sum = YM (zJ m F) x (i + 1) 1 := by
          have := zer (z := (zJ m F).s) (o := x.s) (k := i) (by omega) (by have := HLS.out; omega)
          rwa [show (zJ m F).s.getD i 0 = (sCol F i).sum from zF hlti] at this
         have m2s : (YM (zJ m F) x i 2).set i (minL (zbO F i)) = YM (zJ m F) x (i + 1) 2 := by
          have := zer (z := (zJ m F).lo) (o := x.lo) (k := i) (by omega) (by have := HLL.out; omega)
          rwa [show (zJ m F).lo.getD i 0 = minL (zbO F i) from zF hlti] at this
         have m3s : (YM (zJ m F) x i 3).set i (maxL (zbM F i)) = YM (zJ m F) x (i + 1) 3 := by
          have := zer (z := (zJ m F).hi) (o := x.hi) (k := i) (by omega) (by have := HLH.out; omega)
          rwa [show (zJ m F).hi.getD i 0 = maxL (zbM F i) from zF hlti] at this
         have hmin : (zbO F i).foldl min (x.lo.getD i 0) = minL (zbO F i) := by
          have := zfq (l := zbO F i) (by intro e; have := congrArg List.length e; simp [zbO] at this; have := hFp; simp_all)
          rwa [zgh hFp, HX.out] at this
         have hmax : (zbM F i).foldl max (x.hi.getD i 0) = maxL (zbM F i) := by
          have := zfB (l := zbM F i) (by intro e; have := congrArg List.length e; simp [zbM] at this; have := hFp; simp_all)
          rwa [zgb hFp, HX.out] at this
         have HST0 := hid (zbv (X' := upd (upd (YM (zJ m F) x i) 2 ((YM (zJ m F) x i 2).set i (((zbO F i).take 0).foldl min (x.lo.getD i 0)))) 3 ((YM (zJ m F) x i 3).set i (((zbM F i).take 0).foldl max (x.hi.getD i 0)))) HBi.out (fun _ _ _ => rfl) (zbk rfl
          (by show YM (zJ m F) x i 2 = (YM (zJ m F) x i 2).set i (x.lo.getD i 0); rw [<- v2]; exact (zdC _ _).symm)
          (by show YM (zJ m F) x i 3 = (YM (zJ m F) x i 3).set i (x.hi.getD i 0); rw [<- v3]; exact (zdC _ _).symm)))
         have M1S := hid m1s; have M2S := hid m2s; have M3S := hid m3s; have HL1 := hid hl1; have HL2 := hid hl2; have HL3 := hid hl3; have HMI := hid hmin; have HMA := hid hmax
         have n12 : gg1 ≠ gg2 := fun e => HBi.out.ne 1 2 gg1 (by omega) (by omega) (by omega) (by omega) (by omega) (by rw [HV1.out]; rfl) (by rw [HV2.out, e]; rfl)
         have n13 : gg1 ≠ gg3 := fun e => HBi.out.ne 1 3 gg1 (by omega) (by omega) (by omega) (by omega) (by omega) (by rw [HV1.out]; rfl) (by rw [HV3.out, e]; rfl)
         have n23 : gg2 ≠ gg3 := fun e => HBi.out.ne 2 3 gg2 (by omega) (by omega) (by omega) (by omega) (by omega) (by rw [HV2.out]; rfl) (by rw [HV3.out, e]; rfl)
         have nC1 : gg1 ≠ w4.heap.size := fun e => HBi.out.nC 1 (by omega) (by omega) (by rw [HV1.out, <- e]; rfl)
         have nC2 : gg2 ≠ w4.heap.size := fun e => HBi.out.nC 2 (by omega) (by omega) (by rw [HV2.out, <- e]; rfl)
         have nC3 : gg3 ≠ w4.heap.size := fun e => HBi.out.nC 3 (by omega) (by omega) (by rw [HV3.out, <- e]; rfl)
         have hg1l : gg1 < wr.heap.size := ((HBi.out.own 1 (by omega) (by omega)).lt gg1 (by rw [HV1.out]; rfl)).2
         have hg2l : gg2 < wr.heap.size := ((HBi.out.own 2 (by omega) (by omega)).lt gg2 (by rw [HV2.out]; rfl)).2
         have hg3l : gg3 < wr.heap.size := ((HBi.out.own 3 (by omega) (by omega)).lt gg3 (by rw [HV3.out]; rfl)).2
         have h4l : w4.heap.size < wr.heap.size := HBi.out.lt
         clear v2 v3 m1s m2s m3s hl1 hl2 hl3 hmin hmax hwi
         obtain ⟨wo, rfl⟩ : ∃ wo : World, wo = wr := ⟨_, rfl⟩
         go_wp2
         go_loopw [11, 84] (fun s11 s84 wy => R5P F x i (YM (zJ m F) x i) w3.heap.size wo w4.heap.size V s11 s84 wy) (fun _ s84 _ => F.length - (intOf s84).toNat)
         case atStart => exact ⟨0, by omega, rfl, World.ownsRow_nil _ _ _ _, HST0.out, Below.refl _ _⟩
         case round =>
          obtain ⟨j, hj, rfl, hown, hbj, hwj⟩ := hrel
          have HOWN := hid hown; have HBj := hid hbj; have HWj := hid hwj
          have hsj := hwj.size
          by_cases hltj : j < F.length
          ·have hb3j : Below w3.heap.size w3 wr := hH5.out.trans (HWi.out.trans hwj)
           obtain ⟨b', off', A1', c1', A2', c2', A3', c3', e, -, hat, t1, t2, t3⟩ := (HRF.out.below hb3j).part hltj
           injection e with e; injection e with e1' e2' _; subst e1' e2'
           have hys := HFF.out.s j hltj; have hyl := HFF.out.lo j hltj; have hyh := HFF.out.hi j hltj
           have HTK := hid (zf2 (i := i) hltj)
           have HFM := hid (ziG (x0 := x.lo.getD i 0) (i := i) hltj)
           have HFX := hid (zhV (x0 := x.hi.getD i 0) (i := i) hltj)
           generalize F.getD j nilC = y at *
           obtain ⟨g0, g1, g2, g3⟩ := hat
           simp only [Nat.zero_add] at g0 g1 g2 g3
           obtain ⟨ba1, oa1, rfl, hba1, hxa1⟩ := t1.int (show i < y.s.length by omega)
           obtain ⟨ba2, oa2, rfl, hba2, hxa2⟩ := t2.int (show i < y.lo.length by omega)
           obtain ⟨ba3, oa3, rfl, hba3, hxa3⟩ := t3.int (show i < y.hi.length by omega)
           have hb3s := hb3j.size
           have hba1' : ba1 < wr.heap.size := by omega
           have hba2' : ba2 < wr.heap.size := by omega
           have hba3' : ba3 < wr.heap.size := by omega
           have hcm1 : y.s.length <= 2 := by omega
           have hcm2 : y.lo.length <= 2 := by omega
           have hcm3 : y.hi.length <= 2 := by omega
           have hiy1 : i < y.s.length := by omega
           have hiy2 : i < y.lo.length := by omega
           have hiy3 : i < y.hi.length := by omega
           generalize y.s.getD i 0 = xs at *
           generalize y.lo.getD i 0 = xl at *
           generalize y.hi.getD i 0 = xh at *
           have HYS' := hid hys; have HYL' := hid hyl; have HYH' := hid hyh
           clear t1 t2 t3 hys hyl hyh hown hbj hwj
           go_wp2_with (at_builtin; refine zr ?_)
           refine zar ?_
           have HU11 := hid (fun g hg => (HOWN.out.lt g hg))
           refine zav (.tmp 88) (.tmp 94) 27 27 rfl rfl wo.heap.size 3 i0 (.int .i64 0) 1 8 Tryz.underlying27 hi hz0 hz1 hz2 rfl (by decide) _ _ _ rfl ((HOWN.out.alloc _).alloc _) (.slice (some ⟨wr.heap.size + 1, 0, none⟩) 1 1) 1 (zk [xs]) rfl (Src.ofSlice _ Tryz.underlying27 _ 1 1 _ rfl (zaK _ _ _ (by simp)) (by simp [zk]; rfl)) (by first | omega | (simp only [maxLen]; omega)) (by first | omega | (simp only [maxLen]; omega)) (by simp only [World.size_alloc]; omega) ?_
           intro v' w6 hown' hg' hb'
           have HOW' := hid hown'
           have hbw : Below wo.heap.size wr w6 := (((Below.refl _ _).alloc hsj _).alloc (by simp only [World.size_alloc]; omega) _).trans hb'
           have hs6 := hbw.size
           have hBX := ((Blk.new wr (.int .i64 y.n) (.slice (some ⟨ba1, oa1, none⟩) y.s.length c1') (.slice (some ⟨ba2, oa2, none⟩) y.lo.length c2') (.slice (some ⟨ba3, oa3, none⟩) y.hi.length c3') 125).alloc (by simp) (.cells #[.int .i64 xs] 3)).grown hg' (by simp only [World.size_alloc]; omega) (fun e => by have := (HU11.out _ e).2; omega)
           have HVB := hid (fun j (h1 : 1 <= j) (h3 : j <= 3) g hg => ((HBi.out.own j h1 h3).lt g hg).2)
           have hb6 := HBj.out.below hbw h4l HVB.out
           have k2 := zc hbw (by omega) hxa2
           have k3 := zc hbw (by omega) hxa3
           have hbox : wr.heap.size < w6.heap.size := by have := hb'.size; simp only [World.size_alloc] at this; omega
           generalize hmn : ((zbO F i).take j).foldl min (x.lo.getD i 0) = mn at *
           generalize hmx : ((zbM F i).take j).foldl max (x.hi.getD i 0) = mx at *
           clear hmn hmx
           obtain ⟨-, -, p2, p3, -, -, -, -⟩ := hBX
           have q2 : w6.cell? ⟨w4.heap.size, 2, none⟩ = some (.slice (some ⟨gg2, 0, none⟩) m z2) := (hb6.cj 2 (by omega) (by omega)).trans (congrArg some HV2.out)
           have lx2 : i < ((YM (zJ m F) x i 2).set i mn).length := by rw [List.length_set]; exact HL2.out
           have lx3 : i < ((YM (zJ m F) x i 3).set i mx).length := by rw [List.length_set]; exact HL3.out
           obtain ⟨ce2', fr2, -, -⟩ := hb6.setAt 2 (by omega) (by omega) HV2.out lx2 (min mn xl)
           have ce2 : w6.cell? ⟨gg2, i, none⟩ = some (.int .i64 mn) := ce2'.trans (congrArg (fun z => some (Value.int .i64 z)) (zfo lx2))
           clear ce2'
           have hst2 := zrd (Y' := upd (upd (YM (zJ m F) x i) 2 ((YM (zJ m F) x i 2).set i (min mn xl))) 3 ((YM (zJ m F) x i 3).set i mx)) hb6 HV2.out lx2 (min mn xl) rfl (List.set_set ..) rfl
           have HB2x := hid hst2.1
           have HF2x := hid (hst2.2 w3.heap.size wo (Nat.le_refl _) (HWj.out.trans (hbw.mono (by omega))))
           have ng2 : gg2 ≠ wr.heap.size := by omega
           have ng3 : gg3 ≠ wr.heap.size := by omega
           have na22 : gg2 ≠ ba2 := by omega
           have na23 : gg2 ≠ ba3 := by omega
           have na33 : gg3 ≠ ba3 := by omega
           have mg2 : wr.heap.size ≠ gg2 := by omega
           have mg3 : wr.heap.size ≠ gg3 := by omega
           have ma22 : ba2 ≠ gg2 := by omega
           have ma23 : ba3 ≠ gg2 := by omega
           have ma33 : ba3 ≠ gg3 := by omega
           have mC2 : w4.heap.size ≠ gg2 := fun e => nC2 e.symm
           have mC3 : w4.heap.size ≠ gg3 := fun e => nC3 e.symm
           have HHB := hid hbw; have HB6 := hid hb6
           have K3 := hid k3; have P3 := hid p3
           have HOB := hid (fun g hg => (hown'.lt g hg))
           clear hown' hg' hb' hbw hb6 hst2 k3 p3
           have HP2 := hid (ziZ mn xl); have HP3 := hid (zjP mx xh)
           go_upto_region 28 with (fail)
           refine wp_region_still_tail 15 (by kernel_rfl) (by kernel_rfl) ?_
           simp only [List.take_succ_cons, List.take_zero, List.drop_succ_cons, List.drop_zero]
           repeat still_step
           still_call (zgB (HP2.out _))
           repeat still_step
           refine wpStill_nil ?_
           change wpList _ _ _ _ _ w6.drew
           go_wp2
           have HB2d := hid (show Bld (w6.setCell ⟨gg2, i, none⟩ (.int .i64 (min mn xl))).drew _ _ _ _ _ from HB2x.out.drewN 1)
           have HF2d := hid (HF2x.out.drew)
           have q3 : (w6.setCell ⟨gg2, i, none⟩ (.int .i64 (min mn xl))).drew.cell? ⟨w4.heap.size, 3, none⟩ = some (.slice (some ⟨gg3, 0, none⟩) m z3) := (HB2d.out.cj 3 (by omega) (by omega)).trans (congrArg some HV3.out)
           obtain ⟨ce3', fr3', -, -⟩ := HB2d.out.setAt 3 (by omega) (by omega) HV3.out lx3 (max mx xh)
           have ce3 : (w6.setCell ⟨gg2, i, none⟩ (.int .i64 (min mn xl))).drew.cell? ⟨gg3, i, none⟩ = some (.int .i64 mx) := ce3'.trans (congrArg (fun z => some (Value.int .i64 z)) (zfo lx3))
           have fr3 : (w6.setCell ⟨gg2, i, none⟩ (.int .i64 (min mn xl))).drew.frozen? ⟨gg3, i, none⟩ = false := fr3'
           have p3 : (w6.setCell ⟨gg2, i, none⟩ (.int .i64 (min mn xl))).drew.cell? ⟨wr.heap.size, 3, none⟩ = _ := cell_far ng2 P3.out
           have k3 : (w6.setCell ⟨gg2, i, none⟩ (.int .i64 (min mn xl))).drew.cell? ⟨ba3, oa3 + i, none⟩ = _ := cell_far na23 K3.out
           have hst3 := zqK (Y' := upd (upd (YM (zJ m F) x i) 2 ((YM (zJ m F) x i 2).set i (min mn xl))) 3 ((YM (zJ m F) x i 3).set i (max mx xh))) HB2d.out HV3.out lx3 (max mx xh) rfl rfl (List.set_set ..)
           have HB3x := hid hst3.1
           have HF3x := hid (hst3.2 w3.heap.size wo (Nat.le_refl _) HF2d.out)
           have hown7 := zo (w' := ((w6.setCell ⟨gg2, i, none⟩ (.int .i64 (min mn xl))).drew.setCell ⟨gg3, i, none⟩ (.int .i64 (max mx xh))).drew) HOW'.out (fun g hg => by
            have := (HOB.out g hg).1
            show ((w6.setCell ⟨gg2, i, none⟩ (.int .i64 (min mn xl))).drew.setCell ⟨gg3, i, none⟩ (.int .i64 (max mx xh))).heap[g]? = _
            rw [Below.heap_setCell _ _ _ g (by simp only; omega)]
            show (w6.setCell ⟨gg2, i, none⟩ (.int .i64 (min mn xl))).heap[g]? = _
            rw [Below.heap_setCell _ _ _ g (by simp only; omega)])
           have HOW7 := hid hown7
           clear ce3' fr3' hst3 hown7
           generalize hw8 : (w6.setCell ⟨gg2, i, none⟩ (.int .i64 (min mn xl))).drew = w8 at *
           have HW8 := hid hw8
           clear hw8
           clear q2 ce2 fr2 p2 k2
           refine wp_region_still_tail 15 (by kernel_rfl) (by kernel_rfl) ?_
           simp only [List.take_succ_cons, List.take_zero, List.drop_succ_cons, List.drop_zero]
           repeat still_step
           still_call (zgB (HP3.out _))
           repeat still_step
           refine wpStill_nil ?_
           change wpList _ _ _ _ _ w8.drew
           go_wp2
           go_roundw
           case rel =>
            refine ⟨j + 1, by omega, by go_num, ?_, ?_, ?_⟩
            ·rw [HTK.out]; have := HOW7.out; simpa [zk] using this
            ·rw [HFM.out, HFX.out]; exact HB3x.out.drewN 1
            ·exact HF3x.out.drew
           case measure => simp [intOf]; omega
          ·obtain rfl : j = F.length := by omega
           have hful : (sCol F i).take F.length = sCol F i := List.take_of_length_le (by rw [zeN]; exact Nat.le_refl _)
           have hful2 : (zbO F i).take F.length = zbO F i := List.take_of_length_le (by simp [zbO])
           have hful3 : (zbM F i).take F.length = zbM F i := List.take_of_length_le (by simp [zbM])
           rw [hful] at hown
           rw [hful2, hful3, HMI.out, HMA.out, M2S.out, M3S.out] at hbj
           have hsb := zox (sCol F i) (HFF.out.sb i hlti)
           rw [zeN] at hsb
           obtain ⟨sb1, sb2⟩ := hsb
           unfold SUM at sb1 sb2
           have htot := zdX u11 (sCol F i) wr (by rw [zeN]; omega) (Sl.of_own hown) (fun x hx => by have := HFF.out.sb i hlti x hx; unfold SUM at this; omega)
           have HYI := hid (fun h => zc3 (p := fun j => inB (sCol F j).sum SUM = true) HAi.out h)
           have HNI := hid (fun h => HFR.out i hlti h)
           have HM1 := hid M1S.out
           generalize (sCol F i).sum = sm at *
           have hmay : MayB (sm / 4294967296) (sm % 4294967296) = true := by unfold MayB; rw [decide_eq_true_eq]; omega
           unfold zl5 at htot
           rw [if_pos hmay] at htot
           unfold wval at htot
           have HTOT := hid htot
           have HIY := hid (fun (h : -9223372036854775808 <= sm /\ sm <= 9223372036854775807) => intW sm h)
           have HIN := hid (fun (h : sm < -9223372036854775808 \/ 9223372036854775807 < sm) => zn4 sm h (by omega))
           generalize hq5 : sm / 4294967296 = p5 at *
           generalize hq6 : sm % 4294967296 = p6 at *
           have HBe := hid hbj
           have lx1 : i < (upd (upd (YM (zJ m F) x i) 2 (YM (zJ m F) x (i + 1) 2)) 3 (YM (zJ m F) x (i + 1) 3) 1).length := HL1.out
           clear hq5 hq6 hmay htot hown hbj hful hful2 hful3
           go_wp2_with fail
           refine HTOT.out.mono ?_
           rintro e w6 ⟨rfl, hb6⟩
           have s6 := hb6.size
           have hb6' : Below wr.heap.size wr (w6.alloc (.cells #[.int .i64 p5, .int .i64 p6] 156)) := hb6.trans ((bl1 w6 _).mono s6)
           have HB6 := hid hb6'
           clear hb6 hb6'
           go_wp2_with fail
           by_cases hfit : -9223372036854775808 <= sm /\ sm <= 9223372036854775807
           ·refine (HIY.out hfit _).mono ?_
            rintro e w7 ⟨rfl, hb7⟩
            have B7 := hid (HB6.out.trans (hb7.mono HB6.out.size))
            have s7 := B7.out.size
            obtain ⟨hf1, hf2⟩ := hfit
            have HWI := hid (zeb sm 4611686018427387904 w7 (by omega) (by omega))
            clear hb7
            cases hok : inB sm SUM
            ·have HWI' := hid (show Calls Tryz.prog 99 #[.int .i64 sm, .int .i64 4611686018427387904] w7 (za5 (.bool false) w7) by rw [<- hok]; exact HWI.out)
             have HRR := hid (HNI.out hok)
             clear hok
             go_wp2_with fail
             refine HWI'.out.mono ?_
             rintro e w8 ⟨rfl, nq, rfl⟩
             have hbe : Below w3.heap.size w3 (w7.drewN nq) := zn (hH5.out.trans (HWi.out.trans (HWj.out.trans (B7.out.mono (by omega))))) nq
             have hse : w7.heap.size = (w7.drewN nq).heap.size := rfl
             obtain ⟨r0, r1, r2, r3, f0, f1, f2, f3⟩ := BR3.out.below hbe (by omega)
             have HBL := hid (fun v0 v1 v2 v3 => fin4 (b := w.heap.size) (HW3.out.trans (hbe.mono (by omega))) (Nat.le_refl _) (by omega) v0 v1 v2 v3)
             clear hbe
             go_wp2
             exact bodyPost_ret (v := .tuple #[.agg #[.int .i64 0, .slice none 0 0, .slice none 0 0, .slice none 0 0], .int .i64 14]) (by simp [results, Tryz.results72, go_sem, r0, r1, r2, r3]; done) rfl (zdo HRR.out rfl (OwnC.nil_ _ _) (HBL.out _ _ _ _))
            ·have HWI' := hid (show Calls Tryz.prog 99 #[.int .i64 sm, .int .i64 4611686018427387904] w7 (za5 (.bool true) w7) by rw [<- hok]; exact HWI.out)
             have HOK := hid hok
             clear hok
             go_wp2_with fail
             refine HWI'.out.mono ?_
             rintro e w8 ⟨rfl, nq, rfl⟩
             have hk8 : Bld (w7.drewN nq) _ _ _ _ _ := (HBe.out.kept B7.out).drewN nq
             have q1 : (w7.drewN nq).cell? ⟨w4.heap.size, 1, none⟩ = some (.slice (some ⟨gg1, 0, none⟩) m z1) := (hk8.cj 1 (by omega) (by omega)).trans (congrArg some HV1.out)
             obtain ⟨ce1, fr1, -, -⟩ := hk8.setAt 1 (by omega) (by omega) HV1.out lx1 sm
             have hst := zq4 (Y' := YM (zJ m F) x (i + 1)) hk8 HV1.out lx1 sm HM1.out rfl rfl
             have HST := hid hst.1; have HFA := hid (hst.2 w3.heap.size w5 (Nat.le_refl _) (zn (HWi.out.trans (HWj.out.trans (B7.out.mono (by omega)))) nq))
             clear hk8 hst
             go_wp2
             go_roundw
             case rel => exact ⟨i + 1, by omega, by go_num, HYI.out HOK.out, HST.out, HFA.out⟩
             case measure => simp [intOf]; omega
           ·have hno : inB sm SUM = false := by rw [zqU]; unfold SUM; omega
            have HRR := hid (HNI.out hno)
            refine (HIN.out (by omega) _).mono ?_
            rintro e w7 ⟨rfl, hb7⟩
            have B7 := hid (HB6.out.trans (hb7.mono HB6.out.size))
            have s7 := B7.out.size
            clear hb7 hno hfit
            have hbe : Below w3.heap.size w3 w7 := hH5.out.trans (HWi.out.trans (HWj.out.trans (B7.out.mono (by omega))))
            obtain ⟨r0, r1, r2, r3, f0, f1, f2, f3⟩ := BR3.out.below hbe (by omega)
            have HBL := hid (fun v0 v1 v2 v3 => fin4 (b := w.heap.size) (HW3.out.trans (hbe.mono (by omega))) (Nat.le_refl _) (by omega) v0 v1 v2 v3)
            clear hbe
            go_wp2
            exact bodyPost_ret (v := .tuple #[.agg #[.int .i64 0, .slice none 0 0, .slice none 0 0, .slice none 0 0], .int .i64 14]) (by simp [results, Tryz.results72, go_sem, r0, r1, r2, r3]; done) rfl (zdo HRR.out rfl (OwnC.nil_ _ _) (HBL.out _ _ _ _))
        ·obtain rfl : i = m := by omega
         have hX1 : YM (zJ i F) x i 1 = (zJ i F).s := zcO lz1.symm HLS.out.symm
         have hX2 : YM (zJ i F) x i 2 = (zJ i F).lo := zcO lz2.symm HLL.out.symm
         have hX3 : YM (zJ i F) x i 3 = (zJ i F).hi := zcO lz3.symm HLH.out.symm
         have HRR := hid (HYS.out HC0.out (fun j hj => HAi.out j hj))
         have hwb : w.heap.size < w3.heap.size := by omega
         have hbe : Below w3.heap.size w3 wr := hH5.out.trans HWi.out
         have hres := fun v0 v1 v2 v3 => ((HBi.out.upd (upd4 w.heap.size wr v0 v1 v2 v3) (by have := HBi.out.lt; omega) (by omega)).ownC).le (H' := w.heap.size) (by omega)
         rw [hX1, hX2, hX3, HV1.out, HV2.out, HV3.out] at hres
         have HRES := hid hres
         have HBL := hid (fun v0 v1 v2 v3 => fin4 (b := w.heap.size) (HW3.out.trans (hbe.mono (by omega))) (Nat.le_refl _) (by omega) v0 v1 v2 v3)
         have q0 := HBi.out.c0
         have q1 : wr.cell? ⟨w4.heap.size, 1, none⟩ = some (.slice e1 i z1) := (HBi.out.cj 1 (by omega) (by omega)).trans (congrArg some HV1.out)
         have q2 : wr.cell? ⟨w4.heap.size, 2, none⟩ = some (.slice e2 i z2) := (HBi.out.cj 2 (by omega) (by omega)).trans (congrArg some HV2.out)
         have q3 : wr.cell? ⟨w4.heap.size, 3, none⟩ = some (.slice e3 i z3) := (HBi.out.cj 3 (by omega) (by omega)).trans (congrArg some HV3.out)
         obtain ⟨r0, r1, r2, r3, f0, f1, f2, f3⟩ := BR3.out.below hbe (by omega)
         clear hres hX1 hX2 hX3 hbe hwi
         go_wp2
         exact bodyPost_ret (v := .tuple #[.agg #[.int .i64 (cntL F), .slice e1 i z1, .slice e2 i z2, .slice e3 i z3], .int .i64 0]) (by simp [results, Tryz.results72, go_sem, r0, r1, r2, r3]; done) rfl (zdo HRR.out rfl (HRES.out _ _ _ _) (HBL.out _ _ _ _))
end Go.Proofs.YtgoapnkdcfcjgaaGreat
