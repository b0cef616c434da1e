/- 2 texts of this claim, in build order. -/
import Derived.Test.YtgoapnkdcfcjgaaGreatPppnjooan
import Derived.Test.YtgoapnkdcfcjgaaGreatPefggpapc
set_option linter.unusedVariables false
set_option linter.unusedSimpArgs false
namespace Go.Proofs.YtgoapnkdcfcjgaaGreat
open Go.ChangeShapes Go.WideShapes Go.ChangeAt Go.RowKit Go.Maps
def zdt (w : World) (H : Nat) (us : List Value) (ks : List (List Int)) : Prop :=
 us.length = ks.length /\ (∀ i, i < ks.length -> w.ownsRow H 3 1 (us.getD i undef) (ks.getD i []).length (zk (ks.getD i []))) /\
 ∀ i j, i < j -> j < ks.length -> ∀ g, (us.getD i undef).ownBlock = some g -> (us.getD j undef).ownBlock ≠ some g
theorem zdt.nil_ (w : World) (H : Nat) : zdt w H [] [] := ⟨rfl, fun i hi => by simp at hi, fun i j _ hj => by simp at hj⟩
theorem zdt.kept {w w' : World} {H : Nat} {us : List Value} {ks : List (List Int)} (h : zdt w H us ks) (k : ∀ i, i < ks.length -> ∀ g, (us.getD i undef).ownBlock = some g -> w'.heap[g]? = w.heap[g]?) : zdt w' H us ks :=
 ⟨h.1, fun i hi => zo (h.2.1 i hi) (k i hi), h.2.2⟩
theorem zdt.below {w w' : World} {H : Nat} {us : List Value} {ks : List (List Int)} (h : zdt w H us ks) (hb : Below w.heap.size w w') : zdt w' H us ks :=
 h.kept fun i hi g hg => hb.block g ((h.2.1 i hi).lt g hg).2
theorem zdt.app {w w' : World} {H : Nat} {us : List Value} {ks : List (List Int)} {u : Value} {k : List Int} (h : zdt w H us ks) (hb : Below w.heap.size w w') (hu : w'.ownsRow w.heap.size 3 1 u k.length (zk k)) (hH : H <= w.heap.size) : zdt w' H (us ++ [u]) (ks ++ [k]) := by
 have h' := h.below hb
 have el : ∀ i, i < ks.length -> (us ++ [u]).getD i undef = us.getD i undef /\ (ks ++ [k]).getD i [] = ks.getD i [] := fun i hi => by
  simp only [List.getD_eq_getElem?_getD]
  rw [List.getElem?_append_left (by rw [h.1]; exact hi), List.getElem?_append_left hi]
  exact ⟨rfl, rfl⟩
 have er : (us ++ [u]).getD ks.length undef = u /\ (ks ++ [k]).getD ks.length [] = k := by
  simp only [List.getD_eq_getElem?_getD]
  rw [List.getElem?_append_right (by rw [h.1]; exact Nat.le_refl _), List.getElem?_append_right (Nat.le_refl _), h.1]
  simp
 refine ⟨by simp [h.1], fun i hi => ?_, fun i j hij hj g hg => ?_⟩
 ·rcases Nat.lt_or_ge i ks.length with hlt | hge
  ·rw [(el i hlt).1, (el i hlt).2]; exact h'.2.1 i hlt
  ·obtain rfl : i = ks.length := by simp at hi; omega
   rw [er.1, er.2]; exact zeU hu hH
 ·rcases Nat.lt_or_ge j ks.length with hlt | hge
  ·rw [(el j hlt).1]
   rw [(el i (by omega)).1] at hg
   exact h.2.2 i j hij hlt g hg
  ·obtain rfl : j = ks.length := by simp at hj; omega
   rw [er.1]
   rw [(el i hij).1] at hg
   intro e
   have a := ((h.2.1 i hij).lt g hg).2
   have b := (hu.lt g e).1
   omega
theorem zoo {w : World} {H H' : Nat} {e e' : TypeId} {sz sz' : Nat} {v v' : Value} {n n' : Nat} {xs xs' : List Value} (h : w.ownsRow H e sz v n xs) (h' : w.ownsRow H' e' sz' v' n' xs') (hne : e ≠ e') : ∀ g, v.ownBlock = some g -> v'.ownBlock ≠ some g := by
 intro g hg hg'
 rcases h.2 with ⟨rfl, -⟩ | ⟨g1, cap, cur, rfl, -, hc, -⟩
 ·cases hg
 ·rcases h'.2 with ⟨rfl, -⟩ | ⟨g2, cap2, cur2, rfl, -, hc2, -⟩
  ·cases hg'
  ·injection hg with hg
   injection hg' with hg'
   have e1 : g1 = g := hg
   have e2 : g2 = g := hg'
   subst e1; subst e2
   rw [hc] at hc2
   injection hc2 with hc2
   injection hc2 with _ hc2 _
   exact hne hc2
def KysP (ks : List (List Int)) (w : World) (e : Ending) (w' : World) : Prop := ∃ v us, e = .returned v /\ w'.ownsRow w.heap.size 27 1 v ks.length us /\ zdt w' w.heap.size us ks /\ Below w.heap.size w w'
def KyRelC (L : List KC) (w1 : World) (l i : Value) (wr : World) : Prop :=
 ∃ (k : Nat) (us : List Value), k <= L.length /\ i = .int .i64 k /\ wr.ownsRow w1.heap.size 27 1 l k us /\ zdt wr w1.heap.size us ((L.take k).map Prod.fst) /\ Below w1.heap.size w1 wr
theorem zmV : (Tryz.prog.info? 27).map (fun i => (i.zero, i.size, i.bytes)) = some (some (.slice none 0 0), 1, 24) := by kernel_rfl
theorem zm8 {L : List KC} {k : Nat} (h : k < L.length) : L.getD k zK ∈ L := by
 rw [List.getD_eq_getElem?_getD, List.getElem?_eq_getElem h]; exact List.getElem_mem h
theorem zpv {L : List KC} {k : Nat} (h : k < L.length) : (L.take (k + 1)).map Prod.fst = (L.take k).map Prod.fst ++ [(L.getD k zK).1] := by
 rw [zh1 h, List.map_append]; rfl
theorem sl_key {w : World} {k : List Int} {W : Nat} (hk : k.length = W) (hW : W <= 3) : Sl (w.alloc (.cells #[.int .i64 (k.getD 0 0), .int .i64 (k.getD 1 0), .int .i64 (k.getD 2 0)] 149)) (w.heap.size + 1) (.slice (some ⟨w.heap.size, 0, none⟩) W 3) (zk k) := by
 refine Sl.take_ (by omega) hk.symm hW (by simp [maxLen]) fun j hj => ?_
 rw [Nat.zero_add]
 obtain rfl | rfl | rfl : j = 0 \/ j = 1 \/ j = 2 := by omega
 ·simp [go_sem]
 ·simp [go_sem]
 ·simp [go_sem]
theorem znC (N W : Nat) (hW : W <= 3) (w : World) : (Instr.sliceAt 149 (.pointer (some ⟨N, 0, none⟩)) none (some (.int .i64 W)) none).run Tryz.prog w = .ok (.slice (some ⟨N, 0, none⟩) W 3) w := by
 obtain rfl | rfl | rfl | rfl : W = 0 \/ W = 1 \/ W = 2 \/ W = 3 := by omega
 ·kernel_rfl
 ·kernel_rfl
 ·kernel_rfl
 ·kernel_rfl
set_option maxRecDepth 100000 in
set_option maxHeartbeats 3200000 in
theorem zoA (D : Nat -> Prop) (p m W M : Nat) (L : List KC) (w : World) (hc : CubW w D p m W M L) (hs : OkL W M L) (hW : W <= 3) (hL : L.length <= 70000) :
  Calls Tryz.prog 74 #[.pointer (some ⟨p, 0, none⟩)] w (KysP (L.map Prod.fst) w) := by
 obtain ⟨i0, hi, hz0, hz1, hz2⟩ := info_parts zmV
 have hpl := hc.2.2.2.1 p hc.1
 have y0 := hc.2.2.2.2.1
 have HO := hid (zou D p m W M L w hc hs hW hL)
 have HKY := hid hs.key
 clear hc hs
 go_enter Tryz.func74, Tryz.ntmps74
 go_wp2_with fail
 refine HO.out.mono ?_
 rintro e w1 ⟨v, rfl, ⟨A, cap, rfl, h1, h2, h3⟩, hb1⟩
 have y0 := zc hb1 hpl y0
 have hs1 := hb1.size
 unfold maxLen at h2
 have HB1 := hid hb1; have H3 := hid h3
 clear hb1 h3
 go_wp2
 go_loopw [3, 9] (fun l i wr => KyRelC L w1 l i wr) (fun _ i _ => L.length - (intOf i).toNat)
 case atStart => exact ⟨0, [], by omega, rfl, World.ownsRow_nil _ _ _ _, zdt.nil_ _ _, Below.refl _ _⟩
 case round =>
  obtain ⟨k, us, hk, rfl, hown, hrows, hb⟩ := hrel
  have hsb := hb.size
  by_cases hlt : k < L.length
  ·obtain ⟨g, rfl, hg, hcells⟩ := H3.out (by omega)
   obtain ⟨q0, q1, q2⟩ := hcells k hlt
   have q0 := zc hb hg q0
   have q1 := zc hb hg q1
   have q2 := zc hb hg q2
   have y0 := zc hb (by omega) y0
   have hkl := (HKY.out _ (zm8 hlt)).1
   have e1 := zpv hlt
   generalize (L.getD k zK).1 = key at *
   have hsl := sl_key (w := wr) hkl hW
   have hpw : p < wr.heap.size := by omega
   generalize key.getD 0 0 = x0 at *
   generalize key.getD 1 0 = x1 at *
   generalize key.getD 2 0 = x2 at *
   have hslk := znC wr.heap.size W hW
   obtain ⟨W0, hW0⟩ : ∃ W', W' = wr.alloc (.cells #[.int .i64 x0, .int .i64 x1, .int .i64 x2] 149) := ⟨_, rfl⟩
   rw [<- hW0] at hsl
   have hz0' : W0.heap.size = wr.heap.size + 1 := by rw [hW0]; simp
   have hb0 : Below wr.heap.size wr W0 := by rw [hW0]; exact bl1 _ _
   have HCL := hid (zbd _ key W0 (hsl.more (by omega)) (by omega))
   have HB := hid hb; have HOW := hid hown; have HRO := hid hrows; have E1 := hid e1; have HW0 := hid hW0; have HB0 := hid hb0
   clear hb hown hrows e1 hcells hsl hW0 hb0
   go_wp2_with fail
   rw [<- HW0.out]
   refine HCL.out.mono ?_
   rintro e w2 ⟨u, rfl, hu, hb2⟩
   rw [hkl] at hu
   obtain ⟨U, cu, rfl, -, -, -⟩ := zl hu
   have hs2 := hb2.size
   have hb02 : Below wr.heap.size wr w2 := HB0.out.trans (hb2.mono (by omega))
   have hown2 := zo HOW.out (fun g hg => hb02.block g (HOW.out.lt g hg).2)
   have hrow2 := HRO.out.app (k := key) hb02 (by rw [hkl]; exact zeU hu (by omega)) (by omega)
   rw [<- E1.out] at hrow2
   have HO2 := hid hown2; have HR2 := hid hrow2; have HB02 := hid hb02
   have HKL := hid hkl
   clear hown2 hrow2 hb02 hu hb2 hkl
   go_wp2_with (at_builtin; refine zr ?_)
   refine zar ?_
   refine zN (.tmp 13) (.tmp 20) 24 24 rfl rfl w1.heap.size 27 i0 (.slice none 0 0) 1 24 Tryz.underlying24 hi hz0 hz1 hz2 rfl (by decide) _ _ _ rfl (HO2.out.alloc _) (.slice (some ⟨w2.heap.size, 0, none⟩) 1 1) 1 [_] rfl (Src.ofSlice _ Tryz.underlying24 _ 1 1 _ rfl (zhM _ _ _ rfl) (by simp; rfl)) (by simp only [maxLen]; omega) (by omega) (by rw [World.size_alloc]; omega) ?_
   intro v3 w3 hown3 hg3 hb3 hat3
   have hrow3 : zdt w3 w1.heap.size (us ++ [.slice U W cu]) ((L.take (k + 1)).map Prod.fst) := by
    refine (HR2.out.below (bl1 w2 (.cells #[.slice U W cu] 27))).kept (fun i hi g hg => ?_)
    have hlg := ((HR2.out.2.1 i hi).lt g hg).2
    refine hg3.block g (by rw [World.size_alloc]; omega) (fun e => zoo (HR2.out.2.1 i hi) HO2.out (by decide) g hg e.symm)
   have hb3' := hid (((HB.out.trans (HB02.out.mono hsb)).alloc (by omega) _).trans hb3)
   have HO3 := hid hown3; have HR3 := hid hrow3
   clear hown3 hrow3 hg3 hb3 hat3
   go_wp2
   go_roundw
   case rel => exact ⟨k + 1, _, by omega, by go_num, HO3.out, HR3.out, hb3'.out⟩
   case measure => simp [intOf]; omega
  ·obtain rfl : k = L.length := by omega
   rw [List.take_length] at hrows
   have HOW := hid hown; have HRO := hid hrows; have HB := hid hb
   clear hown hrows hb
   go_wp2
   go_ret
   exact ⟨_, us, rfl, by rw [List.length_map]; exact zeU HOW.out hs1, ⟨HRO.out.1, fun i hi => zeU (HRO.out.2.1 i hi) hs1, HRO.out.2.2⟩, HB1.out.trans (HB.out.mono hs1)⟩
set_option maxRecDepth 100000 in
theorem zqM (D : Nat -> Prop) (p m W M : Nat) (L : List KC) (w : World) (hc : CubW w D p m W M L) :
  Calls Tryz.prog 32 #[.pointer (some ⟨p, 0, none⟩)] w (za5 (.int .i64 L.length) w) := by
 have hpl := hc.2.2.2.1 p hc.1
 have y2 := hc.2.2.2.2.2.2.1
 obtain ⟨Dm, h1, h2, -⟩ := hc.2.2.2.2.2.2.2
 have H2 := hid h2
 clear hc h2
 go_enter Tryz.func32, Tryz.ntmps32
 go_wp2_with (first
  | (at_len; refine wpList_len_own _ rfl _ 102 rfl 149 125 Tryz.underlying102 _ m L.length Dm rfl h1 ?_)
  | go_in)
 rw [H2.out]
 go_ret
 exact ⟨rfl, Qu.refl _⟩
end Go.Proofs.YtgoapnkdcfcjgaaGreat
namespace Go.Proofs.YtgoapnkdcfcjgaaGreat
open Go.ChangeShapes Go.WideShapes Go.ChangeAt Go.RowKit
theorem LatW.csAt {w : World} {H p : Nat} {Y : Lay} {l : LatX} (h : LatW w H p Y l) {v : Nat} (hv : v < l.cs.length) :
  ∃ g c, Y.CS = .slice (some ⟨g, 0, none⟩) l.cs.length c /\ l.cs.length <= c /\ c <= maxLen /\ H <= g /\ g < w.heap.size /\ w.cell? ⟨g, v, none⟩ = some (.pointer (some ⟨Y.cq v, 0, none⟩)) /\ w.frozen? ⟨g, v, none⟩ = false := by
 have h0 := h.cs
 obtain ⟨A, c, e, h1, h2, h3⟩ := zaa h0
 obtain ⟨g, rfl, hg, hgs, -, hc⟩ := h3 (by omega)
 rw [e] at h0
 refine ⟨g, c, e, h1, h2, hg, hgs, ?_, h0.frozenAt v⟩
 rw [hc v (by omega), zdl hv]
theorem LatW.dsAt {w : World} {H p : Nat} {Y : Lay} {l : LatX} (h : LatW w H p Y l) {v : Nat} (hv : v < l.ds.length) :
  ∃ g c, Y.DS = .slice (some ⟨g, 0, none⟩) l.ds.length c /\ l.ds.length <= c /\ c <= maxLen /\ H <= g /\ g < w.heap.size /\ w.cell? ⟨g, v, none⟩ = some (.pointer (some ⟨Y.dp v, 0, none⟩)) /\ w.frozen? ⟨g, v, none⟩ = false := by
 have h0 := h.ds
 obtain ⟨A, c, e, h1, h2, h3⟩ := zaa h0
 obtain ⟨g, rfl, hg, hgs, -, hc⟩ := h3 (by omega)
 rw [e] at h0
 refine ⟨g, c, e, h1, h2, hg, hgs, ?_, h0.frozenAt v⟩
 rw [hc v (by omega), zdl hv]
def LenLP (n : Nat) (w : World) (e : Ending) (w' : World) : Prop := e = .returned (.tuple #[.int .i64 n, .int .i64 0]) /\ Below w.heap.size w w'
set_option maxRecDepth 100000 in
set_option maxHeartbeats 1600000 in
theorem zpB (H p : Nat) (Y : Lay) (l : LatX) (v : Nat) (w : World) (h : LatW w H p Y l) (hv : v < l.cs.length) (hc : l.cs.length = (zh l.s).length) (hv9 : v <= 1000) :
  Calls Tryz.prog 16 #[.pointer (some ⟨p, 0, none⟩), .int .i64 (v : Int)] w (LenLP (l.cs.getD v []).length w) := by
 obtain ⟨g, c, hCS, hc1, hc2, hg, hgs, hcell, -⟩ := h.csAt hv
 obtain ⟨AV, cV, hV, hcV, hmV⟩ := h.views.open_
 simp only [List.cons.injEq, and_true] at hV
 have c3 := h.c3; have c5 := h.c5
 rw [hV] at c3
 rw [hCS] at c5
 rw [<- hc] at c3 hcV
 have HLN := hid (fun W (hq : Below w.heap.size w W) => zqM (Y.cD v) (Y.cq v) (Y.cm v) l.s.1.length l.s.2.1.length (l.cs.getD v []) W ((h.cub v hv).below hq))
 unfold maxLen at hc2
 generalize (l.cs.getD v []).length = n at *
 clear h hCS hV
 generalize l.cs.length = m at *
 go_enter Tryz.func16, Tryz.ntmps16
 go_wp2_with fail
 (with_reducible refine (HLN.out _ (Below.refl _ _)).mono ?_)
 rintro e w2 ⟨rfl, hq⟩
 have HB := hid (hq.below w.heap.size)
 clear hq
 go_wp2
 go_ret2
 exact ⟨rfl, HB.out⟩
def OwnLP (l : LatX) (w : World) (e : Ending) (w' : World) : Prop :=
 ∃ v, e = .returned v /\ zD w' w'.heap.size v l.s /\ Below w.heap.size w w'
set_option maxRecDepth 100000 in
set_option maxHeartbeats 1600000 in
theorem zjE (H p : Nat) (Y : Lay) (l : LatX) (w : World) (h : LatW w H p Y l) (hm : mayS l.s = true) :
  Calls Tryz.prog 28 #[.pointer (some ⟨p, 0, none⟩)] w (OwnLP l w) := by
 obtain ⟨⟨hd1, hd3⟩, ⟨hm1, hm2⟩, hdl⟩ := zaz hm
 obtain ⟨hv6, hvl⟩ := zaj hm
 obtain ⟨A1, c1, A2, c2, A3, c3, e, h1, h2, h3⟩ := h.sch.rd h.sin
 have hv := h.sch.rd h.sin
 rw [e] at hv
 injection e with e
 have e1 : Y.S1 = .slice A1 l.s.1.length c1 := by have := congrArg (fun a : Array Value => a[0]?) e; simpa using this
 have e2 : Y.S2 = .slice A2 l.s.2.1.length c2 := by have := congrArg (fun a : Array Value => a[1]?) e; simpa using this
 have e3 : Y.S3 = .slice A3 l.s.2.2.length c3 := by have := congrArg (fun a : Array Value => a[2]?) e; simpa using this
 obtain ⟨W1, hW1⟩ : ∃ W, W = w.alloc (.cells #[.slice none 0 0, .slice none 0 0, .slice none 0 0] 26) := ⟨_, rfl⟩
 obtain ⟨K, hK⟩ : ∃ K, K = w.heap.size := ⟨_, rfl⟩
 have g1 : Below K w W1 := by rw [hW1, hK]; exact bl1 _ _
 have z1 : W1.heap.size = K + 1 := by rw [hW1, hK]; simp
 have p0 : W1.cell? ⟨K, 0, none⟩ = some (.slice none 0 0) := by rw [hW1, hK]; simp [go_sem]
 have p1 : W1.cell? ⟨K, 1, none⟩ = some (.slice none 0 0) := by rw [hW1, hK]; simp [go_sem]
 have p2 : W1.cell? ⟨K, 2, none⟩ = some (.slice none 0 0) := by rw [hW1, hK]; simp [go_sem]
 have f0 : W1.frozen? ⟨K, 0, none⟩ = false := by rw [hW1, hK]; simp [go_sem]
 have f1 : W1.frozen? ⟨K, 1, none⟩ = false := by rw [hW1, hK]; simp [go_sem]
 have f2 : W1.frozen? ⟨K, 2, none⟩ = false := by rw [hW1, hK]; simp [go_sem]
 rw [<- hK] at hv
 have hp : p < K := by rw [hK]; exact h.pl
 have q0 := zc g1 hp h.c0; have q1 := zc g1 hp h.c1; have q2 := zc g1 hp h.c2
 rw [e1] at q0; rw [e2] at q1; rw [e3] at q2
 have HOWN := hid (zjD _ l.s W1 ((hv.below g1).more (by omega)) (by omega) (by omega) (fun x hx => by rw [hvl x hx]; omega) (by omega) (fun d hd => by have := hdl d hd; omega))
 have HIN := hid h.sin
 have HW1 := hid hW1; have G1 := hid g1; have HK := hid hK; have Z1 := hid z1
 unfold OwnLP
 rw [<- hK]
 clear h e e1 e2 e3 h1 h2 h3 hv hW1 g1 hK z1 hdl hvl hm
 generalize hs : l.s = s at *
 clear hs
 go_enter Tryz.func28, Tryz.ntmps28
 go_upto_region 1 with (fail)
 rw [<- HW1.out, <- HK.out]
 go_wp2_with fail
 (with_reducible refine HOWN.out.mono ?_)
 rintro e w2 ⟨O1, d1, O2, d2, O3, d3, rfl, ho, hb⟩
 have hlt : K < W1.heap.size := by rw [Z1.out]; omega
 have k0 := zc hb hlt p0; have k1 := zc hb hlt p1; have k2 := zc hb hlt p2
 have y0 := zy hb hlt f0; have y1 := zy hb hlt f1; have y2 := zy hb hlt f2
 have HO := hid ho; have HB := hid hb
 have Z2 := hid (show K + 1 <= w2.heap.size by have := hb.size; have h := Z1.out; omega)
 clear ho hb p0 p1 p2 f0 f1 f2 q0 q1 q2
 go_wp2
 obtain ⟨W8, hW8⟩ : ∃ W, W = ((w2.setCell ⟨K, 0, none⟩ (.slice O1 s.1.length d1)).setCell ⟨K, 1, none⟩ (.slice O2 s.2.1.length d2)).setCell ⟨K, 2, none⟩ (.slice O3 s.2.2.length d3) := ⟨_, rfl⟩
 rw [<- hW8]
 have s0 : W8.cell? ⟨K, 0, none⟩ = some (.slice O1 s.1.length d1) := by rw [hW8]; exact zb (by omega) (zb (by omega) (zt k0))
 have s1 : W8.cell? ⟨K, 1, none⟩ = some (.slice O2 s.2.1.length d2) := by rw [hW8]; exact zb (by omega) (zt (zb (by omega) k1))
 have s2 : W8.cell? ⟨K, 2, none⟩ = some (.slice O3 s.2.2.length d3) := by rw [hW8]; exact zt (zb (by omega) (zb (by omega) k2))
 have b8 : Below K w W8 := by
  rw [hW8]
  exact (((G1.out.trans (HB.out.mono (Nat.le_of_lt hlt))).setCell (Nat.le_refl K) _).setCell (Nat.le_refl K) _).setCell (Nat.le_refl K) _
 have hkeep : ∀ g, W1.heap.size <= g -> g < w2.heap.size -> W8.heap[g]? = w2.heap[g]? := fun g h1 h2 => by
  have := Z1.out
  rw [hW8]
  exact (Below.heap_setCell _ _ _ g (by simp; omega)).trans ((Below.heap_setCell _ _ _ g (by simp; omega)).trans (Below.heap_setCell _ _ _ g (by simp; omega)))
 have hrd : zD W8 W8.heap.size (.agg #[.slice O1 s.1.length d1, .slice O2 s.2.1.length d2, .slice O3 s.2.2.length d3]) s :=
  SchO.rd ⟨HO.out.1.range hkeep, zcc HO.out.2.1 hkeep, HO.out.2.2.range hkeep⟩ HIN.out
 refine bodyPost_ret (v := .agg #[.slice O1 s.1.length d1, .slice O2 s.2.1.length d2, .slice O3 s.2.2.length d3]) ?_ rfl ?_
 ·simp [results, Tryz.results28, go_sem, s0, s1, s2]
 ·exact ⟨_, rfl, hrd, b8⟩
end Go.Proofs.YtgoapnkdcfcjgaaGreat
