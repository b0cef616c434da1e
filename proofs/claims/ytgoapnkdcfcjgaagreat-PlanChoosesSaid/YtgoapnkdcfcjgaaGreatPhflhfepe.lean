/- 3 texts of this claim, in build order. -/
import Derived.Test.YtgoapnkdcfcjgaaGreatPcbimcfdc
import Derived.Test.YtgoapnkdcfcjgaaGreatPnockapcc
import Derived.Test.YtgoapnkdcfcjgaaGreatPadpamnig
import Derived.Test.YtgoapnkdcfcjgaaGreatPhpfbkhaa
import Derived.Test.YtgoapnkdcfcjgaaGreatPmlmbgadk
import Derived.Test.YtgoapnkdcfcjgaaGreatPdepgnfhp
import Derived.Laws.OwnMore
set_option linter.unusedVariables false
set_option linter.unusedSimpArgs false
namespace Go.Proofs.YtgoapnkdcfcjgaaGreat
open Go.ChangeShapes Go.WideShapes Go.ChangeAt Go.RowKit
def znt (view : List Int) (cc : List (List Int)) (W : World) (out i : Value) (wr : World) : Prop :=
 ∃ k : Nat, k <= view.length /\ i = .int .i64 k /\ wr.ownsRow W.heap.size 3 1 out k (zk (keyJ view cc k)) /\ Below W.heap.size W wr
def zl7 (view : List Int) (cc : List (List Int)) : Prop := ∀ i, i < view.length -> 0 < view.getD i 0 -> i < cc.length /\ view.getD i 0 <= (cc.getD i []).length
set_option maxRecDepth 100000 in
set_option maxHeartbeats 1600000 in
theorem zo5 (H p : Nat) (Y : Lay) (l : LatX) (v : Nat) (x : Value) (cc : List (List Int)) (w : World) (h : LatW w H p Y l) (hv : v < (zh l.s).length) (hx : zj 1 zC w w.heap.size [x] cc) (hok : zl7 ((zh l.s).getD v []) cc)
  (hsm : ((zh l.s).getD v []).length <= 1000) (hv9 : v <= 1000) :
  Calls Tryz.prog 69 #[.pointer (some ⟨p, 0, none⟩), .int .i64 (v : Int), x] w (zfL (keyF ((zh l.s).getD v []) cc) w) := by
 obtain ⟨i0, hi, hz0, hz1, hz2⟩ := info_parts zaE
 have hvw := h.views
 obtain ⟨AV, cV, hV, hcV, hmV⟩ := hvw.open_
 simp only [List.cons.injEq, and_true] at hV
 have c3 := h.c3
 have hpl := h.pl
 rw [hV] at c3 hvw
 obtain ⟨bv, offv, Av, cv, rfl, hbv, q0, rv⟩ := zdb hvw hv
 have eg : (zh l.s)[v] = (zh l.s).getD v [] := by rw [List.getD_eq_getElem?_getD, List.getElem?_eq_getElem hv]; rfl
 rw [eg] at q0 rv
 obtain ⟨Ax, cx, ex, hcx, hmx⟩ := hx.open_
 simp only [List.cons.injEq, and_true] at ex
 subst ex
 obtain ⟨hrc, hrm⟩ := rv.cap
 have RV := hid rv; have HX := hid hx; have HOK := hid hok
 unfold keyF
 generalize (zh l.s).getD v [] = view at *
 clear rv hx hok h hvw hV eg
 generalize (zh l.s).length = nv at *
 go_enter Tryz.func69, Tryz.ntmps69
 go_wp2
 go_loopw [7, 19] (fun out i wr => znt view cc w out i wr) (fun _ i _ => view.length - (intOf i).toNat)
 case atStart => exact ⟨0, by omega, rfl, World.ownsRow_nil _ _ _ _, Below.refl _ _⟩
 case round =>
  obtain ⟨k, hk, rfl, hown, hb⟩ := hrel
  have HB := hid hb; have HOW := hid hown
  have hs := hb.size
  by_cases hlt : k < view.length
  ·obtain ⟨b2, o2, e2, hb2, qk, hik⟩ := zb4 RV.out hlt
   subst e2
   have qk := zc hb hb2 qk
   have e1 := zov view cc k
   by_cases h0 : 0 < view.getD k 0
   ·rw [if_pos h0] at e1
    obtain ⟨hkc, hle⟩ := HOK.out k hlt h0
    obtain ⟨b3, o3, A3, c3', e3, hb3, q3, r3⟩ := zdb HX.out hkc
    subst e3
    have ec : cc[k] = cc.getD k [] := by rw [List.getD_eq_getElem?_getD, List.getElem?_eq_getElem hkc]; rfl
    rw [ec] at q3 r3
    have q3 := zc hb hb3 q3
    obtain ⟨hc3, hm3⟩ := r3.cap
    have hj : (view.getD k 0 - 1).toNat < (cc.getD k []).length := by omega
    obtain ⟨b4, o4, e4, hb4, q4, hi4⟩ := zb4 r3 hj
    have q4 := zc hb hb4 q4
    generalize hz : view.getD k 0 = z at *
    obtain ⟨m, hm⟩ : ∃ m : Nat, z = ((m + 1 : Nat) : Int) := ⟨(z - 1).toNat, by omega⟩
    have hmt : (z - 1).toNat = m := by omega
    rw [hmt] at q4 e1 hj
    subst hm
    generalize (cc.getD k []).getD m 0 = y at *
    generalize (cc.getD k []).length = nn at *
    have E1 := hid e1
    subst e4
    clear hb hown e1 r3 hi4 ec hz hmt
    go_wp2_with (at_builtin; refine zr ?_)
    refine zar ?_
    refine zav (.tmp 34) (.tmp 36) 27 27 rfl rfl w.heap.size 3 i0 (.int .i64 0) 1 8 Tryz.underlying27 hi hz0 hz1 hz2 rfl (by decide) _ k (zk (keyJ view cc k)) rfl (HOW.out.alloc _) (.slice (some ⟨wr.heap.size, 0, none⟩) 1 1) 1 (zk [y]) rfl (Src.ofSlice _ Tryz.underlying27 _ 1 1 _ rfl (zG _ _ _ rfl) (by simp [zk]; rfl)) (by simp only [maxLen]; omega) (by omega) (by rw [World.size_alloc]; omega) ?_
    intro v' w5 hown' hg' hb'
    have HN5 := hid (show znt view cc w v' (.int .i64 ((k : Int) + 1)) w5 from ⟨k + 1, by omega, by go_num, by rw [E1.out, za0]; exact hown', ((HB.out.alloc hs _).trans hb')⟩)
    clear hown' hg' hb'
    go_wp2
    go_roundw
    case rel => exact HN5.out
    case measure => simp [intOf]; omega
   ·rw [if_neg h0] at e1
    generalize view.getD k 0 = z at *
    have E1 := hid e1
    clear hb hown e1
    go_wp2_with (at_builtin; refine zr ?_)
    refine zar ?_
    refine zav (.tmp 34) (.tmp 36) 27 27 rfl rfl w.heap.size 3 i0 (.int .i64 0) 1 8 Tryz.underlying27 hi hz0 hz1 hz2 rfl (by decide) _ k (zk (keyJ view cc k)) rfl (HOW.out.alloc _) (.slice (some ⟨wr.heap.size, 0, none⟩) 1 1) 1 (zk [0]) rfl (Src.ofSlice _ Tryz.underlying27 _ 1 1 _ rfl (zG _ _ _ rfl) (by simp [zk]; rfl)) (by simp only [maxLen]; omega) (by omega) (by rw [World.size_alloc]; omega) ?_
    intro v' w5 hown' hg' hb'
    have HN5 := hid (show znt view cc w v' (.int .i64 ((k : Int) + 1)) w5 from ⟨k + 1, by omega, by go_num, by rw [E1.out, za0]; exact hown', ((HB.out.alloc hs _).trans hb')⟩)
    clear hown' hg' hb'
    go_wp2
    go_roundw
    case rel => exact HN5.out
    case measure => simp [intOf]; omega
  ·obtain rfl : k = view.length := by omega
   clear hb hown
   go_wp2
   go_ret
   exact ⟨_, rfl, by rw [zpG]; exact HOW.out, HB.out⟩
theorem zk1 : (Tryz.prog.info? 125).map (fun i => (i.zero, i.size, i.bytes)) = some (some (.agg #[.int .i64 0, .slice none 0 0, .slice none 0 0, .slice none 0 0]), 4, 80) := by kernel_rfl
theorem zln : (Tryz.prog.info? 4).map (fun i => (i.zero, i.size, i.bytes)) = some (some (.bool false), 1, 1) := by kernel_rfl
def Own3 (w : World) (K : Nat) (x : E4) (c : zp) : Prop :=
 x.1 = c.n /\ w.ownsRow K 3 1 x.2.1 c.s.length (zk c.s) /\ w.ownsRow K 3 1 x.2.2.1 c.lo.length (zk c.lo) /\ w.ownsRow K 3 1 x.2.2.2 c.hi.length (zk c.hi)
theorem Own3.lit {w : World} {H K : Nat} {v : Value} {c : zp} (h : OwnC w H v c) (hk : K <= H) : ∃ A1 c1 A2 c2 A3 c3, v = .agg #[.int .i64 c.n, .slice A1 c.s.length c1, .slice A2 c.lo.length c2, .slice A3 c.hi.length c3] /\
  Own3 w K (c.n, .slice A1 c.s.length c1, .slice A2 c.lo.length c2, .slice A3 c.hi.length c3) c := by
 obtain ⟨v1, v2, v3, rfl, h1, h2, h3, -, -⟩ := h
 obtain ⟨A1, c1, rfl⟩ := zu h1
 obtain ⟨A2, c2, rfl⟩ := zu h2
 obtain ⟨A3, c3, rfl⟩ := zu h3
 exact ⟨A1, c1, A2, c2, A3, c3, rfl, rfl, zw h1 hk, zw h2 hk, zw h3 hk⟩
theorem Own3.on {w w' : World} {K : Nat} {x : E4} {c : zp} (h : Own3 w K x c) (hb : Below w.heap.size w w') : Own3 w' K x c := ⟨h.1, zx h.2.1 hb, zx h.2.2.1 hb, zx h.2.2.2 hb⟩
theorem Own3.keepT {w w' : World} {K : Nat} {x : E4} {c : zp} (h : Own3 w K x c) (k : zac 3 K w w') : Own3 w' K x c := ⟨h.1, zad h.2.1 k, zad h.2.2.1 k, zad h.2.2.2 k⟩
theorem Own3.read {w : World} {K : Nat} {x : E4} {c : zp} (h : Own3 w K x c) : zaZ w w.heap.size (.agg #[.int .i64 x.1, x.2.1, x.2.2.1, x.2.2.2]) c :=
 ⟨x.2.1, x.2.2.1, x.2.2.2, by rw [h.1], Sl.of_own h.2.1, Sl.of_own h.2.2.1, Sl.of_own h.2.2.2⟩
def CelO (w : World) (K : Nat) (v : Value) (L : List zp) : Prop :=
 ∃ es : List E4, es.length = L.length /\ w.ownsRow K 125 4 v L.length (zb0 es) /\ ∀ k, k < L.length -> Own3 w K (es.getD k z4) (L.getD k nilC)
theorem CelO.nil_ (w : World) (K : Nat) : CelO w K (.slice none 0 0) [] := ⟨[], rfl, World.ownsRow_nil _ _ _ _, fun k hk => by simp at hk⟩
theorem CelO.keepT {w w' : World} {K : Nat} {v : Value} {L : List zp} (h : CelO w K v L) (k1 : zac 125 K w w') (k2 : zac 3 K w w') : CelO w' K v L := by
 obtain ⟨es, h1, h2, h3⟩ := h
 exact ⟨es, h1, zad h2 k1, fun k hk => (h3 k hk).keepT k2⟩
theorem CelO.on {w w' : World} {K : Nat} {v : Value} {L : List zp} (h : CelO w K v L) (hb : Below w.heap.size w w') : CelO w' K v L := h.keepT (zac.of_below hb) (zac.of_below hb)
theorem CelO.form {w : World} {K : Nat} {v : Value} {L : List zp} (h : CelO w K v L) : ∃ A c, v = .slice A L.length c := by
 obtain ⟨es, -, h2, -⟩ := h
 exact zu h2
theorem CelO.row {w : World} {K : Nat} {v : Value} {L : List zp} (h : CelO w K v L) : RowC w w.heap.size v L := by
 obtain ⟨es, h1, h2, h3⟩ := h
 obtain ⟨A, c, rfl, g1, g2, g3⟩ := zaa h2
 refine ⟨A, c, es, rfl, h1, g1, g2, fun h0 => ?_, fun k hk => (h3 k hk).read⟩
 obtain ⟨g, rfl, -, hg, -, hc⟩ := g3 h0
 exact ⟨g, 0, rfl, hg, fun k hk => zgC (es := es) (off := 0) (fun j hj => by rw [Nat.zero_add]; exact hc j (by omega)) k (by omega)⟩
theorem zlC (es : List E4) (x : E4) : zb0 (es ++ [x]) = zb0 es ++ e4 x := by unfold zb0; rw [List.flatMap_append]; simp
theorem CelO.app {wa w4 : World} {K n : Nat} {out v' : Value} {L : List zp} {es : List E4} {x : E4} {c : zp} (hn : n = L.length) (h1 : es.length = L.length) (h2 : wa.ownsRow K 125 4 out n (zb0 es))
  (h3 : ∀ k, k < L.length -> Own3 wa K (es.getD k z4) (L.getD k nilC)) (hx : Own3 wa K x c) (ho : w4.ownsRow K 125 4 v' (n + 1) (zb0 es ++ e4 x)) (hg : wa.grownBy w4 out.ownBlock) : CelO w4 K v' (L ++ [c]) := by
 subst hn
 have kk : zac 3 K wa w4 := zac.of_grown hg h2 (by decide)
 refine ⟨es ++ [x], by simp [h1], by rw [List.length_append, zlC]; exact ho, fun k hk => ?_⟩
 rw [List.length_append, List.length_singleton] at hk
 rcases Nat.lt_or_ge k L.length with hlt | hge
 ·have e1 : (es ++ [x]).getD k z4 = es.getD k z4 := by rw [List.getD_eq_getElem?_getD, List.getD_eq_getElem?_getD, List.getElem?_append_left (by omega)]
  have e2 : (L ++ [c]).getD k nilC = L.getD k nilC := by rw [List.getD_eq_getElem?_getD, List.getD_eq_getElem?_getD, List.getElem?_append_left hlt]
  rw [e1, e2]
  exact (h3 k hlt).keepT kk
 ·obtain rfl : k = L.length := by omega
  have e1 : (es ++ [x]).getD L.length z4 = x := by rw [List.getD_eq_getElem?_getD, List.getElem?_append_right (by omega), h1, Nat.sub_self]; rfl
  have e2 : (L ++ [c]).getD L.length nilC = c := by rw [List.getD_eq_getElem?_getD, List.getElem?_append_right (by omega), Nat.sub_self]; rfl
  rw [e1, e2]
  exact hx.keepT kk
theorem CelO.first {wa w4 : World} {K : Nat} {v' : Value} {x : E4} {c : zp} (hx : Own3 wa K x c) (ho : w4.ownsRow K 125 4 v' 1 (e4 x)) (hg : wa.grownBy w4 none) : CelO w4 K v' [c] := by
 refine ⟨[x], rfl, by unfold zb0; simpa using ho, fun k hk => ?_⟩
 obtain rfl : k = 0 := by simp at hk; omega
 exact hx.keepT (fun g cur hb hgg => hg.block g (Array.getElem?_eq_some_iff.1 hgg).1 (fun e => by cases e))
def zdW (ks : List (List Int)) (i j : Nat) : Bool := (List.range i).any fun a => decide (ks.getD a [] = ks.getD j [])
theorem zgp (ks : List (List Int)) (i j : Nat) : zdW ks (i + 1) j = (zdW ks i j || decide (ks.getD i [] = ks.getD j [])) := by
 unfold zdW
 rw [List.range_succ, List.any_append]
 simp
def zda (dn : List Bool) (ks : List (List Int)) (i n : Nat) : Prop := dn.length = n /\ ∀ j, i <= j -> j < n -> dn.getD j false = zdW ks i j
def zdd (dn : List Bool) (ks : List (List Int)) (i j n : Nat) : Prop := dn.length = n /\ ∀ b, i <= b -> b < n -> dn.getD b false = (zdW ks i b || decide (b < j /\ ks.getD b [] = ks.getD i []))
theorem zda.start (ks : List (List Int)) (n : Nat) : zda (List.replicate n false) ks 0 n := ⟨by simp, fun j _ hj => by simp [zdW, List.getD_eq_getElem?_getD, hj]⟩
theorem zda.skip {dn : List Bool} {ks : List (List Int)} {i n : Nat} (h : zda dn ks i n) (hh : zdW ks i i = true) : zda dn ks (i + 1) n := by
 refine ⟨h.1, fun j h1 h2 => ?_⟩
 rw [h.2 j (by omega) h2, zgp]
 by_cases e : ks.getD i [] = ks.getD j []
 ·have : zdW ks i j = true := by unfold zdW at hh ⊢; rw [<- e]; exact hh
  rw [this]; rfl
 ·rw [decide_eq_false e, Bool.or_false]
theorem zda.into {dn : List Bool} {ks : List (List Int)} {i n : Nat} (h : zda dn ks i n) : zdd dn ks i i n := by
 refine ⟨h.1, fun b h1 h2 => ?_⟩
 rw [h.2 b h1 h2, decide_eq_false (by omega), Bool.or_false]
theorem zdd.out {dn : List Bool} {ks : List (List Int)} {i n : Nat} (h : zdd dn ks i n n) : zda dn ks (i + 1) n := by
 refine ⟨h.1, fun j h1 h2 => ?_⟩
 rw [h.2 j (by omega) h2, zgp]
 congr 1
 rw [decide_eq_decide]
 exact ⟨fun h => h.2.symm, fun h => ⟨h2, h.symm⟩⟩
theorem zdd.yes {dn : List Bool} {ks : List (List Int)} {i j n : Nat} (h : zdd dn ks i j n) (hij : i <= j) (hj : j < n) (e : ks.getD j [] = ks.getD i []) : zdd (dn.set j true) ks i (j + 1) n := by
 refine ⟨by rw [List.length_set]; exact h.1, fun b h1 h2 => ?_⟩
 by_cases hb : j = b
 ·subst hb
  rw [List.getD_eq_getElem?_getD, List.getElem?_set_self (by rw [h.1]; exact hj), decide_eq_true (⟨by omega, e⟩ : j < j + 1 /\ _), Bool.or_true]; rfl
 ·rw [List.getD_eq_getElem?_getD, List.getElem?_set_ne hb, <- List.getD_eq_getElem?_getD, h.2 b h1 h2]
  congr 1
  rw [decide_eq_decide]
  exact ⟨fun h => ⟨by omega, h.2⟩, fun h => ⟨by omega, h.2⟩⟩
theorem zdd.no {dn : List Bool} {ks : List (List Int)} {i j n : Nat} (h : zdd dn ks i j n) (e : ks.getD j [] ≠ ks.getD i []) : zdd dn ks i (j + 1) n := by
 refine ⟨h.1, fun b h1 h2 => ?_⟩
 rw [h.2 b h1 h2]
 congr 1
 rw [decide_eq_decide]
 refine ⟨fun h => ⟨by omega, h.2⟩, fun h => ⟨?_, h.2⟩⟩
 rcases Nat.lt_or_ge b j with hb | hb
 ·exact hb
 ·obtain rfl : b = j := by omega
  exact absurd h.2 e
def zeF (dn : List Bool) : List Value := dn.map Value.bool
theorem zkm {dn : List Bool} {j : Nat} (h : j < dn.length) : (zeF dn)[j]? = some (.bool (dn.getD j false)) := by simp [zeF, List.getD_eq_getElem?_getD, h]
theorem znP (dn : List Bool) (j : Nat) (b : Bool) : (zeF dn).set j (.bool b) = zeF (dn.set j b) := by unfold zeF; rw [List.map_set]
theorem zhT (D : Nat -> Prop) (p m W M : Nat) (L : List KC) (v : Value) (k : List Int) (w : World) (hc : CubW w D p m W M L) (hs : OkL W M L) (hv : Sl w w.heap.size v (zk k)) (h1 : 1 <= W) (h3 : W <= 3) (hM : M <= 2) :
  Calls Tryz.prog 70 #[.pointer (some ⟨p, 0, none⟩), v] w (zrf (getC L k) (getK L k).isSome w) := by
 cases hk : okB W k
 ·have hn : getK L k = none := zbH.2 (fun x hx e => by
   have := hs.key x hx
   rw [e] at this
   have h2 : okB W k = true := decide_eq_true this
   rw [hk] at h2; cases h2)
  have h := zq0 D p m W M L v k w hc hv hk
  unfold getC
  rw [hn]
  exact h
 ·exact zpH D p m W M L v k w hc hs hv h1 h3 hM hk
theorem zaJ {w : World} {b i g : Nat} {u : Value} (h : g ≠ b) : (w.setCell ⟨b, i, none⟩ u).heap[g]? = w.heap[g]? := Below.heap_setCell _ _ _ g (by simpa using h)
theorem LatW.cubSet {w : World} {H p : Nat} {Y : Lay} {l : LatX} (h : LatW w H p Y l) {v : Nat} (hv : v < l.cs.length) {g c : Nat} (hCS : Y.CS = .slice (some ⟨g, 0, none⟩) l.cs.length c) {q m : Nat} {D : Nat -> Prop} {L : List KC}
  (hd : CubW w D q m l.s.1.length l.s.2.1.length L) (hD : ∀ k, D k -> ¬ LatO p Y l.ds.length k) :
  LatW (w.setCell ⟨g, v, none⟩ (.pointer (some ⟨q, 0, none⟩))) H p { Y with R := fun k => Y.R k \/ D k, cq := fun j => if j = v then q else Y.cq j, cm := fun j => if j = v then m else Y.cm j, cD := fun j => if j = v then D else Y.cD j } { l with cs := l.cs.set v L } := by
 have hgo : Y.CS.ownBlock = some g := by rw [hCS]; rfl
 obtain ⟨hgp, hgd⟩ := h.csA g hgo
 have hgR : ∀ k, Y.R k -> k ≠ g := fun k hk e => (h.rl k hk).2.2.1 (by rw [e]; exact hgo)
 have hgD : ∀ k, D k -> k ≠ g := fun k hk e => hD k hk (.inr (.inr (.inr (.inl (by rw [e]; exact hgo)))))
 have hDlt : ∀ k, D k -> k < w.heap.size := hd.2.2.2.1
 have hlen : (l.cs.set v L).length = l.cs.length := List.length_set
 have hsz : (w.setCell ⟨g, v, none⟩ (.pointer (some ⟨q, 0, none⟩))).heap.size = w.heap.size := by simp [World.setCell]
 have kR : Kept Y.R w (w.setCell ⟨g, v, none⟩ (.pointer (some ⟨q, 0, none⟩))) := fun k hk => zaJ (hgR k hk)
 have hcell : ∀ i u, w.cell? ⟨p, i, none⟩ = some u -> (w.setCell ⟨g, v, none⟩ (.pointer (some ⟨q, 0, none⟩))).cell? ⟨p, i, none⟩ = some u := fun i u hc => cell_far hgp hc
 refine ⟨h.hp, by rw [hsz]; exact h.pl, fun i hi => frozen_far (h.fz i hi), hcell 0 _ h.c0, hcell 1 _ h.c1, hcell 2 _ h.c2, hcell 3 _ h.c3, hcell 4 _ h.c4, hcell 5 _ h.c5, hcell 6 _ h.c6, (h.sch.kept kR).mono (fun g hg => .inl hg), h.sin, (h.row.kept kR).mono (fun g hg => .inl hg), ?_, ?_, ?_, ?_, ?_, ?_, ?_, ?_, h.csA, h.dA, h.dd⟩
 ·exact zo h.ds (fun k hk => zaJ (fun e => (h.dsA k hk).2.1 (by rw [e]; exact hgo)))
 ·show (w.setCell ⟨g, v, none⟩ (.pointer (some ⟨q, 0, none⟩))).ownsRow H 79 1 Y.CS (l.cs.set v L).length (ptrs (fun j => if j = v then q else Y.cq j) (l.cs.set v L).length)
  rw [hlen, <- zpJ hv]
  have h0 := h.cs
  rw [hCS] at h0 ⊢
  exact (h0.stored v (.pointer (some ⟨q, 0, none⟩))).1
 ·exact fun i hi => (h.dict i hi).kept (fun k hk => zaJ (fun e => hgd i hi (e ▸ hk))) (by rw [hsz]; exact Nat.le_refl _)
 ·intro i hi
  rw [hlen] at hi
  show CubW _ (if i = v then D else Y.cD i) (if i = v then q else Y.cq i) (if i = v then m else Y.cm i) l.s.1.length l.s.2.1.length ((l.cs.set v L).getD i [])
  by_cases e : i = v
  ·subst e
   rw [if_pos rfl, if_pos rfl, if_pos rfl, List.getD_eq_getElem?_getD, List.getElem?_set_self hi]
   exact hd.kept (fun k hk => zaJ (hgD k hk)) (by rw [hsz]; exact Nat.le_refl _)
  ·rw [if_neg e, if_neg e, if_neg e, List.getD_eq_getElem?_getD, List.getElem?_set_ne (fun h => e h.symm), <- List.getD_eq_getElem?_getD]
   exact (h.cub i hi).kept (fun k hk => kR k (h.cuR i hi k hk)) (by rw [hsz]; exact Nat.le_refl _)
 ·intro k hk
  rw [hsz]
  rcases hk with hk | hk
  ·exact h.rl k hk
  ·exact ⟨hDlt k hk, fun e => hD k hk (.inr (.inr (.inl e))), fun e => hD k hk (.inr (.inr (.inr (.inl e)))), fun i hi hdk => hD k hk (.inr (.inr (.inr (.inr ⟨i, hi, hdk⟩))))⟩
 ·intro k hk e
  rcases hk with hk | hk
  ·exact h.rd k hk e
  ·exact hD k hk (.inr (.inl e))
 ·exact h.dsA
 ·intro i hi k hk
  rw [hlen] at hi
  replace hk : (if i = v then D else Y.cD i) k := hk
  by_cases e : i = v
  ·rw [if_pos e] at hk; exact .inr hk
  ·rw [if_neg e] at hk; exact .inl (h.cuR i hi k hk)
theorem LatW.num {w : World} {H p : Nat} {Y : Lay} {l : LatX} (h : LatW w H p Y l) (n : Int) : LatW (w.setCell ⟨p, 6, none⟩ (.int .i64 n)) H p Y { l with n := n } := by
 have hsz : (w.setCell ⟨p, 6, none⟩ (.int .i64 n)).heap.size = w.heap.size := by simp [World.setCell]
 have kR : Kept Y.R w (w.setCell ⟨p, 6, none⟩ (.int .i64 n)) := fun k hk => zaJ (h.rl k hk).2.1
 have hcell : ∀ i u, i ≠ 6 -> w.cell? ⟨p, i, none⟩ = some u -> (w.setCell ⟨p, 6, none⟩ (.int .i64 n)).cell? ⟨p, i, none⟩ = some u := fun i u hi hc => zb (fun e => hi e.symm) hc
 exact ⟨h.hp, by rw [hsz]; exact h.pl, fun i hi => frozen_far (h.fz i hi), hcell 0 _ (by omega) h.c0, hcell 1 _ (by omega) h.c1, hcell 2 _ (by omega) h.c2, hcell 3 _ (by omega) h.c3, hcell 4 _ (by omega) h.c4, hcell 5 _ (by omega) h.c5, zt h.c6, h.sch.kept kR, h.sin, h.row.kept kR,
  zo h.ds (fun k hk => zaJ (h.dsA k hk).1), zo h.cs (fun k hk => zaJ (h.csA k hk).1), fun i hi => (h.dict i hi).kept (fun k hk => zaJ (h.dA i hi k hk).2) (by rw [hsz]; exact Nat.le_refl _),
  fun i hi => (h.cub i hi).kept (fun k hk => kR k (h.cuR i hi k hk)) (by rw [hsz]; exact Nat.le_refl _), fun k hk => by rw [hsz]; exact h.rl k hk, h.rd, h.dsA, h.cuR, h.csA, h.dA, h.dd⟩
end Go.Proofs.YtgoapnkdcfcjgaaGreat
