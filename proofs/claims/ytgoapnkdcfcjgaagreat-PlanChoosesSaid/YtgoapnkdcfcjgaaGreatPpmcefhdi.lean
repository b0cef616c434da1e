/- 7 texts of this claim, in build order. -/
import Derived.Test.YtgoapnkdcfcjgaaGreatPfehlkdpg
import Derived.Test.YtgoapnkdcfcjgaaGreatPplomcpim
import Derived.BigQuiet
import Derived.Test.YtgoapnkdcfcjgaaGreatPangingkh
import Derived.Test.YtgoapnkdcfcjgaaGreatPbaoabehe
import Derived.Deep.LoopGhost
import Derived.ScopeJumps
import Derived.WalkMore
import Derived.Deep.RegionLaw
import Derived.Test.YtgoapnkdcfcjgaaGreatPhpfbkhaa
set_option linter.unusedVariables false
set_option linter.unusedSimpArgs false
namespace Go.Proofs.YtgoapnkdcfcjgaaGreat
open Go.ChangeShapes Go.WideShapes Go.ChangeAt Go.RowKit Go.Deep
def zbT : List (List ByteArray) -> List (List ByteArray) -> Int
 | [], [] => 0
 | [], _ :: _ => -1
 | _ :: _, [] => 1
 | x :: a, y :: b => if cmpS x y ≠ 0 then cmpS x y else zbT a b
theorem zl1 (a b : List (List ByteArray)) (k : Nat) (hk : k < a.length) (hk' : k < b.length) : zbT (a.drop k) (b.drop k) = if cmpS a[k] b[k] ≠ 0 then cmpS a[k] b[k] else zbT (a.drop (k + 1)) (b.drop (k + 1)) := by
 rw [List.drop_eq_getElem_cons hk, List.drop_eq_getElem_cons hk']; rfl
theorem zk2 (a b : List (List ByteArray)) (h : a.length < b.length) : zbT (a.drop a.length) (b.drop a.length) = -1 := by
 rw [List.drop_length, List.drop_eq_getElem_cons h]; rfl
theorem zlf (a b : List (List ByteArray)) (h : b.length < a.length) : zbT (a.drop b.length) (b.drop b.length) = 1 := by
 rw [List.drop_length, List.drop_eq_getElem_cons h]; rfl
theorem zl3 (a b : List (List ByteArray)) (h : a.length = b.length) : zbT (a.drop a.length) (b.drop a.length) = 0 := by
 rw [List.drop_length, List.drop_eq_nil_of_le (by omega)]; rfl
set_option maxRecDepth 100000 in
set_option maxHeartbeats 1600000 in
theorem zei (v x : Value) (a b : List (List ByteArray)) (w : World) (hv : zj 1 zO w w.heap.size [v] a) (hx : zj 1 zO w w.heap.size [x] b) :
  Calls Tryz.prog 78 #[v, x] w (za5 (.int .i64 (zbT a b)) w) := by
 obtain ⟨A1, c1, e, hc1, hm1⟩ := hv.open_
 simp only [List.cons.injEq, and_true] at e
 subst e
 obtain ⟨A2, c2, e, hc2, hm2⟩ := hx.open_
 simp only [List.cons.injEq, and_true] at e
 subst e
 have HV := hid hv; have HX := hid hx
 clear hv hx
 go_enter Tryz.func78, Tryz.ntmps78
 go_wp2
 go_loopw [5] (fun i wr => ∃ k : Nat, k <= a.length /\ k <= b.length /\ i = .int .i64 k /\ zbT a b = zbT (a.drop k) (b.drop k) /\ Qu w wr) (fun i _ => a.length - (intOf i).toNat)
 case atStart => exact ⟨0, by omega, by omega, rfl, rfl, Qu.refl _⟩
 case round =>
  obtain ⟨k, hk1, hk2, rfl, hcm, hq⟩ := hrel
  have HCM := hid hcm
  clear hcm
  by_cases h1 : k < a.length
  ·by_cases h2 : k < b.length
   ·have hst := zl1 a b k h1 h2
    obtain ⟨b1, o1, AM, cM, rfl, hb1, x1, r1⟩ := zbt HV.out h1
    obtain ⟨b2, o2, BM, dM, rfl, hb2, x2, r2⟩ := zbt HX.out h2
    have g1 := (hq.cell ⟨b1, o1 + k, none⟩).trans x1
    have g2 := (hq.cell ⟨b2, o2 + k, none⟩).trans x2
    generalize a[k] = p at *
    generalize b[k] = q at *
    have HSV := hid (fun W (hqq : Qu wr W) => by
     have h3 := hq.trans hqq
     have hz := h3.size
     exact zkW (.slice AM p.length cM) (.slice BM q.length dM) p q W (hz ▸ zQ.stays r1 (h3.below _)) (hz ▸ zQ.stays r2 (h3.below _)))
    generalize cmpS p q = n at *
    generalize p.length = m1 at *
    generalize q.length = m2 at *
    have HST := hid hst
    clear x1 x2 r1 r2 hst
    have t1 : decide ((k : Int) < (a.length : Int)) = true := by rw [decide_eq_true_eq]; omega
    have t2 : decide ((k : Int) < (b.length : Int)) = true := by rw [decide_eq_true_eq]; omega
    go_wp2
    go_quiet (first | (go_at_call 116; exact Calls.quiet_of (HSV.out _ ⟨_, rfl⟩)))
    by_cases hn : n = 0
    ·subst hn
     have hst := HST.out
     rw [if_neg (by simp)] at hst
     have HN := hid (HCM.out.trans hst)
     clear hst g1 g2
     go_wp2
     go_roundw
     case rel => exact ⟨k + 1, by omega, by omega, by go_num, HN.out, hq.drewN _⟩
     case measure => simp [intOf]; omega
    ·have hst := HST.out
     rw [if_pos hn] at hst
     have HN := hid (HCM.out.trans hst)
     have hn' : (n != 0) = true := by simpa using hn
     clear hst g1 g2
     go_wp2
     go_ret
     exact ⟨by rw [HN.out]; rfl, hq.drewN _⟩
   ·obtain rfl : k = b.length := by omega
    have HN := hid (HCM.out.trans (zlf a b h1))
    have t1 : decide (((b.length : Nat) : Int) < ((a.length : Nat) : Int)) = true := by rw [decide_eq_true_eq]; omega
    have t2 : decide (((b.length : Nat) : Int) < ((b.length : Nat) : Int)) = false := by rw [decide_eq_false_iff_not]; omega
    have t3 : ¬ ((a.length : Nat) : Int) < ((b.length : Nat) : Int) := by omega
    go_wp2
    go_ret
    exact ⟨by rw [HN.out]; rfl, hq⟩
  ·obtain rfl : k = a.length := by omega
   have t1 : decide (((a.length : Nat) : Int) < ((a.length : Nat) : Int)) = false := by rw [decide_eq_false_iff_not]; omega
   by_cases h2 : a.length < b.length
   ·have HN := hid (HCM.out.trans (zk2 a b h2))
    have t3 : ((a.length : Nat) : Int) < ((b.length : Nat) : Int) := by omega
    go_wp2
    go_ret
    exact ⟨by rw [HN.out]; rfl, hq⟩
   ·have HN := hid (HCM.out.trans (zl3 a b (by omega)))
    have t3 : ¬ ((a.length : Nat) : Int) < ((b.length : Nat) : Int) := by omega
    have t4 : ¬ ((b.length : Nat) : Int) < ((a.length : Nat) : Int) := by omega
    go_wp2
    go_ret
    exact ⟨by rw [HN.out]; rfl, hq⟩
end Go.Proofs.YtgoapnkdcfcjgaaGreat
namespace Go.Proofs.YtgoapnkdcfcjgaaGreat
open Go.ChangeShapes Go.WideShapes Go.ChangeAt Go.RowKit
set_option maxRecDepth 100000 in
set_option maxHeartbeats 800000 in
theorem zlk (v : Value) (n : Int) (p : List ByteArray) (w : World) (hv : zO w w.heap.size [v] p) (hp : p.length <= 1073741824) :
  Calls Tryz.prog 115 #[v, .int .i64 n] w (zkG (upS p n) w) := by
 obtain ⟨i0, hi, hz0, hz1, hz2⟩ := info_parts zdI
 obtain ⟨A1, c1, e, hc1, hm1⟩ := hv.open_
 simp only [List.cons.injEq, and_true] at e
 subst e
 have HV := hid hv
 obtain ⟨u, hu⟩ : ∃ u, u = upS p n := ⟨_, rfl⟩
 have hul : u.length <= p.length /\ ((u.length : Int) <= n \/ u.length = 0) /\ (u.length = p.length \/ n <= (u.length : Int)) := by
  rw [hu]; unfold upS; rw [List.length_take]; omega
 obtain ⟨hu1, hu2, hu3⟩ := hul
 have HUT := hid (fun (k : Nat) (h : k < u.length) => show p.take (k + 1) = p.take k ++ [p[k]'(by omega)] from List.take_succ_eq_append_getElem (by omega))
 have HUA := hid (show p.take u.length = u by
  rw [hu]; unfold upS; rw [List.length_take, <- List.take_take]; simp)
 rw [<- hu]
 clear hv hu
 go_enter Tryz.func115, Tryz.ntmps115
 go_wp2
 go_loopw [5, 6] (fun out i wr => ∃ k : Nat, k <= u.length /\ i = .int .i64 k /\ wr.ownsRow w.heap.size 9 1 out k (zL (p.take k)) /\ Below w.heap.size w wr) (fun _ i _ => u.length - (intOf i).toNat)
 case atStart => exact ⟨0, by omega, rfl, World.ownsRow_nil _ _ _ _, Below.refl _ _⟩
 case round =>
  obtain ⟨k, hk, rfl, hown, hb⟩ := hrel
  have hs := hb.size
  have HB := hid hb; have HOW := hid hown
  clear hb hown
  by_cases hlt : k < u.length
  ·have y1 : k < p.length := by omega
   have y2 : (k : Int) < n := by omega
   obtain ⟨b, off, rfl, hbl, hcell, -⟩ := zfK HV.out y1
   have hcw := zc HB.out hbl hcell
   have e1 := HUT.out k hlt
   generalize p[k] = s at *
   have E1 := hid e1
   clear hcell e1
   go_wp2_with (at_builtin; refine zr ?_)
   refine zar ?_
   refine zav (.tmp 18) (.tmp 23) 23 23 rfl rfl w.heap.size 9 i0 (.string ByteArray.empty) 1 16 Tryz.underlying23 hi hz0 hz1 hz2 rfl (by decide) _ k (zL (p.take k)) rfl (HOW.out.alloc _) (.slice (some ⟨wr.heap.size, 0, none⟩) 1 1) 1 (zL [s]) rfl (Src.ofSlice _ Tryz.underlying23 _ 1 1 _ rfl (zG _ _ _ rfl) (by simp [zL]; rfl)) (by first | omega | (simp only [maxLen]; omega)) (by first | omega | (simp only [maxLen]; omega)) (by simp; omega) ?_
   intro v' w' hown' hg' hb'
   have HO' := hid (show w'.ownsRow w.heap.size 9 1 v' (k + 1) (zL (p.take (k + 1))) by rw [E1.out, zea]; exact hown')
   have HB' := hid ((HB.out.alloc hs _).trans hb')
   clear hown' hg' hb' HOW
   go_wp2
   go_roundw
   case rel => exact ⟨k + 1, by omega, by go_num, HO'.out, HB'.out⟩
   case measure => simp [intOf]; omega
  ·have hke : k = u.length := by omega
   have hfin : wr.ownsRow w.heap.size 9 1 u5 u.length (zL u) := by
    have := HOW.out
    rw [hke, HUA.out] at this
    exact this
   have HF := hid hfin
   have hways : ¬ k < p.length \/ (k < p.length /\ ¬ (k : Int) < n) := by omega
   clear hfin hke HOW hlt hk HUT HUA hu1 hu2 hu3
   rcases hways with y1 | ⟨y1, y2⟩
   ·go_wp2
    go_ret
    exact ⟨_, rfl, HF.out, HB.out⟩
   ·go_wp2
    go_ret
    exact ⟨_, rfl, HF.out, HB.out⟩
def zrg (l : List (List ByteArray)) (w : World) (e : Ending) (w' : World) : Prop := ∃ r, e = .returned r /\ RowL w' w.heap.size r l /\ Below w.heap.size w w'
end Go.Proofs.YtgoapnkdcfcjgaaGreat
namespace Go.Proofs.YtgoapnkdcfcjgaaGreat
open Go.ChangeShapes Go.WideShapes Go.ChangeAt Go.RowKit Go.Deep
section
variable {P : Program}
theorem zcn {ops : Array Oper} {o : Oper} {a : Act} {w : World} {K : Act -> World -> Prop} {Q : Exit -> Act -> World -> Prop} {E : Prop} (s x : Operand) (t tx : TypeId) (hgd : o.guard = none)
  (ho : o.op = .call { callee := .builtin .append, args := #[s, x], argTypes := #[t, tx] })
  (base : Nat) (e : TypeId) (i : TypeInfo) (z : Value) (size bytes : Nat) (ht : P.underlying t = some (.slice e)) (hi : P.info? e = some i) (hz : i.zero = some z)
  (hsize : i.size = size) (hby : i.bytes = bytes) (hzs : z.cells.size = size) (hsz : 0 < size)
  (v : Value) (n : Nat) (xs : List Value) (hsv : a.eval s = v) (hown : w.ownsRow base e size v n xs)
  (xv : Value) (m : Nat) (news : List Value) (hxv : a.eval x = xv) (hs : Src P size tx xv m news w)
  (h63 : n + m <= maxLen) (hbytes : (n + m) * bytes <= 140737488355328) (hbase : base <= w.heap.size)
  (h : ∀ v' w', w'.ownsRow base e size v' (n + m) (xs ++ news) -> w.grownBy w' v.ownBlock -> Below base w w' -> (v'.ownBlock = v.ownBlock \/ v'.ownBlock = some w.heap.size) -> K (a.put o.dst v') w') :
  if Region.wanted o (yielded ops a.tmps) = true then Oper.wp P o a w K Q else E := by
 have hw : Region.wanted o (yielded ops a.tmps) = true := by simp [Region.wanted, hgd]
 rw [if_pos hw]
 obtain ⟨v', w', hrun, h2, h3, h4⟩ := zdm (P := P) w base t tx o.type e i z size bytes ht hi hz hsize hby hzs hsz v n xs hown xv m news hs h63 hbytes hbase
 exact zfy s x t tx ho v xv hsv hxv hrun (h v' w' h2 h3 ((Below.refl _ _).grown h3 hbase (fun j hj => (hown.lt j hj).1)) h4)
end
def keyR (ps : List (List ByteArray)) (v : List Int) (k : Nat) : List (List ByteArray) := (List.range k).map fun i => upS (ps.getD i []) (v.getD i 0)
theorem znF (ps : List (List ByteArray)) (v : List Int) (k : Nat) : keyR ps v (k + 1) = keyR ps v k ++ [upS (ps.getD k []) (v.getD k 0)] := by unfold keyR; rw [List.range_succ, List.map_append]; rfl
theorem zks (ps : List (List ByteArray)) (v : List Int) (k : Nat) : (keyR ps v k).length = k := by simp [keyR]
def KyRR (ps : List (List ByteArray)) (v : List Int) (W0 : World) (out i : Value) (wr : World) : Prop := ∃ k : Nat, k <= v.length /\ i = .int .i64 k /\ RowL wr W0.heap.size out (keyR ps v k) /\ Below W0.heap.size W0 wr
set_option maxRecDepth 100000 in
set_option maxHeartbeats 3200000 in
theorem zgi (AP AV : Option Addr) (cP nV cV : Nat) (ps : List (List ByteArray)) (x : Value) (v : List Int) (w : World) (hp : zj 1 zO w w.heap.size [.slice AP ps.length cP] ps) (hx : zC w w.heap.size [x] v) (hl : v.length <= ps.length) (hv : v.length <= 1000) (hpl : ∀ p ∈ ps, p.length <= 1000) :
  Calls Tryz.prog 77 #[.agg #[.slice AP ps.length cP, .slice AV nV cV], x] w (zrg (keyR ps v v.length) w) := by
 obtain ⟨i0, hi, hz0, hz1, hz2⟩ := info_parts zlm
 obtain ⟨A1, c1, e, hc1, hm1⟩ := hx.open_
 simp only [List.cons.injEq, and_true] at e
 subst e
 obtain ⟨hcp, hmp⟩ := hp.cap
 obtain ⟨W0, hW0⟩ : ∃ W, W = w.alloc (.cells #[.slice AP ps.length cP, .slice AV nV cV] 60) := ⟨_, rfl⟩
 have g0 : Below w.heap.size w W0 := by rw [hW0]; exact bl1 _ _
 have z0 : W0.heap.size = w.heap.size + 1 := by rw [hW0]; simp
 have y0 : W0.cell? ⟨w.heap.size, 0, none⟩ = some (.slice AP ps.length cP) := by rw [hW0]; simp [go_sem]
 have HW0 := hid hW0
 have G0 := hid g0
 have H1 := hid (zm.on hx g0)
 have HP := hid (zB.on hp g0)
 have HPL := hid hpl
 clear hW0 g0 hx hp hpl
 go_enter Tryz.func77, Tryz.ntmps77
 go_wp2
 rw [<- HW0.out]
 go_loopw [5, 6] (fun out i wr => KyRR ps v W0 out i wr) (fun _ i _ => v.length - (intOf i).toNat)
 case atStart => exact ⟨0, by omega, rfl, RowL.nil_ _ _, Below.refl _ _⟩
 case round =>
  obtain ⟨k, hk, rfl, hrow, hb⟩ := hrel
  have hs := hb.size
  have HB := hid hb; have HRW := hid hrow
  by_cases hlt : k < v.length
  ·obtain ⟨b, off, rfl, hbl, hcell, hii⟩ := zb4 H1.out hlt
   have hcw := zc HB.out hbl hcell
   have hkp : k < ps.length := by omega
   obtain ⟨b2, o2, AM, cM, rfl, hb2, hc2, hpp⟩ := zbt HP.out hkp
   have hc2' := zc HB.out hb2 hc2
   have hbx := zc HB.out (by omega) y0
   have hgd : ps.getD k [] = ps[k] := by rw [List.getD_eq_getElem?_getD, List.getElem?_eq_getElem hkp]; rfl
   have hple := HPL.out _ (List.getElem_mem hkp)
   have e1 := znF ps v k
   have hln := zks ps v k
   rw [hgd] at e1
   generalize v.getD k 0 = lv at *
   generalize ps[k] = p at *
   have hka : (upS p lv).length <= p.length := by unfold upS; rw [List.length_take]; omega
   have HUP := hid (fun W (hW : Qu wr W) => zlk (.slice AM p.length cM) lv p W (zQ.on (zQ.on hpp HB.out) (hW.below _)) (by omega))
   generalize hkk : upS p lv = ka at *
   obtain ⟨vs, r1, r2, r3⟩ := hrow
   rw [hln] at r2
   obtain ⟨Ao, co, rfl⟩ := zu r2
   generalize hpn : p.length = pn at *
   have E1 := hid e1; have R1 := hid r1; have R2 := hid r2; have R3 := hid r3; have HLN := hid hln
   clear e1 hcell hii hpp hc2 hgd hb hkk r1 r3 hln
   go_wp2
   go_region_law (first
    | (refine zcn (.tmp 13) (.tmp 24) 58 58 (by rfl) (by rfl) W0.heap.size 23 i0 (.slice none 0 0) 1 24 Tryz.underlying58 hi hz0 hz1 hz2 rfl (by omega) _ k vs (by rfl) ((zx R2.out B5.out).alloc _) (.slice (some ⟨w5.heap.size, 0, none⟩) 1 1) 1 [_] (by rfl) (Src.ofSlice _ Tryz.underlying58 _ 1 1 _ rfl (zG _ _ _ rfl) (by simp; rfl)) (by unfold maxLen; omega) (by omega) (by rw [World.size_alloc]; omega) ?_; intro v' w6 ho6 hg6 hb6 hat6; have HO6 := hid ho6; have HG6 := hid hg6; have HB6 := hid hb6; have HA6 := hid hat6; clear ho6 hg6 hb6 hat6)
    | (go_simp; go_at_call 115; refine (HUP.out _ ⟨1, rfl⟩).mono ?_; rintro e w5 ⟨u5, rfl, hu5, hb5⟩; have HU5 := hid hu5; have B5 := hid ((Below.refl wr.heap.size wr).drew.trans hb5); have z5 := B5.out.size; obtain ⟨A5, c5, rfl, -, -, -⟩ := zl HU5.out; clear hu5 hb5))
   all_goals
    have hln := HLN.out
    have hrow' := RowL.app R1.out (by rw [hln]; exact R2.out) R3.out B5.out HU5.out hs (by rw [hln]; exact HO6.out) HG6.out HA6.out
    rw [<- E1.out] at hrow'
    have HR' := hid hrow'
    have HB3 := hid (((HB.out.trans (B5.out.mono hs)).alloc (by omega) _).trans HB6.out)
    clear hrow' r2 hcw hc2' hbx
    go_wp2
    go_roundw
    case rel => exact ⟨k + 1, by omega, by go_num, HR'.out, HB3.out⟩
    case measure => simp [intOf]; omega
  ·obtain rfl : k = v.length := by omega
   have HF := hid (hrow.less (show w.heap.size <= W0.heap.size by omega))
   clear hrow HRW hb
   go_wp2
   go_ret
   exact ⟨_, rfl, HF.out, G0.out.trans (HB.out.mono (by omega))⟩
end Go.Proofs.YtgoapnkdcfcjgaaGreat
namespace Go.Proofs.YtgoapnkdcfcjgaaGreat
open Go.ChangeShapes Go.WideShapes Go.ChangeAt Go.RowKit
theorem zac.trans {e : TypeId} {base : Nat} {a b c : World} (h : zac e base a b) (k : zac e base b c) : zac e base a c := fun g cur hb hg => (k g cur hb ((h g cur hb hg).trans hg)).trans (h g cur hb hg)
def RowT (w : World) (base : Nat) (out : Value) (M : List (List ByteArray)) : Prop :=
 ∃ vs : List Value, ∃ hl : vs.length = M.length, w.ownsRow base 23 1 out M.length vs /\
  ∀ j (h : j < M.length), w.ownsRow base 9 1 (vs[j]'(by omega)) M[j].length (zL M[j])
theorem RowT.less {w : World} {base base' : Nat} {out : Value} {M : List (List ByteArray)} (h : RowT w base out M) (hb : base' <= base) : RowT w base' out M := by
 obtain ⟨vs, h1, h2, h3⟩ := h
 exact ⟨vs, h1, zw h2 hb, fun j hj => zw (h3 j hj) hb⟩
theorem RowT.toL {w : World} {base : Nat} {out : Value} {M : List (List ByteArray)} (h : RowT w base out M) : RowL w base out M := by
 obtain ⟨vs, h1, h2, h3⟩ := h
 refine ⟨vs, h1, h2, fun j hj => ?_⟩
 have e1 : vs.getD j undef = vs[j]'(by omega) := by rw [List.getD_eq_getElem?_getD, List.getElem?_eq_getElem (by omega)]; rfl
 have e2 : M.getD j [] = M[j] := by rw [List.getD_eq_getElem?_getD, List.getElem?_eq_getElem hj]; rfl
 rw [e1, e2]
 refine ⟨h3 j hj, fun g hg e => ?_⟩
 have a := (h3 j hj).2
 have b := h2.2
 rcases a with ⟨e1, _⟩ | ⟨g1, cap1, cur1, e1, _, hg1, _⟩
 ·rw [e1] at hg; cases hg
 ·rcases b with ⟨e2, _⟩ | ⟨g2, cap2, cur2, e2, _, hg2, _⟩
  ·rw [e2] at e; cases e
  ·rw [e1] at hg; rw [e2] at e
   simp only [Value.ownBlock, Option.some.injEq] at hg e
   subst hg; subst e
   rw [hg1] at hg2
   injection hg2 with hg2
   injection hg2 with _ h _
   exact absurd h (by decide)
end Go.Proofs.YtgoapnkdcfcjgaaGreat
namespace Go.Proofs.YtgoapnkdcfcjgaaGreat
open Go.ChangeShapes Go.WideShapes Go.ChangeAt Go.RowKit Go.Deep
abbrev KeyX := List (List ByteArray)
def zae (fs : List zq) (v : List Int) (i : Nat) : KeyX := keyR (fs.getD i ([], [])).1 v v.length
def zbx (fs : List zq) (v : List Int) (k : KeyX) (i : Nat) : Nat -> List (List Int)
 | 0 => []
 | j + 1 => if i <= j /\ zbT (zae fs v j) k = 0 then zbx fs v k i j ++ [(fs.getD j ([], [])).2] else zbx fs v k i j
theorem zjQ (fs : List zq) (v : List Int) (k : KeyX) (i j : Nat) (h : j <= i) : zbx fs v k i j = [] := by
 induction j with
 | zero => rfl
 | succ j ih => unfold zbx; rw [if_neg (by omega)]; exact ih (by omega)
theorem zn6 (fs : List zq) (v : List Int) (k : KeyX) (i j : Nat) : (zbx fs v k i j).length <= j := by
 induction j with
 | zero => exact Nat.le_refl _
 | succ j ih =>
   unfold zbx
   split
   ·rw [List.length_append]; simp; exact ih
   ·omega
def hadR (ds : List KeyX) (k : KeyX) (j : Nat) : Bool := (ds.take j).any fun d => decide (zbT d k = 0)
theorem zoq {ds : List KeyX} {k : KeyX} {j : Nat} (h : j < ds.length) : hadR ds k (j + 1) = (hadR ds k j || decide (zbT ds[j] k = 0)) := by
 unfold hadR; rw [List.take_succ_eq_append_getElem h, List.any_append]; simp
def zan (M : Int) (fs : List zq) (v : List Int) : Nat -> List KeyX × Int
 | 0 => ([], 0)
 | i + 1 =>
   let r := zan M fs v i
   if r.2 ≠ 0 \/ hadR r.1 (zae fs v i) r.1.length = true then r else
   let x := zaQ M (zbx fs v (zae fs v i) i fs.length)
   if x.2 ≠ 0 then (r.1, x.2) else (r.1 ++ [zae fs v i], 0)
theorem zm0 (M : Int) (fs : List zq) (v : List Int) (i : Nat) : (zan M fs v i).1.length <= i := by
 induction i with
 | zero => exact Nat.le_refl _
 | succ i ih =>
   unfold zan
   simp only
   split
   ·omega
   ·split
    ·simp only; omega
    ·simp only [List.length_append, List.length_singleton]; omega
theorem znQ {M : Int} {fs : List zq} {v : List Int} {k n : Nat} (h : (zan M fs v k).2 ≠ 0) (hk : k <= n) : zan M fs v n = zan M fs v k := by
 induction n with
 | zero => obtain rfl : k = 0 := by omega
           rfl
 | succ n ih =>
   rcases Nat.lt_or_ge n k with h1 | h1
   ·obtain rfl : k = n + 1 := by omega
    rfl
   ·have e := ih h1
    show (if (zan M fs v n).2 ≠ 0 \/ _ then zan M fs v n else _) = _
    rw [e, if_pos (.inl h)]
def zfY (x : List Value) (n : Nat) : Prop :=
 ∃ (A : Option Addr) (c : Nat) (m : Int) (A1 : Option Addr) (n1 c1 : Nat) (A2 : Option Addr) (n2 c2 : Nat) (A3 : Option Addr) (n3 c3 : Nat), x = [.slice A n c, .int .i64 m, .slice A1 n1 c1, .slice A2 n2 c2, .slice A3 n3 c3]
theorem zfY.len {x : List Value} {n : Nat} (h : zfY x n) : x.length = 5 := by
 obtain ⟨A, c, m, A1, n1, c1, A2, n2, c2, A3, n3, c3, rfl⟩ := h; rfl
theorem zfY.one {x : List Value} {n : Nat} (h : zfY x n) : ∀ u ∈ x, u.oneCell' = true := by
 obtain ⟨A, c, m, A1, n1, c1, A2, n2, c2, A3, n3, c3, rfl⟩ := h
 intro u hu
 simp only [List.mem_cons, List.not_mem_nil, or_false] at hu
 rcases hu with rfl | rfl | rfl | rfl | rfl <;> rfl
theorem zec {rv : List (List Value)} (h : ∀ x ∈ rv, x.length = 5) : rv.flatten.length = rv.length * 5 := by
 induction rv with
 | nil => rfl
 | cons x rv ih => rw [List.flatten_cons, List.length_append, h x List.mem_cons_self, ih (fun y hy => h y (List.mem_cons_of_mem _ hy)), List.length_cons]; omega
theorem zop {rv : List (List Value)} (h : ∀ x ∈ rv, x.length = 5) (i j : Nat) (hi : i < rv.length) (hj : j < 5) : rv.flatten[i * 5 + j]? = (rv.getD i [])[j]? := by
 induction rv generalizing i with
 | nil => simp at hi
 | cons x rv ih =>
   have hx := h x List.mem_cons_self
   rw [List.flatten_cons]
   cases i with
   | zero => rw [List.getElem?_append_left (by omega)]; simp
   | succ i =>
     rw [List.getElem?_append_right (by omega), show (i + 1) * 5 + j - x.length = i * 5 + j by omega, ih (fun y hy => h y (List.mem_cons_of_mem _ hy)) i (by simpa using hi)]
     rfl
def zcy (w : World) (K : Nat) (v : Value) (ks : List KeyX) : Prop :=
 ∃ rv : List (List Value), rv.length = ks.length /\ w.ownsRow K 137 5 v ks.length rv.flatten /\ ∀ j (hj : j < ks.length), zfY (rv.getD j []) ks[j].length /\ RowT w K ((rv.getD j []).getD 0 undef) ks[j]
theorem zcy.nil_ (w : World) (K : Nat) : zcy w K (.slice none 0 0) [] := ⟨[], rfl, World.ownsRow_nil _ _ _ _, fun j hj => by simp at hj⟩
theorem RowT.keepTR {w w' : World} {base : Nat} {out : Value} {M : List (List ByteArray)} (h : RowT w base out M) (k1 : zac 23 base w w') (k2 : zac 9 base w w') : RowT w' base out M := by
 obtain ⟨vs, h1, h2, h3⟩ := h
 exact ⟨vs, h1, zad h2 k1, fun j hj => zad (h3 j hj) k2⟩
theorem RowT.ofL {w : World} {base : Nat} {out : Value} {M : List (List ByteArray)} (h : RowL w base out M) : RowT w base out M := by
 obtain ⟨vs, h1, h2, h3⟩ := h
 refine ⟨vs, h1, h2, fun j hj => ?_⟩
 have := (h3 j hj).1
 rwa [show vs.getD j undef = vs[j]'(by omega) by rw [List.getD_eq_getElem?_getD, List.getElem?_eq_getElem (by omega)]; rfl, show M.getD j [] = M[j] by rw [List.getD_eq_getElem?_getD, List.getElem?_eq_getElem hj]; rfl] at this
theorem RowT.on {w w' : World} {base : Nat} {out : Value} {M : List (List ByteArray)} (h : RowT w base out M) (hb : Below w.heap.size w w') : RowT w' base out M := by
 obtain ⟨vs, h1, h2, h3⟩ := h
 exact ⟨vs, h1, zx h2 hb, fun j hj => zx (h3 j hj) hb⟩
theorem zcy.on {w w' : World} {K : Nat} {v : Value} {ks : List KeyX} (h : zcy w K v ks) (hb : Below w.heap.size w w') : zcy w' K v ks := by
 obtain ⟨rv, h1, h2, h3⟩ := h
 exact ⟨rv, h1, zx h2 hb, fun j hj => ⟨(h3 j hj).1, (h3 j hj).2.on hb⟩⟩
theorem zhx {α : Type} {l : List α} {x d : α} (h : x ∈ l) : ∃ j, j < l.length /\ l.getD j d = x := by
 obtain ⟨j, hj, rfl⟩ := List.mem_iff_getElem.1 h
 exact ⟨j, hj, by rw [List.getD_eq_getElem?_getD, List.getElem?_eq_getElem hj]; rfl⟩
theorem rows5 {rv : List (List Value)} {ks : List KeyX} (hl : rv.length = ks.length) (h : ∀ j (hj : j < ks.length), zfY (rv.getD j []) ks[j].length) : ∀ x ∈ rv, x.length = 5 := fun x hx => by
 obtain ⟨j, hj, rfl⟩ := zhx (d := []) hx
 exact (h j (by omega)).len
theorem zpo {rv : List (List Value)} {ks : List KeyX} (hl : rv.length = ks.length) (h : ∀ j (hj : j < ks.length), zfY (rv.getD j []) ks[j].length) : ∀ x ∈ rv, ∀ u ∈ x, u.oneCell' = true := fun x hx => by
 obtain ⟨j, hj, rfl⟩ := zhx (d := []) hx
 exact (h j (by omega)).one
theorem zcy.at_ {w : World} {K : Nat} {v : Value} {ks : List KeyX} (h : zcy w K v ks) {j : Nat} (hj : j < ks.length) :
  ∃ (g cp : Nat) (A : Option Addr) (c : Nat) (m : Int) (A1 : Option Addr) (n1 c1 : Nat) (A2 : Option Addr) (n2 c2 : Nat) (A3 : Option Addr) (n3 c3 : Nat), v = .slice (some ⟨g, 0, none⟩) ks.length cp /\ ks.length <= cp /\ cp <= maxLen /\ K <= g /\ g < w.heap.size /\
   w.cell? ⟨g, j * 5, none⟩ = some (.slice A ks[j].length c) /\ w.cell? ⟨g, j * 5 + 1, none⟩ = some (.int .i64 m) /\ w.cell? ⟨g, j * 5 + 2, none⟩ = some (.slice A1 n1 c1) /\ w.cell? ⟨g, j * 5 + 3, none⟩ = some (.slice A2 n2 c2) /\ w.cell? ⟨g, j * 5 + 4, none⟩ = some (.slice A3 n3 c3) /\
   RowT w K (.slice A ks[j].length c) ks[j] := by
 obtain ⟨rv, h1, h2, h3⟩ := h
 obtain ⟨Av, cp, rfl, g1, g2, g3⟩ := zaa h2
 obtain ⟨g, rfl, hg, hgs, -, hc⟩ := g3 (by omega)
 obtain ⟨hr, hk⟩ := h3 j hj
 have h5 := rows5 h1 (fun j hj => (h3 j hj).1)
 have hat := fun i (hi : i < 5) => (hc (j * 5 + i) (by omega)).trans (zop h5 j i (by omega) hi)
 obtain ⟨A, c, m, A1, n1, c1, A2, n2, c2, A3, n3, c3, e⟩ := hr
 rw [e] at hat hk
 exact ⟨g, cp, A, c, m, A1, n1, c1, A2, n2, c2, A3, n3, c3, rfl, g1, g2, hg, hgs, hat 0 (by omega), hat 1 (by omega), hat 2 (by omega), hat 3 (by omega), hat 4 (by omega), hk⟩
theorem zcy.app {wa w4 : World} {K n : Nat} {v v' : Value} {ks : List KeyX} {k : KeyX} {x : List Value} {rv : List (List Value)} (hn : n = ks.length) (h1 : rv.length = ks.length) (h2 : wa.ownsRow K 137 5 v n rv.flatten)
  (h3 : ∀ j (hj : j < ks.length), zfY (rv.getD j []) ks[j].length /\ RowT wa K ((rv.getD j []).getD 0 undef) ks[j]) (hx : zfY x k.length) (hk : RowT wa K (x.getD 0 undef) k)
  (ho : w4.ownsRow K 137 5 v' (n + 1) (rv.flatten ++ x)) (hg : wa.grownBy w4 v.ownBlock) : zcy w4 K v' (ks ++ [k]) := by
 subst hn
 have k1 : zac 23 K wa w4 := zac.of_grown hg h2 (by decide)
 have k2 : zac 9 K wa w4 := zac.of_grown hg h2 (by decide)
 refine ⟨rv ++ [x], by simp [h1], by rw [List.length_append, List.flatten_append]; simpa using ho, fun j hj => ?_⟩
 rcases Nat.lt_or_ge j ks.length with hlt | hge
 ·have e1 : (rv ++ [x]).getD j [] = rv.getD j [] := by rw [List.getD_eq_getElem?_getD, List.getElem?_append_left (by omega), <- List.getD_eq_getElem?_getD]
  have e2 : (ks ++ [k])[j] = ks[j] := List.getElem_append_left hlt
  rw [e1, e2]
  exact ⟨(h3 j hlt).1, (h3 j hlt).2.keepTR k1 k2⟩
 ·obtain rfl : j = ks.length := by rw [List.length_append] at hj; simp at hj; omega
  have e1 : (rv ++ [x]).getD ks.length [] = x := by rw [List.getD_eq_getElem?_getD, List.getElem?_append_right (by omega), h1, Nat.sub_self]; rfl
  have e2 : (ks ++ [k])[ks.length] = k := by rw [List.getElem_append_right (by omega)]; simp
  rw [e1, e2]
  exact ⟨hx, hk.keepTR k1 k2⟩
def ValO (w : World) (K B : Nat) (v : Value) (l : List (List Int)) : Prop :=
 ∃ us : List Value, us.length = l.length /\ w.ownsRow K 27 1 v l.length us /\ ∀ j (hj : j < l.length), Sl w B (us.getD j undef) (zk l[j])
theorem ValO.nil_ (w : World) (K B : Nat) : ValO w K B (.slice none 0 0) [] := ⟨[], rfl, World.ownsRow_nil _ _ _ _, fun j hj => by simp at hj⟩
theorem ValO.on {w w' : World} {K B : Nat} {v : Value} {l : List (List Int)} (h : ValO w K B v l) (hb : Below w.heap.size w w') (hB : B <= w.heap.size) : ValO w' K B v l := by
 obtain ⟨us, h1, h2, h3⟩ := h
 exact ⟨us, h1, zx h2 hb, fun j hj => (h3 j hj).below (hb.mono hB)⟩
theorem ValO.app {wa w4 : World} {K B n : Nat} {v' u : Value} {l : List (List Int)} {x : List Int} {us : List Value} (hn : n = l.length) (h1 : us.length = l.length) (h3 : ∀ j (hj : j < l.length), Sl wa B (us.getD j undef) (zk l[j])) (hu : Sl wa B u (zk x))
  (ho : w4.ownsRow K 27 1 v' (n + 1) (us ++ [u])) (hb : Below B wa w4) : ValO w4 K B v' (l ++ [x]) := by
 subst hn
 refine ⟨us ++ [u], by simp [h1], by rw [List.length_append]; exact ho, fun j hj => ?_⟩
 rcases Nat.lt_or_ge j l.length with hlt | hge
 ·have e1 : (us ++ [u]).getD j undef = us.getD j undef := by rw [List.getD_eq_getElem?_getD, List.getElem?_append_left (by omega), <- List.getD_eq_getElem?_getD]
  have e2 : (l ++ [x])[j] = l[j] := List.getElem_append_left hlt
  rw [e1, e2]
  exact (h3 j hlt).below hb
 ·obtain rfl : j = l.length := by rw [List.length_append] at hj; simp at hj; omega
  have e1 : (us ++ [u]).getD l.length undef = u := by rw [List.getD_eq_getElem?_getD, List.getElem?_append_right (by omega), h1, Nat.sub_self]; rfl
  have e2 : (l ++ [x])[l.length] = x := by rw [List.getElem_append_right (by omega)]; simp
  rw [e1, e2]
  exact hu.below hb
theorem ValO.rows {w : World} {K B : Nat} {v : Value} {l : List (List Int)} (h : ValO w K B v l) (hB : B <= w.heap.size) : zjY w w.heap.size v l := by
 obtain ⟨us, h1, h2, h3⟩ := h
 obtain ⟨A, c, rfl, g1, g2, g3⟩ := zaa h2
 refine ⟨A, c, rfl, g1, g2, fun i hi => ?_⟩
 obtain ⟨g, rfl, hg, hgs, -, hc⟩ := g3 (by omega)
 refine ⟨g, 0, us.getD i undef, rfl, hgs, ?_, ?_⟩
 ·rw [Nat.zero_add, hc i (by omega), List.getElem?_eq_getElem (by omega), List.getD_eq_getElem?_getD, List.getElem?_eq_getElem (by omega)]; rfl
 ·rw [show l.getD i [] = l[i] by rw [List.getD_eq_getElem?_getD, List.getElem?_eq_getElem hi]; rfl]
  exact (h3 i hi).more hB
end Go.Proofs.YtgoapnkdcfcjgaaGreat
