/- 7 texts of this claim, in build order. -/
import Derived.Test.YtgoapnkdcfcjgaaGreatPnnhdajih
import Derived.BigQuiet
import Derived.Test.YtgoapnkdcfcjgaaGreatPlmbjmicf
import Derived.Test.YtgoapnkdcfcjgaaGreatPcmjggjjf
import Derived.Test.YtgoapnkdcfcjgaaGreatPcfnpendp
import Derived.Deep.LoopGhost
import Derived.ScopeJumps
import Derived.WalkMore
import Derived.Deep.RegionLaw
namespace Go.Proofs.YtgoapnkdcfcjgaaGreat
open Go.ChangeShapes Go.WideShapes Go.ChangeAt Go.RowKit
set_option linter.unusedVariables false
set_option linter.unusedSimpArgs false
theorem cmpT_parts (x y : ByteArray) : (cmpT x y = -1 ∧ lessB x y = true) ∨ (cmpT x y = 1 ∧ lessB x y = false ∧ (x.toList == y.toList) = false) ∨ (cmpT x y = 0 ∧ lessB x y = false ∧ (x.toList == y.toList) = true) := by
 rw [str_eq_less]
 unfold cmpT
 cases h1 : lessB x y
 ·cases h2 : lessB y x <;> simp
 ·simp
set_option maxRecDepth 100000 in
set_option maxHeartbeats 1600000 in
theorem refCmp_any (v x : Value) (p q : List ByteArray) (w : World) (hv : rdStrs w w.heap.size [v] p) (hx : rdStrs w w.heap.size [x] q) :
  Calls Tryz.prog 116 #[v, x] w (Stays (.int .i64 (cmpS p q)) w) := by
 obtain ⟨A1, c1, e, hc1, hm1⟩ := hv.open_
 simp only [List.cons.injEq, and_true] at e
 subst e
 obtain ⟨A2, c2, e, hc2, hm2⟩ := hx.open_
 simp only [List.cons.injEq, and_true] at e
 subst e
 have S1 := hid hv; have S2 := hid hx; clear hv hx
 have hnow : ∀ (k : Nat) (h1 : k < p.length) (h2 : k < q.length), p.take k = q.take k → cmpT p[k] q[k] ≠ 0 → cmpS p q = cmpT p[k] q[k] := fun k h1 h2 h hne => cm_now h1 h2 h hne
 have hend : ∀ (k : Nat), k ≤ p.length → k ≤ q.length → p.take k = q.take k → (p.length = k ∨ q.length = k) → cmpS p q = if p.length < q.length then -1 else if q.length < p.length then 1 else 0 := fun k h1 h2 h hx => cm_end h1 h2 h hx
 have HNOW := hid hnow; have HEND := hid hend
 clear hnow hend
 generalize cmpS p q = res at *
 go_enter Tryz.func116, Tryz.ntmps116
 go_wp2
 go_loopw [5] (fun i wr => CmRelN p q w i wr) (fun i _ => p.length - (intOf i).toNat)
 case atStart => exact ⟨0, by omega, by omega, rfl, rfl, Qu.refl _⟩
 case round =>
  obtain ⟨k, hk, hk2, rfl, hsame, hq⟩ := hrel
  have HS := hid hsame; clear hsame
  by_cases hlt : k < p.length
  ·have d1 : decide ((k : Int) < (p.length : Int)) = true := by rw [decide_eq_true_eq]; omega
   obtain ⟨b1, o1, rfl, hb1, hx1, -⟩ := strs_at S1.out hlt
   have g1 : wr.cell? ⟨b1, o1 + k, none⟩ = _ := (hq.cell _).trans hx1
   by_cases hlt2 : k < q.length
   ·have d2 : decide ((k : Int) < (q.length : Int)) = true := by rw [decide_eq_true_eq]; omega
    obtain ⟨b2, o2, rfl, hb2, hx2, -⟩ := strs_at S2.out hlt2
    have g2 : wr.cell? ⟨b2, o2 + k, none⟩ = _ := (hq.cell _).trans hx2
    have hn := HNOW.out k hlt hlt2 HS.out
    have hst := cm_step hlt hlt2 HS.out
    have hz := @cmpT_zero p[k] q[k]
    have hpt := cmpT_parts p[k] q[k]
    generalize p[k] = s1 at *
    generalize q[k] = s2 at *
    have hbl : Op.bytesLess s1.toList s2.toList = lessB s1 s2 := rfl
    generalize lessB s1 s2 = bl at *
    have HN := hid hn; have HST := hid (fun h => hst (hz h))
    generalize cmpT s1 s2 = ct at *
    clear hn hst hz hx1 hx2
    rcases hpt with ⟨hc, rfl⟩ | ⟨hc, rfl, heq⟩ | ⟨hc, rfl, heq⟩
    ·have HR := hid (show res = -1 by rw [HN.out (by omega), hc])
     clear hc
     go_wp2
     go_quiet (fail)
     go_wp2
     go_ret
     exact ⟨by rw [HR.out]; rfl, hq.drewN _⟩
    ·have HR := hid (show res = 1 by rw [HN.out (by omega), hc])
     clear hc
     go_wp2
     go_quiet (fail)
     go_wp2
     go_quiet (fail)
     go_wp2
     go_ret
     exact ⟨by rw [HR.out]; rfl, by first | exact hq.drewN _ | exact (hq.drewN _).drewN _⟩
    ·have HS' := hid (HST.out hc)
     clear hc
     go_wp2
     go_quiet (fail)
     go_wp2
     go_quiet (fail)
     go_wp2
     go_roundw
     case rel => exact ⟨k + 1, by omega, by omega, by go_num, HS'.out, hq.drewN _⟩
     case measure => simp [intOf]; omega
   ·have d2 : decide ((k : Int) < (q.length : Int)) = false := by rw [decide_eq_false_iff_not]; omega
    have HR := hid (HEND.out k hk hk2 HS.out (.inr (by omega)))
    have HR2 := hid (show res = 1 by rw [HR.out, if_neg (by omega), if_pos (by omega)])
    clear hx1
    go_wp2
    go_ret
    exact ⟨by rw [HR2.out]; rfl, hq⟩
  ·have d1 : decide ((k : Int) < (p.length : Int)) = false := by rw [decide_eq_false_iff_not]; omega
   have HR := hid (HEND.out k hk hk2 HS.out (.inl (by omega)))
   by_cases hpq : p.length < q.length
   ·have HR2 := hid (show res = -1 by rw [HR.out, if_pos hpq])
    go_wp2
    go_ret
    exact ⟨by rw [HR2.out]; rfl, hq⟩
   ·have HR2 := hid (show res = 0 by rw [HR.out, if_neg hpq, if_neg (by omega)])
    go_wp2
    go_ret
    exact ⟨by rw [HR2.out]; rfl, hq⟩
end Go.Proofs.YtgoapnkdcfcjgaaGreat
namespace Go.Proofs.YtgoapnkdcfcjgaaGreat
open Go.ChangeShapes Go.WideShapes Go.ChangeAt Go.RowKit Go.Deep
set_option linter.unusedVariables false
set_option linter.unusedSimpArgs false
def cmpKK : List (List ByteArray) → List (List ByteArray) → Int
 | [], [] => 0
 | [], _ :: _ => -1
 | _ :: _, [] => 1
 | x :: a, y :: b => if cmpS x y ≠ 0 then cmpS x y else cmpKK a b
theorem cmpKK_drop (a b : List (List ByteArray)) (k : Nat) (hk : k < a.length) (hk' : k < b.length) : cmpKK (a.drop k) (b.drop k) = if cmpS a[k] b[k] ≠ 0 then cmpS a[k] b[k] else cmpKK (a.drop (k + 1)) (b.drop (k + 1)) := by
 rw [List.drop_eq_getElem_cons hk, List.drop_eq_getElem_cons hk']; rfl
theorem cmpKK_end1 (a b : List (List ByteArray)) (h : a.length < b.length) : cmpKK (a.drop a.length) (b.drop a.length) = -1 := by
 rw [List.drop_length, List.drop_eq_getElem_cons h]; rfl
theorem cmpKK_end2 (a b : List (List ByteArray)) (h : b.length < a.length) : cmpKK (a.drop b.length) (b.drop b.length) = 1 := by
 rw [List.drop_length, List.drop_eq_getElem_cons h]; rfl
theorem cmpKK_end3 (a b : List (List ByteArray)) (h : a.length = b.length) : cmpKK (a.drop a.length) (b.drop a.length) = 0 := by
 rw [List.drop_length, List.drop_eq_nil_of_le (by omega)]; rfl
set_option maxRecDepth 100000 in
set_option maxHeartbeats 1600000 in
theorem r11Cmp_any (v x : Value) (a b : List (List ByteArray)) (w : World) (hv : rdSlice 1 rdStrs w w.heap.size [v] a) (hx : rdSlice 1 rdStrs w w.heap.size [x] b) :
  Calls Tryz.prog 78 #[v, x] w (Stays (.int .i64 (cmpKK a b)) w) := by
 obtain ⟨A1, c1, e, hc1, hm1⟩ := hv.open_
 simp only [List.cons.injEq, and_true] at e
 subst e
 obtain ⟨A2, c2, e, hc2, hm2⟩ := hx.open_
 simp only [List.cons.injEq, and_true] at e
 subst e
 have HV := hid hv; have HX := hid hx
 clear hv hx
 go_enter Tryz.func78, Tryz.ntmps78
 go_wp2
 go_loopw [5] (fun i wr => ∃ k : Nat, k ≤ a.length ∧ k ≤ b.length ∧ i = .int .i64 k ∧ cmpKK a b = cmpKK (a.drop k) (b.drop k) ∧ Qu w wr) (fun i _ => a.length - (intOf i).toNat)
 case atStart => exact ⟨0, by omega, by omega, rfl, rfl, Qu.refl _⟩
 case round =>
  obtain ⟨k, hk1, hk2, rfl, hcm, hq⟩ := hrel
  have HCM := hid hcm
  clear hcm
  by_cases h1 : k < a.length
  ·by_cases h2 : k < b.length
   ·have hst := cmpKK_drop a b k h1 h2
    obtain ⟨b1, o1, AM, cM, rfl, hb1, x1, r1⟩ := paths_at HV.out h1
    obtain ⟨b2, o2, BM, dM, rfl, hb2, x2, r2⟩ := paths_at HX.out h2
    have g1 := (hq.cell ⟨b1, o1 + k, none⟩).trans x1
    have g2 := (hq.cell ⟨b2, o2 + k, none⟩).trans x2
    generalize a[k] = p at *
    generalize b[k] = q at *
    have HSV := hid (fun W (hqq : Qu wr W) => by
     have h3 := hq.trans hqq
     have hz := h3.size
     exact refCmp_any (.slice AM p.length cM) (.slice BM q.length dM) p q W (hz ▸ good_strs.stays r1 (h3.below _)) (hz ▸ good_strs.stays r2 (h3.below _)))
    generalize cmpS p q = n at *
    generalize p.length = m1 at *
    generalize q.length = m2 at *
    have HST := hid hst
    clear x1 x2 r1 r2 hst
    have t1 : decide ((k : Int) < (a.length : Int)) = true := by rw [decide_eq_true_eq]; omega
    have t2 : decide ((k : Int) < (b.length : Int)) = true := by rw [decide_eq_true_eq]; omega
    go_wp2
    go_quiet (first | (go_at_call 116; exact Calls.quiet_of (HSV.out _ ⟨_, rfl⟩)))
    by_cases hn : n = 0
    ·subst hn
     have hst := HST.out
     rw [if_neg (by simp)] at hst
     have HN := hid (HCM.out.trans hst)
     clear hst g1 g2
     go_wp2
     go_roundw
     case rel => exact ⟨k + 1, by omega, by omega, by go_num, HN.out, hq.drewN _⟩
     case measure => simp [intOf]; omega
    ·have hst := HST.out
     rw [if_pos hn] at hst
     have HN := hid (HCM.out.trans hst)
     have hn' : (n != 0) = true := by simpa using hn
     clear hst g1 g2
     go_wp2
     go_ret
     exact ⟨by rw [HN.out]; rfl, hq.drewN _⟩
   ·obtain rfl : k = b.length := by omega
    have HN := hid (HCM.out.trans (cmpKK_end2 a b h1))
    have t1 : decide (((b.length : Nat) : Int) < ((a.length : Nat) : Int)) = true := by rw [decide_eq_true_eq]; omega
    have t2 : decide (((b.length : Nat) : Int) < ((b.length : Nat) : Int)) = false := by rw [decide_eq_false_iff_not]; omega
    have t3 : ¬ ((a.length : Nat) : Int) < ((b.length : Nat) : Int) := by omega
    go_wp2
    go_ret
    exact ⟨by rw [HN.out]; rfl, hq⟩
  ·obtain rfl : k = a.length := by omega
   have t1 : decide (((a.length : Nat) : Int) < ((a.length : Nat) : Int)) = false := by rw [decide_eq_false_iff_not]; omega
   by_cases h2 : a.length < b.length
   ·have HN := hid (HCM.out.trans (cmpKK_end1 a b h2))
    have t3 : ((a.length : Nat) : Int) < ((b.length : Nat) : Int) := by omega
    go_wp2
    go_ret
    exact ⟨by rw [HN.out]; rfl, hq⟩
   ·have HN := hid (HCM.out.trans (cmpKK_end3 a b (by omega)))
    have t3 : ¬ ((a.length : Nat) : Int) < ((b.length : Nat) : Int) := by omega
    have t4 : ¬ ((b.length : Nat) : Int) < ((a.length : Nat) : Int) := by omega
    go_wp2
    go_ret
    exact ⟨by rw [HN.out]; rfl, hq⟩
end Go.Proofs.YtgoapnkdcfcjgaaGreat
namespace Go.Proofs.YtgoapnkdcfcjgaaGreat
open Go.ChangeShapes Go.WideShapes Go.ChangeAt Go.RowKit
set_option linter.unusedVariables false
set_option linter.unusedSimpArgs false
set_option maxRecDepth 100000 in
set_option maxHeartbeats 800000 in
theorem refUpN_any (v : Value) (n : Int) (p : List ByteArray) (w : World) (hv : rdStrs w w.heap.size [v] p) (hp : p.length ≤ 1073741824) :
  Calls Tryz.prog 115 #[v, .int .i64 n] w (StrsPost (upS p n) w) := by
 obtain ⟨i0, hi, hz0, hz1, hz2⟩ := info_parts info_strQ
 obtain ⟨A1, c1, e, hc1, hm1⟩ := hv.open_
 simp only [List.cons.injEq, and_true] at e
 subst e
 have HV := hid hv
 obtain ⟨u, hu⟩ : ∃ u, u = upS p n := ⟨_, rfl⟩
 have hul : u.length ≤ p.length ∧ ((u.length : Int) ≤ n ∨ u.length = 0) ∧ (u.length = p.length ∨ n ≤ (u.length : Int)) := by
  rw [hu]; unfold upS; rw [List.length_take]; omega
 obtain ⟨hu1, hu2, hu3⟩ := hul
 have HUT := hid (fun (k : Nat) (h : k < u.length) => show p.take (k + 1) = p.take k ++ [p[k]'(by omega)] from List.take_succ_eq_append_getElem (by omega))
 have HUA := hid (show p.take u.length = u by
  rw [hu]; unfold upS; rw [List.length_take, ← List.take_take]; simp)
 rw [← hu]
 clear hv hu
 go_enter Tryz.func115, Tryz.ntmps115
 go_wp2
 go_loopw [5, 6] (fun out i wr => ∃ k : Nat, k ≤ u.length ∧ i = .int .i64 k ∧ wr.ownsRow w.heap.size 9 1 out k (svals (p.take k)) ∧ Below w.heap.size w wr) (fun _ i _ => u.length - (intOf i).toNat)
 case atStart => exact ⟨0, by omega, rfl, World.ownsRow_nil _ _ _ _, Below.refl _ _⟩
 case round =>
  obtain ⟨k, hk, rfl, hown, hb⟩ := hrel
  have hs := hb.size
  have HB := hid hb; have HOW := hid hown
  clear hb hown
  by_cases hlt : k < u.length
  ·have y1 : k < p.length := by omega
   have y2 : (k : Int) < n := by omega
   obtain ⟨b, off, rfl, hbl, hcell, -⟩ := strs_at HV.out y1
   have hcw := cellK HB.out hbl hcell
   have e1 := HUT.out k hlt
   generalize p[k] = s at *
   have E1 := hid e1
   clear hcell e1
   go_wp2_with (at_builtin; refine stop_here ?_)
   refine go_on ?_
   refine app_own (.tmp 18) (.tmp 23) 23 23 rfl rfl w.heap.size 9 i0 (.string ByteArray.empty) 1 16 Tryz.underlying23 hi hz0 hz1 hz2 rfl (by decide) _ k (svals (p.take k)) rfl (HOW.out.alloc _) (.slice (some ⟨wr.heap.size, 0, none⟩) 1 1) 1 (svals [s]) rfl (Src.ofSlice _ Tryz.underlying23 _ 1 1 _ rfl (cell_one_at' _ _ _ rfl) (by simp [svals]; rfl)) (by first | omega | (simp only [maxLen]; omega)) (by first | omega | (simp only [maxLen]; omega)) (by simp; omega) ?_
   intro v' w' hown' hg' hb'
   have HO' := hid (show w'.ownsRow w.heap.size 9 1 v' (k + 1) (svals (p.take (k + 1))) by rw [E1.out, svals_snoc]; exact hown')
   have HB' := hid ((HB.out.alloc hs _).trans hb')
   clear hown' hg' hb' HOW
   go_wp2
   go_roundw
   case rel => exact ⟨k + 1, by omega, by go_num, HO'.out, HB'.out⟩
   case measure => simp [intOf]; omega
  ·have hke : k = u.length := by omega
   have hfin : wr.ownsRow w.heap.size 9 1 u5 u.length (svals u) := by
    have := HOW.out
    rw [hke, HUA.out] at this
    exact this
   have HF := hid hfin
   have hways : ¬ k < p.length ∨ (k < p.length ∧ ¬ (k : Int) < n) := by omega
   clear hfin hke HOW hlt hk HUT HUA hu1 hu2 hu3
   rcases hways with y1 | ⟨y1, y2⟩
   ·go_wp2
    go_ret
    exact ⟨_, rfl, HF.out, HB.out⟩
   ·go_wp2
    go_ret
    exact ⟨_, rfl, HF.out, HB.out⟩
def KeyPost (l : List (List ByteArray)) (w : World) (e : Ending) (w' : World) : Prop := ∃ r, e = .returned r ∧ RowL w' w.heap.size r l ∧ Below w.heap.size w w'
end Go.Proofs.YtgoapnkdcfcjgaaGreat
namespace Go.Proofs.YtgoapnkdcfcjgaaGreat
open Go.ChangeShapes Go.WideShapes Go.ChangeAt Go.RowKit Go.Deep
set_option linter.unusedVariables false
set_option linter.unusedSimpArgs false
section
variable {P : Program}
theorem step_app_ownK {ops : Array Oper} {o : Oper} {a : Act} {w : World} {K : Act → World → Prop} {Q : Exit → Act → World → Prop} {E : Prop} (s x : Operand) (t tx : TypeId) (hgd : o.guard = none)
  (ho : o.op = .call { callee := .builtin .append, args := #[s, x], argTypes := #[t, tx] })
  (base : Nat) (e : TypeId) (i : TypeInfo) (z : Value) (size bytes : Nat) (ht : P.underlying t = some (.slice e)) (hi : P.info? e = some i) (hz : i.zero = some z)
  (hsize : i.size = size) (hby : i.bytes = bytes) (hzs : z.cells.size = size) (hsz : 0 < size)
  (v : Value) (n : Nat) (xs : List Value) (hsv : a.eval s = v) (hown : w.ownsRow base e size v n xs)
  (xv : Value) (m : Nat) (news : List Value) (hxv : a.eval x = xv) (hs : Src P size tx xv m news w)
  (h63 : n + m ≤ maxLen) (hbytes : (n + m) * bytes ≤ 140737488355328) (hbase : base ≤ w.heap.size)
  (h : ∀ v' w', w'.ownsRow base e size v' (n + m) (xs ++ news) → w.grownBy w' v.ownBlock → Below base w w' → (v'.ownBlock = v.ownBlock ∨ v'.ownBlock = some w.heap.size) → K (a.put o.dst v') w') :
  if Region.wanted o (yielded ops a.tmps) = true then Oper.wp P o a w K Q else E := by
 have hw : Region.wanted o (yielded ops a.tmps) = true := by simp [Region.wanted, hgd]
 rw [if_pos hw]
 obtain ⟨v', w', hrun, h2, h3, h4⟩ := run_app_own (P := P) w base t tx o.type e i z size bytes ht hi hz hsize hby hzs hsz v n xs hown xv m news hs h63 hbytes hbase
 exact wp_of_run s x t tx ho v xv hsv hxv hrun (h v' w' h2 h3 ((Below.refl _ _).grown h3 hbase (fun j hj => (hown.lt j hj).1)) h4)
end
def keyR (ps : List (List ByteArray)) (v : List Int) (k : Nat) : List (List ByteArray) := (List.range k).map fun i => upS (ps.getD i []) (v.getD i 0)
theorem keyR_succ (ps : List (List ByteArray)) (v : List Int) (k : Nat) : keyR ps v (k + 1) = keyR ps v k ++ [upS (ps.getD k []) (v.getD k 0)] := by unfold keyR; rw [List.range_succ, List.map_append]; rfl
theorem keyR_len (ps : List (List ByteArray)) (v : List Int) (k : Nat) : (keyR ps v k).length = k := by simp [keyR]
def KyRR (ps : List (List ByteArray)) (v : List Int) (W0 : World) (out i : Value) (wr : World) : Prop := ∃ k : Nat, k ≤ v.length ∧ i = .int .i64 k ∧ RowL wr W0.heap.size out (keyR ps v k) ∧ Below W0.heap.size W0 wr
set_option maxRecDepth 100000 in
set_option maxHeartbeats 3200000 in
theorem r11Key_any (AP AV : Option Addr) (cP nV cV : Nat) (ps : List (List ByteArray)) (x : Value) (v : List Int) (w : World) (hp : rdSlice 1 rdStrs w w.heap.size [.slice AP ps.length cP] ps) (hx : rdInts w w.heap.size [x] v) (hl : v.length ≤ ps.length) (hv : v.length ≤ 1000) (hpl : ∀ p ∈ ps, p.length ≤ 1000) :
  Calls Tryz.prog 77 #[.agg #[.slice AP ps.length cP, .slice AV nV cV], x] w (KeyPost (keyR ps v v.length) w) := by
 obtain ⟨i0, hi, hz0, hz1, hz2⟩ := info_parts info_strsQ
 obtain ⟨A1, c1, e, hc1, hm1⟩ := hx.open_
 simp only [List.cons.injEq, and_true] at e
 subst e
 obtain ⟨hcp, hmp⟩ := hp.cap
 obtain ⟨W0, hW0⟩ : ∃ W, W = w.alloc (.cells #[.slice AP ps.length cP, .slice AV nV cV] 60) := ⟨_, rfl⟩
 have g0 : Below w.heap.size w W0 := by rw [hW0]; exact bl1 _ _
 have z0 : W0.heap.size = w.heap.size + 1 := by rw [hW0]; simp
 have y0 : W0.cell? ⟨w.heap.size, 0, none⟩ = some (.slice AP ps.length cP) := by rw [hW0]; simp [go_sem]
 have HW0 := hid hW0
 have G0 := hid g0
 have H1 := hid (good_ints.on hx g0)
 have HP := hid (good_paths.on hp g0)
 have HPL := hid hpl
 clear hW0 g0 hx hp hpl
 go_enter Tryz.func77, Tryz.ntmps77
 go_wp2
 rw [← HW0.out]
 go_loopw [5, 6] (fun out i wr => KyRR ps v W0 out i wr) (fun _ i _ => v.length - (intOf i).toNat)
 case atStart => exact ⟨0, by omega, rfl, RowL.nil_ _ _, Below.refl _ _⟩
 case round =>
  obtain ⟨k, hk, rfl, hrow, hb⟩ := hrel
  have hs := hb.size
  have HB := hid hb; have HRW := hid hrow
  by_cases hlt : k < v.length
  ·obtain ⟨b, off, rfl, hbl, hcell, hii⟩ := ints_at H1.out hlt
   have hcw := cellK HB.out hbl hcell
   have hkp : k < ps.length := by omega
   obtain ⟨b2, o2, AM, cM, rfl, hb2, hc2, hpp⟩ := paths_at HP.out hkp
   have hc2' := cellK HB.out hb2 hc2
   have hbx := cellK HB.out (by omega) y0
   have hgd : ps.getD k [] = ps[k] := by rw [List.getD_eq_getElem?_getD, List.getElem?_eq_getElem hkp]; rfl
   have hple := HPL.out _ (List.getElem_mem hkp)
   have e1 := keyR_succ ps v k
   have hln := keyR_len ps v k
   rw [hgd] at e1
   generalize v.getD k 0 = lv at *
   generalize ps[k] = p at *
   have hka : (upS p lv).length ≤ p.length := by unfold upS; rw [List.length_take]; omega
   have HUP := hid (fun W (hW : Qu wr W) => refUpN_any (.slice AM p.length cM) lv p W (good_strs.on (good_strs.on hpp HB.out) (hW.below _)) (by omega))
   generalize hkk : upS p lv = ka at *
   obtain ⟨vs, r1, r2, r3⟩ := hrow
   rw [hln] at r2
   obtain ⟨Ao, co, rfl⟩ := own_formB r2
   generalize hpn : p.length = pn at *
   have E1 := hid e1; have R1 := hid r1; have R2 := hid r2; have R3 := hid r3; have HLN := hid hln
   clear e1 hcell hii hpp hc2 hgd hb hkk r1 r3 hln
   go_wp2
   go_region_law (first
    | (refine step_app_ownK (.tmp 13) (.tmp 24) 58 58 (by rfl) (by rfl) W0.heap.size 23 i0 (.slice none 0 0) 1 24 Tryz.underlying58 hi hz0 hz1 hz2 rfl (by omega) _ k vs (by rfl) ((own_stays R2.out B5.out).alloc _) (.slice (some ⟨w5.heap.size, 0, none⟩) 1 1) 1 [_] (by rfl) (Src.ofSlice _ Tryz.underlying58 _ 1 1 _ rfl (cell_one_at' _ _ _ rfl) (by simp; rfl)) (by unfold maxLen; omega) (by omega) (by rw [World.size_alloc]; omega) ?_; intro v' w6 ho6 hg6 hb6 hat6; have HO6 := hid ho6; have HG6 := hid hg6; have HB6 := hid hb6; have HA6 := hid hat6; clear ho6 hg6 hb6 hat6)
    | (go_simp; go_at_call 115; refine (HUP.out _ ⟨1, rfl⟩).mono ?_; rintro e w5 ⟨u5, rfl, hu5, hb5⟩; have HU5 := hid hu5; have B5 := hid ((Below.refl wr.heap.size wr).drew.trans hb5); have z5 := B5.out.size; obtain ⟨A5, c5, rfl, -, -, -⟩ := own_cells HU5.out; clear hu5 hb5))
   all_goals
    have hln := HLN.out
    have hrow' := RowL.app R1.out (by rw [hln]; exact R2.out) R3.out B5.out HU5.out hs (by rw [hln]; exact HO6.out) HG6.out HA6.out
    rw [← E1.out] at hrow'
    have HR' := hid hrow'
    have HB3 := hid (((HB.out.trans (B5.out.mono hs)).alloc (by omega) _).trans HB6.out)
    clear hrow' r2 hcw hc2' hbx
    go_wp2
    go_roundw
    case rel => exact ⟨k + 1, by omega, by go_num, HR'.out, HB3.out⟩
    case measure => simp [intOf]; omega
  ·obtain rfl : k = v.length := by omega
   have HF := hid (hrow.less (show w.heap.size ≤ W0.heap.size by omega))
   clear hrow HRW hb
   go_wp2
   go_ret
   exact ⟨_, rfl, HF.out, G0.out.trans (HB.out.mono (by omega))⟩
end Go.Proofs.YtgoapnkdcfcjgaaGreat
namespace Go.Proofs.YtgoapnkdcfcjgaaGreat
open Go.ChangeShapes Go.WideShapes Go.ChangeAt Go.RowKit
set_option linter.unusedVariables false
set_option linter.unusedSimpArgs false
theorem KeepT.trans {e : TypeId} {base : Nat} {a b c : World} (h : KeepT e base a b) (k : KeepT e base b c) : KeepT e base a c := fun g cur hb hg => (k g cur hb ((h g cur hb hg).trans hg)).trans (h g cur hb hg)
def RowT (w : World) (base : Nat) (out : Value) (M : List (List ByteArray)) : Prop :=
 ∃ vs : List Value, ∃ hl : vs.length = M.length, w.ownsRow base 23 1 out M.length vs ∧
  ∀ j (h : j < M.length), w.ownsRow base 9 1 (vs[j]'(by omega)) M[j].length (svals M[j])
theorem RowT.less {w : World} {base base' : Nat} {out : Value} {M : List (List ByteArray)} (h : RowT w base out M) (hb : base' ≤ base) : RowT w base' out M := by
 obtain ⟨vs, h1, h2, h3⟩ := h
 exact ⟨vs, h1, own_lessQ h2 hb, fun j hj => own_lessQ (h3 j hj) hb⟩
theorem RowT.toL {w : World} {base : Nat} {out : Value} {M : List (List ByteArray)} (h : RowT w base out M) : RowL w base out M := by
 obtain ⟨vs, h1, h2, h3⟩ := h
 refine ⟨vs, h1, h2, fun j hj => ?_⟩
 have e1 : vs.getD j undef = vs[j]'(by omega) := by rw [List.getD_eq_getElem?_getD, List.getElem?_eq_getElem (by omega)]; rfl
 have e2 : M.getD j [] = M[j] := by rw [List.getD_eq_getElem?_getD, List.getElem?_eq_getElem hj]; rfl
 rw [e1, e2]
 refine ⟨h3 j hj, fun g hg e => ?_⟩
 have a := (h3 j hj).2
 have b := h2.2
 rcases a with ⟨e1, _⟩ | ⟨g1, cap1, cur1, e1, _, hg1, _⟩
 ·rw [e1] at hg; cases hg
 ·rcases b with ⟨e2, _⟩ | ⟨g2, cap2, cur2, e2, _, hg2, _⟩
  ·rw [e2] at e; cases e
  ·rw [e1] at hg; rw [e2] at e
   simp only [Value.ownBlock, Option.some.injEq] at hg e
   subst hg; subst e
   rw [hg1] at hg2
   injection hg2 with hg2
   injection hg2 with _ h _
   exact absurd h (by decide)
end Go.Proofs.YtgoapnkdcfcjgaaGreat
