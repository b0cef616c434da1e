/- 3 texts of this claim, in build order. -/
import Derived.Test.YtgoapnkdcfcjgaaGreatPplomcpim
import Derived.Test.YtgoapnkdcfcjgaaGreatPbaoabehe
import Derived.Test.YtgoapnkdcfcjgaaGreatPangingkh
import Derived.BigQuiet
import Derived.Test.YtgoapnkdcfcjgaaGreatPommbaifj
import Derived.Deep.RegionHeld3
set_option linter.unusedVariables false
set_option linter.unusedSimpArgs false
namespace Go.Proofs.YtgoapnkdcfcjgaaGreat
open Go.ChangeShapes Go.WideShapes Go.ChangeAt Go.RowKit
theorem zmu {s : ze} {k : Nat} (h : k < s.1.length) : (zV s).getD k 0 = (s.1[k].2.length : Int) := by
 unfold zV
 rw [List.getD_eq_getElem?_getD, List.getElem?_map, List.getElem?_eq_getElem h]; rfl
set_option maxRecDepth 100000 in
set_option maxHeartbeats 800000 in
theorem zfJ (v : Value) (s : ze) (w : World) (hv : zD w w.heap.size v s) (hl : s.1.length <= 1000) :
  Calls Tryz.prog 39 #[v] w (zfL (zV s) w) := by
 obtain ⟨i0, hi, hz0, hz1, hz2⟩ := info_parts zaE
 obtain ⟨A1, c1, A2, c2, A3, c3, rfl, h1, h2, h3⟩ := hv
 obtain ⟨hc1, hm1⟩ := h1.cap
 have hbl : (zV s).length = s.1.length := by simp [zV]
 obtain ⟨W0, hW0⟩ : ∃ W, W = w.alloc (.cells #[.slice A1 s.1.length c1, .slice A2 s.2.1.length c2, .slice A3 s.2.2.length c3] 26) := ⟨_, rfl⟩
 have g0 : Below w.heap.size w W0 := by rw [hW0]; exact bl1 _ _
 have z0 : W0.heap.size = w.heap.size + 1 := by rw [hW0]; simp
 have y0 : W0.cell? ⟨w.heap.size, 0, none⟩ = some (.slice A1 s.1.length c1) := by rw [hW0]; simp [go_sem]
 have HW0 := hid hW0; have G0 := hid g0; have Y0 := hid y0; have H1 := hid (zam.on h1 g0)
 clear hW0 g0 y0 h1 h2 h3
 go_enter Tryz.func39, Tryz.ntmps39
 go_wp2
 rw [<- HW0.out]
 go_loopw [3, 4] (fun out i wr => zg5 s W0 out i wr) (fun _ i _ => s.1.length - (intOf i).toNat)
 case atStart => exact ⟨0, by omega, rfl, World.ownsRow_nil _ _ _ _, Below.refl _ _⟩
 case round =>
  obtain ⟨k, hk, rfl, hown, hb⟩ := hrel
  have hs := hb.size
  have HB := hid hb; have HOW := hid hown
  have y0 := zc hb (by omega) Y0.out
  clear hb hown
  by_cases hlt : k < s.1.length
  ·obtain ⟨b, off, AL, cL, rfl, hbl2, q0, q1, hlv, -⟩ := zfh H1.out hlt
   have e1 : (zV s).take (k + 1) = (zV s).take k ++ [((s.1[k].2.length : Nat) : Int)] := by
    rw [List.take_succ_eq_append_getElem (by simp [zV]; omega)]; simp [zV]
   have q1' := zc HB.out hbl2 q1
   generalize s.1[k].2.length = n at *
   have E1 := hid e1
   clear e1 q0 q1 hlv
   go_wp2_with (at_builtin; refine zr ?_)
   refine zar ?_
   refine zav (.tmp 12) (.tmp 20) 27 27 rfl rfl W0.heap.size 3 i0 (.int .i64 0) 1 8 Tryz.underlying27 hi hz0 hz1 hz2 rfl (by decide) _ k (zk ((zV s).take k)) rfl (HOW.out.alloc _) (.slice (some ⟨wr.heap.size, 0, none⟩) 1 1) 1 (zk [(n : Int)]) rfl (Src.ofSlice _ Tryz.underlying27 _ 1 1 _ rfl (zG _ _ _ rfl) (by simp [zk]; rfl)) (by first | omega | (simp only [maxLen]; omega)) (by first | omega | (simp only [maxLen]; omega)) (by simp; omega) ?_
   intro v' w' hown' hg' hb'
   have hr : zg5 s W0 v' (.int .i64 ((k : Int) + 1)) w' := ⟨k + 1, by omega, by go_num, by rw [E1.out, za0]; exact hown', ((HB.out.alloc hs _).trans hb')⟩
   have HR := hid hr
   clear hr hown' hg' hb'
   go_wp2
   go_roundw
   case rel => exact HR.out
   case measure => simp [intOf]; omega
  ·obtain rfl : k = s.1.length := by omega
   have hfin : wr.ownsRow w.heap.size 3 1 u3 (zV s).length (zk (zV s)) := by
    have := HOW.out
    rw [List.take_of_length_le (by omega)] at this
    rw [hbl]
    obtain ⟨h1, h2⟩ := this
    refine ⟨h1, ?_⟩
    rcases h2 with h2 | ⟨g, cap, cur, e, hbg, r⟩
    ·exact .inl h2
    ·exact .inr ⟨g, cap, cur, e, by omega, r⟩
   have HF := hid hfin
   clear hfin HOW
   go_wp2
   go_ret
   exact ⟨_, rfl, HF.out, G0.out.trans (HB.out.mono (by omega))⟩
theorem zgH {s : ze} {v : List Int} : zap s v = true ↔ v.length = s.1.length /\ ∀ j, j < v.length -> 0 <= v.getD j 0 /\ v.getD j 0 <= (zV s).getD j 0 := by
 have hbl : (zV s).length = s.1.length := by simp [zV]
 unfold zap
 rw [Bool.and_eq_true]
 have hneg : ((!(v.any fun n => decide (n < 0))) = true) ↔ ∀ j, j < v.length -> 0 <= v.getD j 0 := by
  rw [Bool.not_eq_true', List.any_eq_false]
  constructor
  ·intro h j hj
   have := h _ (List.getElem_mem hj)
   rw [List.getD_eq_getElem?_getD, List.getElem?_eq_getElem hj]
   simp at this ⊢; omega
  ·intro h x hx
   obtain ⟨j, hj, rfl⟩ := List.mem_iff_getElem.1 hx
   have := h j hj
   rw [List.getD_eq_getElem?_getD, List.getElem?_eq_getElem hj] at this
   simp at this ⊢; omega
 rw [hneg]
 by_cases hl : (zV s).length = v.length
 ·rw [zel hl]
  exact ⟨fun ⟨h1, h2⟩ => ⟨by omega, fun j hj => ⟨h2 j hj, h1 j (by omega)⟩⟩, fun ⟨h1, h2⟩ => ⟨fun j hj => (h2 j (by omega)).2, fun j hj => (h2 j hj).1⟩⟩
 ·constructor
  ·rintro ⟨h1, -⟩
   unfold zak at h1
   rw [decide_eq_false hl] at h1
   simp at h1
  ·rintro ⟨h1, -⟩; omega
def CrRel (s : ze) (v : List Int) (W0 : World) (i : Value) (wr : World) : Prop := ∃ k : Nat, k <= v.length /\ i = .int .i64 k /\ (∀ j, j < k -> 0 <= v.getD j 0 /\ v.getD j 0 <= (zV s).getD j 0) /\ Below W0.heap.size W0 wr
set_option maxRecDepth 100000 in
set_option maxHeartbeats 1600000 in
theorem zd4 (v x : Value) (s : ze) (l : List Int) (w : World) (hv : zD w w.heap.size v s) (hl : s.1.length <= 1000) (hx : zC w w.heap.size [x] l) :
  Calls Tryz.prog 37 #[v, x] w (zY (.bool (zap s l)) w) := by
 obtain ⟨A1, c1, A2, c2, A3, c3, rfl, h1, h2, h3⟩ := hv
 obtain ⟨hc1, hm1⟩ := h1.cap
 obtain ⟨X, cx, e, hcx, hmx⟩ := hx.open_
 simp only [List.cons.injEq, and_true] at e
 subst e
 obtain ⟨W0, hW0⟩ : ∃ W, W = w.alloc (.cells #[.slice A1 s.1.length c1, .slice A2 s.2.1.length c2, .slice A3 s.2.2.length c3] 26) := ⟨_, rfl⟩
 have g0 : Below w.heap.size w W0 := by rw [hW0]; exact bl1 _ _
 have z0 : W0.heap.size = w.heap.size + 1 := by rw [hW0]; simp
 have y0 : W0.cell? ⟨w.heap.size, 0, none⟩ = some (.slice A1 s.1.length c1) := by rw [hW0]; simp [go_sem]
 have HW0 := hid hW0; have G0 := hid g0; have Y0 := hid y0; have H1 := hid (zam.on h1 g0); have HX := hid (zm.on hx g0)
 have HCI := hid (zgH (s := s) (v := l))
 generalize zap s l = res at *
 clear hW0 g0 y0 h1 h2 h3 hx
 go_enter Tryz.func37, Tryz.ntmps37
 by_cases hlen : l.length = s.1.length
 ·have t0 : ((l.length : Int) != (s.1.length : Int)) = false := by simp [hlen]
  have HLEN := hid hlen
  clear hlen
  go_wp2
  rw [<- HW0.out]
  go_loopw [5] (fun i wr => CrRel s l W0 i wr) (fun i _ => l.length - (intOf i).toNat)
  case atStart => exact ⟨0, by omega, rfl, fun j hj => by omega, Below.refl _ _⟩
  case round =>
   obtain ⟨k, hk, rfl, hall, hb⟩ := hrel
   have hs := hb.size
   have HB := hid hb; have HALL := hid hall
   have y0 := zc hb (by omega) Y0.out
   clear hb hall
   by_cases hlt : k < l.length
   ·have hld : k < s.1.length := by have := HLEN.out; omega
    obtain ⟨bx, ox, rfl, hbx, hcx0, -⟩ := zb4 HX.out hlt
    obtain ⟨b, off, AL, cL, rfl, hbl2, q0, q1, hlv, -⟩ := zfh H1.out hld
    have q1' := zc HB.out hbl2 q1
    have q2' := zc HB.out hbx hcx0
    have hba := zmu hld
    have hno : ¬ (0 <= l.getD k 0 /\ l.getD k 0 <= (zV s).getD k 0) -> res = false := fun h => by
     rw [Bool.eq_false_iff]; exact fun h' => h ((HCI.out.1 h').2 k hlt)
    have hyes : (0 <= l.getD k 0 /\ l.getD k 0 <= (zV s).getD k 0) -> ∀ j, j < k + 1 -> 0 <= l.getD j 0 /\ l.getD j 0 <= (zV s).getD j 0 := fun h j hj => by
     by_cases e : j = k
     ·subst e; exact h
     ·exact HALL.out j (by omega)
    rw [hba] at hno hyes
    generalize l.getD k 0 = x0 at *
    generalize s.1[k].2.length = n at *
    have HNO := hid hno; have HYES := hid hyes
    have t5 : k < s.1.length := hld
    clear hno hyes hba q0 q1 hcx0 hlv
    have hways : (x0 < 0) \/ (0 <= x0 /\ (n : Int) < x0) \/ (0 <= x0 /\ x0 <= (n : Int)) := by omega
    rcases hways with a | ⟨a, a'⟩ | ⟨a, a'⟩
    ·have t1 : decide (x0 < 0) = true := decide_eq_true a
     have HN := hid (HNO.out (by omega))
     clear a
     go_wp2
     go_quiet (fail)
     go_wp2
     go_ret
     exact ⟨by rw [HN.out]; rfl, G0.out.trans ((zn HB.out _).mono (by omega))⟩
    ·have t1 : decide (x0 < 0) = false := by rw [decide_eq_false_iff_not]; omega
     have t2 : decide ((n : Int) < x0) = true := decide_eq_true a'
     have HN := hid (HNO.out (by omega))
     clear a a'
     go_wp2
     go_quiet (fail)
     go_wp2
     go_ret
     exact ⟨by rw [HN.out]; rfl, G0.out.trans ((zn HB.out _).mono (by omega))⟩
    ·have t1 : decide (x0 < 0) = false := by rw [decide_eq_false_iff_not]; omega
     have t2 : decide ((n : Int) < x0) = false := by rw [decide_eq_false_iff_not]; omega
     have HY := hid (HYES.out ⟨a, a'⟩)
     clear a a'
     go_wp2
     go_quiet (fail)
     go_wp2
     go_roundw
     case rel => exact ⟨k + 1, by omega, by go_num, HY.out, zn HB.out _⟩
     case measure => simp [intOf]; omega
   ·have HN := hid (HCI.out.2 ⟨HLEN.out, fun j hj => HALL.out j (by omega)⟩)
    go_wp2
    go_ret
    exact ⟨by rw [HN.out]; rfl, G0.out.trans (HB.out.mono (by omega))⟩
 ·have t0 : ((l.length : Int) != (s.1.length : Int)) = true := by simp; omega
  have hn : res = false := by rw [Bool.eq_false_iff]; exact fun h => hlen (HCI.out.1 h).1
  have HN := hid hn
  clear hn hlen
  go_wp2
  rw [<- HW0.out]
  go_ret
  exact ⟨by rw [HN.out]; rfl, G0.out⟩
def ApRel (l : List ByteArray) (w : World) (i : Value) (wr : World) : Prop := ∃ k : Nat, k <= l.length /\ i = .int .i64 k /\ (l.take k).all zaq = true /\ (l.take k).Nodup /\ Qu w wr
def ApRel2 (l : List ByteArray) (x : ByteArray) (k : Nat) (w : World) (i : Value) (wr : World) : Prop := ∃ j : Nat, j <= k /\ i = .int .i64 j /\ (∀ m (h : m < l.length), m < j -> l[m] ≠ x) /\ Qu w wr
theorem zhB {l : List ByteArray} {k : Nat} {x : ByteArray} (hk : k <= l.length) : x ∈ l.take k ↔ ∃ (m : Nat) (h : m < l.length), m < k /\ l[m] = x := by
 rw [List.mem_iff_getElem]
 constructor
 ·rintro ⟨m, hm, rfl⟩
  rw [List.length_take] at hm
  exact ⟨m, by omega, by omega, by rw [List.getElem_take]⟩
 ·rintro ⟨m, h, hm, rfl⟩
  exact ⟨m, by rw [List.length_take]; omega, by rw [List.getElem_take]⟩
set_option maxRecDepth 100000 in
set_option maxHeartbeats 1600000 in
theorem zcz (v : Value) (l : List ByteArray) (most : Nat) (w : World) (hv : zO w w.heap.size [v] l) (hm : most <= 1000) :
  Calls Tryz.prog 56 #[v, .int .i64 (most : Int)] w (za5 (.bool (zax l most)) w) := by
 obtain ⟨A, c, e, hc1, hc2⟩ := hv.open_
 simp only [List.cons.injEq, and_true] at e
 subst e
 have HV := hid hv
 have hres : zax l most = (decide (1 <= l.length) && decide (l.length <= most) && l.all zaq && decide l.Nodup) := rfl
 generalize zax l most = res at *
 have HR := hid hres
 clear hv hres
 go_enter Tryz.func56, Tryz.ntmps56
 have hways : (l.length < 1) \/ (1 <= l.length /\ most < l.length) \/ (1 <= l.length /\ l.length <= most) := by omega
 rcases hways with a | ⟨a, a'⟩ | ⟨a, a'⟩
 ·have t1 : decide ((l.length : Int) < 1) = true := by rw [decide_eq_true_eq]; omega
  have hn : res = false := by rw [HR.out, decide_eq_false (show ¬ 1 <= l.length by omega)]; rfl
  have HN := hid hn
  clear hn
  go_wp2
  go_ret
  exact ⟨by rw [HN.out]; rfl, Qu.refl _⟩
 ·have t1 : decide ((l.length : Int) < 1) = false := by rw [decide_eq_false_iff_not]; omega
  have t2 : decide (most < l.length) = true := by rw [decide_eq_true_eq]; omega
  have hn : res = false := by rw [HR.out, decide_eq_false (show ¬ l.length <= most by omega)]; simp
  have HN := hid hn
  clear hn
  go_wp2
  go_ret
  exact ⟨by rw [HN.out]; rfl, Qu.refl _⟩
 ·have t1 : decide ((l.length : Int) < 1) = false := by rw [decide_eq_false_iff_not]; omega
  have t2 : decide (most < l.length) = false := by rw [decide_eq_false_iff_not]; omega
  have hres : res = (l.all zaq && decide l.Nodup) := by rw [HR.out, decide_eq_true a, decide_eq_true a']; simp
  have HR2 := hid hres
  clear hres HR
  go_wp2
  go_loopw [5] (fun i wr => ApRel l w i wr) (fun i _ => l.length - (intOf i).toNat)
  case atStart => exact ⟨0, by omega, rfl, by simp, by simp, Qu.refl _⟩
  case round =>
   obtain ⟨k, hk, rfl, hall, hnd, hq⟩ := hrel
   have HALL := hid hall; have HND := hid hnd; have HQ := hid hq
   clear hall hnd hq
   by_cases hlt : k < l.length
   ·obtain ⟨b, off, rfl, hb, hcell, hsz⟩ := zfK HV.out hlt
    have g1 : wr.cell? ⟨b, off + k, none⟩ = _ := (HQ.out.cell _).trans hcell
    have e1 : l.take (k + 1) = l.take k ++ [l[k]] := List.take_succ_eq_append_getElem hlt
    have e2 : zaq l[k] = false -> l.all zaq = false := fun h => by
     rw [List.all_eq_false]; exact ⟨_, List.getElem_mem hlt, by rw [h]; simp⟩
    have e3 : (∃ (m : Nat) (h : m < l.length), m < k /\ l[m] = l[k]) -> decide l.Nodup = false := fun ⟨m, h, hmk, he⟩ => by
     rw [decide_eq_false_iff_not]
     intro hn
     exact List.pairwise_iff_getElem.1 hn m k h hlt hmk he
    have HCELL := hid hcell
    generalize l[k] = x at *
    have HNM := hid (fun W => zeX x W)
    have E1 := hid e1; have E2 := hid e2; have E3 := hid e3
    clear e1 e2 e3 hcell
    go_wp2_with fail
    refine (HNM.out _).mono ?_
    rintro e w1 ⟨rfl, hq1⟩
    have HQ1 := hid (HQ.out.trans hq1)
    clear hq1 g1
    obtain ⟨bn, hbn⟩ : ∃ bn, zaq x = bn := ⟨_, rfl⟩
    rw [hbn]
    have HBN := hid hbn
    clear hbn
    cases bn
    ·have HN := hid (show res = false by rw [HR2.out, E2.out HBN.out]; rfl)
     go_wp2
     go_ret
     exact ⟨by rw [HN.out]; rfl, HQ1.out⟩
    ·obtain ⟨wo, rfl⟩ : ∃ wo : World, wo = wr := ⟨_, rfl⟩
     go_wp2
     go_loopw [7] (fun i wr => ApRel2 l x k w i wr) (fun i _ => k - (intOf i).toNat)
     case atStart => exact ⟨0, by omega, rfl, fun m h h' => by omega, HQ1.out⟩
     case round =>
      obtain ⟨j, hj, rfl, hne, hq⟩ := hrel
      have HNE := hid hne; have HQ2 := hid hq
      clear hne hq
      by_cases hjk : j < k
      ·have hjl : j < l.length := by omega
       obtain ⟨b', off', e', hb', hcell', -⟩ := zfK HV.out hjl
       injection e' with e'
       injection e' with e1 e2 _
       subst e1; subst e2
       have g1 : wr.cell? ⟨b, off + k, none⟩ = _ := (HQ2.out.cell _).trans HCELL.out
       have g2 : wr.cell? ⟨b, off + j, none⟩ = _ := (HQ2.out.cell _).trans hcell'
       have hex : l[j] = x -> ∃ (m : Nat) (h : m < l.length), m < k /\ l[m] = x := fun h => ⟨j, hjl, hjk, h⟩
       have hst : l[j] ≠ x -> ∀ m (h : m < l.length), m < j + 1 -> l[m] ≠ x := fun h m hm hmj => by
            by_cases e : m = j
            ·subst e; exact h
            ·exact HNE.out m hm (by omega)
       generalize l[j] = y at *
       have HEX := hid hex; have HST := hid hst
       clear hcell' hex hst
       by_cases he : y = x
       ·have t3 : (y.toList == x.toList) = true := by rw [zha, decide_eq_true_eq]; exact he
        have HN := hid (show res = false by rw [HR2.out, E3.out (HEX.out he)]; simp)
        clear he
        go_wp2
        go_quiet (fail)
        go_wp2
        go_ret
        exact ⟨by rw [HN.out]; rfl, HQ2.out.drewN _⟩
       ·have t3 : (y.toList == x.toList) = false := by rw [zha, decide_eq_false_iff_not]; exact he
        have HST' := hid (HST.out he)
        clear he
        go_wp2
        go_quiet (fail)
        go_wp2
        go_roundw
        case rel => exact ⟨j + 1, by omega, by go_num, HST'.out, HQ2.out.drewN _⟩
        case measure => simp [intOf]; omega
      ·have hnot : x ∉ l.take k := fun h => by
            obtain ⟨m, hm, hmk, he⟩ := (zhB (by omega)).1 h
            exact HNE.out m hm (by omega) he
       have hn1 : (l.take (k + 1)).all zaq = true := by rw [E1.out, List.all_append, HALL.out]; simp [HBN.out]
       have hn2 : (l.take (k + 1)).Nodup := by rw [E1.out]; exact zge.2 ⟨HND.out, hnot⟩
       have HN1 := hid hn1; have HN2 := hid hn2
       clear hnot hn1 hn2
       go_wp2
       go_roundw
       case rel =>
            exact ⟨k + 1, by omega, by go_num, HN1.out, HN2.out, HQ2.out⟩
       case measure => simp [intOf]; omega
   ·have hall := HALL.out; have hnd := HND.out
    rw [List.take_of_length_le (by omega)] at hall hnd
    have HN := hid (show res = true by rw [HR2.out, hall, decide_eq_true hnd]; rfl)
    clear hall hnd
    go_wp2
    go_ret
    exact ⟨by rw [HN.out]; rfl, HQ.out⟩
def VwIn (s : ze) (vk : List Int) (n : Nat) (w1 : World) (i : Value) (wr : World) : Prop := ∃ k : Nat, k <= n /\ i = .int .i64 k /\ (∀ j (h : j < s.2.2.length), j < k -> s.2.2[j] ≠ vk) /\ Below w1.heap.size w1 wr
set_option maxRecDepth 100000 in
set_option maxHeartbeats 3200000 in
theorem zbz (v : Value) (s : ze) (w : World) (hv : zD w w.heap.size v s) (hl : s.1.length <= 1000) :
  Calls Tryz.prog 36 #[v] w (zY (.bool (mayS s)) w) := by
 obtain ⟨i0, hi, hz0, hz1, hz2⟩ := info_parts zdI
 have hv0 := hv
 obtain ⟨A1, c1, A2, c2, A3, c3, rfl, h1, h2, h3⟩ := hv
 obtain ⟨hc1, hm1⟩ := h1.cap
 obtain ⟨hc3, hm3⟩ := h3.cap
 obtain ⟨W0, hW0⟩ : ∃ W, W = w.alloc (.cells #[.slice A1 s.1.length c1, .slice A2 s.2.1.length c2, .slice A3 s.2.2.length c3] 26) := ⟨_, rfl⟩
 have g0 : Below w.heap.size w W0 := by rw [hW0]; exact bl1 _ _
 have z0 : W0.heap.size = w.heap.size + 1 := by rw [hW0]; simp
 have y0 : W0.cell? ⟨w.heap.size, 0, none⟩ = some (.slice A1 s.1.length c1) := by rw [hW0]; simp [go_sem]
 have y1 : W0.cell? ⟨w.heap.size, 1, none⟩ = some (.slice A2 s.2.1.length c2) := by rw [hW0]; simp [go_sem]
 have y2 : W0.cell? ⟨w.heap.size, 2, none⟩ = some (.slice A3 s.2.2.length c3) := by rw [hW0]; simp [go_sem]
 have HW0 := hid hW0
 have G0 := hid g0; have Y0 := hid y0; have Y1 := hid y1; have Y2 := hid y2
 have HSV := hid (hv0.on g0)
 have H1 := hid (zam.on h1 g0)
 have H2 := hid (zQ.on h2 g0)
 have H3 := hid (zaw.on h3 g0)
 clear hW0 g0 y0 y1 y2 hv0 h1 h2 h3
 go_enter Tryz.func36, Tryz.ntmps36
 go_wp2
 rw [<- HW0.out]
 go_loopw [3, 4] (fun out i wr => NmRel s W0 out i wr) (fun _ i _ => s.1.length - (intOf i).toNat)
 case atStart => exact ⟨0, by omega, rfl, World.ownsRow_nil _ _ _ _, fun j h h' => by omega, Below.refl _ _⟩
 case round =>
  obtain ⟨k, hk, rfl, hown, hall, hb⟩ := hrel
  have hs := hb.size
  have HB := hid hb; have HALL := hid hall; have HOW := hid hown
  have k0 := zc hb (by omega) Y0.out
  clear hb hall hown
  by_cases hlt : k < s.1.length
  ·obtain ⟨b, off, AL, cL, rfl, hbl, q0, q1, hlv, -⟩ := zfh H1.out hlt
   have e1 : (s.1.map (·.1)).take (k + 1) = (s.1.map (·.1)).take k ++ [s.1[k].1] := by
    rw [List.take_succ_eq_append_getElem (by simp; omega)]; simp
   have hno := fun h => zj5 (s := s) hlt h
   have hyes : zax s.1[k].2 3 = true -> ∀ j (h : j < s.1.length), j < k + 1 -> zax s.1[j].2 3 = true := fun h j hj hjk => by
    by_cases e : j = k
    ·subst e; exact h
    ·exact HALL.out j hj (by omega)
   have q0' := zc HB.out hbl q0
   have q1' := zc HB.out hbl q1
   have HNM := hid (fun W (hb : Below W0.heap.size W0 W) => zcz (.slice AL s.1[k].2.length cL) s.1[k].2 3 W (zQ.on hlv hb) (by omega))
   generalize zax s.1[k].2 3 = bn at *
   generalize s.1[k].2.length = n at *
   generalize s.1[k].1 = nm at *
   have E1 := hid e1; have HNO := hid hno; have HYES := hid hyes
   have Q1 := hid q1
   clear e1 hno hyes hlv q0 q1
   go_wp2_with (at_builtin; refine zr ?_)
   refine zar ?_
   refine zav (.tmp 21) (.tmp 28) 23 23 rfl rfl W0.heap.size 9 i0 (.string ByteArray.empty) 1 16 Tryz.underlying23 hi hz0 hz1 hz2 rfl (by decide) _ k (zL ((s.1.map (·.1)).take k)) rfl (HOW.out.alloc _) (.slice (some ⟨wr.heap.size, 0, none⟩) 1 1) 1 (zL [nm]) rfl (Src.ofSlice _ Tryz.underlying23 _ 1 1 _ rfl (zG _ _ _ rfl) (by simp [zL]; rfl)) (by first | omega | (simp only [maxLen]; omega)) (by first | omega | (simp only [maxLen]; omega)) (by simp; omega) ?_
   intro v' w' hown' hg' hb'
   have hbw : Below W0.heap.size W0 w' := (HB.out.alloc hs _).trans hb'
   have HBW := hid hbw
   have HOW' := hid (show w'.ownsRow W0.heap.size 9 1 v' (k + 1) (zL ((s.1.map (·.1)).take (k + 1))) by rw [E1.out, zea]; exact hown')
   have k0' := zc hbw (by omega) Y0.out
   have q1'' := zc hbw hbl Q1.out
   clear hown' hg' hb' hbw HOW k0
   go_wp2_with fail
   refine (HNM.out _ HBW.out).mono ?_
   rintro e w2 ⟨rfl, hq2⟩
   have hs' := HBW.out.size
   have HB2 := hid (hq2.below w'.heap.size)
   clear hq2
   cases bn
   ·have hn := HNO.out rfl
    have HN := hid hn
    clear hn
    go_wp2
    go_ret
    exact ⟨by rw [HN.out]; rfl, (G0.out.trans (HBW.out.mono (by omega))).trans (HB2.out.mono (by omega))⟩
   ·go_wp2
    go_roundw
    case rel => exact ⟨k + 1, by omega, by go_num, zo HOW'.out (fun g hg => HB2.out.block g (HOW'.out.lt g hg).2), HYES.out (by first | rfl | trivial), HBW.out.trans (HB2.out.mono hs')⟩
    case measure => simp [intOf]; omega
  ·obtain rfl : k = s.1.length := by omega
   have hmay := ziu (fun j h => HALL.out j h h)
   have hvn := fun j h1 h2 => zj4 (s := s) (k := j) h1 h2
   have hvy := fun h => zik (s := s) h
   have hnl : (s.1.map (·.1)).length = s.1.length := by simp
   have hown : wr.ownsRow W0.heap.size 9 1 u3 s.1.length (zL (s.1.map (·.1))) := by
    have := HOW.out
    rwa [List.take_of_length_le (by omega)] at this
   have hnr : zO wr wr.heap.size [u3] (s.1.map (·.1)) := zbi hnl.symm hown (fun x hx => by
    obtain ⟨d, hd, rfl⟩ := List.mem_map.1 hx
    exact (zjU H1.out d hd).1)
   have HNA := hid (zcz u3 (s.1.map (·.1)) 3 wr hnr (by omega))
   have HNB := hid (fun W (hb : Below W0.heap.size W0 W) => zcz (.slice A2 s.2.1.length c2) s.2.1 2 W (zQ.on H2.out hb) (by omega))
   have hbin := zjA H1.out
   have HBS := hid (fun W (hb : Below W0.heap.size W0 W) => zfJ _ s W (HSV.out.on hb) hl)
   have HCR := hid (fun x l W (hb : Below W0.heap.size W0 W) hx => zd4 _ x s l W (HSV.out.on hb) hl hx)
   generalize (List.range s.2.2.length).all (zbB s) = vb at *
   generalize zax (s.1.map (·.1)) 3 = bA at *
   generalize zax s.2.1 2 = bB at *
   have HMAY := hid hmay; have HVN := hid hvn; have HVY := hid hvy; have HBIN := hid hbin
   clear hmay hvn hvy hbin hown hnr HOW HALL
   go_wp2_with fail
   refine HNA.out.mono ?_
   rintro e w1 ⟨rfl, hq1⟩
   have HB1 := hid (HB.out.trans (hq1.below _ |>.mono hs))
   clear hq1 k0
   have k1 := zc HB1.out (by omega) Y1.out
   go_wp2_with fail
   refine (HNB.out _ HB1.out).mono ?_
   rintro e w2 ⟨rfl, hq2⟩
   have HB2 := hid (HB1.out.trans (hq2.below _ |>.mono HB1.out.size))
   clear hq2 k1
   have k0 := zc HB2.out (by omega) Y0.out
   have k1 := zc HB2.out (by omega) Y1.out
   have k2 := zc HB2.out (by omega) Y2.out
   cases bA
   ·go_wp2
    go_ret
    exact ⟨by rw [HMAY.out]; rfl, G0.out.trans (HB2.out.mono (by omega))⟩
   ·cases bB
    ·go_wp2
     go_ret
     exact ⟨by rw [HMAY.out]; rfl, G0.out.trans (HB2.out.mono (by omega))⟩
    ·by_cases h6 : s.2.2.length <= 6
     ·have d6 : decide ((6 : Int) < (s.2.2.length : Int)) = false := by rw [decide_eq_false_iff_not]; omega
      have d6' : decide (6 < s.2.2.length) = false := by rw [decide_eq_false_iff_not]; omega
      have hm' : mayS s = vb := by rw [HMAY.out, decide_eq_true h6]; simp
      have HM' := hid hm'
      clear hm' HMAY
      go_wp2_with fail
      refine (HBS.out _ HB2.out).mono ?_
      rintro e w3 ⟨r, rfl, hr3, hb3⟩
      have HR3 := hid (zaA rfl hr3 HBIN.out)
      have HB3 := hid (HB2.out.trans (hb3.mono HB2.out.size))
      have z3 := HB3.out.size
      clear hb3 hr3 HBIN HBS k0 k1 k2
      go_wp2
      go_loopw [9] (fun i wr => VwRel s w3 i wr) (fun i _ => s.2.2.length - (intOf i).toNat)
      case atStart => exact ⟨0, by omega, rfl, fun j hj => by omega, Below.refl _ _⟩
      case round =>
       obtain ⟨k, hk, rfl, hall, hb⟩ := hrel
       have hs4 := hb.size
       have HB4 := hid (HB3.out.trans (hb.mono z3)); have HR4 := hid (zm.on HR3.out hb); have HALL := hid hall; have HB34 := hid hb
       clear hall hb
       have k0 := zc HB4.out (by omega) Y0.out
       have k1 := zc HB4.out (by omega) Y1.out
       have k2 := zc HB4.out (by omega) Y2.out
       by_cases hlt : k < s.2.2.length
       ·obtain ⟨b, off, Av, cv, rfl, hbl, q0, hr⟩ := zmZ H3.out hlt
        have q0' := zc HB4.out hbl q0
        have hgd : s.2.2.getD k [] = s.2.2[k] := by rw [List.getD_eq_getElem?_getD, List.getElem?_eq_getElem hlt]; rfl
        have hno := fun h => HVN.out k hlt h
        have hyes : zbB s k = true -> ∀ j, j < k + 1 -> zbB s j = true := fun h j hj => by
         by_cases e : j = k
         ·subst e; exact h
         ·exact HALL.out j (by omega)
        have hvk : zbB s k = (zap s s.2.2[k] && !(decide (s.2.2[k] = zV s)) && !((s.2.2.take k).any fun x => decide (s.2.2[k] = x))) := by unfold zbB; rw [hgd]
        rw [hvk] at hno hyes
        have hany1 : ∀ j (h : j < s.2.2.length), j < k -> s.2.2[j] = s.2.2[k] -> ((s.2.2.take k).any fun x => decide (s.2.2[k] = x)) = true := fun j h hj he => by
         rw [List.any_eq_true]
         refine ⟨s.2.2[j], ?_, by rw [he]; simp⟩
         rw [List.mem_iff_getElem]
         exact ⟨j, by rw [List.length_take]; omega, by rw [List.getElem_take]⟩
        have hany0 : (∀ j (h : j < s.2.2.length), j < k -> s.2.2[j] ≠ s.2.2[k]) -> ((s.2.2.take k).any fun x => decide (s.2.2[k] = x)) = false := fun h => by
         rw [List.any_eq_false]
         intro x hx
         obtain ⟨j, hj, rfl⟩ := List.mem_iff_getElem.1 hx
         rw [List.length_take] at hj
         rw [List.getElem_take]
         have := h j (by omega) (by omega)
         simp; exact fun e => this e.symm
        generalize s.2.2[k] = vk at *
        have HVK := hid hr
        have HQ0 := hid q0
        have HCV := hid (fun W (hb : Below W0.heap.size W0 W) => HCR.out (.slice Av vk.length cv) vk W hb (zm.on HVK.out hb))
        have HSB := hid (fun W (hb : Below w3.heap.size w3 W) => zeD (.slice Av vk.length cv) r vk (zV s) W (zm.on HVK.out (HB3.out.trans (hb.mono z3))) (zm.on HR3.out hb))
        generalize zap s vk = cA at *
        generalize decide (vk = zV s) = cB at *
        generalize ((s.2.2.take k).any fun x => decide (vk = x)) = cC at *
        have HNO := hid hno; have HYES := hid hyes; have HA1 := hid hany1; have HA0 := hid hany0
        have HRV := hid (fun (AJ : Option Addr) (cJ : Nat) (vj : List Int) W (hb : Below W0.heap.size W0 W) (hj : zC W0 W0.heap.size [.slice AJ vj.length cJ] vj) => zeD (.slice AJ vj.length cJ) (.slice Av vk.length cv) vj vk W (zm.on hj hb) (zm.on HVK.out hb))
        generalize vk.length = n at *
        have hwl : w.heap.size < wr.heap.size := by omega
        have hbl2 : b < wr.heap.size := by omega
        have t7 : k < s.2.2.length := hlt
        clear hno hyes hvk hgd hany1 hany0 hr q0
        go_wp2
        go_region_held3 (fun w' => w'.cell? ⟨w.heap.size, 0, none⟩ = some (.slice A1 s.1.length c1) /\ w'.cell? ⟨w.heap.size, 1, none⟩ = some (.slice A2 s.2.1.length c2) /\ w'.cell? ⟨w.heap.size, 2, none⟩ = some (.slice (some ⟨b, off, none⟩) s.2.2.length c3) /\ w'.cell? ⟨b, off + k, none⟩ = some (.slice Av n cv)) (go_keep)
         (first
          | (go_at_call 37; refine (HCV.out _ HB4.out.drew).mono ?_; rintro e w6 ⟨rfl, hb6⟩; have B6 := hid ((Below.refl wr.heap.size wr).drew.trans hb6); have m0 := zc B6.out hwl k0; have m1 := zc B6.out hwl k1; have m2 := zc B6.out hwl k2; have m3 := zc B6.out hbl2 q0'; clear hb6))
        have HB6 := hid (HB34.out.trans (B6.out.mono hs4))
        go_wp2_with fail
        refine (HSB.out _ HB6.out).mono ?_
        rintro e w7 ⟨rfl, hq7⟩
        have HB7 := hid (HB6.out.trans (hq7.below _ |>.mono HB6.out.size))
        have B7 := hid (HB3.out.trans (HB7.out.mono z3))
        clear hq7 m0 m1 m2 m3
        cases cA
        ·have HN := hid (HNO.out rfl)
         go_wp2
         go_ret
         exact ⟨by rw [HM'.out, HN.out]; rfl, G0.out.trans (B7.out.mono (by omega))⟩
        ·cases cB
         ·obtain ⟨wo, rfl⟩ : ∃ wo : World, wo = wr := ⟨_, rfl⟩
          go_wp2
          go_loopw [12] (fun i wr => VwIn s vk k w3 i wr) (fun i _ => k - (intOf i).toNat)
          case atStart => exact ⟨0, by omega, rfl, fun j h h' => by omega, HB7.out⟩
          case round =>
           obtain ⟨j, hj, rfl, hne, hb⟩ := hrel
           have HNE := hid hne; have HB8 := hid hb
           have B8 := hid (HB3.out.trans (hb.mono z3))
           clear hne hb
           have k2 := zc B8.out (by omega) Y2.out
           by_cases hjk : j < k
           ·have hjl : j < s.2.2.length := by omega
            obtain ⟨b', off', AJ, cJ, e', hbj, hcj, hrj⟩ := zmZ H3.out hjl
            injection e' with e'
            injection e' with e1 e2 _
            subst e1; subst e2
            have g1 := zc B8.out hbl HQ0.out
            have g2 := zc B8.out hbl hcj
            have hex : s.2.2[j] = vk -> cC = true := fun h => HA1.out j hjl hjk h
            have hst : s.2.2[j] ≠ vk -> ∀ m (h : m < s.2.2.length), m < j + 1 -> s.2.2[m] ≠ vk := fun h m hm hmj => by
                          by_cases e : m = j
                          ·subst e; exact h
                          ·exact HNE.out m hm (by omega)
            generalize s.2.2[j] = vj at *
            have HSJ := hid (fun W (hqq : Qu wr W) => HRV.out AJ cJ vj W (B8.out.trans (hqq.below _ |>.mono B8.out.size)) hrj)
            obtain ⟨bq, hbq⟩ : ∃ bq, decide (vj = vk) = bq := ⟨_, rfl⟩
            rw [hbq] at HSJ
            have HBQ := hid hbq; have HEX := hid hex; have HST := hid hst
            generalize vj.length = nj at *
            have t8 : j < s.2.2.length := hjl
            clear hex hst hbq hrj hcj
            go_wp2
            go_quiet (first | (go_at_call 11; exact Calls.quiet_of (HSJ.out _ ⟨_, rfl⟩)))
            cases bq
            ·have HST' := hid (HST.out (of_decide_eq_false HBQ.out))
             go_wp2
             go_roundw
             case rel => exact ⟨j + 1, by omega, by go_num, HST'.out, zn HB8.out _⟩
             case measure => simp [intOf]; omega
            ·have HN := hid (HNO.out (by rw [HEX.out (of_decide_eq_true HBQ.out)]; rfl))
             go_wp2
             go_ret
             exact ⟨by rw [HM'.out, HN.out]; rfl, G0.out.trans ((zn B8.out _).mono (by omega))⟩
           ·have hc0 : cC = false := HA0.out (fun m h hm => HNE.out m h (by omega))
            subst hc0
            have HY := hid (HYES.out (by first | rfl | trivial))
            go_wp2
            go_roundw
            case rel => exact ⟨k + 1, by omega, by go_num, HY.out, HB8.out⟩
            case measure => simp [intOf]; omega
         ·have HN := hid (HNO.out rfl)
          go_wp2
          go_ret
          exact ⟨by rw [HM'.out, HN.out]; rfl, G0.out.trans (B7.out.mono (by omega))⟩
       ·have HV := hid (HVY.out (fun j hj => HALL.out j (by omega)))
        go_wp2
        go_ret
        exact ⟨by rw [HM'.out, HV.out]; rfl, G0.out.trans (HB4.out.mono (by omega))⟩
     ·have d6 : decide ((6 : Int) < (s.2.2.length : Int)) = true := by rw [decide_eq_true_eq]; omega
      have d6' : decide (6 < s.2.2.length) = true := by rw [decide_eq_true_eq]; omega
      have HN := hid (show mayS s = false by rw [HMAY.out, decide_eq_false h6]; rfl)
      go_wp2
      go_ret
      exact ⟨by rw [HN.out]; rfl, G0.out.trans (HB2.out.mono (by omega))⟩
end Go.Proofs.YtgoapnkdcfcjgaaGreat
