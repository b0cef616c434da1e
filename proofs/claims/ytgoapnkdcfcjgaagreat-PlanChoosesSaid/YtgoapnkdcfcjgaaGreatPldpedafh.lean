/- 4 texts of this claim, in build order. -/
import Derived.Test.YtgoapnkdcfcjgaaGreatPfaigadad
import Derived.Test.YtgoapnkdcfcjgaaGreatPplomcpim
import Derived.Maps.OwnSet
import Derived.StringKeys
import Derived.Test.YtgoapnkdcfcjgaaGreatPflgpgfja
import Derived.Test.YtgoapnkdcfcjgaaGreatPgedadcce
set_option linter.unusedVariables false
set_option linter.unusedSimpArgs false
namespace Go.Proofs.YtgoapnkdcfcjgaaGreat
open Go.ChangeShapes Go.WideShapes Go.ChangeAt Go.RowKit
set_option maxRecDepth 100000 in
set_option maxHeartbeats 800000 in
theorem zp2 (F : FuncId) (caps : Array Value) (p : Int -> Bool) (v : Value) (l : List Int) (w : World) (hv : zj 1 zcG w w.heap.size [v] l) (hg : Good (zj 1 zcG)) (hE : zbg F) (hF : zhJ zcG F caps p l w) :
  Calls Tryz.prog 119 #[v, .func (Fn.func F) #[] caps] w (IdxG p l w) := by
 obtain ⟨A, c, e0, hc1, hc2, -⟩ := id hv
 obtain rfl : v = .slice A l.length c := by simpa using e0
 unfold maxLen at hc2
 have HV := hid hv; have HF := hid hF
 clear hv hF e0
 go_enter Tryz.func119, Tryz.ntmps119
 go_wp2
 go_loopw [8] (fun i wr => ze9 p l w i wr) (fun i _ => l.length - (intOf i).toNat)
 case atStart => exact ⟨0, by omega, rfl, by simp, Below.refl _ _⟩
 case round =>
  obtain ⟨k, hk, rfl, hall, hb⟩ := hrel
  have HALL := hid hall; have HB := hid hb
  have hs := hb.size
  clear hall hb
  by_cases hlt : k < l.length
  ·obtain ⟨b, off, rfl, hbl, es, hel, hcell, hr⟩ := (hg.stays HV.out HB.out).at_ hlt
   obtain ⟨u, rfl⟩ := List.length_eq_one_iff.1 hel
   have hcell := hcell 0 u rfl
   rw [Nat.mul_one, Nat.add_zero] at hcell
   have hin : l[k] ∈ l := List.getElem_mem hlt
   have e1 := zbm (p := p) hlt
   have e2 := zcF (p := p) hlt
   have hr := (zcW).more hr hs
   generalize l[k] = x at *
   have HC := hid (HF.out x u wr hin hr HB.out)
   have E1 := hid e1; have E2 := hid e2
   clear e1 e2 hr hel hin
   go_wp2_with fail
   rw [hE]
   refine HC.out.mono ?_
   rintro e w1 ⟨rfl, hb1⟩
   have HB1 := hid (HB.out.trans (hb1.mono hs)); clear hb1
   cases hp : p x with
   | false =>
     have HP := hid hp; clear hp
     go_wp2
     go_roundw
     case rel => exact ⟨k + 1, by omega, by go_num, by rw [E1.out, HALL.out, HP.out]; rfl, HB1.out⟩
     case measure => simp [intOf]; omega
   | true =>
     have HP := hid (E2.out hp); clear hp
     go_wp2
     go_ret
     exact ⟨(k : Int), rfl, by rw [HP.out]; simp, HB1.out⟩
  ·have hall : l.any p = false := by
    have := HALL.out
    rwa [List.take_of_length_le (by omega)] at this
   have HP := hid hall; clear hall
   go_wp2
   go_ret
   exact ⟨-1, rfl, by rw [HP.out]; decide, HB.out⟩
theorem zgM (F : FuncId) (caps : Array Value) (p : Int -> Bool) (v : Value) (l : List Int) (w : World) (hv : zj 1 zcG w w.heap.size [v] l) (hg : Good (zj 1 zcG)) (hE : zbg F) (hF : zhJ zcG F caps p l w) :
  Calls Tryz.prog 80 #[v, .func (Fn.func F) #[] caps] w (zY (.bool (l.any p)) w) := by
 have HI := hid (zp2 F caps p v l w hv hg hE hF)
 clear hv hF
 go_enter Tryz.func80, Tryz.ntmps80
 go_wp2_with fail
 refine HI.out.mono ?_
 rintro e w1 ⟨i, rfl, hi, hb⟩
 go_wp2
 go_ret
 exact ⟨rfl, hb⟩
set_option maxRecDepth 100000 in
set_option maxHeartbeats 800000 in
theorem zp4 (F : FuncId) (caps : Array Value) (p : ByteArray -> Bool) (v : Value) (l : List ByteArray) (w : World) (hv : zj 1 zc7 w w.heap.size [v] l) (hg : Good (zj 1 zc7)) (hE : zbg F) (hF : zhJ zc7 F caps p l w) :
  Calls Tryz.prog 121 #[v, .func (Fn.func F) #[] caps] w (IdxG p l w) := by
 obtain ⟨A, c, e0, hc1, hc2, -⟩ := id hv
 obtain rfl : v = .slice A l.length c := by simpa using e0
 unfold maxLen at hc2
 have HV := hid hv; have HF := hid hF
 clear hv hF e0
 go_enter Tryz.func121, Tryz.ntmps121
 go_wp2
 go_loopw [8] (fun i wr => ze9 p l w i wr) (fun i _ => l.length - (intOf i).toNat)
 case atStart => exact ⟨0, by omega, rfl, by simp, Below.refl _ _⟩
 case round =>
  obtain ⟨k, hk, rfl, hall, hb⟩ := hrel
  have HALL := hid hall; have HB := hid hb
  have hs := hb.size
  clear hall hb
  by_cases hlt : k < l.length
  ·obtain ⟨b, off, rfl, hbl, es, hel, hcell, hr⟩ := (hg.stays HV.out HB.out).at_ hlt
   obtain ⟨u, rfl⟩ := List.length_eq_one_iff.1 hel
   have hcell := hcell 0 u rfl
   rw [Nat.mul_one, Nat.add_zero] at hcell
   have hin : l[k] ∈ l := List.getElem_mem hlt
   have e1 := zbm (p := p) hlt
   have e2 := zcF (p := p) hlt
   have hr := (zdO).more hr hs
   generalize l[k] = x at *
   have HC := hid (HF.out x u wr hin hr HB.out)
   have E1 := hid e1; have E2 := hid e2
   clear e1 e2 hr hel hin
   go_wp2_with fail
   rw [hE]
   refine HC.out.mono ?_
   rintro e w1 ⟨rfl, hb1⟩
   have HB1 := hid (HB.out.trans (hb1.mono hs)); clear hb1
   cases hp : p x with
   | false =>
     have HP := hid hp; clear hp
     go_wp2
     go_roundw
     case rel => exact ⟨k + 1, by omega, by go_num, by rw [E1.out, HALL.out, HP.out]; rfl, HB1.out⟩
     case measure => simp [intOf]; omega
   | true =>
     have HP := hid (E2.out hp); clear hp
     go_wp2
     go_ret
     exact ⟨(k : Int), rfl, by rw [HP.out]; simp, HB1.out⟩
  ·have hall : l.any p = false := by
    have := HALL.out
    rwa [List.take_of_length_le (by omega)] at this
   have HP := hid hall; clear hall
   go_wp2
   go_ret
   exact ⟨-1, rfl, by rw [HP.out]; decide, HB.out⟩
theorem zoL (F : FuncId) (caps : Array Value) (p : ByteArray -> Bool) (v : Value) (l : List ByteArray) (w : World) (hv : zj 1 zc7 w w.heap.size [v] l) (hg : Good (zj 1 zc7)) (hE : zbg F) (hF : zhJ zc7 F caps p l w) :
  Calls Tryz.prog 89 #[v, .func (Fn.func F) #[] caps] w (zY (.bool (l.any p)) w) := by
 have HI := hid (zp4 F caps p v l w hv hg hE hF)
 clear hv hF
 go_enter Tryz.func89, Tryz.ntmps89
 go_wp2_with fail
 refine HI.out.mono ?_
 rintro e w1 ⟨i, rfl, hi, hb⟩
 go_wp2
 go_ret
 exact ⟨rfl, hb⟩
set_option maxRecDepth 100000 in
set_option maxHeartbeats 800000 in
theorem zpg (F : FuncId) (caps : Array Value) (p : (List ByteArray) -> Bool) (v : Value) (l : List (List ByteArray)) (w : World) (hv : zj 1 (zj 1 zc7) w w.heap.size [v] l) (hg : Good (zj 1 (zj 1 zc7))) (hE : zbg F) (hF : zhJ (zj 1 zc7) F caps p l w) :
  Calls Tryz.prog 86 #[v, .func (Fn.func F) #[] caps] w (IdxG p l w) := by
 obtain ⟨A, c, e0, hc1, hc2, -⟩ := id hv
 obtain rfl : v = .slice A l.length c := by simpa using e0
 unfold maxLen at hc2
 have HV := hid hv; have HF := hid hF
 clear hv hF e0
 go_enter Tryz.func86, Tryz.ntmps86
 go_wp2
 go_loopw [8] (fun i wr => ze9 p l w i wr) (fun i _ => l.length - (intOf i).toNat)
 case atStart => exact ⟨0, by omega, rfl, by simp, Below.refl _ _⟩
 case round =>
  obtain ⟨k, hk, rfl, hall, hb⟩ := hrel
  have HALL := hid hall; have HB := hid hb
  have hs := hb.size
  clear hall hb
  by_cases hlt : k < l.length
  ·obtain ⟨b, off, rfl, hbl, es, hel, hcell, hr⟩ := (hg.stays HV.out HB.out).at_ hlt
   obtain ⟨u, rfl⟩ := List.length_eq_one_iff.1 hel
   have hcell := hcell 0 u rfl
   rw [Nat.mul_one, Nat.add_zero] at hcell
   have hin : l[k] ∈ l := List.getElem_mem hlt
   have e1 := zbm (p := p) hlt
   have e2 := zcF (p := p) hlt
   have hr := (zas zdO).more hr hs
   generalize l[k] = x at *
   have HC := hid (HF.out x u wr hin hr HB.out)
   have E1 := hid e1; have E2 := hid e2
   clear e1 e2 hr hel hin
   go_wp2_with fail
   rw [hE]
   refine HC.out.mono ?_
   rintro e w1 ⟨rfl, hb1⟩
   have HB1 := hid (HB.out.trans (hb1.mono hs)); clear hb1
   cases hp : p x with
   | false =>
     have HP := hid hp; clear hp
     go_wp2
     go_roundw
     case rel => exact ⟨k + 1, by omega, by go_num, by rw [E1.out, HALL.out, HP.out]; rfl, HB1.out⟩
     case measure => simp [intOf]; omega
   | true =>
     have HP := hid (E2.out hp); clear hp
     go_wp2
     go_ret
     exact ⟨(k : Int), rfl, by rw [HP.out]; simp, HB1.out⟩
  ·have hall : l.any p = false := by
    have := HALL.out
    rwa [List.take_of_length_le (by omega)] at this
   have HP := hid hall; clear hall
   go_wp2
   go_ret
   exact ⟨-1, rfl, by rw [HP.out]; decide, HB.out⟩
theorem zhe (F : FuncId) (caps : Array Value) (p : (List ByteArray) -> Bool) (v : Value) (l : List (List ByteArray)) (w : World) (hv : zj 1 (zj 1 zc7) w w.heap.size [v] l) (hg : Good (zj 1 (zj 1 zc7))) (hE : zbg F) (hF : zhJ (zj 1 zc7) F caps p l w) :
  Calls Tryz.prog 54 #[v, .func (Fn.func F) #[] caps] w (zY (.bool (l.any p)) w) := by
 have HI := hid (zpg F caps p v l w hv hg hE hF)
 clear hv hF
 go_enter Tryz.func54, Tryz.ntmps54
 go_wp2_with fail
 refine HI.out.mono ?_
 rintro e w1 ⟨i, rfl, hi, hb⟩
 go_wp2
 go_ret
 exact ⟨rfl, hb⟩
end Go.Proofs.YtgoapnkdcfcjgaaGreat
namespace Go.Proofs.YtgoapnkdcfcjgaaGreat
open Go.ChangeShapes Go.WideShapes Go.ChangeAt Go.RowKit Go.Maps
theorem zjH (s : ByteArray) (w : World) (hs : s.size <= 9223372036854775807) :
  Calls Tryz.prog 87 #[.string s] w (zY (.bool (!zaq s)) w) := by
 have hn := fun W => zkK s W hs
 have HN := hid hn; clear hn
 go_enter Tryz.func87, Tryz.ntmps87
 go_wp2_with fail
 refine (HN.out _).mono ?_
 rintro e w1 ⟨rfl, hb⟩
 go_wp2
 go_ret
 exact ⟨rfl, hb⟩
theorem zie : zbg 87 := za8 Tryz.func87 (by kernel_rfl) rfl
theorem zjK {l : List ByteArray} : (!(l.any fun s => !zaq s)) = l.all zaq := by
 induction l with
 | nil => rfl
 | cons x l ih => simp only [List.any_cons, List.all_cons, Bool.not_or, ih, Bool.not_not]
theorem zhX (v : Value) (l : List ByteArray) (w : World) (hv : zO w w.heap.size [v] l) :
  Calls Tryz.prog 89 #[v, .func (Fn.func 87) #[] #[]] w (zY (.bool (l.any fun s => !zaq s)) w) :=
 zoL 87 #[] (fun s => !zaq s) v l w hv zQ zie (fun x u W hx hr hb => by
  obtain ⟨e, hs⟩ := hr
  simp only [List.cons.injEq, and_true] at e
  subst e
  exact zjH x W (by unfold maxLen at hs; omega))
def zmF (l : List ByteArray) (w : World) (i : Value) (wr : World) : Prop :=
 ∃ (k n : Nat) (D : DataW Unit), k <= l.length /\ i = .int .i64 k /\ wr.ownsMap Tryz.prog 9 unitElem w.heap.size n D /\ n <= k /\ Maps.size D <= k /\ (Maps.size D = k ↔ (l.take k).Nodup) /\
  (∀ s : ByteArray, s.size <= maxLen -> (Maps.has D (.string s.data.toList) = true ↔ s ∈ l.take k)) /\ Below w.heap.size w wr
set_option maxRecDepth 100000 in
set_option maxHeartbeats 800000 in
theorem zmK (v : Value) (l : List ByteArray) (w : World) (hv : zO w w.heap.size [v] l) (hl : l.length <= 1000) :
  Calls Tryz.prog 90 #[v] w (zY (.bool (decide l.Nodup)) w) := by
 obtain ⟨A, c, e, hc1, hc2⟩ := hv.open_
 simp only [List.cons.injEq, and_true] at e
 subst e
 have hmm := @run_makeMap Tryz.prog
 have K : Keyed Tryz.prog 9 := string_keyed Tryz.underlying9
 have HV := hid hv; clear hv
 go_enter Tryz.func90, Tryz.ntmps90
 go_wp2
 go_loopw [9] (fun i wr => zmF l w i wr) (fun i _ => l.length - (intOf i).toNat)
 case atStart => exact ⟨0, 0, .map [], by omega, rfl, World.ownsMap_made _ _ _ _, by omega, by simp [Maps.size], by simp [Maps.size], fun s hs => by simp [Maps.has], bl1 w _⟩
 case round =>
  obtain ⟨k, n, D, hk, rfl, how, hn, hsz, hnd, hhas, hb⟩ := hrel
  have HO := hid how; have HB := hid hb; have HH := hid hhas; have HND := hid hnd
  have hs := hb.size
  clear how hb hhas hnd
  by_cases hlt : k < l.length
  ·obtain ⟨b, off, rfl, hbl, es, hel, hcell, hr⟩ := (zQ.stays HV.out HB.out).at_ hlt
   obtain ⟨rfl, hsx⟩ := hr
   have hcell := hcell 0 _ rfl
   rw [Nat.mul_one, Nat.add_zero] at hcell
   have e1 : l.take (k + 1) = l.take k ++ [l[k]] := List.take_succ_eq_append_getElem hlt
   generalize l[k] = x at *
   have hkey := Go.WideMaps.keyOf_string_mk (P := Tryz.prog) (k := 9) Tryz.underlying9 hsx
   obtain ⟨w2, hrun, how2, hturn⟩ := HO.out.store K Tryz.underlying175 (by unfold maxLen; omega) hkey (unitElem_mk)
   have hxh := HH.out x hsx
   have hsp := size_put (k := .string x.data.toList) (HO.out.tidy K) (.agg [])
   have hnext : zmF l w (.int .i64 ((k : Int) + 1)) w2 := by
    refine ⟨k + 1, n + 1, D.put (.string x.data.toList) (.agg []), by omega, by go_num, how2, by omega, ?_, ?_, fun s hs => ?_, ?_⟩
    ·rw [hsp]; split <;> omega
    ·rw [e1, zge, <- HND.out]
     by_cases hx : x ∈ l.take k
     ·rw [hxh.2 hx] at hsp
      simp only [if_true] at hsp
      rw [hsp]
      exact ⟨fun h => by omega, fun h => absurd hx h.2⟩
     ·rw [show Maps.has D (.string x.data.toList) = false by rw [Bool.eq_false_iff]; exact fun h => hx (hxh.1 h)] at hsp
      simp only [Bool.false_eq_true, if_false] at hsp
      rw [hsp]
      exact ⟨fun h => ⟨by omega, hx⟩, fun h => by omega⟩
    ·by_cases he : s = x
     ·subst he
      rw [has_put_same HO.out.isMap (K.key hkey), e1]
      simp
     ·rw [has_put_other (fun h => he (by
           have := Lit.string.inj h
           exact ByteArray.ext (Array.toList_inj.1 this))), HH.out s hs, e1, List.mem_append]
      exact ⟨.inl, fun h => h.elim id (fun h => absurd (by simpa using h) he)⟩
    ·have hm := HO.out.lt
     exact HB.out.grown hturn.grown hs (fun j hj => by injection hj with hj; omega)
   have HN := hid hnext
   clear hnext hsp hxh e1 how2 hturn hkey
   go_wp2
   go_roundw
   case rel => exact HN.out
   case measure => simp [intOf]; omega
  ·obtain rfl : k = l.length := by omega
   have hlen := fun ty => HO.out.len Tryz.underlying175 ty
   have hfin : ((Maps.size D : Int) == (l.length : Int)) = decide l.Nodup := by
    have := HND.out
    rw [List.take_of_length_le (Nat.le_refl _)] at this
    rw [Bool.eq_iff_iff, decide_eq_true_eq, <- this]
    simp
    omega
   generalize Maps.size D = q at *
   have HFIN := hid hfin
   clear hfin HND HH HO
   go_wp2
   go_ret
   exact ⟨by rw [<- HFIN.out]; rfl, HB.out⟩
end Go.Proofs.YtgoapnkdcfcjgaaGreat
namespace Go.Proofs.YtgoapnkdcfcjgaaGreat
open Go.ChangeShapes Go.WideShapes Go.ChangeAt Go.RowKit
theorem zfm (v : Value) (l : List ByteArray) (most : Nat) (w : World) (hv : zO w w.heap.size [v] l) (hm : most <= 1000) :
  Calls Tryz.prog 58 #[v, .int .i64 (most : Int)] w (zY (.bool (zax l most)) w) := by
 have hv0 := hv
 obtain ⟨A, c, e, hc1, hc2⟩ := hv.open_
 simp only [List.cons.injEq, and_true] at e
 subst e
 have HH := hid (zhX _ l w hv0)
 have HAP := hid (fun W (hb : Below w.heap.size w W) (h : l.length <= 1000) => zmK _ l W (zQ.on hv0 hb) h)
 have hres : zax l most = (decide (1 <= l.length) && decide (l.length <= most) && !(l.any fun s => !zaq s) && decide l.Nodup) := by
  unfold zax; rw [zjK]
 rw [hres]
 clear hv hv0 hres
 generalize (l.any fun s => !zaq s) = b1 at *
 generalize decide l.Nodup = b2 at *
 by_cases h1 : 1 <= l.length
 ·have d1 : decide ((1 : Int) <= (l.length : Int)) = true := by rw [decide_eq_true_eq]; omega
  by_cases h2 : l.length <= most
  ·have d2 : decide ((l.length : Int) <= (most : Int)) = true := by rw [decide_eq_true_eq]; omega
   have hr : (decide (1 <= l.length) && decide (l.length <= most) && !b1 && b2) = (!b1 && b2) := by simp [h1, h2]
   rw [hr]
   clear hr
   go_enter Tryz.func58, Tryz.ntmps58
   go_wp2_with fail
   refine HH.out.mono ?_
   rintro e w1 ⟨rfl, hb⟩
   have HB := hid hb; clear hb
   cases b1
   ·go_wp2_with fail
    refine (HAP.out _ HB.out (by omega)).mono ?_
    rintro e w2 ⟨rfl, hb2⟩
    go_wp2
    go_ret
    exact ⟨rfl, HB.out.trans (hb2.mono HB.out.size)⟩
   ·go_wp2
    go_ret
    exact ⟨rfl, HB.out⟩
  ·have d2 : decide ((l.length : Int) <= (most : Int)) = false := by rw [decide_eq_false_iff_not]; omega
   have hr : (decide (1 <= l.length) && decide (l.length <= most) && !b1 && b2) = false := by simp [h2]
   rw [hr]
   clear hr
   go_enter Tryz.func58, Tryz.ntmps58
   go_wp2
   go_ret
   exact ⟨rfl, Below.refl _ _⟩
 ·have d1 : decide ((1 : Int) <= (l.length : Int)) = false := by rw [decide_eq_false_iff_not]; omega
  have hr : (decide (1 <= l.length) && decide (l.length <= most) && !b1 && b2) = false := by simp [h1]
  rw [hr]
  clear hr
  go_enter Tryz.func58, Tryz.ntmps58
  go_wp2
  go_ret
  exact ⟨rfl, Below.refl _ _⟩
def zg5 (s : ze) (w : World) (out i : Value) (wr : World) : Prop := ∃ k : Nat, k <= s.1.length /\ i = .int .i64 k /\ wr.ownsRow w.heap.size 3 1 out k (zk ((zV s).take k)) /\ Below w.heap.size w wr
set_option maxRecDepth 100000 in
set_option maxHeartbeats 800000 in
theorem zg1 (v : Value) (s : ze) (w : World) (hv : zD w w.heap.size v s) (hl : s.1.length <= 1000) :
  Calls Tryz.prog 35 #[v] w (zfL (zV s) w) := by
 obtain ⟨i0, hi, hz0, hz1, hz2⟩ := info_parts zaE
 obtain ⟨A1, c1, A2, c2, A3, c3, rfl, h1, h2, h3⟩ := hv
 obtain ⟨-, -, e, hc1, hc2⟩ := h1.open_
 have H1 := hid h1
 have hbl : (zV s).length = s.1.length := by simp [zV]
 clear h1 h2 h3
 obtain ⟨W0, hW0⟩ : ∃ W, W = w.alloc (.cells #[.slice A1 s.1.length c1, .slice A2 s.2.1.length c2, .slice A3 s.2.2.length c3] 26) := ⟨_, rfl⟩
 have g0 := hid (show Below w.heap.size w W0 by rw [hW0]; exact bl1 _ _)
 have z0 : W0.heap.size = w.heap.size + 1 := by rw [hW0]; simp
 have HW0 := hid hW0
 clear hW0
 go_enter Tryz.func35, Tryz.ntmps35
 go_wp2
 rw [<- HW0.out]
 go_loopw [3, 9] (fun out i wr => zg5 s w out i wr) (fun _ i _ => s.1.length - (intOf i).toNat)
 case atStart => exact ⟨0, by omega, rfl, World.ownsRow_nil _ _ _ _, g0.out⟩
 case round =>
  obtain ⟨k, hk, rfl, hown, hb⟩ := hrel
  have hs := hb.size
  have HB := hid hb
  by_cases hlt : k < s.1.length
  ·obtain ⟨b, off, rfl, hbl, es, hel, hcell, hr⟩ := (zam.stays H1.out HB.out).at_ hlt
   have e1 : (zV s).take (k + 1) = (zV s).take k ++ [((s.1[k].2.length : Nat) : Int)] := by
    rw [List.take_succ_eq_append_getElem (by simp [zV]; omega)]; simp [zV]
   generalize s.1[k] = d at *
   obtain ⟨nm, ls⟩ := d
   obtain ⟨hl1, ⟨ex, -⟩, hlv⟩ := hr
   obtain ⟨AL, cL, eL, hL1, hL2⟩ := hlv.open_
   obtain rfl : es = [.string nm, .slice AL ls.length cL] := by
    rw [<- List.take_append_drop 1 es, ex, eL]; rfl
   have q0 : wr.cell? ⟨b, off + k * 2, none⟩ = some (.string nm) := hcell 0 _ rfl
   have q1 : wr.cell? ⟨b, off + k * 2 + 1, none⟩ = some (.slice AL ls.length cL) := hcell 1 _ rfl
   simp only at e1
   clear hcell hlv hb ex eL hl1 hel
   have E1 := hid e1; have HOW := hid hown
   generalize ls.length = n at *
   clear e1 hown
   go_wp2_with (at_builtin; refine zr ?_)
   refine zar ?_
   refine zav (.tmp 13) (.tmp 17) 27 27 rfl rfl w.heap.size 3 i0 (.int .i64 0) 1 8 Tryz.underlying27 hi hz0 hz1 hz2 rfl (by decide) _ k (zk ((zV s).take k)) rfl ((HOW.out.alloc _).alloc _) (.slice (some ⟨wr.heap.size + 1, 0, none⟩) 1 1) 1 (zk [(n : Int)]) rfl (Src.ofSlice _ Tryz.underlying27 _ 1 1 _ rfl (zG _ _ _ (by simp)) (by simp [zk]; rfl)) (by first | omega | (simp only [maxLen]; omega)) (by first | omega | (simp only [maxLen]; omega)) (by simp; omega) ?_
   intro v' w' hown' hg' hb'
   have hr : zg5 s w v' (.int .i64 ((k : Int) + 1)) w' := ⟨k + 1, by omega, by go_num, by rw [E1.out, za0]; exact hown', (((HB.out.alloc hs _).alloc (by simp; omega) _).trans hb')⟩
   have HR := hid hr
   clear hr hown' hg' hb'
   go_wp2
   go_roundw
   case rel => exact HR.out
   case measure => simp [intOf]; omega
  ·obtain rfl : k = s.1.length := by omega
   have hfin : wr.ownsRow w.heap.size 3 1 u3 (zV s).length (zk (zV s)) := by
    rw [hbl]; rwa [List.take_of_length_le (by omega)] at hown
   have HF := hid hfin
   clear hown hfin
   go_wp2
   go_ret
   exact ⟨_, rfl, HF.out, HB.out⟩
def zqf (v x : List Int) (w : World) (i : Value) (wr : World) : Prop := ∃ k : Nat, k <= v.length /\ i = .int .i64 k /\ (∀ j, j < k -> x.getD j 0 <= v.getD j 0) /\ Qu w wr
theorem zel {v x : List Int} (h : v.length = x.length) : zak v x = true ↔ ∀ j, j < v.length -> x.getD j 0 <= v.getD j 0 := by
 unfold zak
 rw [decide_eq_true h, Bool.true_and, List.all_eq_true]
 constructor
 ·intro h' j hj
  have := h' (decide (x.getD j 0 <= v.getD j 0)) (by
   rw [List.mem_iff_getElem]
   refine ⟨j, by rw [List.length_zipWith]; omega, ?_⟩
   rw [List.getElem_zipWith]
   simp [List.getD_eq_getElem?_getD, List.getElem?_eq_getElem hj, List.getElem?_eq_getElem (show j < x.length by omega)])
  simpa using this
 ·intro h' b hb
  obtain ⟨j, hj, rfl⟩ := List.mem_iff_getElem.1 hb
  rw [List.length_zipWith] at hj
  rw [List.getElem_zipWith]
  have := h' j (by omega)
  rw [List.getD_eq_getElem?_getD, List.getD_eq_getElem?_getD, List.getElem?_eq_getElem (show j < v.length by omega), List.getElem?_eq_getElem (show j < x.length by omega)] at this
  simpa using this
set_option maxRecDepth 100000 in
set_option maxHeartbeats 800000 in
theorem zgl (v x : Value) (l r : List Int) (w : World) (hv : zC w w.heap.size [v] l) (hx : zC w w.heap.size [x] r) :
  Calls Tryz.prog 19 #[v, x] w (za5 (.bool (zak l r)) w) := by
 obtain ⟨A1, c1, e, hc1, hm1⟩ := hv.open_
 simp only [List.cons.injEq, and_true] at e
 subst e
 obtain ⟨A2, c2, e, hc2, hm2⟩ := hx.open_
 simp only [List.cons.injEq, and_true] at e
 subst e
 have S1 := hid hv; have S2 := hid hx; clear hv hx
 go_enter Tryz.func19, Tryz.ntmps19
 by_cases hl : l.length = r.length
 ·have HL := hid hl
  have hci := zel hl
  have HCI := hid hci
  have u0 : ((l.length : Int) != (r.length : Int)) = false := by simp [hl]
  clear hl hci
  go_wp2
  go_loopw [13] (fun i wr => zqf l r w i wr) (fun i _ => l.length - (intOf i).toNat)
  case atStart => exact ⟨0, by omega, rfl, fun j hj => by omega, Qu.refl _⟩
  case round =>
   obtain ⟨k, hk, rfl, hsame, hq⟩ := hrel
   have HS := hid hsame; clear hsame
   by_cases hlt : k < l.length
   ·have hlt' : k < r.length := by have := HL.out; omega
    obtain ⟨b1, o1, rfl, hb1, hx1, hi1⟩ := zb4 S1.out hlt
    obtain ⟨b2, o2, rfl, hb2, hx2, hi2⟩ := zb4 S2.out hlt'
    have g1 : wr.cell? ⟨b1, o1 + k, none⟩ = _ := (hq.cell _).trans hx1
    have g2 : wr.cell? ⟨b2, o2 + k, none⟩ = _ := (hq.cell _).trans hx2
    clear hx1 hx2 hi1 hi2
    have hstep : r.getD k 0 <= l.getD k 0 -> ∀ j, j < k + 1 -> r.getD j 0 <= l.getD j 0 := fun h j hj => by
     by_cases e : j = k
     ·subst e; exact h
     ·exact HS.out j (by omega)
    have hno : ¬ r.getD k 0 <= l.getD k 0 -> zak l r = false := fun h => by
     rw [Bool.eq_false_iff]; exact fun h' => h (HCI.out.1 h' k hlt)
    generalize l.getD k 0 = p1 at *
    generalize r.getD k 0 = p2 at *
    by_cases he : p2 <= p1
    ·have HS' := hid (hstep he)
     have t2 : decide (p1 < p2) = false := by rw [decide_eq_false_iff_not]; omega
     clear hstep hno
     go_wp2
     go_quiet (fail)
     go_wp2
     go_roundw
     case rel => exact ⟨k + 1, by omega, by go_num, HS'.out, hq.drewN _⟩
     case measure => simp [intOf]; omega
    ·have HN := hid (hno he)
     have t2 : decide (p1 < p2) = true := by rw [decide_eq_true_eq]; omega
     clear hstep hno
     go_wp2
     go_quiet (fail)
     go_wp2
     go_ret
     exact ⟨by rw [HN.out]; rfl, hq.drewN _⟩
   ·have HN := hid (HCI.out.2 (fun j hj => HS.out j (by omega)))
    go_wp2
    go_ret
    exact ⟨by rw [HN.out]; rfl, hq⟩
 ·have u0 : ((l.length : Int) != (r.length : Int)) = true := by simp; omega
  have hn : zak l r = false := by unfold zak; rw [decide_eq_false hl]; rfl
  have HN := hid hn
  clear hl hn
  go_wp2
  go_ret
  exact ⟨by rw [HN.out]; rfl, Qu.refl _⟩
theorem zcN : (Tryz.prog.info? 27).map (fun i => (i.zero, i.size, i.bytes)) = some (some (.slice none 0 0), 1, 24) := by kernel_rfl
theorem RowI.app_n {wa w4 : World} {base n : Nat} {out v' u : Value} {M : List (List Int)} {x : List Int} {vs : List Value} (hn : n = M.length) (h1 : vs.length = M.length) (h2 : wa.ownsRow base 27 1 out n vs)
  (h3 : ∀ j (h : j < M.length), wa.ownsRow base 3 1 (vs[j]'(by omega)) M[j].length (zk M[j]))
  (hi : wa.ownsRow base 3 1 u x.length (zk x))
  (ho : w4.ownsRow base 27 1 v' (n + 1) (vs ++ [u])) (hg : wa.grownBy w4 out.ownBlock) : RowI w4 base v' (M ++ [x]) := by
 subst hn
 exact RowI.app h1 h2 h3 hi ho hg
theorem RowI.one {w : World} {base N : Nat} {u : Value} {x : List Int} (hN : w.heap.size = N) (hb : base <= N) (hu : w.ownsRow base 3 1 u x.length (zk x)) : RowI (w.alloc (.cells #[u] 27)) base (.slice (some ⟨N, 0, none⟩) 1 1) [x] := by
 subst hN
 refine ⟨[u], rfl, World.ownsRow_lit w #[u] 1 hb (by simp [maxLen]) rfl, fun j hj => ?_⟩
 obtain rfl : j = 0 := by simp at hj; omega
 exact hu.alloc _
def VwP (M : List (List Int)) (w : World) (e : Ending) (w' : World) : Prop := ∃ r, e = .returned r /\ RowI w' w.heap.size r M /\ Below w.heap.size w w'
def VsRel (b : List Int) (vs : List (List Int)) (H : Nat) (w : World) (out i : Value) (wr : World) : Prop := ∃ k : Nat, k <= vs.length /\ i = .int .i64 k /\ RowI wr H out (b :: vs.take k) /\ Below H w wr
theorem zdb {w : World} {B : Nat} {A : Option Addr} {n c : Nat} {l : List (List Int)} (h : zj 1 zC w B [.slice A n c] l) {k : Nat} (hk : k < l.length) :
  ∃ b off Ak ck, A = some ⟨b, off, none⟩ /\ b < B /\ w.cell? ⟨b, off + k, none⟩ = some (.slice Ak l[k].length ck) /\ zC w B [.slice Ak l[k].length ck] l[k] := by
 obtain ⟨b, off, rfl, hb, es, hel, hcell, hr⟩ := h.at_ hk
 obtain ⟨Ak, ck, e, -, -⟩ := hr.open_
 subst e
 have := hcell 0 _ rfl
 rw [Nat.mul_one, Nat.add_zero] at this
 exact ⟨b, off, Ak, ck, rfl, hb, this, hr⟩
set_option maxRecDepth 100000 in
set_option maxHeartbeats 1600000 in
theorem zfe (v : Value) (s : ze) (w : World) (hv : zD w w.heap.size v s) (hl : s.1.length <= 1000) (hl3 : s.2.2.length <= 1000) (h2 : ∀ x ∈ s.2.2, x.length <= 1000) :
  Calls Tryz.prog 18 #[v] w (VwP (zh s) w) := by
 obtain ⟨i0, hi, hz0, hz1, hz2⟩ := info_parts zcN
 have hv0 := hv
 obtain ⟨A1, c1, A2, c2, A3, c3, rfl, h1, h2', h3⟩ := hv
 obtain ⟨W1, hW1⟩ : ∃ W, W = w.alloc (.cells #[.slice A1 s.1.length c1, .slice A2 s.2.1.length c2, .slice A3 s.2.2.length c3] 26) := ⟨_, rfl⟩
 obtain ⟨H, hH⟩ : ∃ H, H = w.heap.size := ⟨_, rfl⟩
 have g1 : Below H w W1 := by rw [hW1, hH]; exact bl1 _ _
 have z1 : W1.heap.size = H + 1 := by rw [hW1, hH]; simp
 have q0 : W1.cell? ⟨H, 0, none⟩ = some (.slice A1 s.1.length c1) := by rw [hW1, hH]; simp [go_sem]
 have q1 : W1.cell? ⟨H, 1, none⟩ = some (.slice A2 s.2.1.length c2) := by rw [hW1, hH]; simp [go_sem]
 have q2 : W1.cell? ⟨H, 2, none⟩ = some (.slice A3 s.2.2.length c3) := by rw [hW1, hH]; simp [go_sem]
 rw [<- hH] at h3 hv0
 have HB := hid (zg1 _ s W1 ((hv0.below g1).more (by omega)) hl)
 obtain ⟨hc3, hm3⟩ := h3.cap
 unfold zh VwP
 rw [<- hH]
 generalize zV s = bx at *
 have H3 := hid h3; have H2 := hid h2; have HW1 := hid hW1; have G1 := hid g1; have HH := hid hH; have Z1 := hid z1
 clear h1 h2' h3 h2 hv0 hW1 g1 hH z1
 generalize s.2.2 = vs at *
 generalize s.1.length = n1 at *
 generalize s.2.1.length = n2 at *
 go_enter Tryz.func18, Tryz.ntmps18
 go_upto_region 1 with (fail)
 rw [<- HW1.out, <- HH.out]
 go_wp2_with fail
 (with_reducible refine HB.out.mono ?_)
 rintro e w2 ⟨r, rfl, hr, hb2⟩
 obtain ⟨Ar, cr, rfl, -, -, -⟩ := zl hr
 have z2 := hb2.size
 have q2 := zc hb2 (show H < W1.heap.size by rw [Z1.out]; omega) q2
 have hrow := RowI.one (w := w2) (base := H) rfl (by have := Z1.out; omega) (zw hr (by rw [Z1.out]; omega))
 have HR := hid hrow
 have B2 := hid (G1.out.trans (hb2.mono (by rw [Z1.out]; omega)))
 have Z2 := hid (show H < w2.heap.size by have := Z1.out; omega)
 clear hr hb2 hrow q0 q1 z2
 have q3 := zv (o := .cells #[.slice Ar bx.length cr] 27) Z2.out q2
 clear q2
 go_wp2
 go_loopw [3, 12] (fun out i wr => VsRel bx vs H w out i wr) (fun _ i _ => vs.length - (intOf i).toNat)
 case atStart => exact ⟨0, by omega, rfl, HR.out, (B2.out.alloc (Nat.le_of_lt Z2.out) _)⟩
 case round =>
  obtain ⟨k, hk, rfl, hrow, hb⟩ := hrel
  have HB := hid hb; have HRW := hid hrow
  have hs := hb.size
  rw [<- HH.out] at hs
  clear hb hrow
  by_cases hlt : k < vs.length
  ·obtain ⟨b, off, AV, cV, rfl, hbl, p0, r0⟩ := zdb (zaw.stays H3.out HB.out) hlt
   have e1 : vs.take (k + 1) = vs.take k ++ [vs[k]] := List.take_succ_eq_append_getElem hlt
   have hln : k + 1 = (bx :: vs.take k).length := by rw [List.length_cons, List.length_take]; omega
   have hfl := H2.out _ (List.getElem_mem hlt)
   generalize vs[k] = ns at *
   obtain ⟨hnc, hnm⟩ := r0.cap
   have HCL := hid (zeg (.slice AV ns.length cV) ns wr (zm.more r0 hs) (by omega))
   have E1 := hid e1; have HLN := hid hln
   clear e1 r0 hln
   obtain ⟨wo, rfl⟩ : ∃ wo : World, wo = wr := ⟨_, rfl⟩
   go_wp2_with fail
   (with_reducible refine HCL.out.mono ?_)
   rintro e w2 ⟨u, rfl, hu, hb2⟩
   have z2 := hb2.size
   have GW := hid hb2
   have HU := hid hu
   obtain ⟨Au, cu, rfl, -, -, -⟩ := zl hu
   clear hb2 hu
   obtain ⟨us, r1, r2, r3⟩ := HRW.out.on GW.out
   rw [<- HLN.out] at r2
   have R3 := hid r3
   clear r3
   go_wp2_with (at_builtin; refine zr ?_)
   refine zar ?_
   refine zN (.tmp 16) (.tmp 19) 24 24 rfl rfl H 27 i0 (.slice none 0 0) 1 24 Tryz.underlying24 hi hz0 hz1 hz2 rfl (by decide) _ (k + 1) us rfl (r2.alloc _) (.slice (some ⟨w2.heap.size, 0, none⟩) 1 1) 1 [_] rfl (Src.ofSlice _ Tryz.underlying24 _ 1 1 _ rfl (zG _ _ _ rfl) (by simp; exact zgR _ HU.out)) (by simp only [maxLen]; omega) (by omega) (by rw [World.size_alloc]; omega) ?_
   intro v' w3 ho' hg' hb3 hat'
   have hrow' := RowI.app_n HLN.out r1 (r2.alloc _) (fun j hj => (R3.out j hj).alloc _) ((zw HU.out hs).alloc _) ho' hg'
   rw [List.cons_append, <- E1.out] at hrow'
   have HR' := hid hrow'
   have HB3 := hid (HB.out.trans ((GW.out.mono hs).trans (((Below.refl _ _).alloc (by omega) _).trans hb3)))
   clear ho' hg' hb3 hrow' r2 hat' R3 r1
   go_wp2
   go_roundw
   case rel => exact ⟨k + 1, by omega, by go_num, HR'.out, HB3.out⟩
   case measure => simp [intOf]; omega
  ·obtain rfl : k = vs.length := by omega
   have hfin := HRW.out
   rw [List.take_length] at hfin
   have HF := hid hfin
   clear hfin HRW
   go_wp2
   go_ret
   exact ⟨_, rfl, HF.out, HB.out⟩
end Go.Proofs.YtgoapnkdcfcjgaaGreat
