/- 3 texts of this claim, in build order. -/
import Derived.Test.YtgoapnkdcfcjgaaGreatPkohgbcdn
import Derived.Maps.OwnSet
import Derived.StringKeys
/- slices.Clone at []int and []string. Printed by wip/gen_clone.py (first part). -/
namespace Go.Proofs.YtgoapnkdcfcjgaaGreat
open Go.ChangeShapes Go.WideShapes Go.ChangeAt Go.RowKit
set_option linter.unusedVariables false
set_option linter.unusedSimpArgs false

theorem ivals_oneQ (l : List Int) : ∀ u ∈ ivals l, u.oneCell' = true := by
  intro u hu
  obtain ⟨x, _, rfl⟩ := List.mem_map.1 hu
  rfl
theorem ints_slQ {w : World} {B : Nat} {v : Value} {l : List Int} (h : rdInts w B [v] l) : Sl w B v (ivals l) := rdSlice.sl (Value.int .i64) (fun es x hx => hx.1) h
set_option maxRecDepth 100000 in
set_option maxHeartbeats 400000 in
theorem cloneI_any (v : Value) (l : List Int) (w : World) (hv : rdInts w w.heap.size [v] l) (hl : l.length ≤ 1073741824) :
    Calls Tryz.prog 34 #[v] w (RowPost l w) := by
  obtain ⟨i0, hi, hz0, hz1, hz2⟩ := info_parts info_int
  have hv := ints_slQ hv
  have hv' := hv
  obtain ⟨A, c, rfl, hc1, hc2, hA⟩ := hv
  simp only [ivals_len] at hc1 hv' ⊢
  have HV := hid hv'; have HA := hid hA
  clear hv' hA
  go_enter Tryz.func34, Tryz.ntmps34
  cases A with
  | none =>
    have h0 : l = [] := by
      cases l with
      | nil => rfl
      | cons x l => obtain ⟨b, off, h, _⟩ := HA.out (by simp [ivals]); cases h
    have H0 := hid h0; clear h0
    have hq : ∀ W : World, (binOp .eql 27 (.slice none l.length c) (.slice none 0 0)).run Tryz.prog W = .ok (.bool true) W := fun _ => rfl
    go_wp2
    go_ret
    exact ⟨_, rfl, by rw [H0.out]; exact World.ownsRow_nil _ _ _ _, Below.refl _ _⟩
  | some x =>
    have hq : ∀ W : World, (binOp .eql 27 (.slice (some x) l.length c) (.slice none 0 0)).run Tryz.prog W = .ok (.bool false) W := fun _ => rfl
    go_wp2_with (at_builtin; refine stop_here ?_)
    refine go_on ?_
    have hown : (w.alloc (.cells #[] 3)).ownsRow w.heap.size 3 1 (.slice (some ⟨w.heap.size, 0, none⟩) 0 0) 0 [] := by
      refine ⟨rfl, .inr ⟨w.heap.size, 0, #[], rfl, Nat.le_refl _, ?_, Nat.le_refl _, by simp [maxLen], rfl, rfl⟩⟩
      exact heap_alloc_new w _
    refine app_own (.tmp 5) (.tmp 6) 27 27 rfl rfl w.heap.size 3 i0 (.int .i64 0) 1 8 Tryz.underlying27 hi hz0 hz1 hz2 rfl (by omega) _ _ _ rfl hown (.slice (some x) l.length c) l.length (ivals l) rfl ?_ (by unfold maxLen; omega) (by omega) (by simp) ?_
    · have hs : Sl (w.alloc (.cells #[] 3)) w.heap.size (.slice (some x) l.length c) (ivals l) := by
        obtain ⟨A, c', g1, g2, g3, g4⟩ := HV.out
        refine ⟨A, c', g1, g2, g3, fun h0 => ?_⟩
        obtain ⟨b, off, g5, g6, g7⟩ := g4 h0
        exact ⟨b, off, g5, g6, fun j u hj => cell_alloc g6 (g7 j u hj)⟩
      have := src_sl _ Tryz.underlying27 hs (ivals_oneQ l)
      rwa [ivals_len] at this
    · intro v2 w2 hown2 hg2 hb2
      go_wp2
      go_ret
      refine ⟨v2, rfl, by simpa using hown2, ?_⟩
      exact (bl1 w _).trans hb2
end Go.Proofs.YtgoapnkdcfcjgaaGreat
/- slices.IndexFunc and slices.ContainsFunc with any function value. Printed by wip/idx.py. -/
namespace Go.Proofs.YtgoapnkdcfcjgaaGreat
open Go.ChangeShapes Go.WideShapes Go.ChangeAt Go.RowKit
set_option linter.unusedVariables false
set_option linter.unusedSimpArgs false

set_option maxRecDepth 100000 in
set_option maxHeartbeats 800000 in
theorem idxI_any (F : FuncId) (caps : Array Value) (p : Int → Bool) (v : Value) (l : List Int) (w : World) (hv : rdSlice 1 rdInt w w.heap.size [v] l) (hg : Good (rdSlice 1 rdInt)) (hE : Enters F) (hF : Tells rdInt F caps p l w) :
    Calls Tryz.prog 119 #[v, .func (Fn.func F) #[] caps] w (IdxG p l w) := by
  obtain ⟨A, c, e0, hc1, hc2, -⟩ := id hv
  obtain rfl : v = .slice A l.length c := by simpa using e0
  unfold maxLen at hc2
  have HV := hid hv; have HF := hid hF
  clear hv hF e0
  go_enter Tryz.func119, Tryz.ntmps119
  go_wp2
  go_loopw [8] (fun i wr => IdxRelG p l w i wr) (fun i _ => l.length - (intOf i).toNat)
  case atStart => exact ⟨0, by omega, rfl, by simp, Below.refl _ _⟩
  case round =>
    obtain ⟨k, hk, rfl, hall, hb⟩ := hrel
    have HALL := hid hall; have HB := hid hb
    have hs := hb.size
    clear hall hb
    by_cases hlt : k < l.length
    · obtain ⟨b, off, rfl, hbl, es, hel, hcell, hr⟩ := (hg.stays HV.out HB.out).at_ hlt
      obtain ⟨u, rfl⟩ := List.length_eq_one_iff.1 hel
      have hcell := hcell 0 u rfl
      rw [Nat.mul_one, Nat.add_zero] at hcell
      have hin : l[k] ∈ l := List.getElem_mem hlt
      have e1 := any_take_succ (p := p) hlt
      have e2 := any_of_at (p := p) hlt
      have hr := (good_int).more hr hs
      generalize l[k] = x at *
      have HC := hid (HF.out x u wr hin hr HB.out)
      have E1 := hid e1; have E2 := hid e2
      clear e1 e2 hr hel hin
      go_wp2_with fail
      rw [hE]
      refine HC.out.mono ?_
      rintro e w1 ⟨rfl, hb1⟩
      have HB1 := hid (HB.out.trans (hb1.mono hs)); clear hb1
      cases hp : p x with
      | false =>
        have HP := hid hp; clear hp
        go_wp2
        go_roundw
        case rel => exact ⟨k + 1, by omega, by go_num, by rw [E1.out, HALL.out, HP.out]; rfl, HB1.out⟩
        case measure => simp [intOf]; omega
      | true =>
        have HP := hid (E2.out hp); clear hp
        go_wp2
        go_ret
        exact ⟨(k : Int), rfl, by rw [HP.out]; simp, HB1.out⟩
    · have hall : l.any p = false := by
        have := HALL.out
        rwa [List.take_of_length_le (by omega)] at this
      have HP := hid hall; clear hall
      go_wp2
      go_ret
      exact ⟨-1, rfl, by rw [HP.out]; decide, HB.out⟩
theorem hasI_any (F : FuncId) (caps : Array Value) (p : Int → Bool) (v : Value) (l : List Int) (w : World) (hv : rdSlice 1 rdInt w w.heap.size [v] l) (hg : Good (rdSlice 1 rdInt)) (hE : Enters F) (hF : Tells rdInt F caps p l w) :
    Calls Tryz.prog 80 #[v, .func (Fn.func F) #[] caps] w (Gives (.bool (l.any p)) w) := by
  have HI := hid (idxI_any F caps p v l w hv hg hE hF)
  clear hv hF
  go_enter Tryz.func80, Tryz.ntmps80
  go_wp2_with fail
  refine HI.out.mono ?_
  rintro e w1 ⟨i, rfl, hi, hb⟩
  go_wp2
  go_ret
  exact ⟨rfl, hb⟩

set_option maxRecDepth 100000 in
set_option maxHeartbeats 800000 in
theorem idxS_any (F : FuncId) (caps : Array Value) (p : ByteArray → Bool) (v : Value) (l : List ByteArray) (w : World) (hv : rdSlice 1 rdStr w w.heap.size [v] l) (hg : Good (rdSlice 1 rdStr)) (hE : Enters F) (hF : Tells rdStr F caps p l w) :
    Calls Tryz.prog 121 #[v, .func (Fn.func F) #[] caps] w (IdxG p l w) := by
  obtain ⟨A, c, e0, hc1, hc2, -⟩ := id hv
  obtain rfl : v = .slice A l.length c := by simpa using e0
  unfold maxLen at hc2
  have HV := hid hv; have HF := hid hF
  clear hv hF e0
  go_enter Tryz.func121, Tryz.ntmps121
  go_wp2
  go_loopw [8] (fun i wr => IdxRelG p l w i wr) (fun i _ => l.length - (intOf i).toNat)
  case atStart => exact ⟨0, by omega, rfl, by simp, Below.refl _ _⟩
  case round =>
    obtain ⟨k, hk, rfl, hall, hb⟩ := hrel
    have HALL := hid hall; have HB := hid hb
    have hs := hb.size
    clear hall hb
    by_cases hlt : k < l.length
    · obtain ⟨b, off, rfl, hbl, es, hel, hcell, hr⟩ := (hg.stays HV.out HB.out).at_ hlt
      obtain ⟨u, rfl⟩ := List.length_eq_one_iff.1 hel
      have hcell := hcell 0 u rfl
      rw [Nat.mul_one, Nat.add_zero] at hcell
      have hin : l[k] ∈ l := List.getElem_mem hlt
      have e1 := any_take_succ (p := p) hlt
      have e2 := any_of_at (p := p) hlt
      have hr := (good_str).more hr hs
      generalize l[k] = x at *
      have HC := hid (HF.out x u wr hin hr HB.out)
      have E1 := hid e1; have E2 := hid e2
      clear e1 e2 hr hel hin
      go_wp2_with fail
      rw [hE]
      refine HC.out.mono ?_
      rintro e w1 ⟨rfl, hb1⟩
      have HB1 := hid (HB.out.trans (hb1.mono hs)); clear hb1
      cases hp : p x with
      | false =>
        have HP := hid hp; clear hp
        go_wp2
        go_roundw
        case rel => exact ⟨k + 1, by omega, by go_num, by rw [E1.out, HALL.out, HP.out]; rfl, HB1.out⟩
        case measure => simp [intOf]; omega
      | true =>
        have HP := hid (E2.out hp); clear hp
        go_wp2
        go_ret
        exact ⟨(k : Int), rfl, by rw [HP.out]; simp, HB1.out⟩
    · have hall : l.any p = false := by
        have := HALL.out
        rwa [List.take_of_length_le (by omega)] at this
      have HP := hid hall; clear hall
      go_wp2
      go_ret
      exact ⟨-1, rfl, by rw [HP.out]; decide, HB.out⟩
theorem hasS_any (F : FuncId) (caps : Array Value) (p : ByteArray → Bool) (v : Value) (l : List ByteArray) (w : World) (hv : rdSlice 1 rdStr w w.heap.size [v] l) (hg : Good (rdSlice 1 rdStr)) (hE : Enters F) (hF : Tells rdStr F caps p l w) :
    Calls Tryz.prog 89 #[v, .func (Fn.func F) #[] caps] w (Gives (.bool (l.any p)) w) := by
  have HI := hid (idxS_any F caps p v l w hv hg hE hF)
  clear hv hF
  go_enter Tryz.func89, Tryz.ntmps89
  go_wp2_with fail
  refine HI.out.mono ?_
  rintro e w1 ⟨i, rfl, hi, hb⟩
  go_wp2
  go_ret
  exact ⟨rfl, hb⟩

set_option maxRecDepth 100000 in
set_option maxHeartbeats 800000 in
theorem idxP_any (F : FuncId) (caps : Array Value) (p : (List ByteArray) → Bool) (v : Value) (l : List (List ByteArray)) (w : World) (hv : rdSlice 1 (rdSlice 1 rdStr) w w.heap.size [v] l) (hg : Good (rdSlice 1 (rdSlice 1 rdStr))) (hE : Enters F) (hF : Tells (rdSlice 1 rdStr) F caps p l w) :
    Calls Tryz.prog 86 #[v, .func (Fn.func F) #[] caps] w (IdxG p l w) := by
  obtain ⟨A, c, e0, hc1, hc2, -⟩ := id hv
  obtain rfl : v = .slice A l.length c := by simpa using e0
  unfold maxLen at hc2
  have HV := hid hv; have HF := hid hF
  clear hv hF e0
  go_enter Tryz.func86, Tryz.ntmps86
  go_wp2
  go_loopw [8] (fun i wr => IdxRelG p l w i wr) (fun i _ => l.length - (intOf i).toNat)
  case atStart => exact ⟨0, by omega, rfl, by simp, Below.refl _ _⟩
  case round =>
    obtain ⟨k, hk, rfl, hall, hb⟩ := hrel
    have HALL := hid hall; have HB := hid hb
    have hs := hb.size
    clear hall hb
    by_cases hlt : k < l.length
    · obtain ⟨b, off, rfl, hbl, es, hel, hcell, hr⟩ := (hg.stays HV.out HB.out).at_ hlt
      obtain ⟨u, rfl⟩ := List.length_eq_one_iff.1 hel
      have hcell := hcell 0 u rfl
      rw [Nat.mul_one, Nat.add_zero] at hcell
      have hin : l[k] ∈ l := List.getElem_mem hlt
      have e1 := any_take_succ (p := p) hlt
      have e2 := any_of_at (p := p) hlt
      have hr := (good_slice good_str).more hr hs
      generalize l[k] = x at *
      have HC := hid (HF.out x u wr hin hr HB.out)
      have E1 := hid e1; have E2 := hid e2
      clear e1 e2 hr hel hin
      go_wp2_with fail
      rw [hE]
      refine HC.out.mono ?_
      rintro e w1 ⟨rfl, hb1⟩
      have HB1 := hid (HB.out.trans (hb1.mono hs)); clear hb1
      cases hp : p x with
      | false =>
        have HP := hid hp; clear hp
        go_wp2
        go_roundw
        case rel => exact ⟨k + 1, by omega, by go_num, by rw [E1.out, HALL.out, HP.out]; rfl, HB1.out⟩
        case measure => simp [intOf]; omega
      | true =>
        have HP := hid (E2.out hp); clear hp
        go_wp2
        go_ret
        exact ⟨(k : Int), rfl, by rw [HP.out]; simp, HB1.out⟩
    · have hall : l.any p = false := by
        have := HALL.out
        rwa [List.take_of_length_le (by omega)] at this
      have HP := hid hall; clear hall
      go_wp2
      go_ret
      exact ⟨-1, rfl, by rw [HP.out]; decide, HB.out⟩
theorem hasP_any (F : FuncId) (caps : Array Value) (p : (List ByteArray) → Bool) (v : Value) (l : List (List ByteArray)) (w : World) (hv : rdSlice 1 (rdSlice 1 rdStr) w w.heap.size [v] l) (hg : Good (rdSlice 1 (rdSlice 1 rdStr))) (hE : Enters F) (hF : Tells (rdSlice 1 rdStr) F caps p l w) :
    Calls Tryz.prog 54 #[v, .func (Fn.func F) #[] caps] w (Gives (.bool (l.any p)) w) := by
  have HI := hid (idxP_any F caps p v l w hv hg hE hF)
  clear hv hF
  go_enter Tryz.func54, Tryz.ntmps54
  go_wp2_with fail
  refine HI.out.mono ?_
  rintro e w1 ⟨i, rfl, hi, hb⟩
  go_wp2
  go_ret
  exact ⟨rfl, hb⟩

end Go.Proofs.YtgoapnkdcfcjgaaGreat
/- Schemas: small functions (apart, named, Covers), and closures. -/
namespace Go.Proofs.YtgoapnkdcfcjgaaGreat
open Go.ChangeShapes Go.WideShapes Go.ChangeAt Go.RowKit Go.Maps
set_option linter.unusedVariables false
set_option linter.unusedSimpArgs false

theorem namedAt_any (s : ByteArray) (w : World) (hs : s.size ≤ 9223372036854775807) :
    Calls Tryz.prog 87 #[.string s] w (Gives (.bool (!nameB s)) w) := by
  have hn := fun W => name_any s W hs
  have HN := hid hn; clear hn
  go_enter Tryz.func87, Tryz.ntmps87
  go_wp2_with fail
  refine (HN.out _).mono ?_
  rintro e w1 ⟨rfl, hb⟩
  go_wp2
  go_ret
  exact ⟨rfl, hb⟩
theorem enters_named : Enters 87 := enters_of Tryz.func87 (by kernel_rfl) rfl
theorem all_any_not {l : List ByteArray} : (!(l.any fun s => !nameB s)) = l.all nameB := by
  induction l with
  | nil => rfl
  | cons x l ih => simp only [List.any_cons, List.all_cons, Bool.not_or, ih, Bool.not_not]
theorem hasNamed_any (v : Value) (l : List ByteArray) (w : World) (hv : rdStrs w w.heap.size [v] l) :
    Calls Tryz.prog 89 #[v, .func (Fn.func 87) #[] #[]] w (Gives (.bool (l.any fun s => !nameB s)) w) :=
  hasS_any 87 #[] (fun s => !nameB s) v l w hv good_strs enters_named (fun x u W hx hr hb => by
    obtain ⟨e, hs⟩ := hr
    simp only [List.cons.injEq, and_true] at e
    subst e
    exact namedAt_any x W (by unfold maxLen at hs; omega))
/-- The set of the texts so far. -/
def SetRelQ (l : List ByteArray) (w : World) (i : Value) (wr : World) : Prop :=
  ∃ (k n : Nat) (D : DataW Unit), k ≤ l.length ∧ i = .int .i64 k ∧ wr.ownsMap Tryz.prog 9 unitElem w.heap.size n D ∧ n ≤ k ∧ Maps.size D ≤ k ∧ (Maps.size D = k ↔ (l.take k).Nodup) ∧
    (∀ s : ByteArray, s.size ≤ maxLen → (Maps.has D (.string s.data.toList) = true ↔ s ∈ l.take k)) ∧ Below w.heap.size w wr
set_option maxRecDepth 100000 in
set_option maxHeartbeats 800000 in
theorem apart_any (v : Value) (l : List ByteArray) (w : World) (hv : rdStrs w w.heap.size [v] l) (hl : l.length ≤ 1000) :
    Calls Tryz.prog 90 #[v] w (Gives (.bool (decide l.Nodup)) w) := by
  obtain ⟨A, c, e, hc1, hc2⟩ := hv.open_
  simp only [List.cons.injEq, and_true] at e
  subst e
  have hmm := @run_makeMap Tryz.prog
  have K : Keyed Tryz.prog 9 := string_keyed Tryz.underlying9
  have HV := hid hv; clear hv
  go_enter Tryz.func90, Tryz.ntmps90
  go_wp2
  go_loopw [9] (fun i wr => SetRelQ l w i wr) (fun i _ => l.length - (intOf i).toNat)
  case atStart => exact ⟨0, 0, .map [], by omega, rfl, World.ownsMap_made _ _ _ _, by omega, by simp [Maps.size], by simp [Maps.size], fun s hs => by simp [Maps.has], bl1 w _⟩
  case round =>
    obtain ⟨k, n, D, hk, rfl, how, hn, hsz, hnd, hhas, hb⟩ := hrel
    have HO := hid how; have HB := hid hb; have HH := hid hhas; have HND := hid hnd
    have hs := hb.size
    clear how hb hhas hnd
    by_cases hlt : k < l.length
    · obtain ⟨b, off, rfl, hbl, es, hel, hcell, hr⟩ := (good_strs.stays HV.out HB.out).at_ hlt
      obtain ⟨rfl, hsx⟩ := hr
      have hcell := hcell 0 _ rfl
      rw [Nat.mul_one, Nat.add_zero] at hcell
      have e1 : l.take (k + 1) = l.take k ++ [l[k]] := List.take_succ_eq_append_getElem hlt
      generalize l[k] = x at *
      have hkey := Go.WideMaps.keyOf_string_mk (P := Tryz.prog) (k := 9) Tryz.underlying9 hsx
      obtain ⟨w2, hrun, how2, hturn⟩ := HO.out.store K Tryz.underlying175 (by unfold maxLen; omega) hkey (unitElem_mk)
      have hxh := HH.out x hsx
      have hsp := size_put (k := .string x.data.toList) (HO.out.tidy K) (.agg [])
      have hnext : SetRelQ l w (.int .i64 ((k : Int) + 1)) w2 := by
        refine ⟨k + 1, n + 1, D.put (.string x.data.toList) (.agg []), by omega, by go_num, how2, by omega, ?_, ?_, fun s hs => ?_, ?_⟩
        · rw [hsp]; split <;> omega
        · rw [e1, nodup_snoc, ← HND.out]
          by_cases hx : x ∈ l.take k
          · rw [hxh.2 hx] at hsp
            simp only [if_true] at hsp
            rw [hsp]
            exact ⟨fun h => by omega, fun h => absurd hx h.2⟩
          · rw [show Maps.has D (.string x.data.toList) = false by rw [Bool.eq_false_iff]; exact fun h => hx (hxh.1 h)] at hsp
            simp only [Bool.false_eq_true, if_false] at hsp
            rw [hsp]
            exact ⟨fun h => ⟨by omega, hx⟩, fun h => by omega⟩
        · by_cases he : s = x
          · subst he
            rw [has_put_same HO.out.isMap (K.key hkey), e1]
            simp
          · rw [has_put_other (fun h => he (by
              have := Lit.string.inj h
              exact ByteArray.ext (Array.toList_inj.1 this))), HH.out s hs, e1, List.mem_append]
            exact ⟨.inl, fun h => h.elim id (fun h => absurd (by simpa using h) he)⟩
        · have hm := HO.out.lt
          exact HB.out.grown hturn.grown hs (fun j hj => by injection hj with hj; omega)
      have HN := hid hnext
      clear hnext hsp hxh e1 how2 hturn hkey
      go_wp2
      go_roundw
      case rel => exact HN.out
      case measure => simp [intOf]; omega
    · obtain rfl : k = l.length := by omega
      have hlen := fun ty => HO.out.len Tryz.underlying175 ty
      have hfin : ((Maps.size D : Int) == (l.length : Int)) = decide l.Nodup := by
        have := HND.out
        rw [List.take_of_length_le (Nat.le_refl _)] at this
        rw [Bool.eq_iff_iff, decide_eq_true_eq, ← this]
        simp
        omega
      generalize Maps.size D = q at *
      have HFIN := hid hfin
      clear hfin HND HH HO
      go_wp2
      go_ret
      exact ⟨by rw [← HFIN.out]; rfl, HB.out⟩
end Go.Proofs.YtgoapnkdcfcjgaaGreat
