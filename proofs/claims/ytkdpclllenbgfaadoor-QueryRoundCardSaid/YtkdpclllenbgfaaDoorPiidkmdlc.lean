/- 1 text of this claim, in build order. -/
import Derived.Test.YtkdpclllenbgfaaDoorPkgejacko
import Derived.Test.YtkdpclllenbgfaaDoorPghhfckmo
import Derived.Maps.OwnSet
import Derived.StringKeys
/- Schemas: small functions (apart, named, Covers), and closures. -/
namespace Go.Proofs.YtkdpclllenbgfaaDoor
open Go.ChangeShapes Go.WideShapes Go.ChangeAt Go.RowKit Go.Maps
set_option linter.unusedVariables false
set_option linter.unusedSimpArgs false

theorem namedAt_any (s : ByteArray) (w : World) (hs : s.size ≤ 9223372036854775807) :
    Calls Tryd.prog 75 #[.string s] w (Gives (.bool (!nameB s)) w) := by
  have hn := fun W => name_any s W hs
  have HN := hid hn; clear hn
  go_enter Tryd.func75, Tryd.ntmps75
  go_wp2_with fail
  refine (HN.out _).mono ?_
  rintro e w1 ⟨rfl, hb⟩
  go_wp2
  go_ret
  exact ⟨rfl, hb⟩
theorem enters_named : Enters 75 := enters_of Tryd.func75 (by kernel_rfl) rfl
theorem all_any_not {l : List ByteArray} : (!(l.any fun s => !nameB s)) = l.all nameB := by
  induction l with
  | nil => rfl
  | cons x l ih => simp only [List.any_cons, List.all_cons, Bool.not_or, ih, Bool.not_not]
theorem hasNamed_any (v : Value) (l : List ByteArray) (w : World) (hv : rdStrs w w.heap.size [v] l) :
    Calls Tryd.prog 65 #[v, .func (Fn.func 75) #[] #[]] w (Gives (.bool (l.any fun s => !nameB s)) w) :=
  hasS_any 75 #[] (fun s => !nameB s) v l w hv good_strs enters_named (fun x u W hx hr hb => by
    obtain ⟨e, hs⟩ := hr
    simp only [List.cons.injEq, and_true] at e
    subst e
    exact namedAt_any x W (by unfold maxLen at hs; omega))
/-- The set of the texts so far. -/
def SetRel (l : List ByteArray) (w : World) (i : Value) (wr : World) : Prop :=
  ∃ (k n : Nat) (D : DataW Unit), k ≤ l.length ∧ i = .int .i64 k ∧ wr.ownsMap Tryd.prog 9 unitElem w.heap.size n D ∧ n ≤ k ∧ Maps.size D ≤ k ∧ (Maps.size D = k ↔ (l.take k).Nodup) ∧
    (∀ s : ByteArray, s.size ≤ maxLen → (Maps.has D (.string s.data.toList) = true ↔ s ∈ l.take k)) ∧ Below w.heap.size w wr
set_option maxRecDepth 100000 in
set_option maxHeartbeats 800000 in
theorem apart_any (v : Value) (l : List ByteArray) (w : World) (hv : rdStrs w w.heap.size [v] l) (hl : l.length ≤ 1000) :
    Calls Tryd.prog 76 #[v] w (Gives (.bool (decide l.Nodup)) w) := by
  obtain ⟨A, c, e, hc1, hc2⟩ := hv.open_
  simp only [List.cons.injEq, and_true] at e
  subst e
  have hmm := @run_makeMap Tryd.prog
  have K : Keyed Tryd.prog 9 := string_keyed Tryd.underlying9
  have HV := hid hv; clear hv
  go_enter Tryd.func76, Tryd.ntmps76
  go_wp2
  go_loopw [9] (fun i wr => SetRel l w i wr) (fun i _ => l.length - (intOf i).toNat)
  case atStart => exact ⟨0, 0, .map [], by omega, rfl, World.ownsMap_made _ _ _ _, by omega, by simp [Maps.size], by simp [Maps.size], fun s hs => by simp [Maps.has], bl1 w _⟩
  case round =>
    obtain ⟨k, n, D, hk, rfl, how, hn, hsz, hnd, hhas, hb⟩ := hrel
    have HO := hid how; have HB := hid hb; have HH := hid hhas; have HND := hid hnd
    have hs := hb.size
    clear how hb hhas hnd
    by_cases hlt : k < l.length
    · obtain ⟨b, off, rfl, hbl, es, hel, hcell, hr⟩ := (good_strs.stays HV.out HB.out).at_ hlt
      obtain ⟨rfl, hsx⟩ := hr
      have hcell := hcell 0 _ rfl
      rw [Nat.mul_one, Nat.add_zero] at hcell
      have e1 : l.take (k + 1) = l.take k ++ [l[k]] := List.take_succ_eq_append_getElem hlt
      generalize l[k] = x at *
      have hkey := Go.WideMaps.keyOf_string_mk (P := Tryd.prog) (k := 9) Tryd.underlying9 hsx
      obtain ⟨w2, hrun, how2, hturn⟩ := HO.out.store K Tryd.underlying115 (by unfold maxLen; omega) hkey (unitElem_mk)
      have hxh := HH.out x hsx
      have hsp := size_put (k := .string x.data.toList) (HO.out.tidy K) (.agg [])
      have hnext : SetRel l w (.int .i64 ((k : Int) + 1)) w2 := by
        refine ⟨k + 1, n + 1, D.put (.string x.data.toList) (.agg []), by omega, by go_num, how2, by omega, ?_, ?_, fun s hs => ?_, ?_⟩
        · rw [hsp]; split <;> omega
        · rw [e1, nodup_snoc, ← HND.out]
          by_cases hx : x ∈ l.take k
          · rw [hxh.2 hx] at hsp
            simp only [if_true] at hsp
            rw [hsp]
            exact ⟨fun h => by omega, fun h => absurd hx h.2⟩
          · rw [show Maps.has D (.string x.data.toList) = false by rw [Bool.eq_false_iff]; exact fun h => hx (hxh.1 h)] at hsp
            simp only [Bool.false_eq_true, if_false] at hsp
            rw [hsp]
            exact ⟨fun h => ⟨by omega, hx⟩, fun h => by omega⟩
        · by_cases he : s = x
          · subst he
            rw [has_put_same HO.out.isMap (K.key hkey), e1]
            simp
          · rw [has_put_other (fun h => he (by
              have := Lit.string.inj h
              exact ByteArray.ext (Array.toList_inj.1 this))), HH.out s hs, e1, List.mem_append]
            exact ⟨.inl, fun h => h.elim id (fun h => absurd (by simpa using h) he)⟩
        · have hm := HO.out.lt
          exact HB.out.grown hturn.grown hs (fun j hj => by injection hj with hj; omega)
      have HN := hid hnext
      clear hnext hsp hxh e1 how2 hturn hkey
      go_wp2
      go_roundw
      case rel => exact HN.out
      case measure => simp [intOf]; omega
    · obtain rfl : k = l.length := by omega
      have hlen := fun ty => HO.out.len Tryd.underlying115 ty
      have hfin : ((Maps.size D : Int) == (l.length : Int)) = decide l.Nodup := by
        have := HND.out
        rw [List.take_of_length_le (Nat.le_refl _)] at this
        rw [Bool.eq_iff_iff, decide_eq_true_eq, ← this]
        simp
        omega
      generalize Maps.size D = q at *
      have HFIN := hid hfin
      clear hfin HND HH HO
      go_wp2
      go_ret
      exact ⟨by rw [← HFIN.out]; rfl, HB.out⟩
end Go.Proofs.YtkdpclllenbgfaaDoor
