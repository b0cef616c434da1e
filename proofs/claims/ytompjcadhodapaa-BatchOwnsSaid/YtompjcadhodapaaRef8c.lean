/- The reference's apart and May (layer 8). -/
import Derived.Test.YtompjcadhodapaaRef8b
namespace Go.Proofs.Ytompjcadhodapaa
open Go.ChangeShapes Go.WideShapes Go.ChangeAt Go.RowKit
set_option linter.unusedVariables false
set_option linter.unusedSimpArgs false

def ApRel (l : List ByteArray) (w : World) (i : Value) (wr : World) : Prop := ∃ k : Nat, k ≤ l.length ∧ i = .int .i64 k ∧ (l.take k).all nameB = true ∧ (l.take k).Nodup ∧ Qu w wr
def ApRel2 (l : List ByteArray) (x : ByteArray) (k : Nat) (w : World) (i : Value) (wr : World) : Prop := ∃ j : Nat, j ≤ k ∧ i = .int .i64 j ∧ (∀ m (h : m < l.length), m < j → l[m] ≠ x) ∧ Qu w wr
theorem mem_take_iff {l : List ByteArray} {k : Nat} {x : ByteArray} (hk : k ≤ l.length) : x ∈ l.take k ↔ ∃ (m : Nat) (h : m < l.length), m < k ∧ l[m] = x := by
  rw [List.mem_iff_getElem]
  constructor
  · rintro ⟨m, hm, rfl⟩
    rw [List.length_take] at hm
    exact ⟨m, by omega, by omega, by rw [List.getElem_take]⟩
  · rintro ⟨m, h, hm, rfl⟩
    exact ⟨m, by rw [List.length_take]; omega, by rw [List.getElem_take]⟩
set_option maxRecDepth 100000 in
set_option maxHeartbeats 1600000 in
theorem refApart_any (v : Value) (l : List ByteArray) (most : Nat) (w : World) (hv : rdStrs w w.heap.size [v] l) (hm : most ≤ 1000) :
    Calls Try.prog 42 #[v, .int .i64 (most : Int)] w (Stays (.bool (namedB l most)) w) := by
  obtain ⟨A, c, e, hc1, hc2⟩ := hv.open_
  simp only [List.cons.injEq, and_true] at e
  subst e
  have HV := hid hv
  have hres : namedB l most = (decide (1 ≤ l.length) && decide (l.length ≤ most) && l.all nameB && decide l.Nodup) := rfl
  generalize namedB l most = res at *
  have HR := hid hres
  clear hv hres
  go_enter Try.func42, Try.ntmps42
  have hways : (l.length < 1) ∨ (1 ≤ l.length ∧ most < l.length) ∨ (1 ≤ l.length ∧ l.length ≤ most) := by omega
  rcases hways with a | ⟨a, a'⟩ | ⟨a, a'⟩
  · have t1 : decide ((l.length : Int) < 1) = true := by rw [decide_eq_true_eq]; omega
    have hn : res = false := by rw [HR.out, decide_eq_false (show ¬ 1 ≤ l.length by omega)]; rfl
    have HN := hid hn
    clear hn
    go_wp2
    go_ret
    exact ⟨by rw [HN.out]; rfl, Qu.refl _⟩
  · have t1 : decide ((l.length : Int) < 1) = false := by rw [decide_eq_false_iff_not]; omega
    have t2 : decide (most < l.length) = true := by rw [decide_eq_true_eq]; omega
    have hn : res = false := by rw [HR.out, decide_eq_false (show ¬ l.length ≤ most by omega)]; simp
    have HN := hid hn
    clear hn
    go_wp2
    go_ret
    exact ⟨by rw [HN.out]; rfl, Qu.refl _⟩
  · have t1 : decide ((l.length : Int) < 1) = false := by rw [decide_eq_false_iff_not]; omega
    have t2 : decide (most < l.length) = false := by rw [decide_eq_false_iff_not]; omega
    have hres : res = (l.all nameB && decide l.Nodup) := by rw [HR.out, decide_eq_true a, decide_eq_true a']; simp
    have HR2 := hid hres
    clear hres HR
    go_wp2
    go_loopw [5] (fun i wr => ApRel l w i wr) (fun i _ => l.length - (intOf i).toNat)
    case atStart => exact ⟨0, by omega, rfl, by simp, by simp, Qu.refl _⟩
    case round =>
      obtain ⟨k, hk, rfl, hall, hnd, hq⟩ := hrel
      have HALL := hid hall; have HND := hid hnd; have HQ := hid hq
      clear hall hnd hq
      by_cases hlt : k < l.length
      · obtain ⟨b, off, rfl, hb, hcell, hsz⟩ := strs_at HV.out hlt
        have g1 : wr.cell? ⟨b, off + k, none⟩ = _ := (HQ.out.cell _).trans hcell
        have e1 : l.take (k + 1) = l.take k ++ [l[k]] := List.take_succ_eq_append_getElem hlt
        have e2 : nameB l[k] = false → l.all nameB = false := fun h => by
          rw [List.all_eq_false]; exact ⟨_, List.getElem_mem hlt, by rw [h]; simp⟩
        have e3 : (∃ (m : Nat) (h : m < l.length), m < k ∧ l[m] = l[k]) → decide l.Nodup = false := fun ⟨m, h, hmk, he⟩ => by
          rw [decide_eq_false_iff_not]
          intro hn
          exact List.pairwise_iff_getElem.1 hn m k h hlt hmk he
        have HCELL := hid hcell
        generalize l[k] = x at *
        have HNM := hid (fun W => refName_any x W)
        have E1 := hid e1; have E2 := hid e2; have E3 := hid e3
        clear e1 e2 e3 hcell
        go_wp2_with fail
        refine (HNM.out _).mono ?_
        rintro e w1 ⟨rfl, hq1⟩
        have HQ1 := hid (HQ.out.trans hq1)
        clear hq1 g1
        obtain ⟨bn, hbn⟩ : ∃ bn, nameB x = bn := ⟨_, rfl⟩
        rw [hbn]
        have HBN := hid hbn
        clear hbn
        cases bn
        · have HN := hid (show res = false by rw [HR2.out, E2.out HBN.out]; rfl)
          go_wp2
          go_ret
          exact ⟨by rw [HN.out]; rfl, HQ1.out⟩
        · obtain ⟨wo, rfl⟩ : ∃ wo : World, wo = wr := ⟨_, rfl⟩
          go_wp2
          go_loopw [7] (fun i wr => ApRel2 l x k w i wr) (fun i _ => k - (intOf i).toNat)
          case atStart => exact ⟨0, by omega, rfl, fun m h h' => by omega, HQ1.out⟩
          case round =>
            obtain ⟨j, hj, rfl, hne, hq⟩ := hrel
            have HNE := hid hne; have HQ2 := hid hq
            clear hne hq
            by_cases hjk : j < k
            · have hjl : j < l.length := by omega
              obtain ⟨b', off', e', hb', hcell', -⟩ := strs_at HV.out hjl
              injection e' with e'
              injection e' with e1 e2 _
              subst e1; subst e2
              have g1 : wr.cell? ⟨b, off + k, none⟩ = _ := (HQ2.out.cell _).trans HCELL.out
              have g2 : wr.cell? ⟨b, off + j, none⟩ = _ := (HQ2.out.cell _).trans hcell'
              have hex : l[j] = x → ∃ (m : Nat) (h : m < l.length), m < k ∧ l[m] = x := fun h => ⟨j, hjl, hjk, h⟩
              have hst : l[j] ≠ x → ∀ m (h : m < l.length), m < j + 1 → l[m] ≠ x := fun h m hm hmj => by
                by_cases e : m = j
                · subst e; exact h
                · exact HNE.out m hm (by omega)
              generalize l[j] = y at *
              have HEX := hid hex; have HST := hid hst
              clear hcell' hex hst
              by_cases he : y = x
              · have t3 : (y.toList == x.toList) = true := by rw [str_beq, decide_eq_true_eq]; exact he
                have HN := hid (show res = false by rw [HR2.out, E3.out (HEX.out he)]; simp)
                clear he
                go_wp2
                go_quiet (fail)
                go_wp2
                go_ret
                exact ⟨by rw [HN.out]; rfl, HQ2.out.drewN _⟩
              · have t3 : (y.toList == x.toList) = false := by rw [str_beq, decide_eq_false_iff_not]; exact he
                have HST' := hid (HST.out he)
                clear he
                go_wp2
                go_quiet (fail)
                go_wp2
                go_roundw
                case rel => exact ⟨j + 1, by omega, by go_num, HST'.out, HQ2.out.drewN _⟩
                case measure => simp [intOf]; omega
            · have hnot : x ∉ l.take k := fun h => by
                obtain ⟨m, hm, hmk, he⟩ := (mem_take_iff (by omega)).1 h
                exact HNE.out m hm (by omega) he
              have hn1 : (l.take (k + 1)).all nameB = true := by rw [E1.out, List.all_append, HALL.out]; simp [HBN.out]
              have hn2 : (l.take (k + 1)).Nodup := by rw [E1.out]; exact nodup_snoc.2 ⟨HND.out, hnot⟩
              have HN1 := hid hn1; have HN2 := hid hn2
              clear hnot hn1 hn2
              go_wp2
              go_roundw
              case rel =>
                exact ⟨k + 1, by omega, by go_num, HN1.out, HN2.out, HQ2.out⟩
              case measure => simp [intOf]; omega
      · have hall := HALL.out; have hnd := HND.out
        rw [List.take_of_length_le (by omega)] at hall hnd
        have HN := hid (show res = true by rw [HR2.out, hall, decide_eq_true hnd]; rfl)
        clear hall hnd
        go_wp2
        go_ret
        exact ⟨by rw [HN.out]; rfl, HQ.out⟩
end Go.Proofs.Ytompjcadhodapaa
