/- The laws' few: values, the first so many. -/
import Derived.Test.YtafmdpnfigkbfaaCellWalks
namespace Go.Proofs.Ytafmdpnfigkbfaa
open Go.ChangeShapes Go.WideShapes Go.ChangeAt Go.RowKit
set_option linter.unusedVariables false
set_option linter.unusedSimpArgs false

theorem info_ints : (Try.prog.info? 24).map (fun i => (i.zero, i.size, i.bytes)) = some (some (.slice none 0 0), 1, 24) := by kernel_rfl
theorem RowsI.head {w : World} {B n c : Nat} {A : Option Addr} {l : List (List Int)} (h : RowsI w B (.slice A n c) l) (m : Nat) (hm : m ≤ n) : RowsI w B (.slice A m c) (l.take m) := by
  obtain ⟨A', c', e, h1, h2, h3⟩ := h
  injection e with e1 e2 e3
  subst e1; subst e2; subst e3
  have hl : (l.take m).length = m := by rw [List.length_take]; omega
  refine ⟨A, c, by rw [hl], by omega, h2, fun i hi => ?_⟩
  obtain ⟨b, off, u, g1, g2, g3, g4⟩ := h3 i (by omega)
  refine ⟨b, off, u, g1, g2, g3, ?_⟩
  rw [show (l.take m).getD i [] = l.getD i [] by rw [List.getD_eq_getElem?_getD, List.getD_eq_getElem?_getD, List.getElem?_take, if_pos (by omega)]]
  exact g4
def fewL (m : Nat) (l : List (List Int)) : List (List Int) := (l.take m).map (fun v => v.take 5)
def FewRel (L : List (List Int)) (w : World) (out i : Value) (wr : World) : Prop :=
  ∃ (k : Nat) (vs : List Value), k ≤ L.length ∧ i = .int .i64 k ∧ wr.ownsRow w.heap.size 24 1 out k vs ∧ (∀ j, j < k → Sl w w.heap.size (vs.getD j undef) (ivals ((L.getD j []).take 5))) ∧ Below w.heap.size w wr
def FewPost (L : List (List Int)) (w : World) (e : Ending) (w' : World) : Prop := ∃ v, e = .returned v ∧ RowsI w' w'.heap.size v L ∧ Below w.heap.size w w'
theorem Sl.head' {w : World} {B : Nat} {A : Option Addr} {n c : Nat} {r : List Int} (m : Nat) (h : Sl w B (.slice A n c) (ivals r)) (hm : m ≤ n) : Sl w B (.slice A m c) (ivals (r.take m)) := by
  have := Sl.head m h hm
  rwa [show (ivals r).take m = ivals (r.take m) by simp [ivals]] at this
theorem own_app_rel {L : List (List Int)} {w : World} {vs : List Value} {k : Nat} {u : Value} (hl : vs.length = k) (h : ∀ j, j < k → Sl w w.heap.size (vs.getD j undef) (ivals ((L.getD j []).take 5))) (hu : Sl w w.heap.size u (ivals ((L.getD k []).take 5))) :
    ∀ j, j < k + 1 → Sl w w.heap.size ((vs ++ [u]).getD j undef) (ivals ((L.getD j []).take 5)) := fun j hj => by
  rcases Nat.lt_or_ge j k with hlt | hge
  · rw [List.getD_eq_getElem?_getD, List.getElem?_append_left (by omega), ← List.getD_eq_getElem?_getD]
    exact h j hlt
  · obtain rfl : j = k := by omega
    rw [List.getD_eq_getElem?_getD, List.getElem?_append_right (by omega), hl, Nat.sub_self]
    exact hu
set_option maxRecDepth 100000 in
set_option maxHeartbeats 1600000 in
theorem few_any (m : Nat) (v : Value) (l : List (List Int)) (w : World) (hv : RowsI w w.heap.size v l) (hm : m ≤ 1000) :
    Calls Try.prog 10 #[v, .int .i64 (m : Int)] w (FewPost (fewL m l) w) := by
  obtain ⟨i0, hi, hz0, hz1, hz2⟩ := info_parts info_ints
  have hv0 := hv
  obtain ⟨A, c, rfl, hc, hcm, -⟩ := hv
  have hcut : ∃ L : List (List Int), fewL m l = L.map (fun v => v.take 5) ∧ L.length ≤ m ∧ (((m : Int) < (l.length : Int) ∧ m ≤ l.length ∧ L.length = m ∧ RowsI w w.heap.size (.slice A m c) L) ∨ (¬ (m : Int) < (l.length : Int) ∧ L.length = l.length ∧ RowsI w w.heap.size (.slice A l.length c) L)) := by
    by_cases h : m < l.length
    · exact ⟨l.take m, rfl, by rw [List.length_take]; omega, .inl ⟨by omega, by omega, by rw [List.length_take]; omega, hv0.head m (by omega)⟩⟩
    · exact ⟨l, by unfold fewL; rw [List.take_of_length_le (by omega)], by omega, .inr ⟨by omega, rfl, hv0⟩⟩
  obtain ⟨L, hL, hLm, hcut⟩ := hcut
  rw [hL]
  unfold maxLen at hcm
  clear hL hv0
  go_enter Try.func10, Try.ntmps10
  rcases hcut with ⟨z, zl, zL, hrows⟩ | ⟨z, zL, hrows⟩
  all_goals
    have HRO := hid hrows
    clear hrows
    rw [← zL] at HRO
    have HZ := hid zL
    clear zL
    go_wp2
    rw [← HZ.out]
    go_loopw [5, 6] (fun out i wr => FewRel L w out i wr) (fun _ i _ => L.length - (intOf i).toNat)
    case atStart => exact ⟨0, [], by omega, rfl, World.ownsRow_nil _ _ _ _, fun j hj => by omega, Below.refl _ _⟩
    case round =>
      obtain ⟨k, vs, hk, rfl, hown, hsl, hb⟩ := hrel
      have HSL := hid hsl; have HB := hid hb
      have hbs := hb.size
      have hlen : vs.length = k := by have := hown.1; omega
      have HLEN := hid hlen
      clear hsl hb hlen
      by_cases hlt : k < L.length
      · obtain ⟨A', c', e, -, -, hrow⟩ := HRO.out
        injection e with e1 _ e3
        subst e1; subst e3
        obtain ⟨b, off, u, rfl, hb, hcu, hsu⟩ := hrow k hlt
        have HU := hid hsu
        obtain ⟨Ar, cr, rfl, hcr, hcmr⟩ := hsu.formI
        unfold maxLen at hcmr
        have hcw := cellK HB.out hb hcu
        clear hrow hsu hcu
        have hx : ((5 : Int) < ((L.getD k []).length : Int) ∧ 5 ≤ (L.getD k []).length ∧ Sl w w.heap.size (.slice Ar 5 cr) (ivals ((L.getD k []).take 5))) ∨ (¬ (5 : Int) < ((L.getD k []).length : Int) ∧ Sl w w.heap.size (.slice Ar (L.getD k []).length cr) (ivals ((L.getD k []).take 5))) := by
          by_cases h : 5 < (L.getD k []).length
          · exact .inl ⟨by omega, by omega, HU.out.head' 5 (by omega)⟩
          · exact .inr ⟨by omega, by rw [List.take_of_length_le (by omega)]; exact HU.out⟩
        rcases hx with ⟨y, y5, hs⟩ | ⟨y, hs⟩
        all_goals
          have HX := hid (own_app_rel HLEN.out HSL.out hs)
          clear hs
          generalize (L.getD k []).length = rl at *
          go_wp2_with (at_builtin; refine stop_here ?_)
          refine go_on ?_
          refine app_own (.tmp 30) (.tmp 32) 22 22 rfl rfl w.heap.size 24 i0 (.slice none 0 0) 1 24 Try.underlying22 hi hz0 hz1 hz2 rfl (by decide) _ _ _ rfl (hown.alloc _) (.slice (some ⟨wr.heap.size, 0, none⟩) 1 1) 1 [_] rfl (Src.ofSlice _ Try.underlying22 _ 1 1 _ rfl (cell_one_at _ _ _ rfl) (by simp; rfl)) (by first | omega | (simp only [maxLen]; omega)) (by first | omega | (simp only [maxLen]; omega)) (by rw [World.size_alloc]; omega) ?_
          intro v' w' hown' hg' hb'
          have HO' := hid hown'; have HBW := hid ((HB.out.alloc hbs _).trans hb')
          clear hown' hg' hb'
          go_wp2
          go_roundw
          case rel => exact ⟨k + 1, _, by omega, by go_num, HO'.out, HX.out, HBW.out⟩
          case measure => simp [intOf]; omega
      · obtain rfl : k = L.length := by omega
        have HOW := hid hown
        clear hown
        have hfin : RowsI wr wr.heap.size u5 (L.map fun v => v.take 5) := by
          obtain ⟨A2, c2, e, h1, h2, h3⟩ := own_cells HOW.out
          rw [e]
          have hown := HOW.out
          rw [e] at hown
          refine ⟨A2, c2, by rw [List.length_map], by rw [List.length_map]; exact h1, h2, fun i hi => ?_⟩
          rw [List.length_map] at hi
          obtain ⟨g, rfl, -, hg, -⟩ := h3 (by omega)
          have hc2 := hown.cellAt (g := g) i (by omega)
          have hvl : i < vs.length := by rw [HLEN.out]; exact hi
          refine ⟨g, 0, vs.getD i undef, rfl, hg, ?_, ?_⟩
          · rw [Nat.zero_add, hc2, List.getD_eq_getElem?_getD, List.getElem?_eq_getElem hvl]; rfl
          · have hm1 : (L.map (fun v => v.take 5)).getD i [] = (L.getD i []).take 5 := by
              simp [List.getD_eq_getElem?_getD, List.getElem?_eq_getElem hi]
            rw [hm1]
            exact ((HSL.out i hi).below HB.out).more hbs
        have HFIN := hid hfin
        clear hfin HOW
        go_wp2
        go_ret
        exact ⟨_, rfl, HFIN.out, HB.out⟩
end Go.Proofs.Ytafmdpnfigkbfaa
