/- 1 text of this claim, in build order. -/
import Derived.Test.YtclhnnidbhchnaaPanfhakag
/- The law's few (layer 10). -/
namespace Go.Proofs.Ytclhnnidbhchnaa
open Go.ChangeShapes Go.WideShapes Go.ChangeAt Go.RowKit
set_option linter.unusedVariables false
set_option linter.unusedSimpArgs false

def few10 (l : List (List Int)) : List (List Int) := (l.take 5).map fun x => x.take 45
theorem few10_len (l : List (List Int)) : (few10 l).length ≤ 5 := by unfold few10; rw [List.length_map, List.length_take]; omega
/-- Rows that are built: element j's list reads as the j-th. -/
def RowsR (w : World) (B : Nat) (us : List Value) (ks : List (List Int)) : Prop := us.length = ks.length ∧ ∀ i, i < ks.length → Sl w B (us.getD i undef) (ivals (ks.getD i []))
theorem RowsR.below {w w' : World} {B : Nat} {us : List Value} {ks : List (List Int)} (h : RowsR w B us ks) (hb : Below B w w') : RowsR w' B us ks := ⟨h.1, fun i hi => (h.2 i hi).below hb⟩
theorem RowsR.app {w : World} {B : Nat} {us : List Value} {ks : List (List Int)} {u : Value} {k : List Int} (h : RowsR w B us ks) (hu : Sl w B u (ivals k)) : RowsR w B (us ++ [u]) (ks ++ [k]) := by
  refine ⟨by simp [h.1], fun i hi => ?_⟩
  rcases Nat.lt_or_ge i ks.length with hlt | hge
  · rw [List.getD_eq_getElem?_getD, List.getElem?_append_left (by rw [h.1]; exact hlt), ← List.getD_eq_getElem?_getD, List.getD_eq_getElem?_getD (l := ks ++ [k]), List.getElem?_append_left hlt, ← List.getD_eq_getElem?_getD]
    exact h.2 i hlt
  · obtain rfl : i = ks.length := by simp at hi; omega
    rw [List.getD_eq_getElem?_getD, List.getElem?_append_right (by rw [h.1]; exact Nat.le_refl _), List.getD_eq_getElem?_getD (l := ks ++ [k]), List.getElem?_append_right (Nat.le_refl _), h.1, Nat.sub_self]
    exact hu
/-- A built row is read as rows. -/
theorem rows_of_own {w : World} {base B n : Nat} {v : Value} {us : List Value} {ks : List (List Int)} (h : w.ownsRow base 23 1 v n us) (hr : RowsR w B us ks) (hn : n = ks.length) (hB : B ≤ w.heap.size) : RowsI w w.heap.size v ks := by
  subst hn
  have h' := h
  obtain ⟨A, c, rfl, h1, h2, h3⟩ := own_cells h
  refine ⟨A, c, rfl, h1, h2, fun i hi => ?_⟩
  obtain ⟨g, rfl, -, hg, -⟩ := h3 (by omega)
  have hc := h'.cellAt (g := g) i (by omega)
  refine ⟨g, 0, us.getD i undef, rfl, hg, ?_, (hr.2 i hi).more hB⟩
  rw [Nat.zero_add, hc, List.getD_eq_getElem?_getD, List.getElem?_eq_getElem (by rw [hr.1]; exact hi)]; rfl
theorem few10_succ {l : List (List Int)} {k : Nat} (hk : k < l.length) (h5 : k < 5) : few10 (l.take (k + 1)) = few10 (l.take k) ++ [(l.getD k []).take 45] := by
  unfold few10
  rw [List.take_of_length_le (l := l.take (k + 1)) (by rw [List.length_take]; omega), List.take_of_length_le (l := l.take k) (by rw [List.length_take]; omega), List.take_succ_eq_append_getElem hk, List.map_append]
  simp [List.getD_eq_getElem?_getD, hk]
def FwRel (l : List (List Int)) (w : World) (out i : Value) (wr : World) : Prop :=
  ∃ (k : Nat) (us : List Value), k ≤ l.length ∧ k ≤ 5 ∧ i = .int .i64 k ∧ wr.ownsRow w.heap.size 23 1 out k us ∧ RowsR wr w.heap.size us (few10 (l.take k)) ∧ Below w.heap.size w wr
def FwP (l : List (List Int)) (w : World) (e : Ending) (w' : World) : Prop := ∃ v, e = .returned v ∧ RowsI w' w'.heap.size v (few10 l) ∧ Below w.heap.size w w'
theorem info_intsF : (Try.prog.info? 23).map (fun i => (i.zero, i.size, i.bytes)) = some (some (.slice none 0 0), 1, 24) := by kernel_rfl
set_option maxRecDepth 100000 in
set_option maxHeartbeats 3200000 in
theorem few10_any (v : Value) (l : List (List Int)) (w : World) (hv : RowsI w w.heap.size v l) : Calls Try.prog 15 #[v] w (FwP l w) := by
  obtain ⟨i0, hi, hz0, hz1, hz2⟩ := info_parts info_intsF
  obtain ⟨A, c, rfl, hcl, hcm, hrow⟩ := hv
  unfold maxLen at hcm
  have HROW := hid hrow
  clear hrow
  go_enter Try.func15, Try.ntmps15
  go_wp2
  go_loopw [3, 4] (fun out i wr => FwRel l w out i wr) (fun _ i _ => l.length - (intOf i).toNat)
  case atStart => exact ⟨0, [], by omega, by omega, rfl, World.ownsRow_nil _ _ _ _, ⟨rfl, fun i hi => by simp [few10] at hi⟩, Below.refl _ _⟩
  case round =>
    obtain ⟨k, us, hk, hk5, rfl, hown, hrr, hb⟩ := hrel
    have hsb := hb.size
    by_cases hlt : k < l.length
    · by_cases h5 : k < 5
      · obtain ⟨b, off, u, rfl, hbl, hcu, hsu⟩ := HROW.out k hlt
        have hcw := cellK hb hbl hcu
        have hfs := few10_succ hlt h5
        have hlk : (few10 (l.take k)).length = k := by unfold few10; rw [List.length_map, List.length_take, List.length_take]; omega
        generalize l.getD k [] = x at *
        obtain ⟨Al, cl, rfl, hcl2, hcm2⟩ := hsu.formI
        unfold maxLen at hcm2
        have HOW := hid hown; have HRR := hid hrr; have HB := hid hb; have HFS := hid hfs
        have hx : ((45 : Int) < (x.length : Int) ∧ 45 ≤ x.length ∧ Sl w w.heap.size (.slice Al 45 cl) (ivals (x.take 45))) ∨ (¬ (45 : Int) < (x.length : Int) ∧ Sl w w.heap.size (.slice Al x.length cl) (ivals (x.take 45))) := by
          by_cases h : 45 < x.length
          · have := hsu.head (m := 45) (by omega)
            exact .inl ⟨by omega, by omega, by simpa [ivals, List.map_take] using this⟩
          · exact .inr ⟨by omega, by rw [List.take_of_length_le (by omega)]; exact hsu⟩
        clear hown hrr hb hcu hsu hfs
        rcases hx with ⟨y, y5, hs⟩ | ⟨y, hs⟩
        all_goals
          have HX := hid (HRR.out.app (hs.below HB.out))
          clear hs
          generalize x.length = rl at *
          go_wp2_with (at_builtin; refine stop_here ?_)
          refine go_on ?_
          refine app_own (.tmp 25) (.tmp 27) 33 33 rfl rfl w.heap.size 23 i0 (.slice none 0 0) 1 24 Try.underlying33 hi hz0 hz1 hz2 rfl (by decide) _ _ _ rfl (HOW.out.alloc _) (.slice (some ⟨wr.heap.size, 0, none⟩) 1 1) 1 [_] rfl (Src.ofSlice _ Try.underlying33 _ 1 1 _ rfl (cells_new_at _ _ _ rfl) (by simp; rfl)) (by simp only [maxLen]; omega) (by omega) (by rw [World.size_alloc]; omega) ?_
          intro v' w' hown' hg' hb'
          have HO' := hid hown'
          have HBX := hid ((HB.out.alloc hsb _).trans hb')
          have HXX := hid ((HX.out.below ((Below.refl wr.heap.size wr).mono hsb |>.alloc hsb _ |>.trans hb')))
          clear hown' hg' hb'
          go_wp2
          go_roundw
          case rel => exact ⟨k + 1, _, by omega, by omega, by go_num, HO'.out, by rw [HFS.out]; exact HXX.out, HBX.out⟩
          case measure => simp [intOf]; omega
      · obtain rfl : k = 5 := by omega
        have e : few10 (l.take 5) = few10 l := by unfold few10; rw [List.take_take]; rfl
        rw [e] at hrr
        have hl5 : (few10 l).length = 5 := by unfold few10; rw [List.length_map, List.length_take]; omega
        have HRW := hid (rows_of_own hown hrr hl5.symm hsb); have HB := hid hb
        clear hown hrr hb e
        go_wp2
        go_ret
        exact ⟨_, rfl, HRW.out, HB.out⟩
    · obtain rfl : k = l.length := by omega
      rw [List.take_length] at hrr
      have hl5 : (few10 l).length = l.length := by unfold few10; rw [List.length_map, List.length_take]; omega
      have HRW := hid (rows_of_own hown hrr hl5.symm hsb); have HB := hid hb
      clear hown hrr hb
      go_wp2
      go_ret
      exact ⟨_, rfl, HRW.out, HB.out⟩
end Go.Proofs.Ytclhnnidbhchnaa
