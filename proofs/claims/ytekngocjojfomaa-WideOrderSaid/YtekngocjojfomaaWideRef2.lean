/- Contracts of the reference's rows of bits: Wide, Int, Less, Total, May. -/
import Derived.Test.YtekngocjojfomaaWideRef
namespace Go.Proofs.Ytekngocjojfomaa
open Go.ChangeShapes Go.WideShapes Go.ChangeAt Go.RowKit
set_option linter.unusedVariables false

theorem cells_ivals {w : World} {b off n : Nat} {l : List Int} (hn : l.length = n) (h : ∀ j, j < n → w.cell? ⟨b, off + j, none⟩ = some (.int .i64 (l.getD j 0))) :
    ∀ j u, (ivals l)[j]? = some u → w.cell? ((⟨b, off, none⟩ : Addr).add j) = some u := by
  subst hn
  refine cells_add fun j u hu => ?_
  simp only [ivals, List.getElem?_map, Option.map_eq_some_iff] at hu
  obtain ⟨x, hx, rfl⟩ := hu
  rw [h j (List.getElem?_eq_some_iff.1 hx).1, List.getD_eq_getElem?_getD, hx]; rfl
theorem getD_bits_le (z : Int) (n m j : Nat) (hm : m ≤ n) (hj : j < m) : (bits z m).getD j 0 = (bits z n).getD j 0 := by
  rw [bits_getD _ _ _ hj, bits_getD _ _ _ (by omega)]

def RefWidePost (hi lo : Int) (w : World) (e : Ending) (w' : World) : Prop := ∃ v, e = .returned v ∧ Sl w' w'.heap.size v (ivals (bits (hi * 4294967296 + lo) 80)) ∧ Below w.heap.size w w'
set_option maxHeartbeats 400000 in
theorem refWide_any (hi lo : Int) (w : World) (h1 : 0 ≤ lo) (h2 : lo < 4294967296) :
    Calls Try.prog 24 #[.int .i64 hi, .int .i64 lo] w (RefWidePost hi lo w) := by
  obtain ⟨i0, hi0, hz0, hz1, hz2⟩ := info_parts info_int
  have H1 := hid h1; have H2 := hid h2
  clear h1 h2
  go_enter Try.func24, Try.ntmps24
  go_wp2_with fail
  refine (refOf_any _ _).mono ?_
  rintro e w1 ⟨va, rfl, hva, hb1⟩
  go_wp2_with fail
  refine (refOf_any _ _).mono ?_
  rintro e w2 ⟨vb, rfl, hvb, hb2⟩
  obtain ⟨b, off, c, rfl, hc1, hc2, hbl, hcell⟩ := (hva.below hb2).ints (by simp [bits_length])
  obtain ⟨b', off', c', rfl, hc1', hc2', hbl', hcell'⟩ := hvb.ints (by simp [bits_length])
  simp only [bits_length] at *
  have HX := hid hcell; have HY := hid hcell'
  clear hva hvb hcell hcell'
  have hs1 := hb1.size
  have hs2 := hb2.size
  go_wp2_with (at_builtin; refine stop_here ?_)
  refine go_on ?_
  refine wpList_append_own _ rfl _ _ 30 rfl w2.heap.size 3 i0 (.int .i64 0) 1 8 Try.underlying30 hi0 hz0 hz1 hz2 rfl (by decide) (.slice none 0 0) 0 [] rfl (World.ownsRow_nil _ _ _ _) ⟨b, off, none⟩ 32 c (ivals (bits lo 32)) rfl (by simp [ivals_len, bits_length]) ?_ (ints_oneCell _ _) (by simp [maxLen]) (by omega) (by omega) ?_
  · exact cells_ivals (bits_length _ _) fun j hj => by rw [HX.out j (by omega), getD_bits_le lo 80 32 j (by omega) hj]
  intro v' w3 hown3 hg3 _
  have hb3 : Below w2.heap.size w2 w3 := (Below.refl _ _).grown hg3 (Nat.le_refl _) (by simp [Value.ownBlock])
  have hs3 := hb3.size
  go_wp2_with (at_builtin; refine stop_here ?_)
  refine go_on ?_
  refine wpList_append_own _ rfl _ _ 30 rfl w2.heap.size 3 i0 (.int .i64 0) 1 8 Try.underlying30 hi0 hz0 hz1 hz2 rfl (by decide) v' _ _ rfl hown3 ⟨b', off', none⟩ 48 c' (ivals (bits hi 48)) rfl (by simp [ivals_len, bits_length]) ?_ (ints_oneCell _ _) (by simp [maxLen]) (by omega) (by omega) ?_
  · exact cells_ivals (bits_length _ _) fun j hj => by
      rw [hb3.cell (p := ⟨b', off' + j, none⟩) hbl', HY.out j (by omega), getD_bits_le hi 80 48 j (by omega) hj]
  intro v'' w4 hown4 hg4 _
  have hb4 : Below w2.heap.size w3 w4 := (Below.refl _ _).grown hg4 (by omega) (fun j hj => (hown3.lt j hj).1)
  go_wp2
  go_ret
  refine ⟨_, rfl, ?_, (hb1.trans (hb2.mono hs1)).trans (((hb3.trans hb4)).mono (by omega))⟩
  have e : [] ++ ivals (bits lo 32) ++ ivals (bits hi 48) = ivals (bits (hi * 4294967296 + lo) 80) := by
    unfold ivals
    rw [List.nil_append, ← List.map_append, bits_append]
    have h1 := H1.out; have h2 := H2.out
    rw [show (2 : Int) ^ 32 = 4294967296 by rfl, Int.emod_eq_of_lt h1 h2]
  rw [← e]
  exact Sl.of_own hown4

def RefMayB (hi lo : Int) : Bool := decide (0 ≤ lo ∧ lo < 4294967296 ∧ -1099511627776 ≤ hi ∧ hi ≤ 1099511627776)
theorem refMay_yes (hi lo : Int) (w : World) (h1 : 0 ≤ lo) (h2 : lo < 4294967296) (h3 : -1099511627776 ≤ hi) (h4 : hi ≤ 1099511627776) :
    Calls Try.prog 22 #[.int .i64 hi, .int .i64 lo] w fun e w' => e = .returned (.bool true) ∧ w' = w := by
  go_enter Try.func22, Try.ntmps22
  go_wp2
  go_ret
  exact ⟨rfl, rfl⟩
theorem refMay_any (hi lo : Int) (w : World) :
    Calls Try.prog 22 #[.int .i64 hi, .int .i64 lo] w fun e w' => e = .returned (.bool (RefMayB hi lo)) ∧ w' = w := by
  go_enter Try.func22, Try.ntmps22
  go_wp2
  all_goals go_ret
  all_goals refine ⟨?_, rfl⟩
  all_goals refine ret_bool ?_
  all_goals unfold RefMayB
  all_goals first | (symm; rw [decide_eq_true_eq]; omega) | (symm; rw [decide_eq_false_iff_not]; omega) | (rw [decide_eq_decide]; omega)

end Go.Proofs.Ytekngocjojfomaa
