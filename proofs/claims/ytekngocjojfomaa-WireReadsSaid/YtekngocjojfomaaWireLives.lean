/- The statements' own example of layer 2: lives answers true. -/
import Derived.Test.YtekngocjojfomaaWireText2
import Derived.Test.YtekngocjojfomaaWireLaw
namespace Go.Proofs.Ytekngocjojfomaa
open Go.ChangeShapes Go.WideShapes Go.ChangeAt Go.RowKit
set_option linter.unusedVariables false

theorem bytes_lit (w : World) (l : List UInt8) (n : Nat) (hn : l.length = n) (hn' : n ≤ 1000) : Sl (w.alloc (.cells (bvals l).toArray 5)) (w.heap.size + 1) (.slice (some ⟨w.heap.size, 0, none⟩) n n) (bvals l) := by
  subst hn
  refine ⟨_, _, by rw [bvals_len], by rw [bvals_len]; exact Nat.le_refl _, by unfold maxLen; omega, fun _ => ⟨w.heap.size, 0, rfl, by omega, fun j u hu => ?_⟩⟩
  rw [World.cell?_alloc_at _ _ _ _ rfl]
  simpa using hu
theorem bytes_at (w : World) (N : Nat) (l : List UInt8) (n : Nat) (hn : l.length = n) (hn' : n ≤ 1000) (hN : w.heap.size = N) : Sl (w.alloc (.cells (bvals l).toArray 5)) (w.alloc (.cells (bvals l).toArray 5)).heap.size (.slice (some ⟨N, 0, none⟩) n n) (bvals l) := by
  subst hN
  exact (bytes_lit w l n hn hn').more (by simp)
theorem put65 : putInt (-65) = [129, 1] := by decide
def Put65 (w : World) (e : Ending) (w' : World) : Prop := ∃ b c, e = .returned (.slice (some ⟨b, 0, none⟩) 2 c) ∧ 2 ≤ c ∧ c ≤ maxLen ∧ b < w'.heap.size ∧ w'.cell? ⟨b, 0, none⟩ = some (.int .u8 129) ∧ w'.cell? ⟨b, 1, none⟩ = some (.int .u8 1) ∧ Below w.heap.size w w'
theorem put65_any (w : World) : Calls Try.prog 36 #[.slice none 0 0, .int .i64 (-65)] w (Put65 w) := by
  refine (putInt_any (.slice none 0 0) [] (-65) w Sl.nil_ (by simp) (by omega) (by omega)).mono ?_
  rintro e w1 ⟨v, rfl, hown, hb⟩
  rw [put65] at hown
  obtain ⟨h1, h2⟩ := id hown
  rcases h2 with ⟨rfl, h⟩ | ⟨g, cap, cur, rfl, hbg, hg, hnc, hcm, hcs, htk⟩
  · simp at h
  · have c0 := hown.cellAt (g := g) 0 (by simp)
    have c1 := hown.cellAt (g := g) 1 (by simp)
    exact ⟨g, cap, rfl, hnc, hcm, (hown.lt g rfl).2, c0, c1, hb⟩
set_option maxRecDepth 100000 in
set_option maxHeartbeats 800000 in
theorem livesW_true (w : World) : Calls Try.prog 35 #[] w (Gives (.bool true) w) := by
  have g1 := fun v W h => getInt_any v [2, 9] W h (by simp)
  have g2 := fun v W h => getInt_any v [128] W h (by simp)
  rw [show getInt [2, 9] = (1, 1, 0) by decide] at g1
  rw [show getInt [128] = (0, 0, 3) by decide] at g2
  have n1 := fun v W h => new_any v [4, 97, 98] W h (by simp)
  have t1 := fun B p W h => readText_any B p [4, 97, 98] 0 0 3 W h
  rw [show rText [4, 97, 98] 0 0 3 = ([97, 98], 3, 0) by decide] at t1
  have e1 := fun B p W h => readEnd_any B p [4, 97, 98] 3 0 W h
  rw [show rEnd [4, 97, 98] 3 0 = 0 by decide] at e1
  have a1 := fun B p W h => readAt_any B p [4, 97, 98] 3 0 W h
  have G1 := hid g1; have G2 := hid g2; have N1 := hid n1; have T1 := hid t1; have E1 := hid e1; have A1 := hid a1
  clear g1 g2 n1 t1 e1 a1
  go_enter Try.func35, Try.ntmps35
  go_wp2_with fail
  refine (put65_any _).mono ?_
  rintro e w1 ⟨b, c, rfl, hc, hcm, hlt, c0, c1, hb1⟩
  unfold maxLen at hcm
  go_wp2_with fail
  refine (G1.out _ _ (bytes_at _ _ [2, 9] 2 rfl (by omega) (by simp))).mono ?_
  rintro e w2 ⟨rfl, rfl⟩
  go_wp2_with fail
  refine (G2.out _ _ (bytes_at _ _ [128] 1 rfl (by omega) (by simp))).mono ?_
  rintro e w3 ⟨rfl, rfl⟩
  go_wp2_with fail
  refine (N1.out _ _ (bytes_at _ _ [4, 97, 98] 3 rfl (by omega) (by simp))).mono ?_
  rintro e w4 ⟨p, rfl, hr, hp, hb4⟩
  have d0 := cellK hb4 (by simp; omega) (cell_alloc (o := .cells (bvals [4, 97, 98]).toArray 5) (by simp; omega) (cell_alloc (o := .cells (bvals [128]).toArray 5) (by simp; omega) (cell_alloc (o := .cells (bvals [2, 9]).toArray 5) hlt c0)))
  have d1 := cellK hb4 (by simp; omega) (cell_alloc (o := .cells (bvals [4, 97, 98]).toArray 5) (by simp; omega) (cell_alloc (o := .cells (bvals [128]).toArray 5) (by simp; omega) (cell_alloc (o := .cells (bvals [2, 9]).toArray 5) hlt c1)))
  have hpb : b < p := by simp at hp; omega
  have HR := hid hr; clear hr c0 c1
  go_wp2_with fail
  refine (T1.out _ _ _ HR.out).mono ?_
  rintro e w5 ⟨rfl, hr5, hu5⟩
  have x0 : w5.cell? ⟨b, 0, none⟩ = some (.int .u8 129) := (hu5.below (B := p) (Nat.le_refl _) HR.out.lt).cell (p := ⟨b, 0, none⟩) hpb |>.trans d0
  have x1 : w5.cell? ⟨b, 1, none⟩ = some (.int .u8 1) := (hu5.below (B := p) (Nat.le_refl _) HR.out.lt).cell (p := ⟨b, 1, none⟩) hpb |>.trans d1
  have HR5 := hid hr5; clear hr5 d0 d1
  have HU5 := hid hu5; clear hu5
  go_wp2_with fail
  refine (E1.out _ _ _ HR5.out).mono ?_
  rintro e w6 ⟨rfl, n6, rfl⟩
  go_wp2_with fail
  refine (A1.out _ _ _ (HR5.out.qu ⟨_, rfl⟩)).mono ?_
  rintro e w7 ⟨rfl, n7, rfl⟩
  go_wp2
  go_ret
  refine ⟨rfl, ?_⟩
  have hs1 := hb1.size
  have k4 := hb4.mono (show w.heap.size ≤ _ by simp; omega)
  have k5 := (HU5.out.below (B := w.heap.size) (by simp at hp; omega) HR.out.lt)
  exact below_drewN ((hb1.trans ((((Below.refl _ _).alloc hs1 _).alloc (by simp; omega) _).alloc (by simp; omega) _)).trans (k4.trans k5)) _
end Go.Proofs.Ytekngocjojfomaa
