/- 2 texts of this claim, in build order. -/
import Derived.Test.YtkgifbnkkmeoiaaGreatDoorPbgdejipc
import Derived.Test.YtkgifbnkkmeoiaaGreatDoorPkdfgmfbn
import Derived.Test.YtkgifbnkkmeoiaaGreatDoorPcononjpe
import Derived.Deep.AppendLies
/- The Readers (the program's and the reference's): their state, and what each method does to it. -/
namespace Go.Proofs.YtkgifbnkkmeoiaaGreatDoor
open Go.ChangeShapes Go.WideShapes Go.ChangeAt Go.RowKit
set_option linter.unusedVariables false

/-- At p lies a reader of the bytes l (they lie below B), at place a, with error e. -/
def RW (w : World) (B p : Nat) (l : List UInt8) (a : Nat) (e : Int) : Prop :=
  B ≤ p ∧ a ≤ l.length ∧ l.length ≤ 140737488355328 ∧ (∀ i, i < 3 → w.frozen? ⟨p, i, none⟩ = false) ∧ ∃ s, w.cell? ⟨p, 0, none⟩ = some s ∧ w.cell? ⟨p, 1, none⟩ = some (.int .i64 a) ∧ w.cell? ⟨p, 2, none⟩ = some (.int .i64 e) ∧ Sl w B s (bvals l)
theorem RW.lt {w : World} {B p a : Nat} {l : List UInt8} {e : Int} (h : RW w B p l a e) : p < w.heap.size := by
  obtain ⟨_, _, _, _, s, h0, _⟩ := h
  exact World.block_lt_of_cell? w _ h0
/-- A reader that is not the one at q is as it was. -/
theorem RW.far {w w' : World} {B p q a : Nat} {l : List UInt8} {e : Int} (h : RW w B p l a e) (hu : Upd q w w') (hq : B ≤ q) (hne : p ≠ q) : RW w' B p l a e := by
  have hlt := h.lt
  obtain ⟨h1, h2, h3, h4, s, h5, h6, h7, h8⟩ := h
  have hc : ∀ b i, b < w.heap.size → b ≠ q → w'.cell? ⟨b, i, none⟩ = w.cell? ⟨b, i, none⟩ := fun b i hb hbq => World.grownBy.cell_far hu _ hb (fun h => hbq (by injection h))
  refine ⟨h1, h2, h3, fun i hi => ?_, s, (hc _ _ hlt hne).trans h5, (hc _ _ hlt hne).trans h6, (hc _ _ hlt hne).trans h7, ?_⟩
  · rw [World.grownBy.frozen_far hu _ hlt (fun h => hne (by injection h))]; exact h4 i hi
  · obtain ⟨A, c, g1, g2, g3, g4⟩ := h8
    refine ⟨A, c, g1, g2, g3, fun h0 => ?_⟩
    obtain ⟨b, off, g5, g6, g7⟩ := g4 h0
    exact ⟨b, off, g5, g6, fun j u hj => (hc _ _ (by omega) (by omega)).trans (g7 j u hj)⟩

theorem RW.qu {w w' : World} {B p a : Nat} {l : List UInt8} {e : Int} (h : RW w B p l a e) (k : Qu w w') : RW w' B p l a e := by
  obtain ⟨n, rfl⟩ := k
  exact h
theorem RW.setE {w : World} {B p a : Nat} {l : List UInt8} {e : Int} (h : RW w B p l a e) (e' : Int) : RW (w.setCell ⟨p, 2, none⟩ (.int .i64 e')) B p l a e' := by
  obtain ⟨h1, h2, h3, h4, s, h5, h6, h7, h8⟩ := h
  refine ⟨h1, h2, h3, fun i hi => frozen_far (h4 i hi), s, cell_beside (by decide) h5, cell_beside (by decide) h6, cell_here h7, ?_⟩
  obtain ⟨A, c, g1, g2, g3, g4⟩ := h8
  refine ⟨A, c, g1, g2, g3, fun h0 => ?_⟩
  obtain ⟨b, off, g5, g6, g7⟩ := g4 h0
  exact ⟨b, off, g5, g6, fun j u hj => cell_far (by omega) (g7 j u hj)⟩
theorem RW.setA {w : World} {B p a : Nat} {l : List UInt8} {e : Int} (h : RW w B p l a e) {a' : Nat} (ha : a' ≤ l.length) : RW (w.setCell ⟨p, 1, none⟩ (.int .i64 (a' : Int))) B p l a' e := by
  obtain ⟨h1, h2, h3, h4, s, h5, h6, h7, h8⟩ := h
  refine ⟨h1, ha, h3, fun i hi => frozen_far (h4 i hi), s, cell_beside (by decide) h5, cell_here h6, cell_beside (by decide) h7, ?_⟩
  obtain ⟨A, c, g1, g2, g3, g4⟩ := h8
  refine ⟨A, c, g1, g2, g3, fun h0 => ?_⟩
  obtain ⟨b, off, g5, g6, g7⟩ := g4 h0
  exact ⟨b, off, g5, g6, fun j u hj => cell_far (by omega) (g7 j u hj)⟩
/-- The bytes from a place on. -/
theorem sl_drop {w w' : World} {B C a c : Nat} {A A' : Option Addr} {l : List UInt8} (h : 0 < (bvals l).length → ∃ b off, A = some ⟨b, off, none⟩ ∧ b < B ∧ ∀ j u, (bvals l)[j]? = some u → w.cell? ⟨b, off + j, none⟩ = some u)
    (hA : a < l.length → ∀ b off, A = some ⟨b, off, none⟩ → A' = some ⟨b, off + a, none⟩) (hc : l.length ≤ c) (hm : c ≤ maxLen) (hB : B ≤ C) (hw : Qu w w') : Sl w' C (.slice A' (l.length - a) (c - a)) (bvals (l.drop a)) := by
  refine ⟨A', c - a, by rw [bvals_len, List.length_drop], by rw [bvals_len, List.length_drop]; omega, by omega, fun h0 => ?_⟩
  rw [bvals_len, List.length_drop] at h0
  obtain ⟨b, off, h1, h2, h3⟩ := h (by rw [bvals_len]; omega)
  refine ⟨b, off + a, hA (by omega) b off h1, by omega, fun j u hu => ?_⟩
  rw [hw.cell, Nat.add_assoc]
  refine h3 _ _ ?_
  simpa [bvals, List.getElem?_drop] using hu

/-- What getInt gives: an error, and nothing; or OK, and the bytes used are there. -/
theorem getF_says (l : List UInt8) (i u : Nat) : (getF l i u = (0, 0, 2) ∨ getF l i u = (0, 0, 3)) ∨ ∃ n k : Nat, ∃ z : Int, k < l.length ∧ n = i + k + 1 ∧ getF l i u = (z, (n : Int), 0) := by
  induction l generalizing i u with
  | nil => exact .inl (.inr rfl)
  | cons c l ih =>
    simp only [getF]
    split
    · exact .inl (.inl rfl)
    · split
      · rcases ih (i + 1) (u + c.toNat % 128 * 2 ^ (7 * i)) with h | ⟨n, k, z, h1, h2, h3⟩
        · exact .inl h
        · exact .inr ⟨n, k + 1, z, by simp; omega, by omega, h3⟩
      · split
        · exact .inl (.inl rfl)
        · exact .inr ⟨i + 1, 0, numOf (u + c.toNat * 2 ^ (7 * i)), by simp, by omega, by simp⟩
theorem getInt_says (l : List UInt8) : (getInt l = (0, 0, 2) ∨ getInt l = (0, 0, 3)) ∨ ∃ n : Nat, ∃ z : Int, 0 < n ∧ n ≤ l.length ∧ getInt l = (z, (n : Int), 0) := by
  rcases getF_says l 0 0 with h | ⟨n, k, z, h1, h2, h3⟩
  · exact .inl h
  · exact .inr ⟨n, z, by omega, by omega, h3⟩

/-- The result, the place and the error behind Int. -/
def rInt (l : List UInt8) (a : Nat) (e least most : Int) : Int × Nat × Int :=
  if e ≠ 0 then (0, a, e) else
  if (getInt (l.drop a)).2.2 ≠ 0 then (0, a, (getInt (l.drop a)).2.2) else
  if (getInt (l.drop a)).1 < least ∨ most < (getInt (l.drop a)).1 then (0, a, 2) else
  ((getInt (l.drop a)).1, a + (getInt (l.drop a)).2.1.toNat, 0)
def RIntPost (r : Int × Nat × Int) (B p : Nat) (l : List UInt8) (w : World) (e : Ending) (w' : World) : Prop :=
  e = .returned (.int .i64 r.1) ∧ RW w' B p l r.2.1 r.2.2 ∧ Upd p w w'
set_option maxRecDepth 100000 in
set_option maxHeartbeats 400000 in
theorem readInt_any (B p : Nat) (l : List UInt8) (a : Nat) (e least most : Int) (w : World) (h : RW w B p l a e) :
    Calls Tryz.prog 28 #[.pointer (some ⟨p, 0, none⟩), .int .i64 least, .int .i64 most] w (RIntPost (rInt l a e least most) B p l w) := by
  have h' := h
  have hlt := h.lt
  obtain ⟨h1, h2, h3, h4, s, h5, h6, h7, h8⟩ := h
  have f1 := h4 1 (by omega)
  have f2 := h4 2 (by omega)
  obtain ⟨A, c, rfl, hc1, hc2, hA⟩ := h8
  simp only [bvals_len] at hc1 h5 ⊢
  unfold maxLen at hc2
  have HW := hid h'; have HA := hid hA; have H4 := hid h4
  clear h' hA h4
  go_enter Tryz.func28, Tryz.ntmps28
  by_cases he : e = 0
  · have t1 : (e != 0) = false := by simp [he]
    have HE := hid he; clear he
    have hi : ∀ w' : World, (∃ n, w' = w.drewN n) → ∀ A' : Option Addr, (a < l.length → ∀ b off, A = some ⟨b, off, none⟩ → A' = some ⟨b, off + a, none⟩) →
        Calls Tryz.prog 56 #[.slice A' (l.length - a) (c - a)] w' (fun e w'' => e = .returned (.tuple #[.int .i64 (getInt (l.drop a)).1, .int .i64 (getInt (l.drop a)).2.1, .int .i64 (getInt (l.drop a)).2.2]) ∧ w'' = w') := by
      intro w' hw A' hA'
      refine (getInt_any _ (l.drop a) w' (sl_drop HA.out hA' (by omega) (by rw [maxLen]; omega) (by rw [Qu.size hw]; omega) hw) (by rw [List.length_drop]; omega)).mono fun e w'' h => ⟨h.1, h.2.symm⟩
    have hs := getInt_says (l.drop a)
    have hAA : (∃ b off, A = some ⟨b, off, none⟩) ∨ (¬ a < l.length ∧ A = none) ∨ (¬ a < l.length ∧ ∃ x, A = some x) := by
      by_cases h0 : 0 < l.length
      · obtain ⟨b, off, h, -, -⟩ := HA.out (by rw [bvals_len]; exact h0)
        exact .inl ⟨b, off, h⟩
      · cases A with
        | none => exact .inr (.inl ⟨by omega, rfl⟩)
        | some x => exact .inr (.inr ⟨by omega, x, rfl⟩)
    have hE : ∀ k : Int, k ≠ 0 → getInt (l.drop a) = (0, 0, k) → rInt l a e least most = (0, a, k) := fun k hk h => by
      unfold rInt; rw [if_neg (by simp [HE.out]), h, if_pos hk]
    have hO : ∀ (z : Int) (n : Nat), getInt (l.drop a) = (z, (n : Int), 0) → rInt l a e least most = if z < least ∨ most < z then (0, a, 2) else (z, a + n, 0) := fun z n h => by
      unfold rInt; rw [if_neg (by simp [HE.out]), h, if_neg (by simp)]; simp
    have HS := hid hs; have HHE := hid hE; have HHO := hid hO
    clear hs hE hO
    have hres : (∃ k : Int, k ≠ 0 ∧ (k == 0) = false ∧ (k != 0) = true ∧ getInt (l.drop a) = (0, 0, k)) ∨ ∃ (n : Nat) (z : Int), a + n ≤ l.length ∧ getInt (l.drop a) = (z, (n : Int), 0) := by
      rcases HS.out with (h | h) | ⟨n, z, h1, h2, h3⟩
      · exact .inl ⟨2, by decide, rfl, rfl, h⟩
      · exact .inl ⟨3, by decide, rfl, rfl, h⟩
      · rw [List.length_drop] at h2
        exact .inr ⟨n, z, by omega, h3⟩
    have HAA := hid hAA; clear hAA
    rcases hres with ⟨k, hk0, hk1, hk2, hk⟩ | ⟨n, z, hn, hk⟩
    · have hr := HHE.out k hk0 hk
      simp only [hk] at hi
      have HI := hid hi; have HR := hid hr
      clear hi hr hk
      rcases HAA.out with ⟨b, off, rfl⟩ | ⟨h0, rfl⟩ | ⟨h0, x, rfl⟩
      all_goals
        go_wp2
        go_quiet ((go_at_call 56; exact Calls.quiet_of_same (HI.out _ ⟨_, rfl⟩ _ (fun h b' off' hb' => by first | (exfalso; omega) | (injection hb' with hb'; injection hb' with e1 e2; subst e1; subst e2; rw [if_neg (by omega)])))))
        go_wp2
        all_goals go_ret
        all_goals
          exact ⟨by rw [HR.out]; rfl, by rw [HR.out]; exact (HW.out.qu ⟨_, rfl⟩).setE k, ((Upd.refl p w).qu ⟨_, rfl⟩).trans (Upd.setCell _ _ _ _)⟩
    · have hr := HHO.out z n hk
      simp only [hk] at hi
      have HI := hid hi
      clear hi hk
      have hin : ((least ≤ z) ∧ (z ≤ most)) ∨ z < least ∨ (least ≤ z ∧ most < z) := by omega
      have HN := hid hin; clear hin
      rcases HAA.out with ⟨b, off, rfl⟩ | ⟨h0, rfl⟩ | ⟨h0, x, rfl⟩
      all_goals
        rcases HN.out with ⟨hm1, hm2⟩ | hm1 | ⟨hm1, hm2⟩
        · rw [if_neg (by omega)] at hr
          have HR := hid hr; clear hr
          go_wp2
          go_quiet ((go_at_call 56; exact Calls.quiet_of_same (HI.out _ ⟨_, rfl⟩ _ (fun h b' off' hb' => by first | (exfalso; omega) | (injection hb' with hb'; injection hb' with e1 e2; subst e1; subst e2; rw [if_neg (by omega)])))))
          go_wp2
          all_goals go_ret
          all_goals
            exact ⟨by rw [HR.out]; rfl, by rw [HR.out]; exact ((HW.out.qu ⟨_, rfl⟩).setE 0).setA hn, (((Upd.refl p w).qu ⟨_, rfl⟩).trans (Upd.setCell _ _ _ _)).trans (Upd.setCell _ _ _ _)⟩
        all_goals
          rw [if_pos (by omega)] at hr
          have HR := hid hr; clear hr
          go_wp2
          go_quiet ((go_at_call 56; exact Calls.quiet_of_same (HI.out _ ⟨_, rfl⟩ _ (fun h b' off' hb' => by first | (exfalso; omega) | (injection hb' with hb'; injection hb' with e1 e2; subst e1; subst e2; rw [if_neg (by omega)])))))
          go_wp2
          all_goals go_ret
          all_goals
            exact ⟨by rw [HR.out]; rfl, by rw [HR.out]; exact (HW.out.qu ⟨_, rfl⟩).setE 2, ((Upd.refl p w).qu ⟨_, rfl⟩).trans (Upd.setCell _ _ _ _)⟩
  · have t1 : (e != 0) = true := by simp [he]
    have hr : rInt l a e least most = (0, a, e) := by unfold rInt; rw [if_pos he]
    have HR := hid hr; clear he hr
    go_wp2
    go_ret
    exact ⟨by rw [HR.out]; rfl, by rw [HR.out]; exact HW.out, Upd.refl _ _⟩
end Go.Proofs.YtkgifbnkkmeoiaaGreatDoor
/- The reference's Reader.Int. -/
namespace Go.Proofs.YtkgifbnkkmeoiaaGreatDoor
open Go.ChangeShapes Go.WideShapes Go.ChangeAt Go.RowKit
set_option linter.unusedVariables false

set_option maxRecDepth 100000 in
set_option maxHeartbeats 400000 in
theorem refReadInt_any (B p : Nat) (l : List UInt8) (a : Nat) (e least most : Int) (w : World) (h : RW w B p l a e) :
    Calls Tryz.prog 41 #[.pointer (some ⟨p, 0, none⟩), .int .i64 least, .int .i64 most] w (RIntPost (rInt l a e least most) B p l w) := by
  have h' := h
  have hlt := h.lt
  obtain ⟨h1, h2, h3, h4, s, h5, h6, h7, h8⟩ := h
  have f1 := h4 1 (by omega)
  have f2 := h4 2 (by omega)
  obtain ⟨A, c, rfl, hc1, hc2, hA⟩ := h8
  simp only [bvals_len] at hc1 h5 ⊢
  unfold maxLen at hc2
  have HW := hid h'; have HA := hid hA; have H4 := hid h4
  clear h' hA h4
  go_enter Tryz.func41, Tryz.ntmps41
  by_cases he : e = 0
  · have t1 : (e != 0) = false := by simp [he]
    have HE := hid he; clear he
    have hi : ∀ w' : World, (∃ n, w' = w.drewN n) → ∀ A' : Option Addr, (a < l.length → ∀ b off, A = some ⟨b, off, none⟩ → A' = some ⟨b, off + a, none⟩) →
        Calls Tryz.prog 67 #[.slice A' (l.length - a) (c - a)] w' (fun e w'' => e = .returned (.tuple #[.int .i64 (getInt (l.drop a)).1, .int .i64 (getInt (l.drop a)).2.1, .int .i64 (getInt (l.drop a)).2.2]) ∧ w'' = w') := by
      intro w' hw A' hA'
      refine (refGetInt_any _ (l.drop a) w' (sl_drop HA.out hA' (by omega) (by rw [maxLen]; omega) (by rw [Qu.size hw]; omega) hw) (by rw [List.length_drop]; omega)).mono fun e w'' h => ⟨h.1, h.2.symm⟩
    have hs := getInt_says (l.drop a)
    have hAA : (∃ b off, A = some ⟨b, off, none⟩) ∨ (¬ a < l.length ∧ A = none) ∨ (¬ a < l.length ∧ ∃ x, A = some x) := by
      by_cases h0 : 0 < l.length
      · obtain ⟨b, off, h, -, -⟩ := HA.out (by rw [bvals_len]; exact h0)
        exact .inl ⟨b, off, h⟩
      · cases A with
        | none => exact .inr (.inl ⟨by omega, rfl⟩)
        | some x => exact .inr (.inr ⟨by omega, x, rfl⟩)
    have hE : ∀ k : Int, k ≠ 0 → getInt (l.drop a) = (0, 0, k) → rInt l a e least most = (0, a, k) := fun k hk h => by
      unfold rInt; rw [if_neg (by simp [HE.out]), h, if_pos hk]
    have hO : ∀ (z : Int) (n : Nat), getInt (l.drop a) = (z, (n : Int), 0) → rInt l a e least most = if z < least ∨ most < z then (0, a, 2) else (z, a + n, 0) := fun z n h => by
      unfold rInt; rw [if_neg (by simp [HE.out]), h, if_neg (by simp)]; simp
    have HS := hid hs; have HHE := hid hE; have HHO := hid hO
    clear hs hE hO
    have hres : (∃ k : Int, k ≠ 0 ∧ (k == 0) = false ∧ (k != 0) = true ∧ getInt (l.drop a) = (0, 0, k)) ∨ ∃ (n : Nat) (z : Int), a + n ≤ l.length ∧ getInt (l.drop a) = (z, (n : Int), 0) := by
      rcases HS.out with (h | h) | ⟨n, z, h1, h2, h3⟩
      · exact .inl ⟨2, by decide, rfl, rfl, h⟩
      · exact .inl ⟨3, by decide, rfl, rfl, h⟩
      · rw [List.length_drop] at h2
        exact .inr ⟨n, z, by omega, h3⟩
    have HAA := hid hAA; clear hAA
    rcases hres with ⟨k, hk0, hk1, hk2, hk⟩ | ⟨n, z, hn, hk⟩
    · have hr := HHE.out k hk0 hk
      simp only [hk] at hi
      have HI := hid hi; have HR := hid hr
      clear hi hr hk
      rcases HAA.out with ⟨b, off, rfl⟩ | ⟨h0, rfl⟩ | ⟨h0, x, rfl⟩
      all_goals
        go_wp2
        go_quiet ((go_at_call 67; exact Calls.quiet_of_same (HI.out _ ⟨_, rfl⟩ _ (fun h b' off' hb' => by first | (exfalso; omega) | (injection hb' with hb'; injection hb' with e1 e2; subst e1; subst e2; rw [if_neg (by omega)])))))
        go_wp2
        all_goals go_ret
        all_goals
          exact ⟨by rw [HR.out]; rfl, by rw [HR.out]; exact (HW.out.qu ⟨_, rfl⟩).setE k, ((Upd.refl p w).qu ⟨_, rfl⟩).trans (Upd.setCell _ _ _ _)⟩
    · have hr := HHO.out z n hk
      simp only [hk] at hi
      have HI := hid hi
      clear hi hk
      have hin : ((least ≤ z) ∧ (z ≤ most)) ∨ z < least ∨ (least ≤ z ∧ most < z) := by omega
      have HN := hid hin; clear hin
      rcases HAA.out with ⟨b, off, rfl⟩ | ⟨h0, rfl⟩ | ⟨h0, x, rfl⟩
      all_goals
        rcases HN.out with ⟨hm1, hm2⟩ | hm1 | ⟨hm1, hm2⟩
        · rw [if_neg (by omega)] at hr
          have HR := hid hr; clear hr
          go_wp2
          go_quiet ((go_at_call 67; exact Calls.quiet_of_same (HI.out _ ⟨_, rfl⟩ _ (fun h b' off' hb' => by first | (exfalso; omega) | (injection hb' with hb'; injection hb' with e1 e2; subst e1; subst e2; rw [if_neg (by omega)])))))
          go_wp2
          all_goals go_ret
          all_goals
            exact ⟨by rw [HR.out]; rfl, by rw [HR.out]; exact (HE.out ▸ (HW.out.qu ⟨_, rfl⟩).setA hn), ((Upd.refl p w).qu ⟨_, rfl⟩).trans (Upd.setCell _ _ _ _)⟩
        all_goals
          rw [if_pos (by omega)] at hr
          have HR := hid hr; clear hr
          go_wp2
          go_quiet ((go_at_call 67; exact Calls.quiet_of_same (HI.out _ ⟨_, rfl⟩ _ (fun h b' off' hb' => by first | (exfalso; omega) | (injection hb' with hb'; injection hb' with e1 e2; subst e1; subst e2; rw [if_neg (by omega)])))))
          go_wp2
          all_goals go_ret
          all_goals
            exact ⟨by rw [HR.out]; rfl, by rw [HR.out]; exact (HW.out.qu ⟨_, rfl⟩).setE 2, ((Upd.refl p w).qu ⟨_, rfl⟩).trans (Upd.setCell _ _ _ _)⟩
  · have t1 : (e != 0) = true := by simp [he]
    have hr : rInt l a e least most = (0, a, e) := by unfold rInt; rw [if_pos he]
    have HR := hid hr; clear he hr
    go_wp2
    go_ret
    exact ⟨by rw [HR.out]; rfl, by rw [HR.out]; exact HW.out, Upd.refl _ _⟩
end Go.Proofs.YtkgifbnkkmeoiaaGreatDoor
