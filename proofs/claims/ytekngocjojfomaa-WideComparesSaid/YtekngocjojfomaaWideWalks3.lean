/- The walk of the law WideCompares. -/
import Derived.Test.YtekngocjojfomaaWideWalks2
namespace Go.Proofs.Ytekngocjojfomaa
open Go.ChangeShapes Go.WideShapes Go.ChangeAt Go.RowKit
set_option linter.unusedVariables false

/-- The two parts' order as the code asks for it. -/
def Ord2 (a b c d want : Int) : Prop :=
  (a < c ∧ want = -1) ∨ (a = c ∧ b < d ∧ want = -1) ∨ (a = c ∧ b = d ∧ want = 0) ∨ (a = c ∧ d < b ∧ want = 1) ∨ (c < a ∧ want = 1)
theorem ord2 (a b c d : Int) : ∃ want, Ord2 a b c d want := by
  rcases Int.lt_trichotomy a c with h | h | h
  · exact ⟨_, .inl ⟨h, rfl⟩⟩
  · rcases Int.lt_trichotomy b d with h' | h' | h'
    · exact ⟨_, .inr (.inl ⟨h, h', rfl⟩)⟩
    · exact ⟨_, .inr (.inr (.inl ⟨h, h', rfl⟩))⟩
    · exact ⟨_, .inr (.inr (.inr (.inl ⟨h, h', rfl⟩)))⟩
  · exact ⟨_, .inr (.inr (.inr (.inr ⟨h, rfl⟩)))⟩
theorem cmpI_lt {a b : Int} (h : a < b) : cmpI a b = -1 := by unfold cmpI; rw [if_pos h]
theorem cmpI_gt {a b : Int} (h : b < a) : cmpI a b = 1 := by unfold cmpI; rw [if_neg (by omega), if_pos h]
theorem cmpI_eq (a : Int) : cmpI a a = 0 := by unfold cmpI; rw [if_neg (by omega), if_neg (by omega)]
theorem cmpW_ord {a b c d want : Int} (h : Ord2 a b c d want) : cmpW a b c d = want ∧ cmpW c d a b = -want := by
  unfold cmpW
  rcases h with ⟨h, rfl⟩ | ⟨h, h', rfl⟩ | ⟨h, h', rfl⟩ | ⟨h, h', rfl⟩ | ⟨h, rfl⟩
  · rw [cmpI_lt h, cmpI_gt h]; exact ⟨rfl, rfl⟩
  · subst h; rw [cmpI_eq, cmpI_lt h', cmpI_gt h']; exact ⟨rfl, rfl⟩
  · subst h; subst h'; rw [cmpI_eq, cmpI_eq]; exact ⟨rfl, rfl⟩
  · subst h; rw [cmpI_eq, cmpI_lt h', cmpI_gt h']; exact ⟨rfl, rfl⟩
  · rw [cmpI_lt h, cmpI_gt h]; exact ⟨rfl, rfl⟩
theorem less_ord {a b c d want : Int} (h : Ord2 a b c d want) (h1 : MayB a b = true) (h2 : MayB c d = true) : decide (a * 4294967296 + b < c * 4294967296 + d) = decide (want < 0) := by
  have := may_bounds h1
  have := may_bounds h2
  rw [decide_eq_decide]
  rcases h with ⟨h, rfl⟩ | ⟨h, h', rfl⟩ | ⟨h, h', rfl⟩ | ⟨h, h', rfl⟩ | ⟨h, rfl⟩ <;> omega
/-- What the law hangs on, whatever the two are. -/
structure CmpFacts (a b c d want : Int) : Prop where
  one : ∀ W, Calls Try.prog 31 #[.agg #[.int .i64 a, .int .i64 b], .agg #[.int .i64 c, .int .i64 d]] W (Gives (.int .i64 want) W)
  two : ∀ W, Calls Try.prog 31 #[.agg #[.int .i64 c, .int .i64 d], .agg #[.int .i64 a, .int .i64 b]] W (Gives (.int .i64 (-want)) W)
theorem cmpFacts {a b c d want : Int} (h : Ord2 a b c d want) : CmpFacts a b c d want := by
  obtain ⟨h1, h2⟩ := cmpW_ord h
  refine ⟨fun W => ?_, fun W => ?_⟩
  · have := wideCmp_any a b c d W
    rw [h1] at this
    exact this
  · have := wideCmp_any c d a b W
    rw [h2] at this
    exact this

set_option maxHeartbeats 1600000 in
theorem cmps_hiLess_yes (w : World) (a b c d : Int) (hab : a < c) (h1 : MayB a b = true) (h2 : MayB c d = true) : Calls Try.prog 8 #[wval a b, wval c d] w (Gives (.bool true) w) := by
  have hf := cmpFacts (a := a) (b := b) (c := c) (d := d) (.inl ⟨hab, rfl⟩)
  have e0 : ∀ n : Int, (n == n) = true := fun n => by simp
  have hl := less_ord (a := a) (b := b) (c := c) (d := d) (.inl ⟨hab, rfl⟩) h1 h2
  rw [show decide ((-1 : Int) < 0) = true by decide] at hl
  have ba := may_bounds h1; have bc := may_bounds h2
  have hw1 := fun W => refWide_any a b W (by omega) (by omega)
  have hw2 := fun W => refWide_any c d W (by omega) (by omega)
  have hrl := fun u v W h k => refLess_any u v (a * 4294967296 + b) (c * 4294967296 + d) W h k (by omega) (by omega) (by omega) (by omega)
  unfold LessPost at hrl
  rw [hl] at hrl
  clear hl ba bc
  have hm0 := refMay_any a b; have hm1 := refMay_any c d
  rw [mayB_eq] at hm0 hm1
  rw [h1] at hm0
  rw [h2] at hm1
  have F1 := hid hf.one; have F2 := hid hf.two; have HM0 := hid hm0; have HM1 := hid hm1
  have HW1 := hid hw1; have HW2 := hid hw2; have HL := hid hrl
  clear hf hm0 hm1 h1 h2 hw1 hw2 hrl
  go_enter Try.func8, Try.ntmps8
  unfold wval
  go_wp2_with fail
  refine (HM0.out _).mono ?_
  rintro e w1 ⟨rfl, rfl⟩
  go_wp2_with fail
  refine (HM1.out _).mono ?_
  rintro e w1 ⟨rfl, rfl⟩
  have hW0 : Below w.heap.size w ((w.alloc (.cells #[.int .i64 a, .int .i64 b] 23)).alloc (.cells #[.int .i64 c, .int .i64 d] 23)) := (by repeat' first | with_reducible exact Below.refl _ _ | assumption | (with_reducible refine Below.alloc ?_ ?_ _) | (with_reducible refine Below.setCell ?_ ?_ _) | (with_reducible refine Below.drew ?_) | (with_reducible refine below_drewN ?_ _) | (with_reducible refine Below.trans ?_ (Below.mono ‹_› ?_)) | omega | (with_reducible refine le_alloc ?_) | (with_reducible refine le_setCell ?_) | (with_reducible refine le_drew ?_) | (with_reducible refine le_drewN ?_) | (with_reducible refine Nat.le_trans ?_ (Below.size ‹_›)) | (simp <;> omega))
  have r0 : ((w.alloc (.cells #[.int .i64 a, .int .i64 b] 23)).alloc (.cells #[.int .i64 c, .int .i64 d] 23)).cell? ⟨w.heap.size, 0, none⟩ = some (.int .i64 a) := (by simp [go_sem])
  have r1 : ((w.alloc (.cells #[.int .i64 a, .int .i64 b] 23)).alloc (.cells #[.int .i64 c, .int .i64 d] 23)).cell? ⟨w.heap.size, 1, none⟩ = some (.int .i64 b) := (by simp [go_sem])
  have r2 : ((w.alloc (.cells #[.int .i64 a, .int .i64 b] 23)).alloc (.cells #[.int .i64 c, .int .i64 d] 23)).cell? ⟨w.heap.size + 1, 0, none⟩ = some (.int .i64 c) := (by simp [go_sem])
  have r3 : ((w.alloc (.cells #[.int .i64 a, .int .i64 b] 23)).alloc (.cells #[.int .i64 c, .int .i64 d] 23)).cell? ⟨w.heap.size + 1, 1, none⟩ = some (.int .i64 d) := (by simp [go_sem])
  have l0 : w.heap.size < ((w.alloc (.cells #[.int .i64 a, .int .i64 b] 23)).alloc (.cells #[.int .i64 c, .int .i64 d] 23)).heap.size := (by simp <;> omega)
  have l1 : w.heap.size + 1 < ((w.alloc (.cells #[.int .i64 a, .int .i64 b] 23)).alloc (.cells #[.int .i64 c, .int .i64 d] 23)).heap.size := (by simp <;> omega)
  go_wp2
  generalize hg : ((w.alloc (.cells #[.int .i64 a, .int .i64 b] 23)).alloc (.cells #[.int .i64 c, .int .i64 d] 23)) = W at *
  clear hg
  go_region_held3 (fun w' => w'.cell? ⟨w.heap.size, 0, none⟩ = some (.int .i64 a) ∧ w'.cell? ⟨w.heap.size, 1, none⟩ = some (.int .i64 b) ∧ w'.cell? ⟨w.heap.size + 1, 0, none⟩ = some (.int .i64 c) ∧ w'.cell? ⟨w.heap.size + 1, 1, none⟩ = some (.int .i64 d)) (go_keep)
    (first | (go_at_call_of 24 (Value.int .i64 a); refine (HW1.out _).mono ?_; rintro e w3 ⟨u1, rfl, hu1, hb3⟩; have s0 := cellK hb3 l0 r0; have s1 := cellK hb3 l0 r1; have s2 := cellK hb3 l1 r2; have s3 := cellK hb3 l1 r3) | (go_at_call_of 24 (Value.int .i64 c); refine (HW2.out _).mono ?_; rintro e w4 ⟨u2, rfl, hu2, hb4⟩; have s0 := cellK (hb4.mono hb3.size) l0 s0; have s1 := cellK (hb4.mono hb3.size) l0 s1; have s2 := cellK (hb4.mono hb3.size) l1 s2; have s3 := cellK (hb4.mono hb3.size) l1 s3) | (go_at_call 30; refine (HL.out _ _ _ ((hu1.below hb4).more hb4.size) hu2).mono ?_; rintro e w5 ⟨rfl, n5, rfl⟩))
  have hb5 : Below w.heap.size w (w4.drewN n5) := below_drewN ((hW0.trans (((Below.refl _ _).drew.trans hb3).mono hW0.size)).trans (hb4.mono (Nat.le_trans hW0.size hb3.size))) _
  have l0 : w.heap.size < (w4.drewN n5).heap.size := show w.heap.size < w4.heap.size from lt_of_below hb4 (lt_of_below hb3 l0)
  have l1 : w.heap.size + 1 < (w4.drewN n5).heap.size := show w.heap.size + 1 < w4.heap.size from lt_of_below hb4 (lt_of_below hb3 l1)
  have s0 : (w4.drewN n5).cell? ⟨w.heap.size, 0, none⟩ = some (.int .i64 a) := s0
  have s1 : (w4.drewN n5).cell? ⟨w.heap.size, 1, none⟩ = some (.int .i64 b) := s1
  have s2 : (w4.drewN n5).cell? ⟨w.heap.size + 1, 0, none⟩ = some (.int .i64 c) := s2
  have s3 : (w4.drewN n5).cell? ⟨w.heap.size + 1, 1, none⟩ = some (.int .i64 d) := s3
  generalize hg5 : w4.drewN n5 = W5 at *
  clear hg5
  go_wp2_with fail
  refine (F1.out _).mono ?_
  rintro e w6 ⟨rfl, hb6⟩
  have t0 := cellK hb6 l0 s0
  have t1 := cellK hb6 l0 s1
  have t2 := cellK hb6 l1 s2
  have t3 := cellK hb6 l1 s3
  go_wp2_with fail
  refine (F2.out _).mono ?_
  rintro e w7 ⟨rfl, hb7⟩
  go_wp2_with fail
  refine (lives_true _).mono ?_
  rintro e w8 ⟨rfl, hb8⟩
  go_wp2
  go_ret
  exact ⟨rfl, (by repeat' first | with_reducible exact Below.refl _ _ | assumption | (with_reducible refine Below.alloc ?_ ?_ _) | (with_reducible refine Below.setCell ?_ ?_ _) | (with_reducible refine Below.drew ?_) | (with_reducible refine below_drewN ?_ _) | (with_reducible refine Below.trans ?_ (Below.mono ‹_› ?_)) | omega | (with_reducible refine le_alloc ?_) | (with_reducible refine le_setCell ?_) | (with_reducible refine le_drew ?_) | (with_reducible refine le_drewN ?_) | (with_reducible refine Nat.le_trans ?_ (Below.size ‹_›)) | (simp <;> omega))⟩

set_option maxHeartbeats 1600000 in
theorem cmps_hiLess_no1 (w : World) (a b c d : Int) (hab : a < c) (h1 : MayB a b = false) : Calls Try.prog 8 #[wval a b, wval c d] w (Gives (.bool true) w) := by
  have hf := cmpFacts (a := a) (b := b) (c := c) (d := d) (.inl ⟨hab, rfl⟩)
  have e0 : ∀ n : Int, (n == n) = true := fun n => by simp
  have hm0 := refMay_any a b; have hm1 := refMay_any c d
  rw [mayB_eq] at hm0 hm1
  rw [h1] at hm0
  have F1 := hid hf.one; have F2 := hid hf.two; have HM0 := hid hm0; have HM1 := hid hm1
  clear hf hm0 hm1 h1
  go_enter Try.func8, Try.ntmps8
  unfold wval
  go_wp2_with fail
  refine (HM0.out _).mono ?_
  rintro e w1 ⟨rfl, rfl⟩
  go_wp2_with fail
  refine (HM1.out _).mono ?_
  rintro e w1 ⟨rfl, rfl⟩
  have hW0 : Below w.heap.size w ((w.alloc (.cells #[.int .i64 a, .int .i64 b] 23)).alloc (.cells #[.int .i64 c, .int .i64 d] 23)) := (by repeat' first | with_reducible exact Below.refl _ _ | assumption | (with_reducible refine Below.alloc ?_ ?_ _) | (with_reducible refine Below.setCell ?_ ?_ _) | (with_reducible refine Below.drew ?_) | (with_reducible refine below_drewN ?_ _) | (with_reducible refine Below.trans ?_ (Below.mono ‹_› ?_)) | omega | (with_reducible refine le_alloc ?_) | (with_reducible refine le_setCell ?_) | (with_reducible refine le_drew ?_) | (with_reducible refine le_drewN ?_) | (with_reducible refine Nat.le_trans ?_ (Below.size ‹_›)) | (simp <;> omega))
  have r0 : ((w.alloc (.cells #[.int .i64 a, .int .i64 b] 23)).alloc (.cells #[.int .i64 c, .int .i64 d] 23)).cell? ⟨w.heap.size, 0, none⟩ = some (.int .i64 a) := (by simp [go_sem])
  have r1 : ((w.alloc (.cells #[.int .i64 a, .int .i64 b] 23)).alloc (.cells #[.int .i64 c, .int .i64 d] 23)).cell? ⟨w.heap.size, 1, none⟩ = some (.int .i64 b) := (by simp [go_sem])
  have r2 : ((w.alloc (.cells #[.int .i64 a, .int .i64 b] 23)).alloc (.cells #[.int .i64 c, .int .i64 d] 23)).cell? ⟨w.heap.size + 1, 0, none⟩ = some (.int .i64 c) := (by simp [go_sem])
  have r3 : ((w.alloc (.cells #[.int .i64 a, .int .i64 b] 23)).alloc (.cells #[.int .i64 c, .int .i64 d] 23)).cell? ⟨w.heap.size + 1, 1, none⟩ = some (.int .i64 d) := (by simp [go_sem])
  have l0 : w.heap.size < ((w.alloc (.cells #[.int .i64 a, .int .i64 b] 23)).alloc (.cells #[.int .i64 c, .int .i64 d] 23)).heap.size := (by simp <;> omega)
  have l1 : w.heap.size + 1 < ((w.alloc (.cells #[.int .i64 a, .int .i64 b] 23)).alloc (.cells #[.int .i64 c, .int .i64 d] 23)).heap.size := (by simp <;> omega)
  generalize hg : ((w.alloc (.cells #[.int .i64 a, .int .i64 b] 23)).alloc (.cells #[.int .i64 c, .int .i64 d] 23)) = W5 at *
  clear hg
  have hb5 := hW0; have s0 := r0; have s1 := r1; have s2 := r2; have s3 := r3
  go_wp2_with fail
  refine (F1.out _).mono ?_
  rintro e w6 ⟨rfl, hb6⟩
  have t0 := cellK hb6 l0 s0
  have t1 := cellK hb6 l0 s1
  have t2 := cellK hb6 l1 s2
  have t3 := cellK hb6 l1 s3
  go_wp2_with fail
  refine (F2.out _).mono ?_
  rintro e w7 ⟨rfl, hb7⟩
  go_wp2_with fail
  refine (lives_true _).mono ?_
  rintro e w8 ⟨rfl, hb8⟩
  go_wp2
  go_ret
  exact ⟨rfl, (by repeat' first | with_reducible exact Below.refl _ _ | assumption | (with_reducible refine Below.alloc ?_ ?_ _) | (with_reducible refine Below.setCell ?_ ?_ _) | (with_reducible refine Below.drew ?_) | (with_reducible refine below_drewN ?_ _) | (with_reducible refine Below.trans ?_ (Below.mono ‹_› ?_)) | omega | (with_reducible refine le_alloc ?_) | (with_reducible refine le_setCell ?_) | (with_reducible refine le_drew ?_) | (with_reducible refine le_drewN ?_) | (with_reducible refine Nat.le_trans ?_ (Below.size ‹_›)) | (simp <;> omega))⟩

set_option maxHeartbeats 1600000 in
theorem cmps_hiLess_no2 (w : World) (a b c d : Int) (hab : a < c) (h1 : MayB a b = true) (h2 : MayB c d = false) : Calls Try.prog 8 #[wval a b, wval c d] w (Gives (.bool true) w) := by
  have hf := cmpFacts (a := a) (b := b) (c := c) (d := d) (.inl ⟨hab, rfl⟩)
  have e0 : ∀ n : Int, (n == n) = true := fun n => by simp
  have hm0 := refMay_any a b; have hm1 := refMay_any c d
  rw [mayB_eq] at hm0 hm1
  rw [h1] at hm0
  rw [h2] at hm1
  have F1 := hid hf.one; have F2 := hid hf.two; have HM0 := hid hm0; have HM1 := hid hm1
  clear hf hm0 hm1 h1 h2
  go_enter Try.func8, Try.ntmps8
  unfold wval
  go_wp2_with fail
  refine (HM0.out _).mono ?_
  rintro e w1 ⟨rfl, rfl⟩
  go_wp2_with fail
  refine (HM1.out _).mono ?_
  rintro e w1 ⟨rfl, rfl⟩
  have hW0 : Below w.heap.size w ((w.alloc (.cells #[.int .i64 a, .int .i64 b] 23)).alloc (.cells #[.int .i64 c, .int .i64 d] 23)) := (by repeat' first | with_reducible exact Below.refl _ _ | assumption | (with_reducible refine Below.alloc ?_ ?_ _) | (with_reducible refine Below.setCell ?_ ?_ _) | (with_reducible refine Below.drew ?_) | (with_reducible refine below_drewN ?_ _) | (with_reducible refine Below.trans ?_ (Below.mono ‹_› ?_)) | omega | (with_reducible refine le_alloc ?_) | (with_reducible refine le_setCell ?_) | (with_reducible refine le_drew ?_) | (with_reducible refine le_drewN ?_) | (with_reducible refine Nat.le_trans ?_ (Below.size ‹_›)) | (simp <;> omega))
  have r0 : ((w.alloc (.cells #[.int .i64 a, .int .i64 b] 23)).alloc (.cells #[.int .i64 c, .int .i64 d] 23)).cell? ⟨w.heap.size, 0, none⟩ = some (.int .i64 a) := (by simp [go_sem])
  have r1 : ((w.alloc (.cells #[.int .i64 a, .int .i64 b] 23)).alloc (.cells #[.int .i64 c, .int .i64 d] 23)).cell? ⟨w.heap.size, 1, none⟩ = some (.int .i64 b) := (by simp [go_sem])
  have r2 : ((w.alloc (.cells #[.int .i64 a, .int .i64 b] 23)).alloc (.cells #[.int .i64 c, .int .i64 d] 23)).cell? ⟨w.heap.size + 1, 0, none⟩ = some (.int .i64 c) := (by simp [go_sem])
  have r3 : ((w.alloc (.cells #[.int .i64 a, .int .i64 b] 23)).alloc (.cells #[.int .i64 c, .int .i64 d] 23)).cell? ⟨w.heap.size + 1, 1, none⟩ = some (.int .i64 d) := (by simp [go_sem])
  have l0 : w.heap.size < ((w.alloc (.cells #[.int .i64 a, .int .i64 b] 23)).alloc (.cells #[.int .i64 c, .int .i64 d] 23)).heap.size := (by simp <;> omega)
  have l1 : w.heap.size + 1 < ((w.alloc (.cells #[.int .i64 a, .int .i64 b] 23)).alloc (.cells #[.int .i64 c, .int .i64 d] 23)).heap.size := (by simp <;> omega)
  generalize hg : ((w.alloc (.cells #[.int .i64 a, .int .i64 b] 23)).alloc (.cells #[.int .i64 c, .int .i64 d] 23)) = W5 at *
  clear hg
  have hb5 := hW0; have s0 := r0; have s1 := r1; have s2 := r2; have s3 := r3
  go_wp2_with fail
  refine (F1.out _).mono ?_
  rintro e w6 ⟨rfl, hb6⟩
  have t0 := cellK hb6 l0 s0
  have t1 := cellK hb6 l0 s1
  have t2 := cellK hb6 l1 s2
  have t3 := cellK hb6 l1 s3
  go_wp2_with fail
  refine (F2.out _).mono ?_
  rintro e w7 ⟨rfl, hb7⟩
  go_wp2_with fail
  refine (lives_true _).mono ?_
  rintro e w8 ⟨rfl, hb8⟩
  go_wp2
  go_ret
  exact ⟨rfl, (by repeat' first | with_reducible exact Below.refl _ _ | assumption | (with_reducible refine Below.alloc ?_ ?_ _) | (with_reducible refine Below.setCell ?_ ?_ _) | (with_reducible refine Below.drew ?_) | (with_reducible refine below_drewN ?_ _) | (with_reducible refine Below.trans ?_ (Below.mono ‹_› ?_)) | omega | (with_reducible refine le_alloc ?_) | (with_reducible refine le_setCell ?_) | (with_reducible refine le_drew ?_) | (with_reducible refine le_drewN ?_) | (with_reducible refine Nat.le_trans ?_ (Below.size ‹_›)) | (simp <;> omega))⟩

set_option maxHeartbeats 1600000 in
theorem cmps_loLess_yes (w : World) (a b d : Int) (hab : b < d) (h1 : MayB a b = true) (h2 : MayB a d = true) : Calls Try.prog 8 #[wval a b, wval a d] w (Gives (.bool true) w) := by
  have hf := cmpFacts (a := a) (b := b) (c := a) (d := d) (.inr (.inl ⟨rfl, hab, rfl⟩))
  have e0 : ∀ n : Int, (n == n) = true := fun n => by simp
  have hl := less_ord (a := a) (b := b) (c := a) (d := d) (.inr (.inl ⟨rfl, hab, rfl⟩)) h1 h2
  rw [show decide ((-1 : Int) < 0) = true by decide] at hl
  have ba := may_bounds h1; have bc := may_bounds h2
  have hw1 := fun W => refWide_any a b W (by omega) (by omega)
  have hw2 := fun W => refWide_any a d W (by omega) (by omega)
  have hrl := fun u v W h k => refLess_any u v (a * 4294967296 + b) (a * 4294967296 + d) W h k (by omega) (by omega) (by omega) (by omega)
  unfold LessPost at hrl
  rw [hl] at hrl
  clear hl ba bc
  have hm0 := refMay_any a b; have hm1 := refMay_any a d
  rw [mayB_eq] at hm0 hm1
  rw [h1] at hm0
  rw [h2] at hm1
  have F1 := hid hf.one; have F2 := hid hf.two; have HM0 := hid hm0; have HM1 := hid hm1
  have HW1 := hid hw1; have HW2 := hid hw2; have HL := hid hrl
  clear hf hm0 hm1 h1 h2 hw1 hw2 hrl
  go_enter Try.func8, Try.ntmps8
  unfold wval
  go_wp2_with fail
  refine (HM0.out _).mono ?_
  rintro e w1 ⟨rfl, rfl⟩
  go_wp2_with fail
  refine (HM1.out _).mono ?_
  rintro e w1 ⟨rfl, rfl⟩
  have hW0 : Below w.heap.size w ((w.alloc (.cells #[.int .i64 a, .int .i64 b] 23)).alloc (.cells #[.int .i64 a, .int .i64 d] 23)) := (by repeat' first | with_reducible exact Below.refl _ _ | assumption | (with_reducible refine Below.alloc ?_ ?_ _) | (with_reducible refine Below.setCell ?_ ?_ _) | (with_reducible refine Below.drew ?_) | (with_reducible refine below_drewN ?_ _) | (with_reducible refine Below.trans ?_ (Below.mono ‹_› ?_)) | omega | (with_reducible refine le_alloc ?_) | (with_reducible refine le_setCell ?_) | (with_reducible refine le_drew ?_) | (with_reducible refine le_drewN ?_) | (with_reducible refine Nat.le_trans ?_ (Below.size ‹_›)) | (simp <;> omega))
  have r0 : ((w.alloc (.cells #[.int .i64 a, .int .i64 b] 23)).alloc (.cells #[.int .i64 a, .int .i64 d] 23)).cell? ⟨w.heap.size, 0, none⟩ = some (.int .i64 a) := (by simp [go_sem])
  have r1 : ((w.alloc (.cells #[.int .i64 a, .int .i64 b] 23)).alloc (.cells #[.int .i64 a, .int .i64 d] 23)).cell? ⟨w.heap.size, 1, none⟩ = some (.int .i64 b) := (by simp [go_sem])
  have r2 : ((w.alloc (.cells #[.int .i64 a, .int .i64 b] 23)).alloc (.cells #[.int .i64 a, .int .i64 d] 23)).cell? ⟨w.heap.size + 1, 0, none⟩ = some (.int .i64 a) := (by simp [go_sem])
  have r3 : ((w.alloc (.cells #[.int .i64 a, .int .i64 b] 23)).alloc (.cells #[.int .i64 a, .int .i64 d] 23)).cell? ⟨w.heap.size + 1, 1, none⟩ = some (.int .i64 d) := (by simp [go_sem])
  have l0 : w.heap.size < ((w.alloc (.cells #[.int .i64 a, .int .i64 b] 23)).alloc (.cells #[.int .i64 a, .int .i64 d] 23)).heap.size := (by simp <;> omega)
  have l1 : w.heap.size + 1 < ((w.alloc (.cells #[.int .i64 a, .int .i64 b] 23)).alloc (.cells #[.int .i64 a, .int .i64 d] 23)).heap.size := (by simp <;> omega)
  go_wp2
  generalize hg : ((w.alloc (.cells #[.int .i64 a, .int .i64 b] 23)).alloc (.cells #[.int .i64 a, .int .i64 d] 23)) = W at *
  clear hg
  go_region_held3 (fun w' => w'.cell? ⟨w.heap.size, 0, none⟩ = some (.int .i64 a) ∧ w'.cell? ⟨w.heap.size, 1, none⟩ = some (.int .i64 b) ∧ w'.cell? ⟨w.heap.size + 1, 0, none⟩ = some (.int .i64 a) ∧ w'.cell? ⟨w.heap.size + 1, 1, none⟩ = some (.int .i64 d)) (go_keep)
    (first | (go_at_call_of 24 (Value.int .i64 b); refine (HW1.out _).mono ?_; rintro e w3 ⟨u1, rfl, hu1, hb3⟩; have s0 := cellK hb3 l0 r0; have s1 := cellK hb3 l0 r1; have s2 := cellK hb3 l1 r2; have s3 := cellK hb3 l1 r3) | (go_at_call_of 24 (Value.int .i64 d); refine (HW2.out _).mono ?_; rintro e w4 ⟨u2, rfl, hu2, hb4⟩; have s0 := cellK (hb4.mono hb3.size) l0 s0; have s1 := cellK (hb4.mono hb3.size) l0 s1; have s2 := cellK (hb4.mono hb3.size) l1 s2; have s3 := cellK (hb4.mono hb3.size) l1 s3) | (go_at_call 30; refine (HL.out _ _ _ ((hu1.below hb4).more hb4.size) hu2).mono ?_; rintro e w5 ⟨rfl, n5, rfl⟩))
  have hb5 : Below w.heap.size w (w4.drewN n5) := below_drewN ((hW0.trans (((Below.refl _ _).drew.trans hb3).mono hW0.size)).trans (hb4.mono (Nat.le_trans hW0.size hb3.size))) _
  have l0 : w.heap.size < (w4.drewN n5).heap.size := show w.heap.size < w4.heap.size from lt_of_below hb4 (lt_of_below hb3 l0)
  have l1 : w.heap.size + 1 < (w4.drewN n5).heap.size := show w.heap.size + 1 < w4.heap.size from lt_of_below hb4 (lt_of_below hb3 l1)
  have s0 : (w4.drewN n5).cell? ⟨w.heap.size, 0, none⟩ = some (.int .i64 a) := s0
  have s1 : (w4.drewN n5).cell? ⟨w.heap.size, 1, none⟩ = some (.int .i64 b) := s1
  have s2 : (w4.drewN n5).cell? ⟨w.heap.size + 1, 0, none⟩ = some (.int .i64 a) := s2
  have s3 : (w4.drewN n5).cell? ⟨w.heap.size + 1, 1, none⟩ = some (.int .i64 d) := s3
  generalize hg5 : w4.drewN n5 = W5 at *
  clear hg5
  go_wp2_with fail
  refine (F1.out _).mono ?_
  rintro e w6 ⟨rfl, hb6⟩
  have t0 := cellK hb6 l0 s0
  have t1 := cellK hb6 l0 s1
  have t2 := cellK hb6 l1 s2
  have t3 := cellK hb6 l1 s3
  go_wp2_with fail
  refine (F2.out _).mono ?_
  rintro e w7 ⟨rfl, hb7⟩
  go_wp2_with fail
  refine (lives_true _).mono ?_
  rintro e w8 ⟨rfl, hb8⟩
  go_wp2
  go_ret
  exact ⟨rfl, (by repeat' first | with_reducible exact Below.refl _ _ | assumption | (with_reducible refine Below.alloc ?_ ?_ _) | (with_reducible refine Below.setCell ?_ ?_ _) | (with_reducible refine Below.drew ?_) | (with_reducible refine below_drewN ?_ _) | (with_reducible refine Below.trans ?_ (Below.mono ‹_› ?_)) | omega | (with_reducible refine le_alloc ?_) | (with_reducible refine le_setCell ?_) | (with_reducible refine le_drew ?_) | (with_reducible refine le_drewN ?_) | (with_reducible refine Nat.le_trans ?_ (Below.size ‹_›)) | (simp <;> omega))⟩

set_option maxHeartbeats 1600000 in
theorem cmps_loLess_no1 (w : World) (a b d : Int) (hab : b < d) (h1 : MayB a b = false) : Calls Try.prog 8 #[wval a b, wval a d] w (Gives (.bool true) w) := by
  have hf := cmpFacts (a := a) (b := b) (c := a) (d := d) (.inr (.inl ⟨rfl, hab, rfl⟩))
  have e0 : ∀ n : Int, (n == n) = true := fun n => by simp
  have hm0 := refMay_any a b; have hm1 := refMay_any a d
  rw [mayB_eq] at hm0 hm1
  rw [h1] at hm0
  have F1 := hid hf.one; have F2 := hid hf.two; have HM0 := hid hm0; have HM1 := hid hm1
  clear hf hm0 hm1 h1
  go_enter Try.func8, Try.ntmps8
  unfold wval
  go_wp2_with fail
  refine (HM0.out _).mono ?_
  rintro e w1 ⟨rfl, rfl⟩
  go_wp2_with fail
  refine (HM1.out _).mono ?_
  rintro e w1 ⟨rfl, rfl⟩
  have hW0 : Below w.heap.size w ((w.alloc (.cells #[.int .i64 a, .int .i64 b] 23)).alloc (.cells #[.int .i64 a, .int .i64 d] 23)) := (by repeat' first | with_reducible exact Below.refl _ _ | assumption | (with_reducible refine Below.alloc ?_ ?_ _) | (with_reducible refine Below.setCell ?_ ?_ _) | (with_reducible refine Below.drew ?_) | (with_reducible refine below_drewN ?_ _) | (with_reducible refine Below.trans ?_ (Below.mono ‹_› ?_)) | omega | (with_reducible refine le_alloc ?_) | (with_reducible refine le_setCell ?_) | (with_reducible refine le_drew ?_) | (with_reducible refine le_drewN ?_) | (with_reducible refine Nat.le_trans ?_ (Below.size ‹_›)) | (simp <;> omega))
  have r0 : ((w.alloc (.cells #[.int .i64 a, .int .i64 b] 23)).alloc (.cells #[.int .i64 a, .int .i64 d] 23)).cell? ⟨w.heap.size, 0, none⟩ = some (.int .i64 a) := (by simp [go_sem])
  have r1 : ((w.alloc (.cells #[.int .i64 a, .int .i64 b] 23)).alloc (.cells #[.int .i64 a, .int .i64 d] 23)).cell? ⟨w.heap.size, 1, none⟩ = some (.int .i64 b) := (by simp [go_sem])
  have r2 : ((w.alloc (.cells #[.int .i64 a, .int .i64 b] 23)).alloc (.cells #[.int .i64 a, .int .i64 d] 23)).cell? ⟨w.heap.size + 1, 0, none⟩ = some (.int .i64 a) := (by simp [go_sem])
  have r3 : ((w.alloc (.cells #[.int .i64 a, .int .i64 b] 23)).alloc (.cells #[.int .i64 a, .int .i64 d] 23)).cell? ⟨w.heap.size + 1, 1, none⟩ = some (.int .i64 d) := (by simp [go_sem])
  have l0 : w.heap.size < ((w.alloc (.cells #[.int .i64 a, .int .i64 b] 23)).alloc (.cells #[.int .i64 a, .int .i64 d] 23)).heap.size := (by simp <;> omega)
  have l1 : w.heap.size + 1 < ((w.alloc (.cells #[.int .i64 a, .int .i64 b] 23)).alloc (.cells #[.int .i64 a, .int .i64 d] 23)).heap.size := (by simp <;> omega)
  generalize hg : ((w.alloc (.cells #[.int .i64 a, .int .i64 b] 23)).alloc (.cells #[.int .i64 a, .int .i64 d] 23)) = W5 at *
  clear hg
  have hb5 := hW0; have s0 := r0; have s1 := r1; have s2 := r2; have s3 := r3
  go_wp2_with fail
  refine (F1.out _).mono ?_
  rintro e w6 ⟨rfl, hb6⟩
  have t0 := cellK hb6 l0 s0
  have t1 := cellK hb6 l0 s1
  have t2 := cellK hb6 l1 s2
  have t3 := cellK hb6 l1 s3
  go_wp2_with fail
  refine (F2.out _).mono ?_
  rintro e w7 ⟨rfl, hb7⟩
  go_wp2_with fail
  refine (lives_true _).mono ?_
  rintro e w8 ⟨rfl, hb8⟩
  go_wp2
  go_ret
  exact ⟨rfl, (by repeat' first | with_reducible exact Below.refl _ _ | assumption | (with_reducible refine Below.alloc ?_ ?_ _) | (with_reducible refine Below.setCell ?_ ?_ _) | (with_reducible refine Below.drew ?_) | (with_reducible refine below_drewN ?_ _) | (with_reducible refine Below.trans ?_ (Below.mono ‹_› ?_)) | omega | (with_reducible refine le_alloc ?_) | (with_reducible refine le_setCell ?_) | (with_reducible refine le_drew ?_) | (with_reducible refine le_drewN ?_) | (with_reducible refine Nat.le_trans ?_ (Below.size ‹_›)) | (simp <;> omega))⟩

set_option maxHeartbeats 1600000 in
theorem cmps_loLess_no2 (w : World) (a b d : Int) (hab : b < d) (h1 : MayB a b = true) (h2 : MayB a d = false) : Calls Try.prog 8 #[wval a b, wval a d] w (Gives (.bool true) w) := by
  have hf := cmpFacts (a := a) (b := b) (c := a) (d := d) (.inr (.inl ⟨rfl, hab, rfl⟩))
  have e0 : ∀ n : Int, (n == n) = true := fun n => by simp
  have hm0 := refMay_any a b; have hm1 := refMay_any a d
  rw [mayB_eq] at hm0 hm1
  rw [h1] at hm0
  rw [h2] at hm1
  have F1 := hid hf.one; have F2 := hid hf.two; have HM0 := hid hm0; have HM1 := hid hm1
  clear hf hm0 hm1 h1 h2
  go_enter Try.func8, Try.ntmps8
  unfold wval
  go_wp2_with fail
  refine (HM0.out _).mono ?_
  rintro e w1 ⟨rfl, rfl⟩
  go_wp2_with fail
  refine (HM1.out _).mono ?_
  rintro e w1 ⟨rfl, rfl⟩
  have hW0 : Below w.heap.size w ((w.alloc (.cells #[.int .i64 a, .int .i64 b] 23)).alloc (.cells #[.int .i64 a, .int .i64 d] 23)) := (by repeat' first | with_reducible exact Below.refl _ _ | assumption | (with_reducible refine Below.alloc ?_ ?_ _) | (with_reducible refine Below.setCell ?_ ?_ _) | (with_reducible refine Below.drew ?_) | (with_reducible refine below_drewN ?_ _) | (with_reducible refine Below.trans ?_ (Below.mono ‹_› ?_)) | omega | (with_reducible refine le_alloc ?_) | (with_reducible refine le_setCell ?_) | (with_reducible refine le_drew ?_) | (with_reducible refine le_drewN ?_) | (with_reducible refine Nat.le_trans ?_ (Below.size ‹_›)) | (simp <;> omega))
  have r0 : ((w.alloc (.cells #[.int .i64 a, .int .i64 b] 23)).alloc (.cells #[.int .i64 a, .int .i64 d] 23)).cell? ⟨w.heap.size, 0, none⟩ = some (.int .i64 a) := (by simp [go_sem])
  have r1 : ((w.alloc (.cells #[.int .i64 a, .int .i64 b] 23)).alloc (.cells #[.int .i64 a, .int .i64 d] 23)).cell? ⟨w.heap.size, 1, none⟩ = some (.int .i64 b) := (by simp [go_sem])
  have r2 : ((w.alloc (.cells #[.int .i64 a, .int .i64 b] 23)).alloc (.cells #[.int .i64 a, .int .i64 d] 23)).cell? ⟨w.heap.size + 1, 0, none⟩ = some (.int .i64 a) := (by simp [go_sem])
  have r3 : ((w.alloc (.cells #[.int .i64 a, .int .i64 b] 23)).alloc (.cells #[.int .i64 a, .int .i64 d] 23)).cell? ⟨w.heap.size + 1, 1, none⟩ = some (.int .i64 d) := (by simp [go_sem])
  have l0 : w.heap.size < ((w.alloc (.cells #[.int .i64 a, .int .i64 b] 23)).alloc (.cells #[.int .i64 a, .int .i64 d] 23)).heap.size := (by simp <;> omega)
  have l1 : w.heap.size + 1 < ((w.alloc (.cells #[.int .i64 a, .int .i64 b] 23)).alloc (.cells #[.int .i64 a, .int .i64 d] 23)).heap.size := (by simp <;> omega)
  generalize hg : ((w.alloc (.cells #[.int .i64 a, .int .i64 b] 23)).alloc (.cells #[.int .i64 a, .int .i64 d] 23)) = W5 at *
  clear hg
  have hb5 := hW0; have s0 := r0; have s1 := r1; have s2 := r2; have s3 := r3
  go_wp2_with fail
  refine (F1.out _).mono ?_
  rintro e w6 ⟨rfl, hb6⟩
  have t0 := cellK hb6 l0 s0
  have t1 := cellK hb6 l0 s1
  have t2 := cellK hb6 l1 s2
  have t3 := cellK hb6 l1 s3
  go_wp2_with fail
  refine (F2.out _).mono ?_
  rintro e w7 ⟨rfl, hb7⟩
  go_wp2_with fail
  refine (lives_true _).mono ?_
  rintro e w8 ⟨rfl, hb8⟩
  go_wp2
  go_ret
  exact ⟨rfl, (by repeat' first | with_reducible exact Below.refl _ _ | assumption | (with_reducible refine Below.alloc ?_ ?_ _) | (with_reducible refine Below.setCell ?_ ?_ _) | (with_reducible refine Below.drew ?_) | (with_reducible refine below_drewN ?_ _) | (with_reducible refine Below.trans ?_ (Below.mono ‹_› ?_)) | omega | (with_reducible refine le_alloc ?_) | (with_reducible refine le_setCell ?_) | (with_reducible refine le_drew ?_) | (with_reducible refine le_drewN ?_) | (with_reducible refine Nat.le_trans ?_ (Below.size ‹_›)) | (simp <;> omega))⟩

set_option maxHeartbeats 1600000 in
theorem cmps_same_yes (w : World) (a b : Int)  (h1 : MayB a b = true) (h2 : MayB a b = true) : Calls Try.prog 8 #[wval a b, wval a b] w (Gives (.bool true) w) := by
  have hf := cmpFacts (a := a) (b := b) (c := a) (d := b) (.inr (.inr (.inl ⟨rfl, rfl, rfl⟩)))
  have e0 : ∀ n : Int, (n == n) = true := fun n => by simp
  have hl := less_ord (a := a) (b := b) (c := a) (d := b) (.inr (.inr (.inl ⟨rfl, rfl, rfl⟩))) h1 h2
  rw [show decide ((0 : Int) < 0) = false by decide] at hl
  have ba := may_bounds h1; have bc := may_bounds h2
  have hw1 := fun W => refWide_any a b W (by omega) (by omega)
  have hw2 := fun W => refWide_any a b W (by omega) (by omega)
  have hrl := fun u v W h k => refLess_any u v (a * 4294967296 + b) (a * 4294967296 + b) W h k (by omega) (by omega) (by omega) (by omega)
  unfold LessPost at hrl
  rw [hl] at hrl
  clear hl ba bc
  have hm0 := refMay_any a b; have hm1 := refMay_any a b
  rw [mayB_eq] at hm0 hm1
  rw [h1] at hm0
  rw [h2] at hm1
  have F1 := hid hf.one; have F2 := hid hf.two; have HM0 := hid hm0; have HM1 := hid hm1
  have HW1 := hid hw1; have HW2 := hid hw2; have HL := hid hrl
  clear hf hm0 hm1 h1 h2 hw1 hw2 hrl
  go_enter Try.func8, Try.ntmps8
  unfold wval
  go_wp2_with fail
  refine (HM0.out _).mono ?_
  rintro e w1 ⟨rfl, rfl⟩
  go_wp2_with fail
  refine (HM1.out _).mono ?_
  rintro e w1 ⟨rfl, rfl⟩
  have hW0 : Below w.heap.size w ((w.alloc (.cells #[.int .i64 a, .int .i64 b] 23)).alloc (.cells #[.int .i64 a, .int .i64 b] 23)) := (by repeat' first | with_reducible exact Below.refl _ _ | assumption | (with_reducible refine Below.alloc ?_ ?_ _) | (with_reducible refine Below.setCell ?_ ?_ _) | (with_reducible refine Below.drew ?_) | (with_reducible refine below_drewN ?_ _) | (with_reducible refine Below.trans ?_ (Below.mono ‹_› ?_)) | omega | (with_reducible refine le_alloc ?_) | (with_reducible refine le_setCell ?_) | (with_reducible refine le_drew ?_) | (with_reducible refine le_drewN ?_) | (with_reducible refine Nat.le_trans ?_ (Below.size ‹_›)) | (simp <;> omega))
  have r0 : ((w.alloc (.cells #[.int .i64 a, .int .i64 b] 23)).alloc (.cells #[.int .i64 a, .int .i64 b] 23)).cell? ⟨w.heap.size, 0, none⟩ = some (.int .i64 a) := (by simp [go_sem])
  have r1 : ((w.alloc (.cells #[.int .i64 a, .int .i64 b] 23)).alloc (.cells #[.int .i64 a, .int .i64 b] 23)).cell? ⟨w.heap.size, 1, none⟩ = some (.int .i64 b) := (by simp [go_sem])
  have r2 : ((w.alloc (.cells #[.int .i64 a, .int .i64 b] 23)).alloc (.cells #[.int .i64 a, .int .i64 b] 23)).cell? ⟨w.heap.size + 1, 0, none⟩ = some (.int .i64 a) := (by simp [go_sem])
  have r3 : ((w.alloc (.cells #[.int .i64 a, .int .i64 b] 23)).alloc (.cells #[.int .i64 a, .int .i64 b] 23)).cell? ⟨w.heap.size + 1, 1, none⟩ = some (.int .i64 b) := (by simp [go_sem])
  have l0 : w.heap.size < ((w.alloc (.cells #[.int .i64 a, .int .i64 b] 23)).alloc (.cells #[.int .i64 a, .int .i64 b] 23)).heap.size := (by simp <;> omega)
  have l1 : w.heap.size + 1 < ((w.alloc (.cells #[.int .i64 a, .int .i64 b] 23)).alloc (.cells #[.int .i64 a, .int .i64 b] 23)).heap.size := (by simp <;> omega)
  go_wp2
  generalize hg : ((w.alloc (.cells #[.int .i64 a, .int .i64 b] 23)).alloc (.cells #[.int .i64 a, .int .i64 b] 23)) = W at *
  clear hg
  have tok1 : True := trivial
  go_region_held3 (fun w' => w'.cell? ⟨w.heap.size, 0, none⟩ = some (.int .i64 a) ∧ w'.cell? ⟨w.heap.size, 1, none⟩ = some (.int .i64 b) ∧ w'.cell? ⟨w.heap.size + 1, 0, none⟩ = some (.int .i64 a) ∧ w'.cell? ⟨w.heap.size + 1, 1, none⟩ = some (.int .i64 b)) (go_keep)
    (first | (go_at_call 24; have _t := tok1; refine (HW1.out _).mono ?_; rintro e w3 ⟨u1, rfl, hu1, hb3⟩; clear tok1 _t; have s0 := cellK hb3 l0 r0; have s1 := cellK hb3 l0 r1; have s2 := cellK hb3 l1 r2; have s3 := cellK hb3 l1 r3) | (go_at_call 24; refine (HW2.out _).mono ?_; rintro e w4 ⟨u2, rfl, hu2, hb4⟩; have s0 := cellK (hb4.mono hb3.size) l0 s0; have s1 := cellK (hb4.mono hb3.size) l0 s1; have s2 := cellK (hb4.mono hb3.size) l1 s2; have s3 := cellK (hb4.mono hb3.size) l1 s3) | (go_at_call 30; refine (HL.out _ _ _ ((hu1.below hb4).more hb4.size) hu2).mono ?_; rintro e w5 ⟨rfl, n5, rfl⟩))
  have hb5 : Below w.heap.size w (w4.drewN n5) := below_drewN ((hW0.trans (((Below.refl _ _).drew.trans hb3).mono hW0.size)).trans (hb4.mono (Nat.le_trans hW0.size hb3.size))) _
  have l0 : w.heap.size < (w4.drewN n5).heap.size := show w.heap.size < w4.heap.size from lt_of_below hb4 (lt_of_below hb3 l0)
  have l1 : w.heap.size + 1 < (w4.drewN n5).heap.size := show w.heap.size + 1 < w4.heap.size from lt_of_below hb4 (lt_of_below hb3 l1)
  have s0 : (w4.drewN n5).cell? ⟨w.heap.size, 0, none⟩ = some (.int .i64 a) := s0
  have s1 : (w4.drewN n5).cell? ⟨w.heap.size, 1, none⟩ = some (.int .i64 b) := s1
  have s2 : (w4.drewN n5).cell? ⟨w.heap.size + 1, 0, none⟩ = some (.int .i64 a) := s2
  have s3 : (w4.drewN n5).cell? ⟨w.heap.size + 1, 1, none⟩ = some (.int .i64 b) := s3
  generalize hg5 : w4.drewN n5 = W5 at *
  clear hg5
  go_wp2_with fail
  refine (F1.out _).mono ?_
  rintro e w6 ⟨rfl, hb6⟩
  have t0 := cellK hb6 l0 s0
  have t1 := cellK hb6 l0 s1
  have t2 := cellK hb6 l1 s2
  have t3 := cellK hb6 l1 s3
  go_wp2_with fail
  refine (F2.out _).mono ?_
  rintro e w7 ⟨rfl, hb7⟩
  go_wp2_with fail
  refine (lives_true _).mono ?_
  rintro e w8 ⟨rfl, hb8⟩
  go_wp2
  go_ret
  exact ⟨rfl, (by repeat' first | with_reducible exact Below.refl _ _ | assumption | (with_reducible refine Below.alloc ?_ ?_ _) | (with_reducible refine Below.setCell ?_ ?_ _) | (with_reducible refine Below.drew ?_) | (with_reducible refine below_drewN ?_ _) | (with_reducible refine Below.trans ?_ (Below.mono ‹_› ?_)) | omega | (with_reducible refine le_alloc ?_) | (with_reducible refine le_setCell ?_) | (with_reducible refine le_drew ?_) | (with_reducible refine le_drewN ?_) | (with_reducible refine Nat.le_trans ?_ (Below.size ‹_›)) | (simp <;> omega))⟩

set_option maxHeartbeats 1600000 in
theorem cmps_same_no1 (w : World) (a b : Int)  (h1 : MayB a b = false) : Calls Try.prog 8 #[wval a b, wval a b] w (Gives (.bool true) w) := by
  have hf := cmpFacts (a := a) (b := b) (c := a) (d := b) (.inr (.inr (.inl ⟨rfl, rfl, rfl⟩)))
  have e0 : ∀ n : Int, (n == n) = true := fun n => by simp
  have hm0 := refMay_any a b; have hm1 := refMay_any a b
  rw [mayB_eq] at hm0 hm1
  rw [h1] at hm0
  have F1 := hid hf.one; have F2 := hid hf.two; have HM0 := hid hm0; have HM1 := hid hm1
  clear hf hm0 hm1 h1
  go_enter Try.func8, Try.ntmps8
  unfold wval
  go_wp2_with fail
  refine (HM0.out _).mono ?_
  rintro e w1 ⟨rfl, rfl⟩
  go_wp2_with fail
  refine (HM1.out _).mono ?_
  rintro e w1 ⟨rfl, rfl⟩
  have hW0 : Below w.heap.size w ((w.alloc (.cells #[.int .i64 a, .int .i64 b] 23)).alloc (.cells #[.int .i64 a, .int .i64 b] 23)) := (by repeat' first | with_reducible exact Below.refl _ _ | assumption | (with_reducible refine Below.alloc ?_ ?_ _) | (with_reducible refine Below.setCell ?_ ?_ _) | (with_reducible refine Below.drew ?_) | (with_reducible refine below_drewN ?_ _) | (with_reducible refine Below.trans ?_ (Below.mono ‹_› ?_)) | omega | (with_reducible refine le_alloc ?_) | (with_reducible refine le_setCell ?_) | (with_reducible refine le_drew ?_) | (with_reducible refine le_drewN ?_) | (with_reducible refine Nat.le_trans ?_ (Below.size ‹_›)) | (simp <;> omega))
  have r0 : ((w.alloc (.cells #[.int .i64 a, .int .i64 b] 23)).alloc (.cells #[.int .i64 a, .int .i64 b] 23)).cell? ⟨w.heap.size, 0, none⟩ = some (.int .i64 a) := (by simp [go_sem])
  have r1 : ((w.alloc (.cells #[.int .i64 a, .int .i64 b] 23)).alloc (.cells #[.int .i64 a, .int .i64 b] 23)).cell? ⟨w.heap.size, 1, none⟩ = some (.int .i64 b) := (by simp [go_sem])
  have r2 : ((w.alloc (.cells #[.int .i64 a, .int .i64 b] 23)).alloc (.cells #[.int .i64 a, .int .i64 b] 23)).cell? ⟨w.heap.size + 1, 0, none⟩ = some (.int .i64 a) := (by simp [go_sem])
  have r3 : ((w.alloc (.cells #[.int .i64 a, .int .i64 b] 23)).alloc (.cells #[.int .i64 a, .int .i64 b] 23)).cell? ⟨w.heap.size + 1, 1, none⟩ = some (.int .i64 b) := (by simp [go_sem])
  have l0 : w.heap.size < ((w.alloc (.cells #[.int .i64 a, .int .i64 b] 23)).alloc (.cells #[.int .i64 a, .int .i64 b] 23)).heap.size := (by simp <;> omega)
  have l1 : w.heap.size + 1 < ((w.alloc (.cells #[.int .i64 a, .int .i64 b] 23)).alloc (.cells #[.int .i64 a, .int .i64 b] 23)).heap.size := (by simp <;> omega)
  generalize hg : ((w.alloc (.cells #[.int .i64 a, .int .i64 b] 23)).alloc (.cells #[.int .i64 a, .int .i64 b] 23)) = W5 at *
  clear hg
  have hb5 := hW0; have s0 := r0; have s1 := r1; have s2 := r2; have s3 := r3
  go_wp2_with fail
  refine (F1.out _).mono ?_
  rintro e w6 ⟨rfl, hb6⟩
  have t0 := cellK hb6 l0 s0
  have t1 := cellK hb6 l0 s1
  have t2 := cellK hb6 l1 s2
  have t3 := cellK hb6 l1 s3
  go_wp2_with fail
  refine (F2.out _).mono ?_
  rintro e w7 ⟨rfl, hb7⟩
  go_wp2_with fail
  refine (lives_true _).mono ?_
  rintro e w8 ⟨rfl, hb8⟩
  go_wp2
  go_ret
  exact ⟨rfl, (by repeat' first | with_reducible exact Below.refl _ _ | assumption | (with_reducible refine Below.alloc ?_ ?_ _) | (with_reducible refine Below.setCell ?_ ?_ _) | (with_reducible refine Below.drew ?_) | (with_reducible refine below_drewN ?_ _) | (with_reducible refine Below.trans ?_ (Below.mono ‹_› ?_)) | omega | (with_reducible refine le_alloc ?_) | (with_reducible refine le_setCell ?_) | (with_reducible refine le_drew ?_) | (with_reducible refine le_drewN ?_) | (with_reducible refine Nat.le_trans ?_ (Below.size ‹_›)) | (simp <;> omega))⟩

set_option maxHeartbeats 1600000 in
theorem cmps_loMore_yes (w : World) (a b d : Int) (hab : d < b) (h1 : MayB a b = true) (h2 : MayB a d = true) : Calls Try.prog 8 #[wval a b, wval a d] w (Gives (.bool true) w) := by
  have hf := cmpFacts (a := a) (b := b) (c := a) (d := d) (.inr (.inr (.inr (.inl ⟨rfl, hab, rfl⟩))))
  have e0 : ∀ n : Int, (n == n) = true := fun n => by simp
  have f1 : (b == d) = false := by rw [beq_eq_false_iff_ne]; omega
  have hl := less_ord (a := a) (b := b) (c := a) (d := d) (.inr (.inr (.inr (.inl ⟨rfl, hab, rfl⟩)))) h1 h2
  rw [show decide ((1 : Int) < 0) = false by decide] at hl
  have ba := may_bounds h1; have bc := may_bounds h2
  have hw1 := fun W => refWide_any a b W (by omega) (by omega)
  have hw2 := fun W => refWide_any a d W (by omega) (by omega)
  have hrl := fun u v W h k => refLess_any u v (a * 4294967296 + b) (a * 4294967296 + d) W h k (by omega) (by omega) (by omega) (by omega)
  unfold LessPost at hrl
  rw [hl] at hrl
  clear hl ba bc
  have hm0 := refMay_any a b; have hm1 := refMay_any a d
  rw [mayB_eq] at hm0 hm1
  rw [h1] at hm0
  rw [h2] at hm1
  have F1 := hid hf.one; have F2 := hid hf.two; have HM0 := hid hm0; have HM1 := hid hm1
  have HW1 := hid hw1; have HW2 := hid hw2; have HL := hid hrl
  clear hf hm0 hm1 h1 h2 hw1 hw2 hrl
  go_enter Try.func8, Try.ntmps8
  unfold wval
  go_wp2_with fail
  refine (HM0.out _).mono ?_
  rintro e w1 ⟨rfl, rfl⟩
  go_wp2_with fail
  refine (HM1.out _).mono ?_
  rintro e w1 ⟨rfl, rfl⟩
  have hW0 : Below w.heap.size w ((w.alloc (.cells #[.int .i64 a, .int .i64 b] 23)).alloc (.cells #[.int .i64 a, .int .i64 d] 23)) := (by repeat' first | with_reducible exact Below.refl _ _ | assumption | (with_reducible refine Below.alloc ?_ ?_ _) | (with_reducible refine Below.setCell ?_ ?_ _) | (with_reducible refine Below.drew ?_) | (with_reducible refine below_drewN ?_ _) | (with_reducible refine Below.trans ?_ (Below.mono ‹_› ?_)) | omega | (with_reducible refine le_alloc ?_) | (with_reducible refine le_setCell ?_) | (with_reducible refine le_drew ?_) | (with_reducible refine le_drewN ?_) | (with_reducible refine Nat.le_trans ?_ (Below.size ‹_›)) | (simp <;> omega))
  have r0 : ((w.alloc (.cells #[.int .i64 a, .int .i64 b] 23)).alloc (.cells #[.int .i64 a, .int .i64 d] 23)).cell? ⟨w.heap.size, 0, none⟩ = some (.int .i64 a) := (by simp [go_sem])
  have r1 : ((w.alloc (.cells #[.int .i64 a, .int .i64 b] 23)).alloc (.cells #[.int .i64 a, .int .i64 d] 23)).cell? ⟨w.heap.size, 1, none⟩ = some (.int .i64 b) := (by simp [go_sem])
  have r2 : ((w.alloc (.cells #[.int .i64 a, .int .i64 b] 23)).alloc (.cells #[.int .i64 a, .int .i64 d] 23)).cell? ⟨w.heap.size + 1, 0, none⟩ = some (.int .i64 a) := (by simp [go_sem])
  have r3 : ((w.alloc (.cells #[.int .i64 a, .int .i64 b] 23)).alloc (.cells #[.int .i64 a, .int .i64 d] 23)).cell? ⟨w.heap.size + 1, 1, none⟩ = some (.int .i64 d) := (by simp [go_sem])
  have l0 : w.heap.size < ((w.alloc (.cells #[.int .i64 a, .int .i64 b] 23)).alloc (.cells #[.int .i64 a, .int .i64 d] 23)).heap.size := (by simp <;> omega)
  have l1 : w.heap.size + 1 < ((w.alloc (.cells #[.int .i64 a, .int .i64 b] 23)).alloc (.cells #[.int .i64 a, .int .i64 d] 23)).heap.size := (by simp <;> omega)
  go_wp2
  generalize hg : ((w.alloc (.cells #[.int .i64 a, .int .i64 b] 23)).alloc (.cells #[.int .i64 a, .int .i64 d] 23)) = W at *
  clear hg
  go_region_held3 (fun w' => w'.cell? ⟨w.heap.size, 0, none⟩ = some (.int .i64 a) ∧ w'.cell? ⟨w.heap.size, 1, none⟩ = some (.int .i64 b) ∧ w'.cell? ⟨w.heap.size + 1, 0, none⟩ = some (.int .i64 a) ∧ w'.cell? ⟨w.heap.size + 1, 1, none⟩ = some (.int .i64 d)) (go_keep)
    (first | (go_at_call_of 24 (Value.int .i64 b); refine (HW1.out _).mono ?_; rintro e w3 ⟨u1, rfl, hu1, hb3⟩; have s0 := cellK hb3 l0 r0; have s1 := cellK hb3 l0 r1; have s2 := cellK hb3 l1 r2; have s3 := cellK hb3 l1 r3) | (go_at_call_of 24 (Value.int .i64 d); refine (HW2.out _).mono ?_; rintro e w4 ⟨u2, rfl, hu2, hb4⟩; have s0 := cellK (hb4.mono hb3.size) l0 s0; have s1 := cellK (hb4.mono hb3.size) l0 s1; have s2 := cellK (hb4.mono hb3.size) l1 s2; have s3 := cellK (hb4.mono hb3.size) l1 s3) | (go_at_call 30; refine (HL.out _ _ _ ((hu1.below hb4).more hb4.size) hu2).mono ?_; rintro e w5 ⟨rfl, n5, rfl⟩))
  have hb5 : Below w.heap.size w (w4.drewN n5) := below_drewN ((hW0.trans (((Below.refl _ _).drew.trans hb3).mono hW0.size)).trans (hb4.mono (Nat.le_trans hW0.size hb3.size))) _
  have l0 : w.heap.size < (w4.drewN n5).heap.size := show w.heap.size < w4.heap.size from lt_of_below hb4 (lt_of_below hb3 l0)
  have l1 : w.heap.size + 1 < (w4.drewN n5).heap.size := show w.heap.size + 1 < w4.heap.size from lt_of_below hb4 (lt_of_below hb3 l1)
  have s0 : (w4.drewN n5).cell? ⟨w.heap.size, 0, none⟩ = some (.int .i64 a) := s0
  have s1 : (w4.drewN n5).cell? ⟨w.heap.size, 1, none⟩ = some (.int .i64 b) := s1
  have s2 : (w4.drewN n5).cell? ⟨w.heap.size + 1, 0, none⟩ = some (.int .i64 a) := s2
  have s3 : (w4.drewN n5).cell? ⟨w.heap.size + 1, 1, none⟩ = some (.int .i64 d) := s3
  generalize hg5 : w4.drewN n5 = W5 at *
  clear hg5
  go_wp2_with fail
  refine (F1.out _).mono ?_
  rintro e w6 ⟨rfl, hb6⟩
  have t0 := cellK hb6 l0 s0
  have t1 := cellK hb6 l0 s1
  have t2 := cellK hb6 l1 s2
  have t3 := cellK hb6 l1 s3
  go_wp2_with fail
  refine (F2.out _).mono ?_
  rintro e w7 ⟨rfl, hb7⟩
  go_wp2_with fail
  refine (lives_true _).mono ?_
  rintro e w8 ⟨rfl, hb8⟩
  go_wp2
  go_ret
  exact ⟨rfl, (by repeat' first | with_reducible exact Below.refl _ _ | assumption | (with_reducible refine Below.alloc ?_ ?_ _) | (with_reducible refine Below.setCell ?_ ?_ _) | (with_reducible refine Below.drew ?_) | (with_reducible refine below_drewN ?_ _) | (with_reducible refine Below.trans ?_ (Below.mono ‹_› ?_)) | omega | (with_reducible refine le_alloc ?_) | (with_reducible refine le_setCell ?_) | (with_reducible refine le_drew ?_) | (with_reducible refine le_drewN ?_) | (with_reducible refine Nat.le_trans ?_ (Below.size ‹_›)) | (simp <;> omega))⟩

set_option maxHeartbeats 1600000 in
theorem cmps_loMore_no1 (w : World) (a b d : Int) (hab : d < b) (h1 : MayB a b = false) : Calls Try.prog 8 #[wval a b, wval a d] w (Gives (.bool true) w) := by
  have hf := cmpFacts (a := a) (b := b) (c := a) (d := d) (.inr (.inr (.inr (.inl ⟨rfl, hab, rfl⟩))))
  have e0 : ∀ n : Int, (n == n) = true := fun n => by simp
  have f1 : (b == d) = false := by rw [beq_eq_false_iff_ne]; omega
  have hm0 := refMay_any a b; have hm1 := refMay_any a d
  rw [mayB_eq] at hm0 hm1
  rw [h1] at hm0
  have F1 := hid hf.one; have F2 := hid hf.two; have HM0 := hid hm0; have HM1 := hid hm1
  clear hf hm0 hm1 h1
  go_enter Try.func8, Try.ntmps8
  unfold wval
  go_wp2_with fail
  refine (HM0.out _).mono ?_
  rintro e w1 ⟨rfl, rfl⟩
  go_wp2_with fail
  refine (HM1.out _).mono ?_
  rintro e w1 ⟨rfl, rfl⟩
  have hW0 : Below w.heap.size w ((w.alloc (.cells #[.int .i64 a, .int .i64 b] 23)).alloc (.cells #[.int .i64 a, .int .i64 d] 23)) := (by repeat' first | with_reducible exact Below.refl _ _ | assumption | (with_reducible refine Below.alloc ?_ ?_ _) | (with_reducible refine Below.setCell ?_ ?_ _) | (with_reducible refine Below.drew ?_) | (with_reducible refine below_drewN ?_ _) | (with_reducible refine Below.trans ?_ (Below.mono ‹_› ?_)) | omega | (with_reducible refine le_alloc ?_) | (with_reducible refine le_setCell ?_) | (with_reducible refine le_drew ?_) | (with_reducible refine le_drewN ?_) | (with_reducible refine Nat.le_trans ?_ (Below.size ‹_›)) | (simp <;> omega))
  have r0 : ((w.alloc (.cells #[.int .i64 a, .int .i64 b] 23)).alloc (.cells #[.int .i64 a, .int .i64 d] 23)).cell? ⟨w.heap.size, 0, none⟩ = some (.int .i64 a) := (by simp [go_sem])
  have r1 : ((w.alloc (.cells #[.int .i64 a, .int .i64 b] 23)).alloc (.cells #[.int .i64 a, .int .i64 d] 23)).cell? ⟨w.heap.size, 1, none⟩ = some (.int .i64 b) := (by simp [go_sem])
  have r2 : ((w.alloc (.cells #[.int .i64 a, .int .i64 b] 23)).alloc (.cells #[.int .i64 a, .int .i64 d] 23)).cell? ⟨w.heap.size + 1, 0, none⟩ = some (.int .i64 a) := (by simp [go_sem])
  have r3 : ((w.alloc (.cells #[.int .i64 a, .int .i64 b] 23)).alloc (.cells #[.int .i64 a, .int .i64 d] 23)).cell? ⟨w.heap.size + 1, 1, none⟩ = some (.int .i64 d) := (by simp [go_sem])
  have l0 : w.heap.size < ((w.alloc (.cells #[.int .i64 a, .int .i64 b] 23)).alloc (.cells #[.int .i64 a, .int .i64 d] 23)).heap.size := (by simp <;> omega)
  have l1 : w.heap.size + 1 < ((w.alloc (.cells #[.int .i64 a, .int .i64 b] 23)).alloc (.cells #[.int .i64 a, .int .i64 d] 23)).heap.size := (by simp <;> omega)
  generalize hg : ((w.alloc (.cells #[.int .i64 a, .int .i64 b] 23)).alloc (.cells #[.int .i64 a, .int .i64 d] 23)) = W5 at *
  clear hg
  have hb5 := hW0; have s0 := r0; have s1 := r1; have s2 := r2; have s3 := r3
  go_wp2_with fail
  refine (F1.out _).mono ?_
  rintro e w6 ⟨rfl, hb6⟩
  have t0 := cellK hb6 l0 s0
  have t1 := cellK hb6 l0 s1
  have t2 := cellK hb6 l1 s2
  have t3 := cellK hb6 l1 s3
  go_wp2_with fail
  refine (F2.out _).mono ?_
  rintro e w7 ⟨rfl, hb7⟩
  go_wp2_with fail
  refine (lives_true _).mono ?_
  rintro e w8 ⟨rfl, hb8⟩
  go_wp2
  go_ret
  exact ⟨rfl, (by repeat' first | with_reducible exact Below.refl _ _ | assumption | (with_reducible refine Below.alloc ?_ ?_ _) | (with_reducible refine Below.setCell ?_ ?_ _) | (with_reducible refine Below.drew ?_) | (with_reducible refine below_drewN ?_ _) | (with_reducible refine Below.trans ?_ (Below.mono ‹_› ?_)) | omega | (with_reducible refine le_alloc ?_) | (with_reducible refine le_setCell ?_) | (with_reducible refine le_drew ?_) | (with_reducible refine le_drewN ?_) | (with_reducible refine Nat.le_trans ?_ (Below.size ‹_›)) | (simp <;> omega))⟩

set_option maxHeartbeats 1600000 in
theorem cmps_loMore_no2 (w : World) (a b d : Int) (hab : d < b) (h1 : MayB a b = true) (h2 : MayB a d = false) : Calls Try.prog 8 #[wval a b, wval a d] w (Gives (.bool true) w) := by
  have hf := cmpFacts (a := a) (b := b) (c := a) (d := d) (.inr (.inr (.inr (.inl ⟨rfl, hab, rfl⟩))))
  have e0 : ∀ n : Int, (n == n) = true := fun n => by simp
  have f1 : (b == d) = false := by rw [beq_eq_false_iff_ne]; omega
  have hm0 := refMay_any a b; have hm1 := refMay_any a d
  rw [mayB_eq] at hm0 hm1
  rw [h1] at hm0
  rw [h2] at hm1
  have F1 := hid hf.one; have F2 := hid hf.two; have HM0 := hid hm0; have HM1 := hid hm1
  clear hf hm0 hm1 h1 h2
  go_enter Try.func8, Try.ntmps8
  unfold wval
  go_wp2_with fail
  refine (HM0.out _).mono ?_
  rintro e w1 ⟨rfl, rfl⟩
  go_wp2_with fail
  refine (HM1.out _).mono ?_
  rintro e w1 ⟨rfl, rfl⟩
  have hW0 : Below w.heap.size w ((w.alloc (.cells #[.int .i64 a, .int .i64 b] 23)).alloc (.cells #[.int .i64 a, .int .i64 d] 23)) := (by repeat' first | with_reducible exact Below.refl _ _ | assumption | (with_reducible refine Below.alloc ?_ ?_ _) | (with_reducible refine Below.setCell ?_ ?_ _) | (with_reducible refine Below.drew ?_) | (with_reducible refine below_drewN ?_ _) | (with_reducible refine Below.trans ?_ (Below.mono ‹_› ?_)) | omega | (with_reducible refine le_alloc ?_) | (with_reducible refine le_setCell ?_) | (with_reducible refine le_drew ?_) | (with_reducible refine le_drewN ?_) | (with_reducible refine Nat.le_trans ?_ (Below.size ‹_›)) | (simp <;> omega))
  have r0 : ((w.alloc (.cells #[.int .i64 a, .int .i64 b] 23)).alloc (.cells #[.int .i64 a, .int .i64 d] 23)).cell? ⟨w.heap.size, 0, none⟩ = some (.int .i64 a) := (by simp [go_sem])
  have r1 : ((w.alloc (.cells #[.int .i64 a, .int .i64 b] 23)).alloc (.cells #[.int .i64 a, .int .i64 d] 23)).cell? ⟨w.heap.size, 1, none⟩ = some (.int .i64 b) := (by simp [go_sem])
  have r2 : ((w.alloc (.cells #[.int .i64 a, .int .i64 b] 23)).alloc (.cells #[.int .i64 a, .int .i64 d] 23)).cell? ⟨w.heap.size + 1, 0, none⟩ = some (.int .i64 a) := (by simp [go_sem])
  have r3 : ((w.alloc (.cells #[.int .i64 a, .int .i64 b] 23)).alloc (.cells #[.int .i64 a, .int .i64 d] 23)).cell? ⟨w.heap.size + 1, 1, none⟩ = some (.int .i64 d) := (by simp [go_sem])
  have l0 : w.heap.size < ((w.alloc (.cells #[.int .i64 a, .int .i64 b] 23)).alloc (.cells #[.int .i64 a, .int .i64 d] 23)).heap.size := (by simp <;> omega)
  have l1 : w.heap.size + 1 < ((w.alloc (.cells #[.int .i64 a, .int .i64 b] 23)).alloc (.cells #[.int .i64 a, .int .i64 d] 23)).heap.size := (by simp <;> omega)
  generalize hg : ((w.alloc (.cells #[.int .i64 a, .int .i64 b] 23)).alloc (.cells #[.int .i64 a, .int .i64 d] 23)) = W5 at *
  clear hg
  have hb5 := hW0; have s0 := r0; have s1 := r1; have s2 := r2; have s3 := r3
  go_wp2_with fail
  refine (F1.out _).mono ?_
  rintro e w6 ⟨rfl, hb6⟩
  have t0 := cellK hb6 l0 s0
  have t1 := cellK hb6 l0 s1
  have t2 := cellK hb6 l1 s2
  have t3 := cellK hb6 l1 s3
  go_wp2_with fail
  refine (F2.out _).mono ?_
  rintro e w7 ⟨rfl, hb7⟩
  go_wp2_with fail
  refine (lives_true _).mono ?_
  rintro e w8 ⟨rfl, hb8⟩
  go_wp2
  go_ret
  exact ⟨rfl, (by repeat' first | with_reducible exact Below.refl _ _ | assumption | (with_reducible refine Below.alloc ?_ ?_ _) | (with_reducible refine Below.setCell ?_ ?_ _) | (with_reducible refine Below.drew ?_) | (with_reducible refine below_drewN ?_ _) | (with_reducible refine Below.trans ?_ (Below.mono ‹_› ?_)) | omega | (with_reducible refine le_alloc ?_) | (with_reducible refine le_setCell ?_) | (with_reducible refine le_drew ?_) | (with_reducible refine le_drewN ?_) | (with_reducible refine Nat.le_trans ?_ (Below.size ‹_›)) | (simp <;> omega))⟩

set_option maxHeartbeats 1600000 in
theorem cmps_hiMore_yes (w : World) (a b c d : Int) (hab : c < a) (h1 : MayB a b = true) (h2 : MayB c d = true) : Calls Try.prog 8 #[wval a b, wval c d] w (Gives (.bool true) w) := by
  have hf := cmpFacts (a := a) (b := b) (c := c) (d := d) (.inr (.inr (.inr (.inr ⟨hab, rfl⟩))))
  have e0 : ∀ n : Int, (n == n) = true := fun n => by simp
  have f1 : (a == c) = false := by rw [beq_eq_false_iff_ne]; omega
  have hl := less_ord (a := a) (b := b) (c := c) (d := d) (.inr (.inr (.inr (.inr ⟨hab, rfl⟩)))) h1 h2
  rw [show decide ((1 : Int) < 0) = false by decide] at hl
  have ba := may_bounds h1; have bc := may_bounds h2
  have hw1 := fun W => refWide_any a b W (by omega) (by omega)
  have hw2 := fun W => refWide_any c d W (by omega) (by omega)
  have hrl := fun u v W h k => refLess_any u v (a * 4294967296 + b) (c * 4294967296 + d) W h k (by omega) (by omega) (by omega) (by omega)
  unfold LessPost at hrl
  rw [hl] at hrl
  clear hl ba bc
  have hm0 := refMay_any a b; have hm1 := refMay_any c d
  rw [mayB_eq] at hm0 hm1
  rw [h1] at hm0
  rw [h2] at hm1
  have F1 := hid hf.one; have F2 := hid hf.two; have HM0 := hid hm0; have HM1 := hid hm1
  have HW1 := hid hw1; have HW2 := hid hw2; have HL := hid hrl
  clear hf hm0 hm1 h1 h2 hw1 hw2 hrl
  go_enter Try.func8, Try.ntmps8
  unfold wval
  go_wp2_with fail
  refine (HM0.out _).mono ?_
  rintro e w1 ⟨rfl, rfl⟩
  go_wp2_with fail
  refine (HM1.out _).mono ?_
  rintro e w1 ⟨rfl, rfl⟩
  have hW0 : Below w.heap.size w ((w.alloc (.cells #[.int .i64 a, .int .i64 b] 23)).alloc (.cells #[.int .i64 c, .int .i64 d] 23)) := (by repeat' first | with_reducible exact Below.refl _ _ | assumption | (with_reducible refine Below.alloc ?_ ?_ _) | (with_reducible refine Below.setCell ?_ ?_ _) | (with_reducible refine Below.drew ?_) | (with_reducible refine below_drewN ?_ _) | (with_reducible refine Below.trans ?_ (Below.mono ‹_› ?_)) | omega | (with_reducible refine le_alloc ?_) | (with_reducible refine le_setCell ?_) | (with_reducible refine le_drew ?_) | (with_reducible refine le_drewN ?_) | (with_reducible refine Nat.le_trans ?_ (Below.size ‹_›)) | (simp <;> omega))
  have r0 : ((w.alloc (.cells #[.int .i64 a, .int .i64 b] 23)).alloc (.cells #[.int .i64 c, .int .i64 d] 23)).cell? ⟨w.heap.size, 0, none⟩ = some (.int .i64 a) := (by simp [go_sem])
  have r1 : ((w.alloc (.cells #[.int .i64 a, .int .i64 b] 23)).alloc (.cells #[.int .i64 c, .int .i64 d] 23)).cell? ⟨w.heap.size, 1, none⟩ = some (.int .i64 b) := (by simp [go_sem])
  have r2 : ((w.alloc (.cells #[.int .i64 a, .int .i64 b] 23)).alloc (.cells #[.int .i64 c, .int .i64 d] 23)).cell? ⟨w.heap.size + 1, 0, none⟩ = some (.int .i64 c) := (by simp [go_sem])
  have r3 : ((w.alloc (.cells #[.int .i64 a, .int .i64 b] 23)).alloc (.cells #[.int .i64 c, .int .i64 d] 23)).cell? ⟨w.heap.size + 1, 1, none⟩ = some (.int .i64 d) := (by simp [go_sem])
  have l0 : w.heap.size < ((w.alloc (.cells #[.int .i64 a, .int .i64 b] 23)).alloc (.cells #[.int .i64 c, .int .i64 d] 23)).heap.size := (by simp <;> omega)
  have l1 : w.heap.size + 1 < ((w.alloc (.cells #[.int .i64 a, .int .i64 b] 23)).alloc (.cells #[.int .i64 c, .int .i64 d] 23)).heap.size := (by simp <;> omega)
  go_wp2
  generalize hg : ((w.alloc (.cells #[.int .i64 a, .int .i64 b] 23)).alloc (.cells #[.int .i64 c, .int .i64 d] 23)) = W at *
  clear hg
  go_region_held3 (fun w' => w'.cell? ⟨w.heap.size, 0, none⟩ = some (.int .i64 a) ∧ w'.cell? ⟨w.heap.size, 1, none⟩ = some (.int .i64 b) ∧ w'.cell? ⟨w.heap.size + 1, 0, none⟩ = some (.int .i64 c) ∧ w'.cell? ⟨w.heap.size + 1, 1, none⟩ = some (.int .i64 d)) (go_keep)
    (first | (go_at_call_of 24 (Value.int .i64 a); refine (HW1.out _).mono ?_; rintro e w3 ⟨u1, rfl, hu1, hb3⟩; have s0 := cellK hb3 l0 r0; have s1 := cellK hb3 l0 r1; have s2 := cellK hb3 l1 r2; have s3 := cellK hb3 l1 r3) | (go_at_call_of 24 (Value.int .i64 c); refine (HW2.out _).mono ?_; rintro e w4 ⟨u2, rfl, hu2, hb4⟩; have s0 := cellK (hb4.mono hb3.size) l0 s0; have s1 := cellK (hb4.mono hb3.size) l0 s1; have s2 := cellK (hb4.mono hb3.size) l1 s2; have s3 := cellK (hb4.mono hb3.size) l1 s3) | (go_at_call 30; refine (HL.out _ _ _ ((hu1.below hb4).more hb4.size) hu2).mono ?_; rintro e w5 ⟨rfl, n5, rfl⟩))
  have hb5 : Below w.heap.size w (w4.drewN n5) := below_drewN ((hW0.trans (((Below.refl _ _).drew.trans hb3).mono hW0.size)).trans (hb4.mono (Nat.le_trans hW0.size hb3.size))) _
  have l0 : w.heap.size < (w4.drewN n5).heap.size := show w.heap.size < w4.heap.size from lt_of_below hb4 (lt_of_below hb3 l0)
  have l1 : w.heap.size + 1 < (w4.drewN n5).heap.size := show w.heap.size + 1 < w4.heap.size from lt_of_below hb4 (lt_of_below hb3 l1)
  have s0 : (w4.drewN n5).cell? ⟨w.heap.size, 0, none⟩ = some (.int .i64 a) := s0
  have s1 : (w4.drewN n5).cell? ⟨w.heap.size, 1, none⟩ = some (.int .i64 b) := s1
  have s2 : (w4.drewN n5).cell? ⟨w.heap.size + 1, 0, none⟩ = some (.int .i64 c) := s2
  have s3 : (w4.drewN n5).cell? ⟨w.heap.size + 1, 1, none⟩ = some (.int .i64 d) := s3
  generalize hg5 : w4.drewN n5 = W5 at *
  clear hg5
  go_wp2_with fail
  refine (F1.out _).mono ?_
  rintro e w6 ⟨rfl, hb6⟩
  have t0 := cellK hb6 l0 s0
  have t1 := cellK hb6 l0 s1
  have t2 := cellK hb6 l1 s2
  have t3 := cellK hb6 l1 s3
  go_wp2_with fail
  refine (F2.out _).mono ?_
  rintro e w7 ⟨rfl, hb7⟩
  go_wp2_with fail
  refine (lives_true _).mono ?_
  rintro e w8 ⟨rfl, hb8⟩
  go_wp2
  go_ret
  exact ⟨rfl, (by repeat' first | with_reducible exact Below.refl _ _ | assumption | (with_reducible refine Below.alloc ?_ ?_ _) | (with_reducible refine Below.setCell ?_ ?_ _) | (with_reducible refine Below.drew ?_) | (with_reducible refine below_drewN ?_ _) | (with_reducible refine Below.trans ?_ (Below.mono ‹_› ?_)) | omega | (with_reducible refine le_alloc ?_) | (with_reducible refine le_setCell ?_) | (with_reducible refine le_drew ?_) | (with_reducible refine le_drewN ?_) | (with_reducible refine Nat.le_trans ?_ (Below.size ‹_›)) | (simp <;> omega))⟩

set_option maxHeartbeats 1600000 in
theorem cmps_hiMore_no1 (w : World) (a b c d : Int) (hab : c < a) (h1 : MayB a b = false) : Calls Try.prog 8 #[wval a b, wval c d] w (Gives (.bool true) w) := by
  have hf := cmpFacts (a := a) (b := b) (c := c) (d := d) (.inr (.inr (.inr (.inr ⟨hab, rfl⟩))))
  have e0 : ∀ n : Int, (n == n) = true := fun n => by simp
  have f1 : (a == c) = false := by rw [beq_eq_false_iff_ne]; omega
  have hm0 := refMay_any a b; have hm1 := refMay_any c d
  rw [mayB_eq] at hm0 hm1
  rw [h1] at hm0
  have F1 := hid hf.one; have F2 := hid hf.two; have HM0 := hid hm0; have HM1 := hid hm1
  clear hf hm0 hm1 h1
  go_enter Try.func8, Try.ntmps8
  unfold wval
  go_wp2_with fail
  refine (HM0.out _).mono ?_
  rintro e w1 ⟨rfl, rfl⟩
  go_wp2_with fail
  refine (HM1.out _).mono ?_
  rintro e w1 ⟨rfl, rfl⟩
  have hW0 : Below w.heap.size w ((w.alloc (.cells #[.int .i64 a, .int .i64 b] 23)).alloc (.cells #[.int .i64 c, .int .i64 d] 23)) := (by repeat' first | with_reducible exact Below.refl _ _ | assumption | (with_reducible refine Below.alloc ?_ ?_ _) | (with_reducible refine Below.setCell ?_ ?_ _) | (with_reducible refine Below.drew ?_) | (with_reducible refine below_drewN ?_ _) | (with_reducible refine Below.trans ?_ (Below.mono ‹_› ?_)) | omega | (with_reducible refine le_alloc ?_) | (with_reducible refine le_setCell ?_) | (with_reducible refine le_drew ?_) | (with_reducible refine le_drewN ?_) | (with_reducible refine Nat.le_trans ?_ (Below.size ‹_›)) | (simp <;> omega))
  have r0 : ((w.alloc (.cells #[.int .i64 a, .int .i64 b] 23)).alloc (.cells #[.int .i64 c, .int .i64 d] 23)).cell? ⟨w.heap.size, 0, none⟩ = some (.int .i64 a) := (by simp [go_sem])
  have r1 : ((w.alloc (.cells #[.int .i64 a, .int .i64 b] 23)).alloc (.cells #[.int .i64 c, .int .i64 d] 23)).cell? ⟨w.heap.size, 1, none⟩ = some (.int .i64 b) := (by simp [go_sem])
  have r2 : ((w.alloc (.cells #[.int .i64 a, .int .i64 b] 23)).alloc (.cells #[.int .i64 c, .int .i64 d] 23)).cell? ⟨w.heap.size + 1, 0, none⟩ = some (.int .i64 c) := (by simp [go_sem])
  have r3 : ((w.alloc (.cells #[.int .i64 a, .int .i64 b] 23)).alloc (.cells #[.int .i64 c, .int .i64 d] 23)).cell? ⟨w.heap.size + 1, 1, none⟩ = some (.int .i64 d) := (by simp [go_sem])
  have l0 : w.heap.size < ((w.alloc (.cells #[.int .i64 a, .int .i64 b] 23)).alloc (.cells #[.int .i64 c, .int .i64 d] 23)).heap.size := (by simp <;> omega)
  have l1 : w.heap.size + 1 < ((w.alloc (.cells #[.int .i64 a, .int .i64 b] 23)).alloc (.cells #[.int .i64 c, .int .i64 d] 23)).heap.size := (by simp <;> omega)
  generalize hg : ((w.alloc (.cells #[.int .i64 a, .int .i64 b] 23)).alloc (.cells #[.int .i64 c, .int .i64 d] 23)) = W5 at *
  clear hg
  have hb5 := hW0; have s0 := r0; have s1 := r1; have s2 := r2; have s3 := r3
  go_wp2_with fail
  refine (F1.out _).mono ?_
  rintro e w6 ⟨rfl, hb6⟩
  have t0 := cellK hb6 l0 s0
  have t1 := cellK hb6 l0 s1
  have t2 := cellK hb6 l1 s2
  have t3 := cellK hb6 l1 s3
  go_wp2_with fail
  refine (F2.out _).mono ?_
  rintro e w7 ⟨rfl, hb7⟩
  go_wp2_with fail
  refine (lives_true _).mono ?_
  rintro e w8 ⟨rfl, hb8⟩
  go_wp2
  go_ret
  exact ⟨rfl, (by repeat' first | with_reducible exact Below.refl _ _ | assumption | (with_reducible refine Below.alloc ?_ ?_ _) | (with_reducible refine Below.setCell ?_ ?_ _) | (with_reducible refine Below.drew ?_) | (with_reducible refine below_drewN ?_ _) | (with_reducible refine Below.trans ?_ (Below.mono ‹_› ?_)) | omega | (with_reducible refine le_alloc ?_) | (with_reducible refine le_setCell ?_) | (with_reducible refine le_drew ?_) | (with_reducible refine le_drewN ?_) | (with_reducible refine Nat.le_trans ?_ (Below.size ‹_›)) | (simp <;> omega))⟩

set_option maxHeartbeats 1600000 in
theorem cmps_hiMore_no2 (w : World) (a b c d : Int) (hab : c < a) (h1 : MayB a b = true) (h2 : MayB c d = false) : Calls Try.prog 8 #[wval a b, wval c d] w (Gives (.bool true) w) := by
  have hf := cmpFacts (a := a) (b := b) (c := c) (d := d) (.inr (.inr (.inr (.inr ⟨hab, rfl⟩))))
  have e0 : ∀ n : Int, (n == n) = true := fun n => by simp
  have f1 : (a == c) = false := by rw [beq_eq_false_iff_ne]; omega
  have hm0 := refMay_any a b; have hm1 := refMay_any c d
  rw [mayB_eq] at hm0 hm1
  rw [h1] at hm0
  rw [h2] at hm1
  have F1 := hid hf.one; have F2 := hid hf.two; have HM0 := hid hm0; have HM1 := hid hm1
  clear hf hm0 hm1 h1 h2
  go_enter Try.func8, Try.ntmps8
  unfold wval
  go_wp2_with fail
  refine (HM0.out _).mono ?_
  rintro e w1 ⟨rfl, rfl⟩
  go_wp2_with fail
  refine (HM1.out _).mono ?_
  rintro e w1 ⟨rfl, rfl⟩
  have hW0 : Below w.heap.size w ((w.alloc (.cells #[.int .i64 a, .int .i64 b] 23)).alloc (.cells #[.int .i64 c, .int .i64 d] 23)) := (by repeat' first | with_reducible exact Below.refl _ _ | assumption | (with_reducible refine Below.alloc ?_ ?_ _) | (with_reducible refine Below.setCell ?_ ?_ _) | (with_reducible refine Below.drew ?_) | (with_reducible refine below_drewN ?_ _) | (with_reducible refine Below.trans ?_ (Below.mono ‹_› ?_)) | omega | (with_reducible refine le_alloc ?_) | (with_reducible refine le_setCell ?_) | (with_reducible refine le_drew ?_) | (with_reducible refine le_drewN ?_) | (with_reducible refine Nat.le_trans ?_ (Below.size ‹_›)) | (simp <;> omega))
  have r0 : ((w.alloc (.cells #[.int .i64 a, .int .i64 b] 23)).alloc (.cells #[.int .i64 c, .int .i64 d] 23)).cell? ⟨w.heap.size, 0, none⟩ = some (.int .i64 a) := (by simp [go_sem])
  have r1 : ((w.alloc (.cells #[.int .i64 a, .int .i64 b] 23)).alloc (.cells #[.int .i64 c, .int .i64 d] 23)).cell? ⟨w.heap.size, 1, none⟩ = some (.int .i64 b) := (by simp [go_sem])
  have r2 : ((w.alloc (.cells #[.int .i64 a, .int .i64 b] 23)).alloc (.cells #[.int .i64 c, .int .i64 d] 23)).cell? ⟨w.heap.size + 1, 0, none⟩ = some (.int .i64 c) := (by simp [go_sem])
  have r3 : ((w.alloc (.cells #[.int .i64 a, .int .i64 b] 23)).alloc (.cells #[.int .i64 c, .int .i64 d] 23)).cell? ⟨w.heap.size + 1, 1, none⟩ = some (.int .i64 d) := (by simp [go_sem])
  have l0 : w.heap.size < ((w.alloc (.cells #[.int .i64 a, .int .i64 b] 23)).alloc (.cells #[.int .i64 c, .int .i64 d] 23)).heap.size := (by simp <;> omega)
  have l1 : w.heap.size + 1 < ((w.alloc (.cells #[.int .i64 a, .int .i64 b] 23)).alloc (.cells #[.int .i64 c, .int .i64 d] 23)).heap.size := (by simp <;> omega)
  generalize hg : ((w.alloc (.cells #[.int .i64 a, .int .i64 b] 23)).alloc (.cells #[.int .i64 c, .int .i64 d] 23)) = W5 at *
  clear hg
  have hb5 := hW0; have s0 := r0; have s1 := r1; have s2 := r2; have s3 := r3
  go_wp2_with fail
  refine (F1.out _).mono ?_
  rintro e w6 ⟨rfl, hb6⟩
  have t0 := cellK hb6 l0 s0
  have t1 := cellK hb6 l0 s1
  have t2 := cellK hb6 l1 s2
  have t3 := cellK hb6 l1 s3
  go_wp2_with fail
  refine (F2.out _).mono ?_
  rintro e w7 ⟨rfl, hb7⟩
  go_wp2_with fail
  refine (lives_true _).mono ?_
  rintro e w8 ⟨rfl, hb8⟩
  go_wp2
  go_ret
  exact ⟨rfl, (by repeat' first | with_reducible exact Below.refl _ _ | assumption | (with_reducible refine Below.alloc ?_ ?_ _) | (with_reducible refine Below.setCell ?_ ?_ _) | (with_reducible refine Below.drew ?_) | (with_reducible refine below_drewN ?_ _) | (with_reducible refine Below.trans ?_ (Below.mono ‹_› ?_)) | omega | (with_reducible refine le_alloc ?_) | (with_reducible refine le_setCell ?_) | (with_reducible refine le_drew ?_) | (with_reducible refine le_drewN ?_) | (with_reducible refine Nat.le_trans ?_ (Below.size ‹_›)) | (simp <;> omega))⟩

theorem walk_WideCompares (w : World) (a b : Int) (_ : -9223372036854775808 ≤ a ∧ a ≤ 9223372036854775807) (_ : -9223372036854775808 ≤ b ∧ b ≤ 9223372036854775807) (c d : Int) (_ : -9223372036854775808 ≤ c ∧ c ≤ 9223372036854775807) (_ : -9223372036854775808 ≤ d ∧ d ≤ 9223372036854775807) :
    Calls Try.prog 8 #[wval a b, wval c d] w (Gives (.bool true) w) := by
  rcases Bool.eq_false_or_eq_true (MayB a b) with h1 | h1
  · rcases Bool.eq_false_or_eq_true (MayB c d) with h2 | h2
    · rcases Int.lt_trichotomy a c with h | h | h
      · exact cmps_hiLess_yes w a b c d h h1 h2
      · subst h
        rcases Int.lt_trichotomy b d with h' | h' | h'
        · exact cmps_loLess_yes w a b d h' h1 h2
        · subst h'; exact cmps_same_yes w a b h1 h2
        · exact cmps_loMore_yes w a b d h' h1 h2
      · exact cmps_hiMore_yes w a b c d h h1 h2
    · rcases Int.lt_trichotomy a c with h | h | h
      · exact cmps_hiLess_no2 w a b c d h h1 h2
      · subst h
        rcases Int.lt_trichotomy b d with h' | h' | h'
        · exact cmps_loLess_no2 w a b d h' h1 h2
        · subst h'; rw [h1] at h2; cases h2
        · exact cmps_loMore_no2 w a b d h' h1 h2
      · exact cmps_hiMore_no2 w a b c d h h1 h2
  · rcases Int.lt_trichotomy a c with h | h | h
    · exact cmps_hiLess_no1 w a b c d h h1
    · subst h
      rcases Int.lt_trichotomy b d with h' | h' | h'
      · exact cmps_loLess_no1 w a b d h' h1
      · subst h'; exact cmps_same_no1 w a b h1
      · exact cmps_loMore_no1 w a b d h' h1
    · exact cmps_hiMore_no1 w a b c d h h1
end Go.Proofs.Ytekngocjojfomaa
