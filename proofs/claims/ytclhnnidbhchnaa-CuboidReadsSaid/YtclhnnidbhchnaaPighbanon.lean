/- 2 texts of this claim, in build order. -/
import Derived.Test.YtclhnnidbhchnaaPcmmgfeam
import Derived.Test.YtclhnnidbhchnaaPfoojkoej
/- cell.Empty. -/
namespace Go.Proofs.Ytclhnnidbhchnaa
open Go.ChangeShapes Go.WideShapes Go.ChangeAt Go.RowKit
set_option linter.unusedVariables false
set_option linter.unusedSimpArgs false

theorem mk0 : ∀ w, (Instr.makeSlice 23 (.int .i64 0) (.int .i64 0)).run Try.prog w = .ok (.slice (some ⟨w.heap.size, 0, none⟩) 0 0) (w.alloc (.cells #[] 3)) := fun _ => by kernel_rfl
theorem mk1 : ∀ w, (Instr.makeSlice 23 (.int .i64 1) (.int .i64 1)).run Try.prog w = .ok (.slice (some ⟨w.heap.size, 0, none⟩) 1 1) (w.alloc (.cells #[.int .i64 0] 3)) := fun _ => by kernel_rfl
theorem mk2 : ∀ w, (Instr.makeSlice 23 (.int .i64 2) (.int .i64 2)).run Try.prog w = .ok (.slice (some ⟨w.heap.size, 0, none⟩) 2 2) (w.alloc (.cells #[.int .i64 0, .int .i64 0] 3)) := fun _ => by kernel_rfl
theorem rows3 {w1 : World} {N H : Nat} (K : Nat) (cs : Array Value) (hcs : cs.toList = ivals (List.replicate K 0)) (hsz : cs.size = K) (hK : K ≤ maxLen) (hN : w1.heap.size = N) (hH : H ≤ N) :
    (((w1.alloc (.cells cs 3)).alloc (.cells cs 3)).alloc (.cells cs 3)).ownsRow H 3 1 (.slice (some ⟨N, 0, none⟩) K K) (List.replicate K (0 : Int)).length (ivals (List.replicate K 0)) ∧
    (((w1.alloc (.cells cs 3)).alloc (.cells cs 3)).alloc (.cells cs 3)).ownsRow H 3 1 (.slice (some ⟨N + 1, 0, none⟩) K K) (List.replicate K (0 : Int)).length (ivals (List.replicate K 0)) ∧
    (((w1.alloc (.cells cs 3)).alloc (.cells cs 3)).alloc (.cells cs 3)).ownsRow H 3 1 (.slice (some ⟨N + 1 + 1, 0, none⟩) K K) (List.replicate K (0 : Int)).length (ivals (List.replicate K 0)) := by
  rw [List.length_replicate, ← hcs]
  subst hN
  refine ⟨((World.ownsRow_lit w1 cs K hH hK (by omega)).alloc _).alloc _, ?_, ?_⟩
  · have := (World.ownsRow_lit (base := H) (e := 3) (size := 1) (w1.alloc (.cells cs 3)) cs K (by simp; omega) hK (by omega)).alloc (.cells cs 3)
    simpa only [World.size_alloc] using this
  · have := World.ownsRow_lit (base := H) (e := 3) (size := 1) ((w1.alloc (.cells cs 3)).alloc (.cells cs 3)) cs K (by simp; omega) hK (by omega)
    simpa only [World.size_alloc] using this
set_option maxRecDepth 100000 in
set_option maxHeartbeats 1600000 in
theorem cellEmpty_any (m : Int) (w : World) :
    Calls Try.prog 51 #[.int .i64 m] w (OwnPost (emptyC (emN m)) w) := by
  go_enter Try.func51, Try.ntmps51
  by_cases h0 : m ≤ 0
  · have he : emN m = 0 := by unfold emN; rw [if_pos h0]
    rw [he]
    have hm := mk0
    go_wp2
    all_goals go_region
    all_goals go_wp2
    all_goals first
      | (refine bodyPost_ret (v := .agg #[.int .i64 0, .slice (some ⟨w.heap.size + 1, 0, none⟩) 0 0, .slice (some ⟨w.heap.size + 1 + 1, 0, none⟩) 0 0, .slice (some ⟨w.heap.size + 1 + 1 + 1, 0, none⟩) 0 0]) ?_ rfl ?_; · (simp [results, Try.results51, go_sem]; done))
      | (refine bodyPost_ret (v := .agg #[.int .i64 0, .slice (some ⟨w.heap.size + 1, 0, none⟩) 0 0, .slice (some ⟨w.heap.size + 1 + 1 + 1, 0, none⟩) 0 0, .slice (some ⟨w.heap.size + 1 + 1, 0, none⟩) 0 0]) ?_ rfl ?_; · (simp [results, Try.results51, go_sem]; done))
      | (refine bodyPost_ret (v := .agg #[.int .i64 0, .slice (some ⟨w.heap.size + 1 + 1, 0, none⟩) 0 0, .slice (some ⟨w.heap.size + 1, 0, none⟩) 0 0, .slice (some ⟨w.heap.size + 1 + 1 + 1, 0, none⟩) 0 0]) ?_ rfl ?_; · (simp [results, Try.results51, go_sem]; done))
      | (refine bodyPost_ret (v := .agg #[.int .i64 0, .slice (some ⟨w.heap.size + 1 + 1, 0, none⟩) 0 0, .slice (some ⟨w.heap.size + 1 + 1 + 1, 0, none⟩) 0 0, .slice (some ⟨w.heap.size + 1, 0, none⟩) 0 0]) ?_ rfl ?_; · (simp [results, Try.results51, go_sem]; done))
      | (refine bodyPost_ret (v := .agg #[.int .i64 0, .slice (some ⟨w.heap.size + 1 + 1 + 1, 0, none⟩) 0 0, .slice (some ⟨w.heap.size + 1, 0, none⟩) 0 0, .slice (some ⟨w.heap.size + 1 + 1, 0, none⟩) 0 0]) ?_ rfl ?_; · (simp [results, Try.results51, go_sem]; done))
      | (refine bodyPost_ret (v := .agg #[.int .i64 0, .slice (some ⟨w.heap.size + 1 + 1 + 1, 0, none⟩) 0 0, .slice (some ⟨w.heap.size + 1 + 1, 0, none⟩) 0 0, .slice (some ⟨w.heap.size + 1, 0, none⟩) 0 0]) ?_ rfl ?_; · (simp [results, Try.results51, go_sem]; done))
    all_goals
      have hr := fun R => rows3 (H := w.heap.size) 0 #[] rfl rfl (by simp [maxLen]) (w1 := w.alloc R) (N := w.heap.size + 1) (by simp) (by omega)
      refine ⟨_, rfl, ⟨_, _, _, rfl, ?_, ?_, ?_, ?_, ?_⟩, (by repeat' first | with_reducible exact Below.refl _ _ | assumption | (with_reducible refine Below.alloc ?_ ?_ _) | (with_reducible refine Below.setCell ?_ ?_ _) | (with_reducible refine Below.drew ?_) | (with_reducible refine below_drewN ?_ _) | (with_reducible refine Below.trans ?_ (Below.mono ‹_› ?_)) | omega | (with_reducible refine le_alloc ?_) | (with_reducible refine le_setCell ?_) | (with_reducible refine le_drew ?_) | (with_reducible refine le_drewN ?_) | (with_reducible refine Nat.le_trans ?_ (Below.size ‹_›)) | (simp <;> omega))⟩
      · first | exact (hr _).1.drew | exact (hr _).2.1.drew | exact (hr _).2.2.drew
      · first | exact (hr _).1.drew | exact (hr _).2.1.drew | exact (hr _).2.2.drew
      · first | exact (hr _).1.drew | exact (hr _).2.1.drew | exact (hr _).2.2.drew
      · intro g hg; simp [Value.ownBlock] at hg ⊢; omega
      · intro g hg; simp [Value.ownBlock] at hg ⊢; omega
  · by_cases h1 : m = 1
    · have he : emN m = 1 := by unfold emN; rw [if_neg h0, if_pos h1]
      rw [he]
      subst h1
      have hm := mk1
      go_wp2
      all_goals go_region
      all_goals go_wp2
      all_goals first
        | (refine bodyPost_ret (v := .agg #[.int .i64 0, .slice (some ⟨w.heap.size + 1, 0, none⟩) 1 1, .slice (some ⟨w.heap.size + 1 + 1, 0, none⟩) 1 1, .slice (some ⟨w.heap.size + 1 + 1 + 1, 0, none⟩) 1 1]) ?_ rfl ?_; · (simp [results, Try.results51, go_sem]; done))
        | (refine bodyPost_ret (v := .agg #[.int .i64 0, .slice (some ⟨w.heap.size + 1, 0, none⟩) 1 1, .slice (some ⟨w.heap.size + 1 + 1 + 1, 0, none⟩) 1 1, .slice (some ⟨w.heap.size + 1 + 1, 0, none⟩) 1 1]) ?_ rfl ?_; · (simp [results, Try.results51, go_sem]; done))
        | (refine bodyPost_ret (v := .agg #[.int .i64 0, .slice (some ⟨w.heap.size + 1 + 1, 0, none⟩) 1 1, .slice (some ⟨w.heap.size + 1, 0, none⟩) 1 1, .slice (some ⟨w.heap.size + 1 + 1 + 1, 0, none⟩) 1 1]) ?_ rfl ?_; · (simp [results, Try.results51, go_sem]; done))
        | (refine bodyPost_ret (v := .agg #[.int .i64 0, .slice (some ⟨w.heap.size + 1 + 1, 0, none⟩) 1 1, .slice (some ⟨w.heap.size + 1 + 1 + 1, 0, none⟩) 1 1, .slice (some ⟨w.heap.size + 1, 0, none⟩) 1 1]) ?_ rfl ?_; · (simp [results, Try.results51, go_sem]; done))
        | (refine bodyPost_ret (v := .agg #[.int .i64 0, .slice (some ⟨w.heap.size + 1 + 1 + 1, 0, none⟩) 1 1, .slice (some ⟨w.heap.size + 1, 0, none⟩) 1 1, .slice (some ⟨w.heap.size + 1 + 1, 0, none⟩) 1 1]) ?_ rfl ?_; · (simp [results, Try.results51, go_sem]; done))
        | (refine bodyPost_ret (v := .agg #[.int .i64 0, .slice (some ⟨w.heap.size + 1 + 1 + 1, 0, none⟩) 1 1, .slice (some ⟨w.heap.size + 1 + 1, 0, none⟩) 1 1, .slice (some ⟨w.heap.size + 1, 0, none⟩) 1 1]) ?_ rfl ?_; · (simp [results, Try.results51, go_sem]; done))
      all_goals
        have hr := fun R => rows3 (H := w.heap.size) 1 #[.int .i64 0] rfl rfl (by simp [maxLen]) (w1 := w.alloc R) (N := w.heap.size + 1) (by simp) (by omega)
        refine ⟨_, rfl, ⟨_, _, _, rfl, ?_, ?_, ?_, ?_, ?_⟩, (by repeat' first | with_reducible exact Below.refl _ _ | assumption | (with_reducible refine Below.alloc ?_ ?_ _) | (with_reducible refine Below.setCell ?_ ?_ _) | (with_reducible refine Below.drew ?_) | (with_reducible refine below_drewN ?_ _) | (with_reducible refine Below.trans ?_ (Below.mono ‹_› ?_)) | omega | (with_reducible refine le_alloc ?_) | (with_reducible refine le_setCell ?_) | (with_reducible refine le_drew ?_) | (with_reducible refine le_drewN ?_) | (with_reducible refine Nat.le_trans ?_ (Below.size ‹_›)) | (simp <;> omega))⟩
        · first | exact (hr _).1.drew | exact (hr _).2.1.drew | exact (hr _).2.2.drew
        · first | exact (hr _).1.drew | exact (hr _).2.1.drew | exact (hr _).2.2.drew
        · first | exact (hr _).1.drew | exact (hr _).2.1.drew | exact (hr _).2.2.drew
        · intro g hg; simp [Value.ownBlock] at hg ⊢; omega
        · intro g hg; simp [Value.ownBlock] at hg ⊢; omega
    · have he : emN m = 2 := by unfold emN; rw [if_neg h0, if_neg h1]
      rw [he]
      have hm := mk2
      rcases (show m = 2 ∨ 2 < m by omega) with rfl | h2
      all_goals go_wp2
      all_goals go_region
      all_goals go_wp2
      all_goals first
        | (refine bodyPost_ret (v := .agg #[.int .i64 0, .slice (some ⟨w.heap.size + 1, 0, none⟩) 2 2, .slice (some ⟨w.heap.size + 1 + 1, 0, none⟩) 2 2, .slice (some ⟨w.heap.size + 1 + 1 + 1, 0, none⟩) 2 2]) ?_ rfl ?_; · (simp [results, Try.results51, go_sem]; done))
        | (refine bodyPost_ret (v := .agg #[.int .i64 0, .slice (some ⟨w.heap.size + 1, 0, none⟩) 2 2, .slice (some ⟨w.heap.size + 1 + 1 + 1, 0, none⟩) 2 2, .slice (some ⟨w.heap.size + 1 + 1, 0, none⟩) 2 2]) ?_ rfl ?_; · (simp [results, Try.results51, go_sem]; done))
        | (refine bodyPost_ret (v := .agg #[.int .i64 0, .slice (some ⟨w.heap.size + 1 + 1, 0, none⟩) 2 2, .slice (some ⟨w.heap.size + 1, 0, none⟩) 2 2, .slice (some ⟨w.heap.size + 1 + 1 + 1, 0, none⟩) 2 2]) ?_ rfl ?_; · (simp [results, Try.results51, go_sem]; done))
        | (refine bodyPost_ret (v := .agg #[.int .i64 0, .slice (some ⟨w.heap.size + 1 + 1, 0, none⟩) 2 2, .slice (some ⟨w.heap.size + 1 + 1 + 1, 0, none⟩) 2 2, .slice (some ⟨w.heap.size + 1, 0, none⟩) 2 2]) ?_ rfl ?_; · (simp [results, Try.results51, go_sem]; done))
        | (refine bodyPost_ret (v := .agg #[.int .i64 0, .slice (some ⟨w.heap.size + 1 + 1 + 1, 0, none⟩) 2 2, .slice (some ⟨w.heap.size + 1, 0, none⟩) 2 2, .slice (some ⟨w.heap.size + 1 + 1, 0, none⟩) 2 2]) ?_ rfl ?_; · (simp [results, Try.results51, go_sem]; done))
        | (refine bodyPost_ret (v := .agg #[.int .i64 0, .slice (some ⟨w.heap.size + 1 + 1 + 1, 0, none⟩) 2 2, .slice (some ⟨w.heap.size + 1 + 1, 0, none⟩) 2 2, .slice (some ⟨w.heap.size + 1, 0, none⟩) 2 2]) ?_ rfl ?_; · (simp [results, Try.results51, go_sem]; done))
      all_goals
        have hr := fun R => rows3 (H := w.heap.size) 2 #[.int .i64 0, .int .i64 0] rfl rfl (by simp [maxLen]) (w1 := w.alloc R) (N := w.heap.size + 1) (by simp) (by omega)
        refine ⟨_, rfl, ⟨_, _, _, rfl, ?_, ?_, ?_, ?_, ?_⟩, (by repeat' first | with_reducible exact Below.refl _ _ | assumption | (with_reducible refine Below.alloc ?_ ?_ _) | (with_reducible refine Below.setCell ?_ ?_ _) | (with_reducible refine Below.drew ?_) | (with_reducible refine below_drewN ?_ _) | (with_reducible refine Below.trans ?_ (Below.mono ‹_› ?_)) | omega | (with_reducible refine le_alloc ?_) | (with_reducible refine le_setCell ?_) | (with_reducible refine le_drew ?_) | (with_reducible refine le_drewN ?_) | (with_reducible refine Nat.le_trans ?_ (Below.size ‹_›)) | (simp <;> omega))⟩
        · first | exact (hr _).1.drew | exact (hr _).2.1.drew | exact (hr _).2.2.drew
        · first | exact (hr _).1.drew | exact (hr _).2.1.drew | exact (hr _).2.2.drew
        · first | exact (hr _).1.drew | exact (hr _).2.1.drew | exact (hr _).2.2.drew
        · intro g hg; simp [Value.ownBlock] at hg ⊢; omega
        · intro g hg; simp [Value.ownBlock] at hg ⊢; omega
end Go.Proofs.Ytclhnnidbhchnaa
/- cell.same, cell.May. -/
namespace Go.Proofs.Ytclhnnidbhchnaa
open Go.ChangeShapes Go.WideShapes Go.ChangeAt Go.RowKit
set_option linter.unusedVariables false

theorem within_val {x m : Int} {r : Bool} (h : inB x m = r) (h0 : 0 ≤ m) (h1 : m ≤ 4611686018427387904) : ∀ w : World, Calls Try.prog 45 #[.int .i64 x, .int .i64 m] w (Stays (.bool r) w) := fun w => h ▸ within_any x m w h0 h1
theorem equal_val {w : World} {B : Nat} {v x : Value} {l r : List Int} {q : Bool} (hv : Sl w B v (ivals l)) (hx : Sl w B x (ivals r)) (h : decide (l = r) = q) : ∀ W : World, Below B w W → Calls Try.prog 97 #[v, x] W (Stays (.bool q) W) :=
  fun W hb => h ▸ equalI_any v x l r W B (hv.below hb) (hx.below hb)
theorem cell_eq_ways (a b : CellM) : (decide (a = b) = false ∧ ((a.n == b.n) = false ∨ ((a.n == b.n) = true ∧ decide (a.s = b.s) = false) ∨ ((a.n == b.n) = true ∧ decide (a.s = b.s) = true ∧ decide (a.lo = b.lo) = false) ∨
    ((a.n == b.n) = true ∧ decide (a.s = b.s) = true ∧ decide (a.lo = b.lo) = true ∧ decide (a.hi = b.hi) = false))) ∨ (decide (a = b) = true ∧ (a.n == b.n) = true ∧ decide (a.s = b.s) = true ∧ decide (a.lo = b.lo) = true ∧ decide (a.hi = b.hi) = true) := by
  obtain ⟨n, s, lo, hi⟩ := a
  obtain ⟨m, r, l, h⟩ := b
  simp only [CellM.mk.injEq]
  by_cases h1 : n = m <;> by_cases h2 : s = r <;> by_cases h3 : lo = l <;> by_cases h4 : hi = h <;> simp [h1, h2, h3, h4]
set_option maxRecDepth 100000 in
set_option maxHeartbeats 1600000 in
theorem same_any (v x : Value) (a b : CellM) (w : World) (hv : CellR w w.heap.size v a) (hx : CellR w w.heap.size x b) :
    Calls Try.prog 72 #[v, x] w (Gives (.bool (decide (a = b))) w) := by
  obtain ⟨v1, v2, v3, rfl, s1, s2, s3⟩ := hv
  obtain ⟨x1, x2, x3, rfl, t1, t2, t3⟩ := hx
  have E1 := fun q h => equal_val (q := q) s1 t1 h
  have E2 := fun q h => equal_val (q := q) s2 t2 h
  have E3 := fun q h => equal_val (q := q) s3 t3 h
  obtain ⟨A1, c1, rfl, -, -⟩ := s1.formI
  obtain ⟨A2, c2, rfl, -, -⟩ := s2.formI
  obtain ⟨A3, c3, rfl, -, -⟩ := s3.formI
  obtain ⟨X1, d1, rfl, -, -⟩ := t1.formI
  obtain ⟨X2, d2, rfl, -, -⟩ := t2.formI
  obtain ⟨X3, d3, rfl, -, -⟩ := t3.formI
  clear s1 s2 s3 t1 t2 t3
  go_enter Try.func72, Try.ntmps72
  have hb0 : Below w.heap.size w ((w.alloc (.cells #[.int .i64 a.n, .slice A1 a.s.length c1, .slice A2 a.lo.length c2, .slice A3 a.hi.length c3] 25)).alloc (.cells #[.int .i64 b.n, .slice X1 b.s.length d1, .slice X2 b.lo.length d2, .slice X3 b.hi.length d3] 25)) := (by repeat' first | with_reducible exact Below.refl _ _ | assumption | (with_reducible refine Below.alloc ?_ ?_ _) | (with_reducible refine Below.setCell ?_ ?_ _) | (with_reducible refine Below.drew ?_) | (with_reducible refine below_drewN ?_ _) | (with_reducible refine Below.trans ?_ (Below.mono ‹_› ?_)) | omega | (with_reducible refine le_alloc ?_) | (with_reducible refine le_setCell ?_) | (with_reducible refine le_drew ?_) | (with_reducible refine le_drewN ?_) | (with_reducible refine Nat.le_trans ?_ (Below.size ‹_›)) | (simp <;> omega))
  have HB := hid hb0; clear hb0
  rcases cell_eq_ways a b with ⟨hr, hw⟩ | ⟨hr, z1, z2, z3, z4⟩
  · have HR := hid hr; clear hr
    rcases hw with z1 | ⟨z1, z2⟩ | ⟨z1, z2, z3⟩ | ⟨z1, z2, z3, z4⟩
    · go_wp2
      go_ret
      exact ⟨ret_bool HR.out.symm, HB.out⟩
    · have E1' := hid (E1 _ z2); clear E1 E2 E3 z2
      go_wp2_with fail
      refine (E1'.out _ HB.out).mono ?_
      rintro e w1 ⟨rfl, n1, rfl⟩
      go_wp2
      go_ret
      exact ⟨ret_bool HR.out.symm, below_drewN HB.out _⟩
    · have E1' := hid (E1 _ z2); have E2' := hid (E2 _ z3); clear E1 E2 E3 z2 z3
      go_wp2_with fail
      refine (E1'.out _ HB.out).mono ?_
      rintro e w1 ⟨rfl, n1, rfl⟩
      go_wp2_with fail
      refine (E2'.out _ (below_drewN HB.out _)).mono ?_
      rintro e w1 ⟨rfl, n2, rfl⟩
      go_wp2
      go_ret
      exact ⟨ret_bool HR.out.symm, below_drewN HB.out _⟩
    · have E1' := hid (E1 _ z2); have E2' := hid (E2 _ z3); have E3' := hid (E3 _ z4); clear E1 E2 E3 z2 z3 z4
      go_wp2_with fail
      refine (E1'.out _ HB.out).mono ?_
      rintro e w1 ⟨rfl, n1, rfl⟩
      go_wp2_with fail
      refine (E2'.out _ (below_drewN HB.out _)).mono ?_
      rintro e w1 ⟨rfl, n2, rfl⟩
      go_wp2_with fail
      refine (E3'.out _ (below_drewN HB.out _)).mono ?_
      rintro e w1 ⟨rfl, n3, rfl⟩
      go_wp2
      go_ret
      exact ⟨ret_bool HR.out.symm, below_drewN HB.out _⟩
  · have HR := hid hr; clear hr
    have E1' := hid (E1 _ z2); have E2' := hid (E2 _ z3); have E3' := hid (E3 _ z4); clear E1 E2 E3 z2 z3 z4
    go_wp2_with fail
    refine (E1'.out _ HB.out).mono ?_
    rintro e w1 ⟨rfl, n1, rfl⟩
    go_wp2_with fail
    refine (E2'.out _ (below_drewN HB.out _)).mono ?_
    rintro e w1 ⟨rfl, n2, rfl⟩
    go_wp2_with fail
    refine (E3'.out _ (below_drewN HB.out _)).mono ?_
    rintro e w1 ⟨rfl, n3, rfl⟩
    go_wp2
    go_ret
    exact ⟨ret_bool HR.out.symm, below_drewN HB.out _⟩
set_option maxRecDepth 100000 in
set_option maxHeartbeats 800000 in
theorem may_any (v : Value) (c : CellM) (w : World) (hv : CellR w w.heap.size v c) :
    Calls Try.prog 37 #[v] w (Gives (.bool (mayC c)) w) := by
  have hv0 := hv
  obtain ⟨v1, v2, v3, rfl, s1, s2, s3⟩ := hv
  obtain ⟨A1, c1, rfl, hc1, hm1⟩ := s1.formI
  obtain ⟨A2, c2, rfl, hc2, hm2⟩ := s2.formI
  obtain ⟨A3, c3, rfl, hc3, hm3⟩ := s3.formI
  have S0 := hid hv0
  unfold maxLen at hm1 hm2 hm3
  have S1 := hid s1; have S2 := hid s2; have S3 := hid s3
  clear s1 s2 s3 hv0
  have M1 := hid (@may_shape c); have M2 := hid (@may_is_empty c); have M3 := hid (@may_count c); have M4 := hid (@may_col c); have M5 := hid (@may_all c)
  obtain ⟨n, s, lo, hi⟩ := c
  simp only [CellM.shape] at *
  go_enter Try.func37, Try.ntmps37
  have hb0 : Below w.heap.size w (w.alloc (.cells #[.int .i64 n, .slice A1 s.length c1, .slice A2 lo.length c2, .slice A3 hi.length c3] 25)) := bl1 _ _
  have HB := hid hb0; clear hb0
  have BK := hid (Blk.new w (.int .i64 n) (.slice A1 s.length c1) (.slice A2 lo.length c2) (.slice A3 hi.length c3) 25)
  by_cases hs : s.length ≤ 2 ∧ lo.length = s.length ∧ hi.length = s.length
  · have HS := hid hs
    obtain ⟨hs1, hs2, hs3⟩ := hs
    have u1 : ¬ 2 < (s.length : Int) := by omega
    have u2 : ((lo.length : Int) != (s.length : Int)) = false := by simp [hs2]
    have u3 : ((hi.length : Int) != (s.length : Int)) = false := by simp [hs3]
    clear hs1 hs2 hs3
    have HE := hid (cellEmpty_any (s.length : Int))
    have hem : emN (s.length : Int) = s.length := emN_nat HS.out.1
    rw [hem] at HE
    clear hem
    have hsa := fun (v x : Value) (w : World) => same_any v x ⟨n, s, lo, hi⟩ (emptyC s.length) w
    obtain ⟨de, hde⟩ : ∃ de, de = decide ((⟨n, s, lo, hi⟩ : CellM) = emptyC s.length) := ⟨_, rfl⟩
    rw [← hde] at hsa
    have HSA := hid hsa; have HDE := hid hde; clear hsa hde
    have M2' := M2; have M3' := M3
    by_cases hc : 1 ≤ n ∧ n ≤ CNT
    · have HC := hid hc
      unfold CNT at hc
      obtain ⟨x1, x2⟩ := hc
      have x1' : ¬ n < 1 := by omega
      have x2' : ¬ 1099511627776 < n := by omega
      have cx1 := no_lt x1'
      have cx2 := no_lt x2'
      clear x1 x2
      go_wp2
      go_loopw [40] (fun i wr => MayRel ⟨n, s, lo, hi⟩ (w.alloc (.cells #[.int .i64 n, .slice A1 s.length c1, .slice A2 lo.length c2, .slice A3 hi.length c3] 25)) i wr) (fun i _ => s.length - (intOf i).toNat)
      case atStart => exact ⟨0, by omega, rfl, fun j hj => by omega, Qu.refl _⟩
      case round =>
        obtain ⟨k, hk, rfl, hall, hq⟩ := hrel
        have HA := hid hall; clear hall
        simp only at hk
        have y0 := (hq.cell _).trans BK.out.c0
        have y1 := (hq.cell _).trans BK.out.c1
        have y2 := (hq.cell _).trans BK.out.c2
        have y3 := (hq.cell _).trans BK.out.c3
        by_cases hlt : k < s.length
        · obtain ⟨b1, o1, rfl, hb1, hx1⟩ := (S1.out.below HB.out).int hlt
          obtain ⟨b2, o2, rfl, hb2, hx2⟩ := (S2.out.below HB.out).int (show k < lo.length by have := HS.out; omega)
          obtain ⟨b3, o3, rfl, hb3, hx3⟩ := (S3.out.below HB.out).int (show k < hi.length by have := HS.out; omega)
          have g1 : wr.cell? ⟨b1, o1 + k, none⟩ = _ := (hq.cell _).trans hx1
          have g2 : wr.cell? ⟨b2, o2 + k, none⟩ = _ := (hq.cell _).trans hx2
          have g3 : wr.cell? ⟨b3, o3 + k, none⟩ = _ := (hq.cell _).trans hx3
          have hlo : k < lo.length := by have := HS.out; omega
          have hhi : k < hi.length := by have := HS.out; omega
          clear hx1 hx2 hx3
          have hbad : ¬ colP n (s.getD k 0) (lo.getD k 0) (hi.getD k 0) → mayC _ = false := fun h => M4.out HC.out hlt h
          have hgood : colP n (s.getD k 0) (lo.getD k 0) (hi.getD k 0) → _ := fun h => all_succ (p := (⟨n, s, lo, hi⟩ : CellM).col) HA.out h
          generalize s.getD k 0 = x at *
          generalize lo.getD k 0 = l at *
          generalize hi.getD k 0 = h at *
          have HBAD := hid hbad; have HGOOD := hid hgood; clear hbad hgood
          rcases col_ways n x l h with ⟨hb, hw⟩ | ⟨⟨z1, z2, z3, z4⟩, hw⟩
          · have hn := HBAD.out hb
            have HN := hid hn; clear hn hb
            rcases hw with z1 | ⟨z1, z2⟩ | ⟨z1, z2, z3⟩ | ⟨z1, z2, z3, z4⟩
            · go_wp2
              go_quiet (fail)
              go_wp2
              go_ret
              exact ⟨ret_bool HN.out.symm, HB.out.trans ((hq.drewN _).below _)⟩
            · have HI1 := hid (within_val z2 (by omega) (by omega))
              have cb := no_lt z1
              clear z2
              go_wp2
              go_quiet (fail)
              go_wp2_with fail
              refine (HI1.out _).mono ?_
              rintro e w1 ⟨rfl, n1, rfl⟩
              go_wp2
              go_ret
              exact ⟨ret_bool HN.out.symm, HB.out.trans ((hq.drewN _).below _)⟩
            · have HI1 := hid (within_val z2 (by omega) (by omega))
              have HI2 := hid (within_val z3 (by omega) (by omega))
              have cb := no_lt z1
              clear z2 z3
              go_wp2
              go_quiet (fail)
              go_wp2_with fail
              refine (HI1.out _).mono ?_
              rintro e w1 ⟨rfl, n1, rfl⟩
              go_wp2_with fail
              refine (HI2.out _).mono ?_
              rintro e w1 ⟨rfl, n2, rfl⟩
              go_wp2
              go_ret
              exact ⟨ret_bool HN.out.symm, HB.out.trans ((hq.drewN _).below _)⟩
            · have HI1 := hid (within_val z2 (by omega) (by omega))
              have HI2 := hid (within_val z3 (by omega) (by omega))
              have HI3 := hid (within_val z4 (by omega) (by omega))
              have cb := no_lt z1
              clear z2 z3 z4
              go_wp2
              go_quiet (fail)
              go_wp2_with fail
              refine (HI1.out _).mono ?_
              rintro e w1 ⟨rfl, n1, rfl⟩
              go_wp2_with fail
              refine (HI2.out _).mono ?_
              rintro e w1 ⟨rfl, n2, rfl⟩
              go_wp2_with fail
              refine (HI3.out _).mono ?_
              rintro e w1 ⟨rfl, n3, rfl⟩
              go_wp2
              go_ret
              exact ⟨ret_bool HN.out.symm, HB.out.trans ((hq.drewN _).below _)⟩
          · have HI1 := hid (within_val z2 (by omega) (by omega))
            have HI2 := hid (within_val z3 (by omega) (by omega))
            have HI3 := hid (within_val z4 (by omega) (by omega))
            have cb := no_lt z1
            clear z2 z3 z4
            rcases hw with ⟨hb, hw⟩ | ⟨hg, hw⟩
            · have hn := HBAD.out hb
              have HN := hid hn; clear hn hb
              rcases hw with ⟨z1, z2⟩ | ⟨z1, z2, z3⟩
              all_goals
                go_wp2
                go_quiet (fail)
                go_wp2_with fail
                refine (HI1.out _).mono ?_
                rintro e w1 ⟨rfl, n1, rfl⟩
                go_wp2_with fail
                refine (HI2.out _).mono ?_
                rintro e w1 ⟨rfl, n2, rfl⟩
                go_wp2_with fail
                refine (HI3.out _).mono ?_
                rintro e w1 ⟨rfl, n3, rfl⟩
                go_wp2
                go_ret
                exact ⟨ret_bool HN.out.symm, HB.out.trans ((hq.drewN _).below _)⟩
            · have hn := HGOOD.out hg
              have HN := hid hn; clear hn hg
              rcases hw with z1 | ⟨z1, z2, z3⟩
              all_goals
                go_wp2
                go_quiet (fail)
                go_wp2_with fail
                refine (HI1.out _).mono ?_
                rintro e w1 ⟨rfl, n1, rfl⟩
                go_wp2_with fail
                refine (HI2.out _).mono ?_
                rintro e w1 ⟨rfl, n2, rfl⟩
                go_wp2_with fail
                refine (HI3.out _).mono ?_
                rintro e w1 ⟨rfl, n3, rfl⟩
                go_wp2
                go_roundw
                case rel => exact ⟨k + 1, by simp only; omega, by go_num, HN.out, hq.drewN _⟩
                case measure => simp [intOf]; omega
        · have hn := M5.out HS.out HC.out (fun j hj => HA.out j (by omega))
          have HN := hid hn; clear hn
          go_wp2
          go_ret
          exact ⟨ret_bool HN.out.symm, HB.out.trans (hq.below _)⟩
    · have hc' : n < 1 ∨ (¬ n < 1 ∧ 1099511627776 < n) := by unfold CNT at hc; omega
      have hn : mayC ⟨n, s, lo, hi⟩ = de := by
        rw [HDE.out]
        by_cases he : (⟨n, s, lo, hi⟩ : CellM) = emptyC s.length
        · rw [decide_eq_true he]; exact M2.out HS.out he
        · rw [decide_eq_false he]; exact M3.out hc he
      have HN := hid hn
      clear hc hn
      rcases hc' with x1 | ⟨x1, x2⟩
      all_goals
        go_wp2
        go_region_held3 (fun w' => w'.cell? ⟨w.heap.size, 0, none⟩ = some (.int .i64 n) ∧ w'.cell? ⟨w.heap.size, 1, none⟩ = some (.slice A1 s.length c1) ∧ w'.cell? ⟨w.heap.size, 2, none⟩ = some (.slice A2 lo.length c2) ∧ w'.cell? ⟨w.heap.size, 3, none⟩ = some (.slice A3 hi.length c3)) (go_keep)
          (first
            | (go_at_call 51; refine (HE.out _).mono ?_; rintro e w2 ⟨v2, rfl, hr2, hb2⟩; have B2 := hid hb2; have R2 := hid hr2.read; have k2 := (Blk.qu BK.out ⟨1, rfl⟩).below hb2 (by simp); have BK2 := hid k2; obtain ⟨q0, q1, q2, q3, -, -, -, -⟩ := k2; clear hb2 hr2)
            | (go_at_call 72; refine (HSA.out _ _ _ ((S0.out.below ((below_drewN HB.out 1).trans (B2.out.mono (by simp)))).more (by have := B2.out.size; simp at this; omega)) R2.out).mono ?_; rintro e w3 ⟨rfl, hb3⟩; have B3 := hid hb3; have k3 := BK2.out.below hb3 (by have := B2.out.size; simp at this; omega); have BK3 := hid k3; obtain ⟨q0, q1, q2, q3, -, -, -, -⟩ := k3; clear hb3))
        have hW : Below w.heap.size w w3 := ((below_drewN HB.out 1).trans (B2.out.mono (by simp))).trans (B3.out.mono (by have := B2.out.size; simp at this; omega))
        have HW := hid hW
        clear hW
        go_wp2
        go_ret
        exact ⟨ret_bool HN.out.symm, HW.out⟩
  · have hn := M1.out hs
    have HN := hid hn
    have hs' : 2 < (s.length : Int) ∨ (¬ 2 < (s.length : Int) ∧ ((lo.length : Int) != (s.length : Int)) = true) ∨ (¬ 2 < (s.length : Int) ∧ ((lo.length : Int) != (s.length : Int)) = false ∧ ((hi.length : Int) != (s.length : Int)) = true) := by
      simp; omega
    clear hs hn
    rcases hs' with x1 | ⟨x1, x2⟩ | ⟨x1, x2, x3⟩
    all_goals go_wp2
    all_goals go_ret
    all_goals exact ⟨ret_bool HN.out.symm, HB.out⟩
end Go.Proofs.Ytclhnnidbhchnaa
