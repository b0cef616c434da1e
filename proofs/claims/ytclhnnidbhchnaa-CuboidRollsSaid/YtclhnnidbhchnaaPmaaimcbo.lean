/- 1 text of this claim, in build order. -/
import Derived.Test.YtclhnnidbhchnaaPofdjlnoh
/- cell.Empty. -/
namespace Go.Proofs.Ytclhnnidbhchnaa
open Go.ChangeShapes Go.WideShapes Go.ChangeAt Go.RowKit
set_option linter.unusedVariables false
set_option linter.unusedSimpArgs false

theorem mk0 : ∀ w, (Instr.makeSlice 23 (.int .i64 0) (.int .i64 0)).run Try.prog w = .ok (.slice (some ⟨w.heap.size, 0, none⟩) 0 0) (w.alloc (.cells #[] 3)) := fun _ => by kernel_rfl
theorem mk1 : ∀ w, (Instr.makeSlice 23 (.int .i64 1) (.int .i64 1)).run Try.prog w = .ok (.slice (some ⟨w.heap.size, 0, none⟩) 1 1) (w.alloc (.cells #[.int .i64 0] 3)) := fun _ => by kernel_rfl
theorem mk2 : ∀ w, (Instr.makeSlice 23 (.int .i64 2) (.int .i64 2)).run Try.prog w = .ok (.slice (some ⟨w.heap.size, 0, none⟩) 2 2) (w.alloc (.cells #[.int .i64 0, .int .i64 0] 3)) := fun _ => by kernel_rfl
theorem rows3 {w1 : World} {N H : Nat} (K : Nat) (cs : Array Value) (hcs : cs.toList = ivals (List.replicate K 0)) (hsz : cs.size = K) (hK : K ≤ maxLen) (hN : w1.heap.size = N) (hH : H ≤ N) :
    (((w1.alloc (.cells cs 3)).alloc (.cells cs 3)).alloc (.cells cs 3)).ownsRow H 3 1 (.slice (some ⟨N, 0, none⟩) K K) (List.replicate K (0 : Int)).length (ivals (List.replicate K 0)) ∧
    (((w1.alloc (.cells cs 3)).alloc (.cells cs 3)).alloc (.cells cs 3)).ownsRow H 3 1 (.slice (some ⟨N + 1, 0, none⟩) K K) (List.replicate K (0 : Int)).length (ivals (List.replicate K 0)) ∧
    (((w1.alloc (.cells cs 3)).alloc (.cells cs 3)).alloc (.cells cs 3)).ownsRow H 3 1 (.slice (some ⟨N + 1 + 1, 0, none⟩) K K) (List.replicate K (0 : Int)).length (ivals (List.replicate K 0)) := by
  rw [List.length_replicate, ← hcs]
  subst hN
  refine ⟨((World.ownsRow_lit w1 cs K hH hK (by omega)).alloc _).alloc _, ?_, ?_⟩
  · have := (World.ownsRow_lit (base := H) (e := 3) (size := 1) (w1.alloc (.cells cs 3)) cs K (by simp; omega) hK (by omega)).alloc (.cells cs 3)
    simpa only [World.size_alloc] using this
  · have := World.ownsRow_lit (base := H) (e := 3) (size := 1) ((w1.alloc (.cells cs 3)).alloc (.cells cs 3)) cs K (by simp; omega) hK (by omega)
    simpa only [World.size_alloc] using this
set_option maxRecDepth 100000 in
set_option maxHeartbeats 1600000 in
theorem cellEmpty_any (m : Int) (w : World) :
    Calls Try.prog 51 #[.int .i64 m] w (OwnPost (emptyC (emN m)) w) := by
  go_enter Try.func51, Try.ntmps51
  by_cases h0 : m ≤ 0
  · have he : emN m = 0 := by unfold emN; rw [if_pos h0]
    rw [he]
    have hm := mk0
    go_wp2
    all_goals go_region
    all_goals go_wp2
    all_goals first
      | (refine bodyPost_ret (v := .agg #[.int .i64 0, .slice (some ⟨w.heap.size + 1, 0, none⟩) 0 0, .slice (some ⟨w.heap.size + 1 + 1, 0, none⟩) 0 0, .slice (some ⟨w.heap.size + 1 + 1 + 1, 0, none⟩) 0 0]) ?_ rfl ?_; · (simp [results, Try.results51, go_sem]; done))
      | (refine bodyPost_ret (v := .agg #[.int .i64 0, .slice (some ⟨w.heap.size + 1, 0, none⟩) 0 0, .slice (some ⟨w.heap.size + 1 + 1 + 1, 0, none⟩) 0 0, .slice (some ⟨w.heap.size + 1 + 1, 0, none⟩) 0 0]) ?_ rfl ?_; · (simp [results, Try.results51, go_sem]; done))
      | (refine bodyPost_ret (v := .agg #[.int .i64 0, .slice (some ⟨w.heap.size + 1 + 1, 0, none⟩) 0 0, .slice (some ⟨w.heap.size + 1, 0, none⟩) 0 0, .slice (some ⟨w.heap.size + 1 + 1 + 1, 0, none⟩) 0 0]) ?_ rfl ?_; · (simp [results, Try.results51, go_sem]; done))
      | (refine bodyPost_ret (v := .agg #[.int .i64 0, .slice (some ⟨w.heap.size + 1 + 1, 0, none⟩) 0 0, .slice (some ⟨w.heap.size + 1 + 1 + 1, 0, none⟩) 0 0, .slice (some ⟨w.heap.size + 1, 0, none⟩) 0 0]) ?_ rfl ?_; · (simp [results, Try.results51, go_sem]; done))
      | (refine bodyPost_ret (v := .agg #[.int .i64 0, .slice (some ⟨w.heap.size + 1 + 1 + 1, 0, none⟩) 0 0, .slice (some ⟨w.heap.size + 1, 0, none⟩) 0 0, .slice (some ⟨w.heap.size + 1 + 1, 0, none⟩) 0 0]) ?_ rfl ?_; · (simp [results, Try.results51, go_sem]; done))
      | (refine bodyPost_ret (v := .agg #[.int .i64 0, .slice (some ⟨w.heap.size + 1 + 1 + 1, 0, none⟩) 0 0, .slice (some ⟨w.heap.size + 1 + 1, 0, none⟩) 0 0, .slice (some ⟨w.heap.size + 1, 0, none⟩) 0 0]) ?_ rfl ?_; · (simp [results, Try.results51, go_sem]; done))
    all_goals
      have hr := fun R => rows3 (H := w.heap.size) 0 #[] rfl rfl (by simp [maxLen]) (w1 := w.alloc R) (N := w.heap.size + 1) (by simp) (by omega)
      refine ⟨_, rfl, ⟨_, _, _, rfl, ?_, ?_, ?_, ?_, ?_⟩, (by repeat' first | with_reducible exact Below.refl _ _ | assumption | (with_reducible refine Below.alloc ?_ ?_ _) | (with_reducible refine Below.setCell ?_ ?_ _) | (with_reducible refine Below.drew ?_) | (with_reducible refine below_drewN ?_ _) | (with_reducible refine Below.trans ?_ (Below.mono ‹_› ?_)) | omega | (with_reducible refine le_alloc ?_) | (with_reducible refine le_setCell ?_) | (with_reducible refine le_drew ?_) | (with_reducible refine le_drewN ?_) | (with_reducible refine Nat.le_trans ?_ (Below.size ‹_›)) | (simp <;> omega))⟩
      · first | exact (hr _).1.drew | exact (hr _).2.1.drew | exact (hr _).2.2.drew
      · first | exact (hr _).1.drew | exact (hr _).2.1.drew | exact (hr _).2.2.drew
      · first | exact (hr _).1.drew | exact (hr _).2.1.drew | exact (hr _).2.2.drew
      · intro g hg; simp [Value.ownBlock] at hg ⊢; omega
      · intro g hg; simp [Value.ownBlock] at hg ⊢; omega
  · by_cases h1 : m = 1
    · have he : emN m = 1 := by unfold emN; rw [if_neg h0, if_pos h1]
      rw [he]
      subst h1
      have hm := mk1
      go_wp2
      all_goals go_region
      all_goals go_wp2
      all_goals first
        | (refine bodyPost_ret (v := .agg #[.int .i64 0, .slice (some ⟨w.heap.size + 1, 0, none⟩) 1 1, .slice (some ⟨w.heap.size + 1 + 1, 0, none⟩) 1 1, .slice (some ⟨w.heap.size + 1 + 1 + 1, 0, none⟩) 1 1]) ?_ rfl ?_; · (simp [results, Try.results51, go_sem]; done))
        | (refine bodyPost_ret (v := .agg #[.int .i64 0, .slice (some ⟨w.heap.size + 1, 0, none⟩) 1 1, .slice (some ⟨w.heap.size + 1 + 1 + 1, 0, none⟩) 1 1, .slice (some ⟨w.heap.size + 1 + 1, 0, none⟩) 1 1]) ?_ rfl ?_; · (simp [results, Try.results51, go_sem]; done))
        | (refine bodyPost_ret (v := .agg #[.int .i64 0, .slice (some ⟨w.heap.size + 1 + 1, 0, none⟩) 1 1, .slice (some ⟨w.heap.size + 1, 0, none⟩) 1 1, .slice (some ⟨w.heap.size + 1 + 1 + 1, 0, none⟩) 1 1]) ?_ rfl ?_; · (simp [results, Try.results51, go_sem]; done))
        | (refine bodyPost_ret (v := .agg #[.int .i64 0, .slice (some ⟨w.heap.size + 1 + 1, 0, none⟩) 1 1, .slice (some ⟨w.heap.size + 1 + 1 + 1, 0, none⟩) 1 1, .slice (some ⟨w.heap.size + 1, 0, none⟩) 1 1]) ?_ rfl ?_; · (simp [results, Try.results51, go_sem]; done))
        | (refine bodyPost_ret (v := .agg #[.int .i64 0, .slice (some ⟨w.heap.size + 1 + 1 + 1, 0, none⟩) 1 1, .slice (some ⟨w.heap.size + 1, 0, none⟩) 1 1, .slice (some ⟨w.heap.size + 1 + 1, 0, none⟩) 1 1]) ?_ rfl ?_; · (simp [results, Try.results51, go_sem]; done))
        | (refine bodyPost_ret (v := .agg #[.int .i64 0, .slice (some ⟨w.heap.size + 1 + 1 + 1, 0, none⟩) 1 1, .slice (some ⟨w.heap.size + 1 + 1, 0, none⟩) 1 1, .slice (some ⟨w.heap.size + 1, 0, none⟩) 1 1]) ?_ rfl ?_; · (simp [results, Try.results51, go_sem]; done))
      all_goals
        have hr := fun R => rows3 (H := w.heap.size) 1 #[.int .i64 0] rfl rfl (by simp [maxLen]) (w1 := w.alloc R) (N := w.heap.size + 1) (by simp) (by omega)
        refine ⟨_, rfl, ⟨_, _, _, rfl, ?_, ?_, ?_, ?_, ?_⟩, (by repeat' first | with_reducible exact Below.refl _ _ | assumption | (with_reducible refine Below.alloc ?_ ?_ _) | (with_reducible refine Below.setCell ?_ ?_ _) | (with_reducible refine Below.drew ?_) | (with_reducible refine below_drewN ?_ _) | (with_reducible refine Below.trans ?_ (Below.mono ‹_› ?_)) | omega | (with_reducible refine le_alloc ?_) | (with_reducible refine le_setCell ?_) | (with_reducible refine le_drew ?_) | (with_reducible refine le_drewN ?_) | (with_reducible refine Nat.le_trans ?_ (Below.size ‹_›)) | (simp <;> omega))⟩
        · first | exact (hr _).1.drew | exact (hr _).2.1.drew | exact (hr _).2.2.drew
        · first | exact (hr _).1.drew | exact (hr _).2.1.drew | exact (hr _).2.2.drew
        · first | exact (hr _).1.drew | exact (hr _).2.1.drew | exact (hr _).2.2.drew
        · intro g hg; simp [Value.ownBlock] at hg ⊢; omega
        · intro g hg; simp [Value.ownBlock] at hg ⊢; omega
    · have he : emN m = 2 := by unfold emN; rw [if_neg h0, if_neg h1]
      rw [he]
      have hm := mk2
      rcases (show m = 2 ∨ 2 < m by omega) with rfl | h2
      all_goals go_wp2
      all_goals go_region
      all_goals go_wp2
      all_goals first
        | (refine bodyPost_ret (v := .agg #[.int .i64 0, .slice (some ⟨w.heap.size + 1, 0, none⟩) 2 2, .slice (some ⟨w.heap.size + 1 + 1, 0, none⟩) 2 2, .slice (some ⟨w.heap.size + 1 + 1 + 1, 0, none⟩) 2 2]) ?_ rfl ?_; · (simp [results, Try.results51, go_sem]; done))
        | (refine bodyPost_ret (v := .agg #[.int .i64 0, .slice (some ⟨w.heap.size + 1, 0, none⟩) 2 2, .slice (some ⟨w.heap.size + 1 + 1 + 1, 0, none⟩) 2 2, .slice (some ⟨w.heap.size + 1 + 1, 0, none⟩) 2 2]) ?_ rfl ?_; · (simp [results, Try.results51, go_sem]; done))
        | (refine bodyPost_ret (v := .agg #[.int .i64 0, .slice (some ⟨w.heap.size + 1 + 1, 0, none⟩) 2 2, .slice (some ⟨w.heap.size + 1, 0, none⟩) 2 2, .slice (some ⟨w.heap.size + 1 + 1 + 1, 0, none⟩) 2 2]) ?_ rfl ?_; · (simp [results, Try.results51, go_sem]; done))
        | (refine bodyPost_ret (v := .agg #[.int .i64 0, .slice (some ⟨w.heap.size + 1 + 1, 0, none⟩) 2 2, .slice (some ⟨w.heap.size + 1 + 1 + 1, 0, none⟩) 2 2, .slice (some ⟨w.heap.size + 1, 0, none⟩) 2 2]) ?_ rfl ?_; · (simp [results, Try.results51, go_sem]; done))
        | (refine bodyPost_ret (v := .agg #[.int .i64 0, .slice (some ⟨w.heap.size + 1 + 1 + 1, 0, none⟩) 2 2, .slice (some ⟨w.heap.size + 1, 0, none⟩) 2 2, .slice (some ⟨w.heap.size + 1 + 1, 0, none⟩) 2 2]) ?_ rfl ?_; · (simp [results, Try.results51, go_sem]; done))
        | (refine bodyPost_ret (v := .agg #[.int .i64 0, .slice (some ⟨w.heap.size + 1 + 1 + 1, 0, none⟩) 2 2, .slice (some ⟨w.heap.size + 1 + 1, 0, none⟩) 2 2, .slice (some ⟨w.heap.size + 1, 0, none⟩) 2 2]) ?_ rfl ?_; · (simp [results, Try.results51, go_sem]; done))
      all_goals
        have hr := fun R => rows3 (H := w.heap.size) 2 #[.int .i64 0, .int .i64 0] rfl rfl (by simp [maxLen]) (w1 := w.alloc R) (N := w.heap.size + 1) (by simp) (by omega)
        refine ⟨_, rfl, ⟨_, _, _, rfl, ?_, ?_, ?_, ?_, ?_⟩, (by repeat' first | with_reducible exact Below.refl _ _ | assumption | (with_reducible refine Below.alloc ?_ ?_ _) | (with_reducible refine Below.setCell ?_ ?_ _) | (with_reducible refine Below.drew ?_) | (with_reducible refine below_drewN ?_ _) | (with_reducible refine Below.trans ?_ (Below.mono ‹_› ?_)) | omega | (with_reducible refine le_alloc ?_) | (with_reducible refine le_setCell ?_) | (with_reducible refine le_drew ?_) | (with_reducible refine le_drewN ?_) | (with_reducible refine Nat.le_trans ?_ (Below.size ‹_›)) | (simp <;> omega))⟩
        · first | exact (hr _).1.drew | exact (hr _).2.1.drew | exact (hr _).2.2.drew
        · first | exact (hr _).1.drew | exact (hr _).2.1.drew | exact (hr _).2.2.drew
        · first | exact (hr _).1.drew | exact (hr _).2.1.drew | exact (hr _).2.2.drew
        · intro g hg; simp [Value.ownBlock] at hg ⊢; omega
        · intro g hg; simp [Value.ownBlock] at hg ⊢; omega
end Go.Proofs.Ytclhnnidbhchnaa
