/- 4 texts of this claim, in build order. -/
import Derived.Test.YtgoapnkdcfcjgaaGreatPgdmeddkk
set_option linter.unusedVariables false
set_option linter.unusedSimpArgs false
namespace Go.Proofs.YtgoapnkdcfcjgaaGreat
open Go.ChangeShapes Go.WideShapes Go.ChangeAt Go.RowKit
def emN (m : Int) : Nat := if m <= 0 then 0 else if m = 1 then 1 else 2
def zoO (m : Int) (w0 : World) (C : Nat) (i : Value) (wr : World) : Prop :=
 ∃ (k : Nat) (V : Nat -> Value), k <= emN m /\ i = .int .i64 k /\ Bld wr (C + 1) C 0 V (fun _ => List.replicate k 0) /\ Below C w0 wr
theorem zhr (k : Nat) : List.replicate k (0 : Int) ++ [0] = List.replicate (k + 1) 0 := by rw [List.replicate_succ']
theorem mk0 : ∀ w, (Instr.makeSlice 27 (.int .i64 0) (.int .i64 0)).run Tryz.prog w = .ok (.slice (some ⟨w.heap.size, 0, none⟩) 0 0) (w.alloc (.cells #[] 3)) := fun _ => by kernel_rfl
theorem mk1 : ∀ w, (Instr.makeSlice 27 (.int .i64 1) (.int .i64 1)).run Tryz.prog w = .ok (.slice (some ⟨w.heap.size, 0, none⟩) 1 1) (w.alloc (.cells #[.int .i64 0] 3)) := fun _ => by kernel_rfl
theorem mk2 : ∀ w, (Instr.makeSlice 27 (.int .i64 2) (.int .i64 2)).run Tryz.prog w = .ok (.slice (some ⟨w.heap.size, 0, none⟩) 2 2) (w.alloc (.cells #[.int .i64 0, .int .i64 0] 3)) := fun _ => by kernel_rfl
theorem zq8 {w1 : World} {N H : Nat} (K : Nat) (cs : Array Value) (hcs : cs.toList = zk (List.replicate K 0)) (hsz : cs.size = K) (hK : K <= maxLen) (hN : w1.heap.size = N) (hH : H <= N) :
  (((w1.alloc (.cells cs 3)).alloc (.cells cs 3)).alloc (.cells cs 3)).ownsRow H 3 1 (.slice (some ⟨N, 0, none⟩) K K) (List.replicate K (0 : Int)).length (zk (List.replicate K 0)) /\
  (((w1.alloc (.cells cs 3)).alloc (.cells cs 3)).alloc (.cells cs 3)).ownsRow H 3 1 (.slice (some ⟨N + 1, 0, none⟩) K K) (List.replicate K (0 : Int)).length (zk (List.replicate K 0)) /\
  (((w1.alloc (.cells cs 3)).alloc (.cells cs 3)).alloc (.cells cs 3)).ownsRow H 3 1 (.slice (some ⟨N + 1 + 1, 0, none⟩) K K) (List.replicate K (0 : Int)).length (zk (List.replicate K 0)) := by
 rw [List.length_replicate, <- hcs]
 subst hN
 refine ⟨((World.ownsRow_lit w1 cs K hH hK (by omega)).alloc _).alloc _, ?_, ?_⟩
 ·have := (World.ownsRow_lit (base := H) (e := 3) (size := 1) (w1.alloc (.cells cs 3)) cs K (by simp; omega) hK (by omega)).alloc (.cells cs 3)
  simpa only [World.size_alloc] using this
 ·have := World.ownsRow_lit (base := H) (e := 3) (size := 1) ((w1.alloc (.cells cs 3)).alloc (.cells cs 3)) cs K (by simp; omega) hK (by omega)
  simpa only [World.size_alloc] using this
set_option maxRecDepth 100000 in
set_option maxHeartbeats 1600000 in
theorem zdM (m : Int) (w : World) :
  Calls Tryz.prog 100 #[.int .i64 m] w (zg2 (zz (emN m)) w) := by
 go_enter Tryz.func100, Tryz.ntmps100
 by_cases h0 : m <= 0
 ·have he : emN m = 0 := by unfold emN; rw [if_pos h0]
  rw [he]
  have hm := mk0
  go_wp2
  all_goals go_region
  all_goals go_wp2
  all_goals first
   | (refine bodyPost_ret (v := .agg #[.int .i64 0, .slice (some ⟨w.heap.size + 1, 0, none⟩) 0 0, .slice (some ⟨w.heap.size + 1 + 1, 0, none⟩) 0 0, .slice (some ⟨w.heap.size + 1 + 1 + 1, 0, none⟩) 0 0]) ?_ rfl ?_; · (simp [results, Tryz.results100, go_sem]; done))
   | (refine bodyPost_ret (v := .agg #[.int .i64 0, .slice (some ⟨w.heap.size + 1, 0, none⟩) 0 0, .slice (some ⟨w.heap.size + 1 + 1 + 1, 0, none⟩) 0 0, .slice (some ⟨w.heap.size + 1 + 1, 0, none⟩) 0 0]) ?_ rfl ?_; · (simp [results, Tryz.results100, go_sem]; done))
   | (refine bodyPost_ret (v := .agg #[.int .i64 0, .slice (some ⟨w.heap.size + 1 + 1, 0, none⟩) 0 0, .slice (some ⟨w.heap.size + 1, 0, none⟩) 0 0, .slice (some ⟨w.heap.size + 1 + 1 + 1, 0, none⟩) 0 0]) ?_ rfl ?_; · (simp [results, Tryz.results100, go_sem]; done))
   | (refine bodyPost_ret (v := .agg #[.int .i64 0, .slice (some ⟨w.heap.size + 1 + 1, 0, none⟩) 0 0, .slice (some ⟨w.heap.size + 1 + 1 + 1, 0, none⟩) 0 0, .slice (some ⟨w.heap.size + 1, 0, none⟩) 0 0]) ?_ rfl ?_; · (simp [results, Tryz.results100, go_sem]; done))
   | (refine bodyPost_ret (v := .agg #[.int .i64 0, .slice (some ⟨w.heap.size + 1 + 1 + 1, 0, none⟩) 0 0, .slice (some ⟨w.heap.size + 1, 0, none⟩) 0 0, .slice (some ⟨w.heap.size + 1 + 1, 0, none⟩) 0 0]) ?_ rfl ?_; · (simp [results, Tryz.results100, go_sem]; done))
   | (refine bodyPost_ret (v := .agg #[.int .i64 0, .slice (some ⟨w.heap.size + 1 + 1 + 1, 0, none⟩) 0 0, .slice (some ⟨w.heap.size + 1 + 1, 0, none⟩) 0 0, .slice (some ⟨w.heap.size + 1, 0, none⟩) 0 0]) ?_ rfl ?_; · (simp [results, Tryz.results100, go_sem]; done))
  all_goals
   have hr := fun R => zq8 (H := w.heap.size) 0 #[] rfl rfl (by simp [maxLen]) (w1 := w.alloc R) (N := w.heap.size + 1) (by simp) (by omega)
   refine ⟨_, rfl, ⟨_, _, _, rfl, ?_, ?_, ?_, ?_, ?_⟩, zI⟩
   ·first | exact (hr _).1.drew | exact (hr _).2.1.drew | exact (hr _).2.2.drew
   ·first | exact (hr _).1.drew | exact (hr _).2.1.drew | exact (hr _).2.2.drew
   ·first | exact (hr _).1.drew | exact (hr _).2.1.drew | exact (hr _).2.2.drew
   ·intro g hg; simp [Value.ownBlock] at hg ⊢; omega
   ·intro g hg; simp [Value.ownBlock] at hg ⊢; omega
 ·by_cases h1 : m = 1
  ·have he : emN m = 1 := by unfold emN; rw [if_neg h0, if_pos h1]
   rw [he]
   subst h1
   have hm := mk1
   go_wp2
   all_goals go_region
   all_goals go_wp2
   all_goals first
    | (refine bodyPost_ret (v := .agg #[.int .i64 0, .slice (some ⟨w.heap.size + 1, 0, none⟩) 1 1, .slice (some ⟨w.heap.size + 1 + 1, 0, none⟩) 1 1, .slice (some ⟨w.heap.size + 1 + 1 + 1, 0, none⟩) 1 1]) ?_ rfl ?_; · (simp [results, Tryz.results100, go_sem]; done))
    | (refine bodyPost_ret (v := .agg #[.int .i64 0, .slice (some ⟨w.heap.size + 1, 0, none⟩) 1 1, .slice (some ⟨w.heap.size + 1 + 1 + 1, 0, none⟩) 1 1, .slice (some ⟨w.heap.size + 1 + 1, 0, none⟩) 1 1]) ?_ rfl ?_; · (simp [results, Tryz.results100, go_sem]; done))
    | (refine bodyPost_ret (v := .agg #[.int .i64 0, .slice (some ⟨w.heap.size + 1 + 1, 0, none⟩) 1 1, .slice (some ⟨w.heap.size + 1, 0, none⟩) 1 1, .slice (some ⟨w.heap.size + 1 + 1 + 1, 0, none⟩) 1 1]) ?_ rfl ?_; · (simp [results, Tryz.results100, go_sem]; done))
    | (refine bodyPost_ret (v := .agg #[.int .i64 0, .slice (some ⟨w.heap.size + 1 + 1, 0, none⟩) 1 1, .slice (some ⟨w.heap.size + 1 + 1 + 1, 0, none⟩) 1 1, .slice (some ⟨w.heap.size + 1, 0, none⟩) 1 1]) ?_ rfl ?_; · (simp [results, Tryz.results100, go_sem]; done))
    | (refine bodyPost_ret (v := .agg #[.int .i64 0, .slice (some ⟨w.heap.size + 1 + 1 + 1, 0, none⟩) 1 1, .slice (some ⟨w.heap.size + 1, 0, none⟩) 1 1, .slice (some ⟨w.heap.size + 1 + 1, 0, none⟩) 1 1]) ?_ rfl ?_; · (simp [results, Tryz.results100, go_sem]; done))
    | (refine bodyPost_ret (v := .agg #[.int .i64 0, .slice (some ⟨w.heap.size + 1 + 1 + 1, 0, none⟩) 1 1, .slice (some ⟨w.heap.size + 1 + 1, 0, none⟩) 1 1, .slice (some ⟨w.heap.size + 1, 0, none⟩) 1 1]) ?_ rfl ?_; · (simp [results, Tryz.results100, go_sem]; done))
   all_goals
    have hr := fun R => zq8 (H := w.heap.size) 1 #[.int .i64 0] rfl rfl (by simp [maxLen]) (w1 := w.alloc R) (N := w.heap.size + 1) (by simp) (by omega)
    refine ⟨_, rfl, ⟨_, _, _, rfl, ?_, ?_, ?_, ?_, ?_⟩, zI⟩
    ·first | exact (hr _).1.drew | exact (hr _).2.1.drew | exact (hr _).2.2.drew
    ·first | exact (hr _).1.drew | exact (hr _).2.1.drew | exact (hr _).2.2.drew
    ·first | exact (hr _).1.drew | exact (hr _).2.1.drew | exact (hr _).2.2.drew
    ·intro g hg; simp [Value.ownBlock] at hg ⊢; omega
    ·intro g hg; simp [Value.ownBlock] at hg ⊢; omega
  ·have he : emN m = 2 := by unfold emN; rw [if_neg h0, if_neg h1]
   rw [he]
   have hm := mk2
   rcases (show m = 2 \/ 2 < m by omega) with rfl | h2
   all_goals go_wp2
   all_goals go_region
   all_goals go_wp2
   all_goals first
    | (refine bodyPost_ret (v := .agg #[.int .i64 0, .slice (some ⟨w.heap.size + 1, 0, none⟩) 2 2, .slice (some ⟨w.heap.size + 1 + 1, 0, none⟩) 2 2, .slice (some ⟨w.heap.size + 1 + 1 + 1, 0, none⟩) 2 2]) ?_ rfl ?_; · (simp [results, Tryz.results100, go_sem]; done))
    | (refine bodyPost_ret (v := .agg #[.int .i64 0, .slice (some ⟨w.heap.size + 1, 0, none⟩) 2 2, .slice (some ⟨w.heap.size + 1 + 1 + 1, 0, none⟩) 2 2, .slice (some ⟨w.heap.size + 1 + 1, 0, none⟩) 2 2]) ?_ rfl ?_; · (simp [results, Tryz.results100, go_sem]; done))
    | (refine bodyPost_ret (v := .agg #[.int .i64 0, .slice (some ⟨w.heap.size + 1 + 1, 0, none⟩) 2 2, .slice (some ⟨w.heap.size + 1, 0, none⟩) 2 2, .slice (some ⟨w.heap.size + 1 + 1 + 1, 0, none⟩) 2 2]) ?_ rfl ?_; · (simp [results, Tryz.results100, go_sem]; done))
    | (refine bodyPost_ret (v := .agg #[.int .i64 0, .slice (some ⟨w.heap.size + 1 + 1, 0, none⟩) 2 2, .slice (some ⟨w.heap.size + 1 + 1 + 1, 0, none⟩) 2 2, .slice (some ⟨w.heap.size + 1, 0, none⟩) 2 2]) ?_ rfl ?_; · (simp [results, Tryz.results100, go_sem]; done))
    | (refine bodyPost_ret (v := .agg #[.int .i64 0, .slice (some ⟨w.heap.size + 1 + 1 + 1, 0, none⟩) 2 2, .slice (some ⟨w.heap.size + 1, 0, none⟩) 2 2, .slice (some ⟨w.heap.size + 1 + 1, 0, none⟩) 2 2]) ?_ rfl ?_; · (simp [results, Tryz.results100, go_sem]; done))
    | (refine bodyPost_ret (v := .agg #[.int .i64 0, .slice (some ⟨w.heap.size + 1 + 1 + 1, 0, none⟩) 2 2, .slice (some ⟨w.heap.size + 1 + 1, 0, none⟩) 2 2, .slice (some ⟨w.heap.size + 1, 0, none⟩) 2 2]) ?_ rfl ?_; · (simp [results, Tryz.results100, go_sem]; done))
   all_goals
    have hr := fun R => zq8 (H := w.heap.size) 2 #[.int .i64 0, .int .i64 0] rfl rfl (by simp [maxLen]) (w1 := w.alloc R) (N := w.heap.size + 1) (by simp) (by omega)
    refine ⟨_, rfl, ⟨_, _, _, rfl, ?_, ?_, ?_, ?_, ?_⟩, zI⟩
    ·first | exact (hr _).1.drew | exact (hr _).2.1.drew | exact (hr _).2.2.drew
    ·first | exact (hr _).1.drew | exact (hr _).2.1.drew | exact (hr _).2.2.drew
    ·first | exact (hr _).1.drew | exact (hr _).2.1.drew | exact (hr _).2.2.drew
    ·intro g hg; simp [Value.ownBlock] at hg ⊢; omega
    ·intro g hg; simp [Value.ownBlock] at hg ⊢; omega
theorem zny {c : zp} (h : ¬ c.shape) : mayC c = false := zeJ.2 (fun e => h e.1)
theorem zil {c : zp} (h : c.shape) (e : c = zz c.s.length) : mayC c = true := zaO.2 (by rw [e]; exact znA h.1)
theorem znD {c : zp} (h : ¬ (1 <= c.n /\ c.n <= CNT)) (e : c ≠ zz c.s.length) : mayC c = false := zeJ.2 (fun x => by
 rcases x.2 with ⟨_, h'⟩ | ⟨h', _⟩
 ·exact e h'
 ·exact h h')
theorem zqs {c : zp} (h : 1 <= c.n /\ c.n <= CNT) {k : Nat} (hk : k < c.s.length) (e : ¬ c.col k) : mayC c = false := zeJ.2 (fun x => by
 rcases x.2 with ⟨h', _⟩ | ⟨_, h'⟩
 ·exact h' h
 ·exact e (h' k hk))
theorem zra {c : zp} (hs : c.shape) (h : 1 <= c.n /\ c.n <= CNT) (hc : ∀ k, k < c.s.length -> c.col k) : mayC c = true := zaO.2 ⟨hs, .inr ⟨h, hc⟩⟩
theorem zjR {m : Nat} (h : m <= 2) : emN (m : Int) = m := by unfold emN; split <;> (try split) <;> omega
def MayRel (c : zp) (w : World) (i : Value) (wr : World) : Prop := ∃ k : Nat, k <= c.s.length /\ i = .int .i64 k /\ (∀ j, j < k -> c.col j) /\ Qu w wr
theorem zrb {n x lo hi : Int} : colP n x lo hi ↔ ¬ lo > hi /\ inB lo 2305843009213693952 = true /\ inB hi 2305843009213693952 = true /\ inB x 4611686018427387904 = true /\ (n = 1 -> x = lo /\ x = hi) := by
 unfold colP VAL SUM
 rw [zcm, zcm, zcm]
 constructor
 ·rintro ⟨h1, h2, h3, h4, h5⟩; exact ⟨by omega, h2, h3, h4, h5⟩
 ·rintro ⟨h1, h2, h3, h4, h5⟩; exact ⟨by omega, h2, h3, h4, h5⟩
def GoodB (x l h : Int) : Prop := ¬ h < l /\ inB l 2305843009213693952 = true /\ inB h 2305843009213693952 = true /\ inB x 4611686018427387904 = true
theorem zoH (n x l h : Int) : (¬ colP n x l h /\ (h < l \/ (¬ h < l /\ inB l 2305843009213693952 = false) \/ (¬ h < l /\ inB l 2305843009213693952 = true /\ inB h 2305843009213693952 = false) \/
   (¬ h < l /\ inB l 2305843009213693952 = true /\ inB h 2305843009213693952 = true /\ inB x 4611686018427387904 = false))) \/
  (GoodB x l h /\ ((¬ colP n x l h /\ (((n == 1) = true /\ (x != l) = true) \/ ((n == 1) = true /\ (x != l) = false /\ (x != h) = true))) \/ (colP n x l h /\ ((n == 1) = false \/ ((n == 1) = true /\ (x != l) = false /\ (x != h) = false))))) := by
 rw [zrb]
 unfold GoodB
 by_cases h1 : h < l
 ·exact .inl ⟨fun e => e.1 h1, .inl h1⟩
 cases h2 : inB l 2305843009213693952
 ·exact .inl ⟨fun e => by simp at e, .inr (.inl ⟨h1, rfl⟩)⟩
 cases h3 : inB h 2305843009213693952
 ·exact .inl ⟨fun e => by simp at e, .inr (.inr (.inl ⟨h1, rfl, rfl⟩))⟩
 cases h4 : inB x 4611686018427387904
 ·exact .inl ⟨fun e => by simp at e, .inr (.inr (.inr ⟨h1, rfl, rfl, rfl⟩))⟩
 refine .inr ⟨⟨h1, rfl, rfl, rfl⟩, ?_⟩
 by_cases h5 : n = 1
 ·by_cases h6 : x = l
  ·by_cases h7 : x = h
   ·exact .inr ⟨⟨h1, rfl, rfl, rfl, fun _ => ⟨h6, h7⟩⟩, .inr (by simp [h5, h6, <- h7])⟩
   ·exact .inl ⟨fun e => h7 (e.2.2.2.2 h5).2, .inr (by simp [h5, h6]; omega)⟩
  ·exact .inl ⟨fun e => h6 (e.2.2.2.2 h5).1, .inl (by simp [h5]; omega)⟩
 ·exact .inr ⟨⟨h1, rfl, rfl, rfl, fun e => absurd e h5⟩, .inl (by simpa using h5)⟩
theorem zk8 {a b : Int} (h : ¬ a < b) : decide (a < b) = false := decide_eq_false h
theorem zc3 {p : Nat -> Prop} {k : Nat} (h : ∀ j, j < k -> p j) (hk : p k) : ∀ j, j < k + 1 -> p j := fun j hj => by
 rcases Nat.lt_or_ge j k with h' | h'
 ·exact h j h'
 ·obtain rfl : j = k := by omega
  exact hk
set_option maxRecDepth 100000 in
theorem ziZ (a b : Int) (w : World) : Calls Tryz.prog 110 #[.int .i64 a, .int .i64 b, .int .i64 (-1)] w (fun e w' => e = .returned (.int .i64 (min a b)) /\ w = w') := by
 go_enter Tryz.func110, Tryz.ntmps110
 have hc := fun w => zdn a b w
 by_cases h : a < b
 ·have e : cmpI a b = -1 := by unfold cmpI; rw [if_pos h]
  rw [e] at hc
  go_wp2_with fail
  refine (hc _).mono ?_
  rintro e w1 ⟨rfl, rfl⟩
  go_wp2
  go_ret
  exact ⟨zd8 (by omega), rfl⟩
 ·have e : (cmpI a b == -1) = false := by unfold cmpI; rw [if_neg h]; split <;> rfl
  go_wp2_with fail
  refine (hc _).mono ?_
  rintro e w1 ⟨rfl, rfl⟩
  go_wp2
  go_ret
  exact ⟨zd8 (by omega), rfl⟩
set_option maxRecDepth 100000 in
theorem zjP (a b : Int) (w : World) : Calls Tryz.prog 110 #[.int .i64 a, .int .i64 b, .int .i64 1] w (fun e w' => e = .returned (.int .i64 (max a b)) /\ w = w') := by
 go_enter Tryz.func110, Tryz.ntmps110
 have hc := fun w => zdn a b w
 by_cases h : b < a
 ·have e : cmpI a b = 1 := by unfold cmpI; rw [if_neg (by omega), if_pos h]
  rw [e] at hc
  go_wp2_with fail
  refine (hc _).mono ?_
  rintro e w1 ⟨rfl, rfl⟩
  go_wp2
  go_ret
  exact ⟨zd8 (by omega), rfl⟩
 ·have e : (cmpI a b == 1) = false := by unfold cmpI; split <;> (try split) <;> first | rfl | omega
  go_wp2_with fail
  refine (hc _).mono ?_
  rintro e w1 ⟨rfl, rfl⟩
  go_wp2
  go_ret
  exact ⟨zd8 (by omega), rfl⟩
set_option maxRecDepth 100000 in
set_option maxHeartbeats 800000 in
theorem zgz (v x : Value) (l r : List Int) (w : World) (B : Nat) (hv : Sl w B v (zk l)) (hx : Sl w B x (zk r)) :
  Calls Tryz.prog 60 #[v, x] w (za5 (.bool (decide (l = r))) w) := by
 obtain ⟨A1, c1, rfl, hc1, hm1⟩ := hv.formI
 obtain ⟨A2, c2, rfl, hc2, hm2⟩ := hx.formI
 unfold maxLen at hm1 hm2
 have S1 := hid hv; have S2 := hid hx; clear hv hx
 have hdec : l ≠ r -> decide (l = r) = false := fun h => decide_eq_false h
 have hyes : l = r -> decide (l = r) = true := fun h => decide_eq_true h
 generalize decide (l = r) = res at *
 have HD := hid hdec; have HY := hid hyes; clear hdec hyes
 go_enter Tryz.func60, Tryz.ntmps60
 by_cases hl : l.length = r.length
 ·have HL := hid hl
  have u0 : ((l.length : Int) != (r.length : Int)) = false := by simp [hl]
  clear hl
  go_wp2
  go_loopw [13] (fun i wr => EqRel l r w i wr) (fun i _ => l.length - (intOf i).toNat)
  case atStart => exact ⟨0, by omega, rfl, rfl, Qu.refl _⟩
  case round =>
   obtain ⟨k, hk, rfl, hsame, hq⟩ := hrel
   have HS := hid hsame; clear hsame
   by_cases hlt : k < l.length
   ·have hlt' : k < r.length := by have := HL.out; omega
    obtain ⟨b1, o1, rfl, hb1, hx1⟩ := S1.out.int hlt
    obtain ⟨b2, o2, rfl, hb2, hx2⟩ := S2.out.int hlt'
    have g1 : wr.cell? ⟨b1, o1 + k, none⟩ = _ := (hq.cell _).trans hx1
    have g2 : wr.cell? ⟨b2, o2 + k, none⟩ = _ := (hq.cell _).trans hx2
    clear hx1 hx2
    have e1 := zP l k hlt
    have e2 := zP r k hlt'
    have hgn : l.getD k 0 ≠ r.getD k 0 -> l ≠ r := zqj
    generalize l.getD k 0 = p1 at *
    generalize r.getD k 0 = p2 at *
    by_cases he : p1 = p2
    ·subst he
     have hs' : l.take (k + 1) = r.take (k + 1) := by rw [e1, e2, HS.out]
     have t2 : (p1 != p1) = false := by simp
     have HS' := hid hs'; clear e1 e2 hs' hgn
     go_wp2
     go_quiet (fail)
     go_wp2
     go_roundw
     case rel => exact ⟨k + 1, by omega, by go_num, HS'.out, hq.drewN _⟩
     case measure => simp [intOf]; omega
    ·have hn := HD.out (hgn he)
     have t2 : (p1 != p2) = true := by simpa using he
     have HN := hid hn; clear e1 e2 hgn hn he
     go_wp2
     go_quiet (fail)
     go_wp2
     go_ret
     exact ⟨zZ HN.out.symm, hq.drewN _⟩
   ·have he1 : l = r := by
     have := HS.out
     rwa [List.take_of_length_le (by omega), List.take_of_length_le (by have := HL.out; omega)] at this
    have hn := HY.out he1
    have HN := hid hn; clear he1 HS hn
    go_wp2
    go_ret
    exact ⟨zZ HN.out.symm, hq⟩
 ·have u0 : ((l.length : Int) != (r.length : Int)) = true := by simp; omega
  have hn := HD.out (fun e => hl (by rw [e]))
  have HN := hid hn
  clear hl hn
  go_wp2
  go_ret
  exact ⟨zZ HN.out.symm, Qu.refl _⟩
set_option maxRecDepth 100000 in
theorem zlg (x : Int) (w : World) : Calls Tryz.prog 98 #[.int .i64 x] w (za5 (.bool (!inB x VAL)) w) := by
 go_enter Tryz.func98, Tryz.ntmps98
 go_wp2_with fail
 refine (zeb _ _ _ (by omega) (by omega)).mono ?_
 rintro e w1 ⟨rfl, hq⟩
 go_wp2
 go_ret
 exact ⟨rfl, hq⟩
def zp6 (l : List Int) (w : World) (i : Value) (wr : World) : Prop := ∃ k : Nat, k <= l.length /\ i = .int .i64 k /\ (∀ x ∈ l.take k, inB x VAL = true) /\ Qu w wr
theorem zdF {l : List Int} {k : Nat} (h : ∀ x ∈ l.take k, inB x VAL = true) (hk : k < l.length) (hx : inB (l.getD k 0) VAL = true) : ∀ x ∈ l.take (k + 1), inB x VAL = true := by
 intro x hm
 rw [zP l k hk] at hm
 rcases List.mem_append.1 hm with h' | h'
 ·exact h x h'
 ·simp at h'; rw [h']; exact hx
theorem zg9 {l : List Int} {k : Nat} (hk : k < l.length) : l.getD k 0 ∈ l := by
 rw [List.getD_eq_getElem?_getD, List.getElem?_eq_getElem hk]; exact List.getElem_mem hk
def IdxP (l : List Int) (w : World) (e : Ending) (w' : World) : Prop := (∃ i : Int, e = .returned (.int .i64 i) /\ (decide (0 <= i)) = !(l.all fun x => inB x VAL)) /\ Qu w w'
set_option maxRecDepth 100000 in
set_option maxHeartbeats 800000 in
theorem zlQ (v : Value) (l : List Int) (w : World) (B : Nat) (hv : Sl w B v (zk l)) :
  Calls Tryz.prog 119 #[v, .func (Fn.func 98) #[] #[]] w (IdxP l w) := by
 obtain ⟨A1, c1, rfl, hc1, hm1⟩ := hv.formI
 unfold maxLen at hm1
 have S1 := hid hv; clear hv
 go_enter Tryz.func119, Tryz.ntmps119
 go_wp2
 go_loopw [8] (fun i wr => zp6 l w i wr) (fun i _ => l.length - (intOf i).toNat)
 case atStart => exact ⟨0, by omega, rfl, by simp, Qu.refl _⟩
 case round =>
  obtain ⟨k, hk, rfl, hall, hq⟩ := hrel
  have HA := hid hall; clear hall
  by_cases hlt : k < l.length
  ·obtain ⟨b1, o1, rfl, hb1, hx1⟩ := S1.out.int hlt
   have g1 : wr.cell? ⟨b1, o1 + k, none⟩ = _ := (hq.cell _).trans hx1
   clear hx1
   have hm := zg9 hlt
   have hn := zdF HA.out hlt
   generalize l.getD k 0 = x at *
   have HM := hid hm; have HN := hid hn; clear hm hn
   have hf := zlg x
   cases hb : inB x VAL
   ·rw [hb] at hf
    have HF := hid hf; have HB := hid hb; clear hf hb
    go_wp2_with fail
    refine (HF.out _).mono ?_
    rintro e w1 ⟨rfl, hq1⟩
    go_wp2
    go_ret
    refine ⟨⟨_, rfl, ?_⟩, hq.trans hq1⟩
    rw [decide_eq_true (by omega)]
    symm
    rw [Bool.not_eq_true', <- Bool.not_eq_true, List.all_eq_true]
    intro h
    have := h x HM.out
    rw [HB.out] at this
    cases this
   ·rw [hb] at hf
    have HF := hid hf; have HB := hid hb; clear hf hb
    go_wp2_with fail
    refine (HF.out _).mono ?_
    rintro e w1 ⟨rfl, hq1⟩
    go_wp2
    go_roundw
    case rel => exact ⟨k + 1, by omega, by go_num, HN.out HB.out, hq.trans hq1⟩
    case measure => simp [intOf]; omega
  ·have := HA.out
   rw [List.take_of_length_le (by omega)] at this
   have HT := hid this; clear this
   go_wp2
   go_ret
   refine ⟨⟨_, rfl, ?_⟩, hq⟩
   rw [List.all_eq_true.2 (by simpa using HT.out)]
   rfl
set_option maxRecDepth 100000 in
theorem zhh (v : Value) (l : List Int) (w : World) (B : Nat) (hv : Sl w B v (zk l)) :
  Calls Tryz.prog 80 #[v, .func (Fn.func 98) #[] #[]] w (za5 (.bool (!(l.all fun x => inB x VAL))) w) := by
 have HI := hid (fun W (hq : Qu w W) => zlQ v l W B (hv.qu' hq))
 clear hv
 go_enter Tryz.func80, Tryz.ntmps80
 go_wp2_with fail
 refine (HI.out _ (Qu.refl _)).mono ?_
 rintro e w1 ⟨⟨i, rfl, hi⟩, hq⟩
 go_wp2
 go_ret
 exact ⟨zZ (by rw [<- hi]), hq⟩
theorem zh5 {f : Int -> Int -> Int} {l : List Int} {k : Nat} (h1 : 1 <= k) (hk : k < l.length) : (l.take (k + 1)).tail.foldl f (l.getD 0 0) = f ((l.take k).tail.foldl f (l.getD 0 0)) (l.getD k 0) := by
 rw [zP l k hk]
 have hne : l.take k ≠ [] := by intro e; have := congrArg List.length e; rw [List.length_take, List.length_nil] at this; omega
 rw [List.tail_append_of_ne_nil hne, List.foldl_append]
 rfl
theorem zot {l : List Int} (h : l ≠ []) : minL l = l.tail.foldl min (l.getD 0 0) := by cases l with
 | nil => exact absurd rfl h
 | cons x l => rfl
theorem zoa {l : List Int} (h : l ≠ []) : maxL l = l.tail.foldl max (l.getD 0 0) := by cases l with
 | nil => exact absurd rfl h
 | cons x l => rfl
end Go.Proofs.YtgoapnkdcfcjgaaGreat
