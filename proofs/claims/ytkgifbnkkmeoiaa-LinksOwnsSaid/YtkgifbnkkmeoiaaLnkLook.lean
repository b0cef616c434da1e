/- The program's net: New, Len, number, Look. -/
import Derived.Test.YtkgifbnkkmeoiaaLnkSt
import Derived.Test.YtkgifbnkkmeoiaaCloneB
import Derived.OwnWalk
namespace Go.Proofs.Ytkgifbnkkmeoiaa
open Go.ChangeShapes Go.WideShapes Go.ChangeAt Go.RowKit
set_option linter.unusedVariables false
set_option linter.unusedSimpArgs false

theorem results_tmp4 {fn : Func} {P : Program} {t u v x : Tmp} (h : fn.results = #[.tmp t, .tmp u, .tmp v, .tmp x]) (tmps : Array Value) (w : World) :
    (results fn tmps).run P w = .ok (.tuple #[tmps.getD t undef, tmps.getD u undef, tmps.getD v undef, tmps.getD x undef]) w := by
  simp [results, h]
def inN (L : List PK) (p : Int) : Bool := decide (0 ≤ p ∧ p < (L.length : Int))
def lookN (L : List PK) (p : Int) : PK × Int := if inN L p = true then (L.getD p.toNat zP, 0) else (zP, 33)
theorem own_formN {w : World} {base : Nat} {e : TypeId} {sz : Nat} {v : Value} {n : Nat} {xs : List Value} (h : w.ownsRow base e sz v n xs) : ∃ A c, v = .slice A n c := by
  rcases h.2 with ⟨rfl, rfl⟩ | ⟨g, cap, cur, rfl, -⟩
  · exact ⟨none, 0, rfl⟩
  · exact ⟨_, _, rfl⟩
def NewNP (w : World) (e : Ending) (w' : World) : Prop := ∃ n, e = .returned (.pointer (some ⟨n, 0, none⟩)) ∧ NetP w' (fun k => k = n) n [] ∧ w.heap.size ≤ n ∧ Below w.heap.size w w'
theorem newN_any (w : World) : Calls Try.prog 6 #[] w (NewNP w) := by
  go_enter Try.func6, Try.ntmps6
  go_wp2
  go_ret
  refine ⟨w.heap.size, rfl, ⟨rfl, fun k hk => by rw [hk]; simp, by simp [go_sem], .slice none 0 0, [], by simp [go_sem], World.ownsRow_nil _ _ _ _, fun g hg => (by cases hg), RowPk.nil_ _ _⟩, Nat.le_refl _, bl1 _ _⟩
theorem lenN_any (D : Nat → Prop) (n : Nat) (L : List PK) (w : World) (h : NetP w D n L) : Calls Try.prog 12 #[.pointer (some ⟨n, 0, none⟩)] w (Stays (.int .i64 L.length) w) := by
  obtain ⟨h1, h2, h3, v, es, h4, h5, -, -⟩ := h
  obtain ⟨A, c, rfl⟩ := own_formN h5
  clear h5
  go_enter Try.func12, Try.ntmps12
  go_wp2
  go_ret
  exact ⟨rfl, Qu.refl _⟩
theorem number_any (n a b : Int) (w : World) : Calls Try.prog 32 #[.int .i64 n, .int .i64 a, .int .i64 b] w (Stays (.bool (decide (a ≤ n ∧ n ≤ b))) w) := by
  go_enter Try.func32, Try.ntmps32
  have hc : (a ≤ n ∧ n ≤ b) ∨ (a ≤ n ∧ ¬ n ≤ b) ∨ ¬ a ≤ n := by omega
  rcases hc with ⟨h1, h2⟩ | ⟨h1, h2⟩ | h1
  · go_wp2
    go_ret
    exact ⟨by simp [h1, h2], Qu.refl _⟩
  · go_wp2
    go_ret
    exact ⟨by simp [h1, h2], Qu.refl _⟩
  · have hf : decide (a ≤ n ∧ n ≤ b) = false := decide_eq_false (by omega)
    rw [hf]
    clear hf
    go_wp2
    go_ret
    exact ⟨rfl, Qu.refl _⟩
def LookPost (r : PK × Int) (w : World) (e : Ending) (w' : World) : Prop := ∃ b, e = .returned (.tuple #[.int .i64 r.1.1, .int .i64 r.1.2.1, b, .int .i64 r.2]) ∧ Own8 w' w.heap.size b r.1.2.2 ∧ Below w.heap.size w w'
set_option maxRecDepth 100000 in
set_option maxHeartbeats 1600000 in
theorem lookP_any (D : Nat → Prop) (n : Nat) (L : List PK) (p : Int) (w : World) (h : NetP w D n L) (hd : ∀ x ∈ L, x.2.2.length ≤ 1000) :
    Calls Try.prog 14 #[.pointer (some ⟨n, 0, none⟩), .int .i64 p] w (LookPost (lookN L p) w) := by
  obtain ⟨h1, h2, h3, v, es, h4, h5, -, h7⟩ := h
  have hnl := h2 n h1
  by_cases hin : 0 ≤ p ∧ p < (L.length : Int)
  · obtain ⟨k, rfl⟩ : ∃ k : Nat, p = (k : Int) := ⟨p.toNat, by omega⟩
    have hk : k < L.length := by omega
    obtain ⟨g, off, cap, A, c, rfl, -, hg, hlc, hcm, q0, q1, q2, hs⟩ := pk_elem (RowA.of_own h5) h7 hk
    have hlk : lookN L (k : Int) = (L.getD k zP, 0) := by unfold lookN inN; rw [if_pos (decide_eq_true hin), Int.toNat_natCast]
    have hdk : (L.getD k zP).2.2.length ≤ 1000 := by
      rw [List.getD_eq_getElem?_getD, List.getElem?_eq_getElem hk]; exact hd _ (List.getElem_mem hk)
    rw [hlk]
    generalize L.getD k zP = x at *
    obtain ⟨f, t, l⟩ := x
    simp only at q0 q1 q2 hs hdk ⊢
    obtain ⟨W0, hW0⟩ : ∃ W', W' = w.alloc (.cells #[.int .i64 f, .int .i64 t, .slice A l.length c] 69) := ⟨_, rfl⟩
    have hb0 : Below w.heap.size w W0 := by rw [hW0]; exact bl1 _ _
    have hz0 : W0.heap.size = w.heap.size + 1 := by rw [hW0]; simp
    have y0 : W0.cell? ⟨w.heap.size, 0, none⟩ = some (.int .i64 f) := by rw [hW0]; simp [go_sem]
    have y1 : W0.cell? ⟨w.heap.size, 1, none⟩ = some (.int .i64 t) := by rw [hW0]; simp [go_sem]
    have y2 : W0.cell? ⟨w.heap.size, 2, none⟩ = some (.slice A l.length c) := by rw [hW0]; simp [go_sem]
    have HC := hid (clone_any (.slice A l.length c) l W0.drew (((hs.sl.below hb0).more hb0.size).qu' ⟨1, rfl⟩) (by omega))
    have HW0 := hid hW0; have HB0 := hid hb0
    unfold maxLen at hcm
    clear h1 h2 h3 h5 h7 hd hs hW0 hb0 hlk
    go_enter Try.func14, Try.ntmps14
    go_wp2
    rw [← HW0.out]
    go_region_held3 (fun w' => w'.cell? ⟨w.heap.size, 0, none⟩ = some (.int .i64 f) ∧ w'.cell? ⟨w.heap.size, 1, none⟩ = some (.int .i64 t) ∧ w'.cell? ⟨w.heap.size, 2, none⟩ = some (.slice A l.length c)) (go_keep)
      (((with_reducible refine HC.out.mono ?_); rintro e w5 ⟨b, rfl, ho5, hb5⟩; have hb5 : Below W0.heap.size W0 w5 := (Below.refl _ _).drew.trans hb5; have y0 := cellK hb5 (by omega) y0; have y1 := cellK hb5 (by omega) y1; have y2 := cellK hb5 (by omega) y2; have HO := hid ho5; have HB5 := hid hb5; clear ho5 hb5))
    go_wp2
    ((try simp only [Exit.inBlock, Exit.then]); refine bodyPost_ret (results_tmp4 rfl _ _) rfl ?_)
    exact ⟨b, rfl, Own8.less HO.out (show w.heap.size ≤ W0.drew.heap.size from HB0.out.size), HB0.out.trans (HB5.out.mono HB0.out.size)⟩
  · have hlk : lookN L p = (zP, 33) := by unfold lookN inN; rw [if_neg (by simpa using hin)]
    rw [hlk]
    obtain ⟨A, c, rfl⟩ := own_formN h5
    have hc : p < 0 ∨ (¬ p < 0 ∧ (L.length : Int) ≤ p) := by omega
    clear h5 h7 hlk hin
    rcases hc with hc | ⟨hc, hc2⟩
    all_goals
      go_enter Try.func14, Try.ntmps14
      go_wp2
      ((try simp only [Exit.inBlock, Exit.then]); refine bodyPost_ret (results_tmp4 rfl _ _) rfl ?_)
      exact ⟨_, rfl, World.ownsRow_nil _ _ _ _, Below.refl _ _⟩
end Go.Proofs.Ytkgifbnkkmeoiaa
