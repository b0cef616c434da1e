/- The program's Way. -/
import Derived.Test.YtkgifbnkkmeoiaaLnkSend2
namespace Go.Proofs.Ytkgifbnkkmeoiaa
open Go.ChangeShapes Go.WideShapes Go.ChangeAt Go.RowKit
set_option linter.unusedVariables false
set_option linter.unusedSimpArgs false

def wayK (L : List PK) (f t : Int) (k : Nat) : List Int := ((List.range k).filter fun i => decide ((L.getD i zP).1 = f ∧ (L.getD i zP).2.1 = t)).map fun (i : Nat) => (i : Int)
def wayN (L : List PK) (f t : Int) : List Int := wayK L f t L.length
theorem wayK_succ (L : List PK) (f t : Int) (k : Nat) : wayK L f t (k + 1) = wayK L f t k ++ (if (L.getD k zP).1 = f ∧ (L.getD k zP).2.1 = t then [(k : Int)] else []) := by
  unfold wayK
  rw [List.range_succ, List.filter_append, List.map_append]
  congr 1
  by_cases h : (L.getD k zP).1 = f ∧ (L.getD k zP).2.1 = t
  · rw [if_pos h, List.filter_cons_of_pos (by exact decide_eq_true h)]; rfl
  · rw [if_neg h, List.filter_cons_of_neg (by rw [decide_eq_false h]; simp)]; rfl
theorem wayK_len (L : List PK) (f t : Int) (k : Nat) : (wayK L f t k).length ≤ k := by
  unfold wayK
  rw [List.length_map]
  exact Nat.le_trans (List.length_filter_le _ _) (by simp)
def IntsP (xs : List Int) (w : World) (e : Ending) (w' : World) : Prop := ∃ v, e = .returned v ∧ w'.ownsRow w.heap.size 3 1 v xs.length (ivals xs) ∧ Below w.heap.size w w'
def WayRel (L : List PK) (f t : Int) (w : World) (out i : Value) (wr : World) : Prop := ∃ k : Nat, k ≤ L.length ∧ i = .int .i64 k ∧ wr.ownsRow w.heap.size 3 1 out (wayK L f t k).length (ivals (wayK L f t k)) ∧ Below w.heap.size w wr
set_option maxRecDepth 100000 in
set_option maxHeartbeats 1600000 in
theorem wayP_any (D : Nat → Prop) (n : Nat) (L : List PK) (f t : Int) (w : World) (h : NetP w D n L) (hL : L.length ≤ 1000) :
    Calls Try.prog 11 #[.pointer (some ⟨n, 0, none⟩), .int .i64 f, .int .i64 t] w (IntsP (wayN L f t) w) := by
  obtain ⟨i0, hi, hz0, hz1, hz2⟩ := info_parts info_int
  obtain ⟨h1, h2, h3, v, es, h4, h5, -, h7⟩ := h
  have hnl := h2 n h1
  have HEL := hid (fun k (hk : k < L.length) => pk_elem (RowA.of_own h5) h7 hk)
  obtain ⟨A, c, rfl⟩ := own_formN h5
  clear h2 h5 h7
  go_enter Try.func11, Try.ntmps11
  go_wp2
  go_loopw [7, 15] (fun out i wr => WayRel L f t w out i wr) (fun _ i _ => L.length - (intOf i).toNat)
  case atStart => exact ⟨0, by omega, rfl, World.ownsRow_nil _ _ _ _, Below.refl _ _⟩
  case round =>
    obtain ⟨k, hk, rfl, ho, hb⟩ := hrel
    have hsb := hb.size
    by_cases hlt : k < L.length
    · obtain ⟨g, off, cap, C, cc, e, -, hg, hlc, hcm, q0, q1, q2, -⟩ := HEL.out k hlt
      injection e with e1 _ e3
      subst e1; subst e3
      have q0 := cellK hb hg q0
      have q1 := cellK hb hg q1
      have q2 := cellK hb hg q2
      have hws := wayK_succ L f t k
      have hwl := wayK_len L f t k
      generalize (L.getD k zP).2.2.length = dl at *
      generalize (L.getD k zP).1 = x1 at *
      generalize (L.getD k zP).2.1 = x2 at *
      have HWS := hid hws; have HO := hid ho; have HB := hid hb
      obtain ⟨W1, hW1⟩ : ∃ W', W' = wr.alloc (.cells #[.int .i64 x1, .int .i64 x2, .slice C dl cc] 69) := ⟨_, rfl⟩
      have y0 : W1.cell? ⟨wr.heap.size, 0, none⟩ = some (.int .i64 x1) := by rw [hW1]; simp [go_sem]
      have y1 : W1.cell? ⟨wr.heap.size, 1, none⟩ = some (.int .i64 x2) := by rw [hW1]; simp [go_sem]
      have hb1 : Below wr.heap.size wr W1 := by rw [hW1]; exact bl1 _ _
      have hz1' : W1.heap.size = wr.heap.size + 1 := by rw [hW1]; simp
      have HB1 := hid (hb.trans (hb1.mono hsb)); have HW1 := hid hW1
      have HO1 := hid (own_kept ho (fun g hg => hb1.block g (ho.lt g hg).2))
      clear hws ho hb hb1 hW1
      unfold maxLen at hcm
      by_cases hm : x1 = f ∧ x2 = t
      · have t1 : (x1 == f) = true := by simp [hm.1]
        have t2 : (x2 == t) = true := by simp [hm.2]
        have hws := HWS.out
        rw [if_pos hm] at hws
        have HWS2 := hid hws
        clear hws hm
        go_upto_region 5 with (fail)
        rw [← HW1.out]
        go_wp2_with (at_builtin; refine stop_here ?_)
        refine go_on ?_
        refine app_own_at (.tmp 30) (.tmp 32) 39 39 rfl rfl w.heap.size 3 i0 (.int .i64 0) 1 8 Try.underlying39 hi hz0 hz1 hz2 rfl (by decide) _ _ _ rfl (HO1.out.alloc _) (.slice (some ⟨wr.heap.size + 1, 0, none⟩) 1 1) 1 [.int .i64 k] rfl (Src.ofSlice _ Try.underlying39 _ 1 1 _ rfl (cells_new_at _ _ _ hz1') (by simp; rfl)) (by simp only [maxLen]; omega) (by omega) (by rw [World.size_alloc]; omega) ?_
        intro v8 w8 hown8 hg8 hb8 hat8
        have hown9 : w8.ownsRow w.heap.size 3 1 v8 (wayK L f t (k + 1)).length (ivals (wayK L f t (k + 1))) := by
          rw [HWS2.out, List.length_append, show ivals (wayK L f t k ++ [(k : Int)]) = ivals (wayK L f t k) ++ [.int .i64 k] by simp [ivals]]
          exact hown8
        have HO8 := hid hown9
        have HB8 := hid ((HB1.out.alloc (by omega) _).trans hb8)
        clear hown8 hown9 hg8 hb8 hat8
        go_wp2
        go_roundw
        case rel => exact ⟨k + 1, by omega, by go_num, HO8.out, HB8.out⟩
        case measure => simp [intOf]; omega
      · have hws := HWS.out
        rw [if_neg hm, List.append_nil] at hws
        have HWS2 := hid hws
        clear hws
        have hc2 : (x1 ≠ f) ∨ (x1 = f ∧ x2 ≠ t) := by
          by_cases h : x1 = f
          · exact .inr ⟨h, fun h' => hm ⟨h, h'⟩⟩
          · exact .inl h
        clear hm
        rcases hc2 with hc2 | ⟨hc1, hc2⟩
        · have t1 : (x1 == f) = false := by simpa using hc2
          clear hc2
          go_upto_region 5 with (fail)
          rw [← HW1.out]
          go_wp2
          go_roundw
          case rel => exact ⟨k + 1, by omega, by go_num, by rw [HWS2.out]; exact HO1.out, HB1.out⟩
          case measure => simp [intOf]; omega
        · have t1 : (x1 == f) = true := by simp [hc1]
          have t2 : (x2 == t) = false := by simpa using hc2
          clear hc1 hc2
          go_upto_region 5 with (fail)
          rw [← HW1.out]
          go_wp2
          go_roundw
          case rel => exact ⟨k + 1, by omega, by go_num, by rw [HWS2.out]; exact HO1.out, HB1.out⟩
          case measure => simp [intOf]; omega
    · obtain rfl : k = L.length := by omega
      have HO := hid ho; have HB := hid hb
      clear ho hb
      go_wp2
      go_ret
      exact ⟨_, rfl, HO.out, HB.out⟩
end Go.Proofs.Ytkgifbnkkmeoiaa
