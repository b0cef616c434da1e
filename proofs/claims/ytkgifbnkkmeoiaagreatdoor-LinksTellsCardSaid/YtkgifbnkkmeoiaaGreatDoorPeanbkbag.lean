/- 1 text of this claim, in build order. -/
import Derived.Test.YtkgifbnkkmeoiaaGreatDoorPkdfgmfbn
import Derived.Test.YtkgifbnkkmeoiaaGreatDoorPodkhkmbg
/- Contracts of the reference's double, PutInt, PutText. -/
namespace Go.Proofs.YtkgifbnkkmeoiaaGreatDoor
open Go.ChangeShapes Go.WideShapes Go.ChangeAt Go.RowKit
set_option linter.unusedVariables false

/-- The first bits of u. -/
def dbl (u n : Nat) : List Int := (List.range n).map fun k => ((u / 2 ^ k % 2 : Nat) : Int)
theorem dbl_len (u n : Nat) : (dbl u n).length = n := by simp [dbl]
theorem dbl_succ (u n : Nat) : dbl u (n + 1) = dbl u n ++ [((u / 2 ^ n % 2 : Nat) : Int)] := by simp [dbl, List.range_succ]
theorem dbl_get (u n k : Nat) (h : k < n) : (dbl u n).getD k 0 = ((u / 2 ^ k % 2 : Nat) : Int) := by
  rw [List.getD_eq_getElem?_getD, dbl, List.getElem?_map, List.getElem?_range h]; rfl
def DoublePost (u : Nat) (w : World) (e : Ending) (w' : World) : Prop := ∃ v, e = .returned v ∧ Sl w' w'.heap.size v (ivals (dbl u 64)) ∧ Below w.heap.size w w'
/-- Behind k rounds: m is u's half without k bits. -/
def DblRel (u : Nat) (w : World) (v i n : Value) (wr : World) : Prop :=
  ∃ k : Nat, k ≤ 63 ∧ i = .int .i64 k ∧ n = .int .i64 ((u / 2 ^ (k + 1) : Nat) : Int) ∧ wr.ownsRow w.heap.size 3 1 v (k + 1) (ivals (dbl u (k + 1))) ∧ Below w.heap.size w wr
theorem half_step (u k : Nat) : u / 2 ^ (k + 1) / 2 = u / 2 ^ (k + 1 + 1) := by rw [Nat.pow_succ 2 (k + 1), Nat.div_div_eq_div_mul]
theorem half_lt (u k : Nat) (h : u < 18446744073709551616) : u / 2 ^ (k + 1) ≤ 9223372036854775807 := by
  have : u / 2 ^ (k + 1) ≤ u / 2 := by
    rw [Nat.pow_succ, Nat.mul_comm, ← Nat.div_div_eq_div_mul]; exact Nat.div_le_self _ _
  omega
theorem dbl_one (u : Nat) : dbl u 1 = [((u % 2 : Nat) : Int)] := by simp [dbl]
set_option maxRecDepth 100000 in
set_option maxHeartbeats 400000 in
theorem double_neg (n : Int) (w : World) (h1 : -9223372036854775808 ≤ n) (h2 : n ≤ 9223372036854775807) (hn : n < 0) :
    Calls Tryz.prog 51 #[.int .i64 n] w (DoublePost (numU n) w) := by
  obtain ⟨i0, hi, hz0, hz1, hz2⟩ := info_parts info_int
  have hu := numU_lt n h1 h2
  have he : ((numU n / 2 : Nat) : Int) = -(n + 1) ∧ numU n % 2 = 1 := by
    unfold numU; split <;> omega
  obtain ⟨u, hun⟩ : ∃ u, u = numU n := ⟨_, rfl⟩
  rw [← hun] at hu he ⊢
  have HU := hid hu; have HE := hid he; clear hu hun he
  go_enter Tryz.func51, Tryz.ntmps51
  go_wp2_with (at_builtin; refine stop_here ?_)
  refine go_on ?_
  refine app_own (.tmp 13) (.tmp 14) 43 43 rfl rfl w.heap.size 3 i0 (.int .i64 0) 1 8 Tryz.underlying43 hi hz0 hz1 hz2 rfl (by omega) _ 0 [] rfl (World.ownsRow_nil _ _ _ _) (.slice (some ⟨w.heap.size, 0, none⟩) 1 1) 1 [_] rfl (Src.ofSlice _ Tryz.underlying43 _ 1 1 _ rfl (cell_one_new _ _ _) (by simp; rfl)) (by unfold maxLen; omega) (by omega) (by simp) ?_
  intro v1 w1 hown1 hg1 hb1
  have hb1' := (bl1 w _).trans hb1
  have HO := hid hown1; have HB := hid hb1'; clear hown1 hg1 hb1 hb1'
  go_wp2
  go_loopw [4, 5, 0] (fun v i m wr => DblRel u w v i m wr) (fun _ i _ _ => 63 - (intOf i).toNat)
  case atStart =>
    refine ⟨0, by omega, rfl, ?_, ?_, HB.out⟩
    · have := HE.out.1; rw [Nat.zero_add, Nat.pow_one, this]
    · have := HO.out; rw [dbl_one, HE.out.2]; exact this
  case round =>
    obtain ⟨k, hk, rfl, rfl, hown, hb⟩ := hrel
    have hB := hb.size
    by_cases hlt : k < 63
    · have hh := half_lt u k HU.out
      have hs := half_step u k
      generalize hx : u / 2 ^ (k + 1) = x at *
      have HS := hid hs; have HX := hid hx; clear hs hx
      go_wp2_with (at_builtin; refine stop_here ?_)
      refine go_on ?_
      refine app_own (.tmp 23) (.tmp 26) 43 43 rfl rfl w.heap.size 3 i0 (.int .i64 0) 1 8 Tryz.underlying43 hi hz0 hz1 hz2 rfl (by omega) _ _ _ rfl (hown.alloc _) (.slice (some ⟨wr.heap.size, 0, none⟩) 1 1) 1 [_] rfl (Src.ofSlice _ Tryz.underlying43 _ 1 1 _ rfl (cell_one_new _ _ _) (by simp; rfl)) (by unfold maxLen; omega) (by omega) (by simp; omega) ?_
      intro v2 w2 hown2 hg2 hb2
      have hb2' := (hb.alloc hB _).trans hb2
      have HO2 := hid hown2; have HB2 := hid hb2'; clear hown2 hg2 hb2 hb2'
      go_wp2
      go_roundw
      case rel =>
        refine ⟨k + 1, by omega, by go_num, ?_, ?_, HB2.out⟩
        · rw [← HS.out]; simp
        · have := HO2.out
          rw [dbl_succ, ivals_snoc, HX.out]
          simpa [ivals] using this
      case measure => simp [intOf]; omega
    · obtain rfl : k = 63 := by omega
      go_wp2
      go_ret
      exact ⟨_, rfl, Sl.of_own hown, hb⟩
set_option maxRecDepth 100000 in
set_option maxHeartbeats 400000 in
theorem double_pos (n : Int) (w : World) (h1 : -9223372036854775808 ≤ n) (h2 : n ≤ 9223372036854775807) (hn : 0 ≤ n) :
    Calls Tryz.prog 51 #[.int .i64 n] w (DoublePost (numU n) w) := by
  obtain ⟨i0, hi, hz0, hz1, hz2⟩ := info_parts info_int
  have hu := numU_lt n h1 h2
  have he : ((numU n / 2 : Nat) : Int) = n ∧ numU n % 2 = 0 := by
    unfold numU; split <;> omega
  obtain ⟨u, hun⟩ : ∃ u, u = numU n := ⟨_, rfl⟩
  rw [← hun] at hu he ⊢
  have HU := hid hu; have HE := hid he; clear hu hun he
  go_enter Tryz.func51, Tryz.ntmps51
  go_wp2_with (at_builtin; refine stop_here ?_)
  refine go_on ?_
  refine app_own (.tmp 16) (.tmp 17) 43 43 rfl rfl w.heap.size 3 i0 (.int .i64 0) 1 8 Tryz.underlying43 hi hz0 hz1 hz2 rfl (by omega) _ 0 [] rfl (World.ownsRow_nil _ _ _ _) (.slice (some ⟨w.heap.size, 0, none⟩) 1 1) 1 [_] rfl (Src.ofSlice _ Tryz.underlying43 _ 1 1 _ rfl (cell_one_new _ _ _) (by simp; rfl)) (by unfold maxLen; omega) (by omega) (by simp) ?_
  intro v1 w1 hown1 hg1 hb1
  have hb1' := (bl1 w _).trans hb1
  have HO := hid hown1; have HB := hid hb1'; clear hown1 hg1 hb1 hb1'
  go_wp2
  go_loopw [4, 5, 0] (fun v i m wr => DblRel u w v i m wr) (fun _ i _ _ => 63 - (intOf i).toNat)
  case atStart =>
    refine ⟨0, by omega, rfl, ?_, ?_, HB.out⟩
    · have := HE.out.1; rw [Nat.zero_add, Nat.pow_one, this]
    · have := HO.out; rw [dbl_one, HE.out.2]; exact this
  case round =>
    obtain ⟨k, hk, rfl, rfl, hown, hb⟩ := hrel
    have hB := hb.size
    by_cases hlt : k < 63
    · have hh := half_lt u k HU.out
      have hs := half_step u k
      generalize hx : u / 2 ^ (k + 1) = x at *
      have HS := hid hs; have HX := hid hx; clear hs hx
      go_wp2_with (at_builtin; refine stop_here ?_)
      refine go_on ?_
      refine app_own (.tmp 23) (.tmp 26) 43 43 rfl rfl w.heap.size 3 i0 (.int .i64 0) 1 8 Tryz.underlying43 hi hz0 hz1 hz2 rfl (by omega) _ _ _ rfl (hown.alloc _) (.slice (some ⟨wr.heap.size, 0, none⟩) 1 1) 1 [_] rfl (Src.ofSlice _ Tryz.underlying43 _ 1 1 _ rfl (cell_one_new _ _ _) (by simp; rfl)) (by unfold maxLen; omega) (by omega) (by simp; omega) ?_
      intro v2 w2 hown2 hg2 hb2
      have hb2' := (hb.alloc hB _).trans hb2
      have HO2 := hid hown2; have HB2 := hid hb2'; clear hown2 hg2 hb2 hb2'
      go_wp2
      go_roundw
      case rel =>
        refine ⟨k + 1, by omega, by go_num, ?_, ?_, HB2.out⟩
        · rw [← HS.out]; simp
        · have := HO2.out
          rw [dbl_succ, ivals_snoc, HX.out]
          simpa [ivals] using this
      case measure => simp [intOf]; omega
    · obtain rfl : k = 63 := by omega
      go_wp2
      go_ret
      exact ⟨_, rfl, Sl.of_own hown, hb⟩
theorem double_any (n : Int) (w : World) (h1 : -9223372036854775808 ≤ n) (h2 : n ≤ 9223372036854775807) :
    Calls Tryz.prog 51 #[.int .i64 n] w (DoublePost (numU n) w) := by
  rcases Int.lt_or_le n 0 with h | h
  · exact double_neg n w h1 h2 h
  · exact double_pos n w h1 h2 h

/-- The highest bit so far. -/
def TopRel (u : Nat) (top i : Value) : Prop := ∃ k T : Nat, k ≤ 64 ∧ T < 64 ∧ i = .int .i64 k ∧ top = .int .i64 T ∧ u % 2 ^ k < 2 ^ (T + 1) ∧ (T = 0 ∨ 2 ^ T ≤ u)
theorem top_hit {u k : Nat} (h : u / 2 ^ k % 2 = 1) : u % 2 ^ (k + 1) < 2 ^ (k + 1) ∧ 2 ^ k ≤ u := by
  refine ⟨Nat.mod_lt _ (Nat.pow_pos (by omega)), ?_⟩
  rcases Nat.lt_or_ge u (2 ^ k) with h1 | h1
  · rw [Nat.div_eq_of_lt h1] at h; omega
  · exact h1
theorem top_miss {u k T : Nat} (h : ¬ u / 2 ^ k % 2 = 1) (h1 : u % 2 ^ k < 2 ^ (T + 1)) : u % 2 ^ (k + 1) < 2 ^ (T + 1) := by
  rw [Nat.pow_succ, Nat.mod_mul, show u / 2 ^ k % 2 = 0 by omega]; omega
theorem top_end {u T : Nat} (hu : u < 18446744073709551616) (h : u % 2 ^ 64 < 2 ^ (T + 1)) (h0 : T = 0 ∨ 2 ^ T ≤ u) (hT : T < 64) : putF 9 u = refF (T / 7) u ∧ T / 7 ≤ 9 ∧ u < 128 ^ (T / 7 + 1) := by
  have h' : u < 2 ^ (T + 1) := by rw [Nat.mod_eq_of_lt (by omega)] at h; exact h
  have e : ∀ k, (128 : Nat) ^ k = 2 ^ (7 * k) := fun k => by rw [Nat.pow_mul]
  have h2 : u < 128 ^ (T / 7 + 1) := by
    rw [e]; exact Nat.lt_of_lt_of_le h' (Nat.pow_le_pow_right (by omega) (by omega))
  refine ⟨putF_ref _ _ _ (by omega) ?_ h2, by omega, h2⟩
  rcases h0 with h0 | h0
  · left; omega
  · right; rw [e]; exact Nat.le_trans (Nat.pow_le_pow_right (by omega) (by omega)) h0
/-- Inside a byte: t bits of it are still to come. -/
def CRel (u g : Nat) (c k : Value) : Prop := ∃ t : Nat, t ≤ 7 ∧ k = .int .i64 ((t : Int) - 1) ∧ c = .int .i64 ((u / 2 ^ (7 * g + t) % 2 ^ (7 - t) : Nat) : Int)
theorem c_step (u s t : Nat) (ht : t + 1 ≤ 7) : u / 2 ^ (s + t) % 2 ^ (7 - t) = u / 2 ^ (s + (t + 1)) % 2 ^ (7 - (t + 1)) * 2 + u / 2 ^ (s + t) % 2 := by
  have e : 7 - t = (7 - (t + 1)) + 1 := by omega
  have e2 : u / 2 ^ (s + (t + 1)) = u / 2 ^ (s + t) / 2 := by rw [← Nat.add_assoc, Nat.pow_succ, Nat.div_div_eq_div_mul]
  rw [e, e2, Nat.pow_succ, Nat.mul_comm (2 ^ _) 2, Nat.mod_mul]; omega
theorem c_over (u s : Nat) (hu : u < 18446744073709551616) (hs : 64 ≤ s) : u / 2 ^ s % 2 = 0 := by
  rw [Nat.div_eq_of_lt (Nat.lt_of_lt_of_le hu (Nat.pow_le_pow_right (i := 64) (n := 2) (by omega) hs))]
theorem c_lt (u s t : Nat) (ht : t ≤ 7) : u / 2 ^ s % 2 ^ (7 - t) < 128 := Nat.lt_of_lt_of_le (Nat.mod_lt _ (Nat.pow_pos (by omega))) (Nat.pow_le_pow_right (n := 2) (j := 7) (by omega) (by omega))
theorem c_end (u g : Nat) : u / 2 ^ (7 * g + 0) % 2 ^ (7 - 0) = u / 128 ^ g % 128 := by
  rw [show (128 : Nat) ^ g = 2 ^ (7 * g) by rw [Nat.pow_mul]]; rfl
theorem refF_step (G g u : Nat) (done : List UInt8) (r : List UInt8) (hg : g < G) (h : done ++ refF (G - g) (u / 128 ^ g) = r) :
    (done ++ [UInt8.ofNat (u / 128 ^ g % 128 + 128)]) ++ refF (G - (g + 1)) (u / 128 ^ (g + 1)) = r := by
  rw [← h, show G - g = (G - (g + 1)) + 1 by omega, refF, Nat.pow_succ, Nat.div_div_eq_div_mul]; simp
theorem refF_last (G u : Nat) (done : List UInt8) (r : List UInt8) (hu : u < 128 ^ (G + 1)) (h : done ++ refF (G - G) (u / 128 ^ G) = r) :
    done ++ [UInt8.ofNat (u / 128 ^ G % 128)] = r := by
  rw [← h, Nat.sub_self, refF, Nat.mod_eq_of_lt]
  rw [Nat.pow_succ] at hu
  exact Nat.div_lt_of_lt_mul hu
def OutRel (l : List UInt8) (u G : Nat) (w : World) (out g : Value) (wr : World) : Prop :=
  ∃ (k : Nat) (done : List UInt8), g = .int .i64 k ∧ done.length = k ∧ wr.ownsRow w.heap.size 5 1 out (l.length + k) (bvals (l ++ done)) ∧ Below w.heap.size w wr ∧
    ((k ≤ G ∧ done ++ refF (G - k) (u / 128 ^ k) = refF G u) ∨ (k = G + 1 ∧ done = refF G u))
set_option maxRecDepth 100000 in
set_option maxHeartbeats 800000 in
theorem refPutInt_any (v : Value) (l : List UInt8) (n : Int) (w : World) (hv : Sl w w.heap.size v (bvals l)) (hl : l.length + 10 ≤ 140737488355328) (h1 : -9223372036854775808 ≤ n) (h2 : n ≤ 9223372036854775807) :
    Calls Tryz.prog 22 #[v, .int .i64 n] w (PutPost l n w) := by
  obtain ⟨i0, hi, hz0, hz1, hz2⟩ := info_parts info_byte
  have hd := double_any n w h1 h2
  have hu := numU_lt n h1 h2
  have hp : putInt n = putF 9 (numU n) := rfl
  generalize numU n = u at *
  have HV := hid hv; have HU := hid hu; have HD := hid hd; have HP := hid hp
  clear hv hu hd hp h1 h2
  go_enter Tryz.func22, Tryz.ntmps22
  go_wp2_with fail
  refine HD.out.mono ?_
  rintro e w1 ⟨vb, rfl, hs, hb1⟩
  obtain ⟨b, off, c, rfl, hc1, hc2, hbl, hcell⟩ := hs.ints (by simp [dbl_len])
  rw [dbl_len] at hc1 hcell ⊢
  unfold maxLen at hc2
  have HC := hid hcell; clear hs hcell
  go_wp2
  go_loop [6, 7] (fun top i => TopRel u top i) (fun _ i => 64 - (intOf i).toNat)
  case atStart => exact ⟨0, 0, by omega, by omega, rfl, rfl, by simp [Nat.mod_one], .inl rfl⟩
  case round =>
    obtain ⟨k, T, hk, hT, rfl, rfl, hm, h0⟩ := hrel
    have HM := hid hm; have H0 := hid h0; clear hm h0
    by_cases hlt : k < 64
    · have hcell := HC.out k hlt
      rw [dbl_get _ _ _ hlt] at hcell
      by_cases hb : u / 2 ^ k % 2 = 1
      · obtain ⟨g1, g2⟩ := top_hit hb
        rw [hb] at hcell
        have HG1 := hid g1; have HG2 := hid g2; clear g1 g2 hb
        go_wp2
        go_round
        case rel => exact ⟨k + 1, k, by omega, by omega, by go_num, rfl, HG1.out, .inr HG2.out⟩
        case measure => simp [intOf]; omega
      · have g1 := top_miss hb HM.out
        rw [show u / 2 ^ k % 2 = 0 by omega] at hcell
        have HG1 := hid g1; clear g1 hb
        go_wp2
        go_round
        case rel => exact ⟨k + 1, T, by omega, by omega, by go_num, rfl, HG1.out, H0.out⟩
        case measure => simp [intOf]; omega
    · obtain rfl : k = 64 := by omega
      obtain ⟨g1, g2, g3⟩ := top_end HU.out HM.out H0.out hT
      have HG1 := hid g1; have HG3 := hid g3; clear g1 g3
      go_wp2_with (at_builtin; refine stop_here ?_)
      refine go_on ?_
      refine app_own (.tmp 24) (.tmp 25) 23 23 rfl rfl w1.heap.size 5 i0 (.int .u8 0) 1 1 Tryz.underlying23 hi hz0 hz1 hz2 rfl (by omega) _ 0 [] rfl (World.ownsRow_nil _ _ _ _) v l.length (bvals l) rfl (by have := src_sl _ Tryz.underlying23 (HV.out.below hb1) (bvals_one l); rwa [bvals_len] at this) (by unfold maxLen; omega) (by omega) (Nat.le_refl _) ?_
      intro v2 w2 hown2 hg2 hb2
      have HO2 := hid hown2; have HB2 := hid hb2; clear hown2 hg2 hb2
      go_wp2
      go_loopw [8, 9, 10] (fun out g _ wr => OutRel l u (T / 7) w1 out g wr) (fun _ g _ _ => T / 7 + 1 - (intOf g).toNat)
      case atStart =>
        refine ⟨0, [], rfl, rfl, ?_, HB2.out, .inl ⟨by omega, by simp⟩⟩
        have := HO2.out
        simpa using this
      case round =>
        obtain ⟨g, done, rfl, hlen, hown, hb, hor⟩ := hrel
        have HOW := hid hown; have HLEN := hid hlen; have HB := hid hb; have HOR := hid hor
        clear hown hlen hb hor
        by_cases hgt : g ≤ T / 7
        · have hdone : done ++ refF (T / 7 - g) (u / 128 ^ g) = refF (T / 7) u := by
            rcases HOR.out with ⟨_, h⟩ | ⟨h, _⟩
            · exact h
            · omega
          have HDN := hid hdone; clear hdone
          go_wp2
          go_loop [10, 11] (fun c k => CRel u g c k) (fun _ k => (intOf k + 1).toNat)
          case atStart => exact ⟨7, by omega, rfl, by simp [Nat.mod_one]⟩
          case round =>
            obtain ⟨t, ht, rfl, rfl⟩ := hrel
            rcases t with _ | s
            · rw [c_end]
              have hcc : u / 128 ^ g % 128 < 128 := Nat.mod_lt _ (by omega)
              have hlast := fun h => refF_last (T / 7) u done (refF (T / 7) u) HG3.out h
              have hstep := fun h => refF_step (T / 7) g u done (refF (T / 7) u) h HDN.out
              rw [show ((0 : Nat) : Int) - 1 = -1 from rfl]
              have HLA := hid hlast; have HST := hid hstep; clear hlast hstep
              by_cases hgl : g < T / 7
              · have hs := HST.out hgl
                generalize u / 128 ^ g % 128 = cc at *
                have HS := hid hs; clear hs HST HLA
                go_wp2_with (at_builtin; refine stop_here ?_)
                refine go_on ?_
                refine app_own (.tmp 59) (.tmp 62) 23 23 rfl rfl w1.heap.size 5 i0 (.int .u8 0) 1 1 Tryz.underlying23 hi hz0 hz1 hz2 rfl (by omega) _ _ _ rfl (HOW.out.alloc _) (.slice (some ⟨wr.heap.size, 0, none⟩) 1 1) 1 [_] rfl (Src.ofSlice _ Tryz.underlying23 _ 1 1 _ rfl (cell_one_new _ _ _) (by simp; rfl)) (by unfold maxLen; omega) (by omega) (by have := HB.out.size; simp; omega) ?_
                intro v3 w3 hown3 hg3 hb3
                have hb3' := (HB.out.alloc HB.out.size _).trans hb3
                have HO3 := hid hown3; have HB3 := hid hb3'; clear hown3 hg3 hb3 hb3'
                go_wp2
                go_roundw
                case rel =>
                  refine ⟨g + 1, done ++ [UInt8.ofNat (cc + 128)], by go_num, by simp [HLEN.out], ?_, HB3.out, .inl ⟨by omega, HS.out⟩⟩
                  have := HO3.out
                  rw [← List.append_assoc, bvals_snoc _ (cc + 128) (by omega), ← Nat.add_assoc]
                  simpa using this
                case measure => simp [intOf]; omega
              · obtain rfl : g = T / 7 := by omega
                have hs := HLA.out HDN.out
                generalize u / 128 ^ (T / 7) % 128 = cc at *
                have HS := hid hs; clear hs HST HLA
                go_wp2_with (at_builtin; refine stop_here ?_)
                refine go_on ?_
                refine app_own (.tmp 59) (.tmp 62) 23 23 rfl rfl w1.heap.size 5 i0 (.int .u8 0) 1 1 Tryz.underlying23 hi hz0 hz1 hz2 rfl (by omega) _ _ _ rfl (HOW.out.alloc _) (.slice (some ⟨wr.heap.size, 0, none⟩) 1 1) 1 [_] rfl (Src.ofSlice _ Tryz.underlying23 _ 1 1 _ rfl (cell_one_new _ _ _) (by simp; rfl)) (by unfold maxLen; omega) (by omega) (by have := HB.out.size; simp; omega) ?_
                intro v3 w3 hown3 hg3 hb3
                have hb3' := (HB.out.alloc HB.out.size _).trans hb3
                have HO3 := hid hown3; have HB3 := hid hb3'; clear hown3 hg3 hb3 hb3'
                go_wp2
                go_roundw
                case rel =>
                  refine ⟨T / 7 + 1, done ++ [UInt8.ofNat cc], by go_num, by simp [HLEN.out], ?_, HB3.out, .inr ⟨rfl, HS.out⟩⟩
                  have := HO3.out
                  rw [← List.append_assoc, bvals_snoc _ cc (by omega), ← Nat.add_assoc]
                  simpa using this
                case measure => simp [intOf]; omega
            · rw [show ((s + 1 : Nat) : Int) - 1 = (s : Int) by omega]
              have hst := c_step u (7 * g) s (by omega)
              have hlt := c_lt u (7 * g + (s + 1)) (s + 1) (by omega)
              generalize u / 2 ^ (7 * g + (s + 1)) % 2 ^ (7 - (s + 1)) = cc at *
              by_cases h64 : 7 * g + s < 64
              · have hcell := (HB.out.cell (p := ⟨b, off + (7 * g + s), none⟩) hbl).trans (HC.out _ h64)
                rw [dbl_get _ _ _ h64] at hcell
                have hbb : u / 2 ^ (7 * g + s) % 2 < 2 := Nat.mod_lt _ (by omega)
                generalize hbe : u / 2 ^ (7 * g + s) % 2 = bb at *
                have HST := hid hst; have HBE := hid hbe; clear hst hbe
                go_wp2
                go_round
                case rel => exact ⟨s, by omega, rfl, by rw [HST.out]; simp⟩
                case measure => simp [intOf] <;> omega
              · rw [c_over u (7 * g + s) HU.out (by omega)] at hst
                have HST := hid hst; clear hst
                go_wp2
                go_round
                case rel => exact ⟨s, by omega, rfl, by rw [HST.out]; simp⟩
                case measure => simp [intOf] <;> omega
        · have hfin : g = T / 7 + 1 ∧ done = refF (T / 7) u := by
            rcases HOR.out with ⟨h, _⟩ | h
            · omega
            · exact h
          have HF := hid hfin; clear hfin
          go_wp2
          go_ret
          refine ⟨_, rfl, ?_, hb1.trans (HB.out.mono hb1.size)⟩
          have := HOW.out
          rw [HF.out.2, ← HG1.out, ← HP.out] at this
          have hlen : (putInt n).length = g := by rw [HP.out, HG1.out, ← HF.out.2]; exact HLEN.out
          rw [hlen]
          exact own_mono this hb1.size
set_option maxHeartbeats 400000 in
theorem refPutText_any (v : Value) (l : List UInt8) (s : ByteArray) (w : World) (hv : Sl w w.heap.size v (bvals l)) (hl : l.length + s.size + 10 ≤ 140737488355328) :
    Calls Tryz.prog 24 #[v, .string s] w (PutTextPost l s w) := by
  obtain ⟨i0, hi, hz0, hz1, hz2⟩ := info_parts info_byte
  have hp := putInt_le (s.size : Int)
  go_enter Tryz.func24, Tryz.ntmps24
  go_wp2_with fail
  refine (refPutInt_any v l s.size w hv (by omega) (by omega) (by omega)).mono ?_
  rintro e w1 ⟨v1, rfl, hown, hb1⟩
  go_wp2_with (at_builtin; refine stop_here ?_)
  refine go_on ?_
  refine app_own (.tmp 10) (.tmp 11) 23 9 rfl rfl w.heap.size 5 i0 (.int .u8 0) 1 1 Tryz.underlying23 hi hz0 hz1 hz2 rfl (by omega) v1 _ _ rfl hown (.string s) s.size _ rfl (Src.ofString _ Tryz.underlying9 s) (by unfold maxLen; omega) (by omega) hb1.size ?_
  intro v2 w2 hown2 hg2 hb2
  go_wp2
  go_ret
  refine ⟨v2, rfl, ?_, hb1.trans hb2⟩
  rw [byteCells_eq, ← bvals_app] at hown2
  exact hown2
end Go.Proofs.YtkgifbnkkmeoiaaGreatDoor
