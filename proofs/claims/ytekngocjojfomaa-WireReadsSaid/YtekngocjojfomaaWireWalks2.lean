/- The walks of the laws of layer 2: WirePuts, WireOne, WireRound. -/
import Derived.Test.YtekngocjojfomaaWireWalks
namespace Go.Proofs.Ytekngocjojfomaa
open Go.ChangeShapes Go.WideShapes Go.ChangeAt Go.RowKit
set_option linter.unusedVariables false

theorem Sl.of_own' {w : World} {base : Nat} {e : TypeId} {v : Value} {n : Nat} {xs : List Value} (h : w.ownsRow base e 1 v n xs) {N : Nat} (hN : w.heap.size ≤ N) : Sl w N v xs := (Sl.of_own h).more hN
theorem text_of {w : World} {v : Value} {l : List UInt8} (h : Sl w w.heap.size v (bvals l)) : (convert 49 9 v).run Try.prog w = .ok (.string ⟨l.toArray⟩) w := by
  obtain ⟨A, c, rfl, h1, h2, h3⟩ := h
  exact text_sl ⟨A, c, rfl, h1, h2, h3⟩
set_option maxHeartbeats 1600000 in
theorem walk_WirePuts (w : World) (v : Value) (l : List UInt8) (hv : Sl w w.heap.size v (bvals l)) (hz : l.length ≤ maxLen) (n : Int) (hn : -9223372036854775808 ≤ n ∧ n ≤ 9223372036854775807)
    (v2 : Value) (l2 : List UInt8) (hv2 : Sl w w.heap.size v2 (bvals l2)) (hz2 : l2.length ≤ maxLen) :
    Calls Try.prog 13 #[v, .int .i64 n, v2] w (Gives (.bool true) w) := by
  have hl : (l.take 50).length ≤ 50 := by rw [List.length_take]; omega
  have hl2 : (l2.take 300).length ≤ 300 := by rw [List.length_take]; omega
  have f1 := few_any v l 50 w (by omega) hv
  have f2 := few_any v2 l2 300 w (by omega) hv2
  unfold FewPost at f1 f2
  generalize l.take 50 = s at *
  generalize l2.take 300 = t at *
  have hp := putInt_le n
  have hp2 := putInt_le (t.length : Int)
  have p1 := fun v W h => putInt_any v s n W h (by omega) hn.1 hn.2
  have p2 := fun v W h => putText_any v s ⟨t.toArray⟩ W h (by show s.length + t.toArray.size + 10 ≤ _; simp; omega)
  have p3 := fun v W h => refPutInt_any v s n W h (by omega) hn.1 hn.2
  have p4 := fun v W h => refPutText_any v s ⟨t.toArray⟩ W h (by show s.length + t.toArray.size + 10 ≤ _; simp; omega)
  have hsz : (⟨t.toArray⟩ : ByteArray).size = t.length := by show t.toArray.size = _; simp
  unfold PutPost at p1 p3
  unfold PutTextPost at p2 p4
  rw [hsz] at p2 p4
  simp only at p2 p4
  have s1 := fun x y W h1 h2 => same_any x y (s ++ putInt n) (s ++ putInt n) W (by rw [List.length_append]; omega) (by rw [List.length_append]; omega) h1 h2
  have s2 := fun x y W h1 h2 => same_any x y (s ++ putInt t.length ++ t) (s ++ putInt t.length ++ t) W (by simp only [List.length_append]; omega) (by simp only [List.length_append]; omega) h1 h2
  unfold SamePost at s1 s2
  simp only [decide_true] at s1 s2
  generalize s ++ putInt n = r1 at *
  generalize s ++ putInt t.length ++ t = r2 at *
  generalize s.length + (putInt n).length = m1 at *
  generalize s.length + (putInt t.length).length + t.length = m2 at *
  have F1 := hid f1; have F2 := hid f2; have P1 := hid p1; have P2 := hid p2; have P3 := hid p3; have P4 := hid p4; have S1 := hid s1; have S2 := hid s2
  clear f1 f2 p1 p2 p3 p4 s1 s2 hv hv2 hz hz2 hn hl hl2 hp hp2 hsz
  go_enter Try.func13, Try.ntmps13
  go_wp2_with fail
  refine F1.out.mono ?_
  rintro en w1 ⟨x1, rfl, h1, rfl⟩
  have H1 := hid h1; clear h1
  go_wp2_with fail
  refine F2.out.mono ?_
  rintro en w1 ⟨x2, rfl, h2, rfl⟩
  have H2 := hid h2; clear h2
  go_wp2_with fail
  refine (P1.out _ _ H1.out).mono ?_
  rintro en w3 ⟨y1, rfl, ho1, hb1⟩
  have K1 := hid (Sl.of_own ho1); have B1 := hid hb1; clear ho1 hb1
  have htxt := text_of ((H2.out.below B1.out).more B1.out.size)
  have hbytes : ∃ tb : ByteArray, tb = ⟨t.toArray⟩ := ⟨_, rfl⟩
  obtain ⟨tb, htb⟩ := hbytes
  have q2 := P2.out; have q4 := P4.out
  rw [← htb] at htxt q2 q4
  have Q2 := hid q2; have Q4 := hid q4; have HTB := hid htb; clear q2 q4 htb P2 P4
  go_wp2_with fail
  refine (Q2.out _ _ ((H1.out.below B1.out).more B1.out.size)).mono ?_
  rintro en w4 ⟨y2, rfl, ho2, hb2⟩
  clear htxt
  have K2 := hid (Sl.of_own ho2); have B2 := hid (B1.out.trans (hb2.mono B1.out.size)); have B2' := hid hb2; clear ho2 hb2
  go_wp2_with fail
  refine (P3.out _ _ ((H1.out.below B2.out).more B2.out.size)).mono ?_
  rintro en w5 ⟨y3, rfl, ho3, hb3⟩
  have K3 := hid (Sl.of_own ho3); have B3 := hid (B2.out.trans (hb3.mono B2.out.size)); have B3' := hid hb3; clear ho3 hb3
  go_wp2_with fail
  refine (S1.out _ _ _ ((K1.out.below (B2'.out.trans (B3'.out.mono B2'.out.size))).more (Nat.le_trans B2'.out.size B3'.out.size)) K3.out).mono ?_
  rintro en w6 ⟨rfl, n6, rfl⟩
  have htxt := text_of (Sl.qu' (w' := w5.drewN n6) ((H2.out.below B3.out).more B3.out.size) ⟨n6, rfl⟩)
  rw [← HTB.out] at htxt
  go_wp2_with fail
  refine (Q4.out _ _ (Sl.qu' (w' := w5.drewN n6) ((H1.out.below B3.out).more B3.out.size) ⟨n6, rfl⟩)).mono ?_
  rintro en w7 ⟨y4, rfl, ho4, hb4⟩
  clear htxt
  have K4 := hid (Sl.of_own ho4); have B4 := hid ((below_drewN B3.out n6).trans (hb4.mono B3.out.size)); have B4' := hid hb4; clear ho4 hb4
  go_wp2_with fail
  refine (S2.out _ _ _ ((K2.out.below (B3'.out.trans ((below_drewN (Below.refl _ _) n6).trans (B4'.out.mono B3'.out.size)))).more (Nat.le_trans B3'.out.size B4'.out.size)) K4.out).mono ?_
  rintro en w8 ⟨rfl, n8, rfl⟩
  go_wp2_with fail
  refine (livesW_true _).mono ?_
  rintro en w9 ⟨rfl, hb9⟩
  go_wp2
  go_ret
  exact ⟨rfl, (below_drewN B4.out n8).trans (hb9.mono B4.out.size)⟩

theorem getInt_fail {l : List UInt8} (h : (getInt l).2.2 ≠ 0) : (getInt l).1 = 0 ∧ (getInt l).2.1 = 0 := by
  rcases getInt_says l with (h1 | h1) | ⟨n, z, h1, h2, h3⟩
  · rw [h1]; exact ⟨rfl, rfl⟩
  · rw [h1]; exact ⟨rfl, rfl⟩
  · rw [h3] at h; exact absurd rfl h
theorem Sl.form {w : World} {B : Nat} {v : Value} {l : List UInt8} (h : Sl w B v (bvals l)) : ∃ A c, v = .slice A l.length c ∧ l.length ≤ c ∧ c ≤ maxLen := by
  obtain ⟨A, c, rfl, h1, h2, -⟩ := h
  rw [bvals_len] at h1 ⊢
  exact ⟨A, c, rfl, h1, h2⟩
set_option maxHeartbeats 1600000 in
theorem walk_WireOne (w : World) (v : Value) (l : List UInt8) (hv : Sl w w.heap.size v (bvals l)) (hz : l.length ≤ maxLen) :
    Calls Try.prog 11 #[v] w (Gives (.bool true) w) := by
  have hl : (l.take 40).length ≤ 40 := by rw [List.length_take]; omega
  have f1 := few_any v l 40 w (by omega) hv
  unfold FewPost at f1
  generalize l.take 40 = s at *
  have g1 := fun v' h => getInt_any v' s w h (by omega)
  have hr := getInt_range s
  have hok := getInt_ok s
  have hfail := getInt_fail (l := s)
  unfold Got at g1
  generalize getInt s = r at *
  obtain ⟨n, k, e⟩ := r
  simp only at g1 hr hfail
  by_cases he : e = 0
  · subst he
    obtain ⟨m, rfl, hm0, hm, htk⟩ := hok n k rfl
    have p1 := fun W => putInt_any (.slice none 0 0) [] n W Sl.nil_ (by simp) hr.1 hr.2
    unfold PutPost at p1
    rw [List.nil_append] at p1
    have hpl := putInt_le n
    have s1 := fun x y W h1 h2 => same_any x y (putInt n) (putInt n) W (by omega) (by omega) h1 h2
    unfold SamePost at s1
    simp only [decide_true] at s1
    have t1 : ((0 : Int) != 0) = false := rfl
    have hlen : (s.take m).length = m := by rw [List.length_take]; omega
    have F1 := hid f1; have G1 := hid g1; have P1 := hid p1; have S1 := hid s1; have HTK := hid htk
    clear f1 g1 p1 s1 hv hz hok hfail htk hr hlen
    go_enter Try.func11, Try.ntmps11
    go_wp2_with fail
    refine F1.out.mono ?_
    rintro en w1 ⟨x1, rfl, h1, rfl⟩
    obtain ⟨A, c, rfl, hc, hcm⟩ := h1.form
    have HH : Hid (Sl w w.heap.size (.slice A m c) (bvals (putInt n))) := hid (by
      have := Sl.head m h1 hm
      rwa [← bvals_take, HTK.out] at this)
    have H1 := hid h1; clear h1
    unfold maxLen at hcm
    go_wp2_with fail
    refine (G1.out _ H1.out).mono ?_
    rintro en w2 ⟨rfl, rfl⟩
    go_wp2_with fail
    go_region_with (first
      | (go_at_call 36; refine (P1.out _).mono ?_; rintro en w3 ⟨y1, rfl, ho1, hb1⟩; have K1 := hid (Sl.of_own ho1); have B1 : Hid (Below w.heap.size w w3) := hid ((below_drewN (Below.refl _ w) 1).trans hb1); clear ho1 hb1)
      | (go_at_call 37; refine (S1.out _ _ _ ((HH.out.below B1.out).more B1.out.size) K1.out).mono ?_; rintro en w4 ⟨rfl, n4, rfl⟩))
    all_goals go_wp2_with fail
    all_goals refine (livesW_true _).mono ?_
    all_goals rintro en w9 ⟨rfl, hb9⟩
    all_goals go_wp2
    all_goals go_ret
    all_goals exact ⟨rfl, (below_drewN B1.out _).trans (hb9.mono B1.out.size)⟩
  · obtain ⟨rfl, rfl⟩ := hfail he
    have t1 : (e != 0) = true := by simp [he]
    have F1 := hid f1; have G1 := hid g1
    clear f1 g1 hv hz hok hfail he hr
    go_enter Try.func11, Try.ntmps11
    go_wp2_with fail
    refine F1.out.mono ?_
    rintro en w1 ⟨x1, rfl, h1, rfl⟩
    have H1 := hid h1; clear h1
    go_wp2_with fail
    refine (G1.out _ H1.out).mono ?_
    rintro en w2 ⟨rfl, rfl⟩
    go_wp2_with fail
    refine (livesW_true _).mono ?_
    rintro en w9 ⟨rfl, hb9⟩
    go_wp2
    go_ret
    exact ⟨rfl, hb9⟩
end Go.Proofs.Ytekngocjojfomaa
