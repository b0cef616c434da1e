/- 1 text of this claim, in build order. -/
import Derived.Test.YtclhnnidbhchnaaPbfcailpg
import Derived.Test.YtclhnnidbhchnaaPcbddibjm
import Derived.Test.YtclhnnidbhchnaaPmgghmgei
import Derived.Test.YtclhnnidbhchnaaPbnmmngkm
/- Cells in memory; the small tests; the reference's Same. -/
namespace Go.Proofs.Ytclhnnidbhchnaa
open Go.ChangeShapes Go.WideShapes Go.ChangeAt Go.RowKit
set_option linter.unusedVariables false

/-- The value is a cell that reads as c; its lists lie below B. -/
def CellR (w : World) (B : Nat) (v : Value) (c : CellM) : Prop :=
  ∃ v1 v2 v3, v = .agg #[.int .i64 c.n, v1, v2, v3] ∧ Sl w B v1 (ivals c.s) ∧ Sl w B v2 (ivals c.lo) ∧ Sl w B v3 (ivals c.hi)
theorem CellR.below {w w' : World} {B : Nat} {v : Value} {c : CellM} (h : CellR w B v c) (hb : Below B w w') : CellR w' B v c := by
  obtain ⟨v1, v2, v3, e, h1, h2, h3⟩ := h
  exact ⟨v1, v2, v3, e, h1.below hb, h2.below hb, h3.below hb⟩
theorem CellR.more {w : World} {B B' : Nat} {v : Value} {c : CellM} (h : CellR w B v c) (hb : B ≤ B') : CellR w B' v c := by
  obtain ⟨v1, v2, v3, e, h1, h2, h3⟩ := h
  exact ⟨v1, v2, v3, e, h1.more hb, h2.more hb, h3.more hb⟩
theorem CellR.below' {w w' : World} {v : Value} {c : CellM} (h : CellR w w.heap.size v c) (hb : Below w.heap.size w w') : CellR w' w'.heap.size v c := (h.below hb).more hb.size
theorem CellR.nil_ {w : World} {B : Nat} : CellR w B (.agg #[.int .i64 0, .slice none 0 0, .slice none 0 0, .slice none 0 0]) nilC := ⟨_, _, _, rfl, Sl.nil_, Sl.nil_, Sl.nil_⟩
theorem Sl.formI {w : World} {B : Nat} {v : Value} {l : List Int} (h : Sl w B v (ivals l)) : ∃ A c, v = .slice A l.length c ∧ l.length ≤ c ∧ c ≤ maxLen := by
  obtain ⟨A, c, rfl, h1, h2, -⟩ := h
  rw [ivals_len] at h1 ⊢
  exact ⟨A, c, rfl, h1, h2⟩
/-- The number at a place. -/
theorem Sl.int {w : World} {B n c : Nat} {A : Option Addr} {l : List Int} {k : Nat} (h : Sl w B (.slice A n c) (ivals l)) (hk : k < l.length) :
    ∃ b off, A = some ⟨b, off, none⟩ ∧ b < B ∧ w.cell? ⟨b, off + k, none⟩ = some (.int .i64 (l.getD k 0)) := by
  obtain ⟨A', c', e, h1, h2, h3⟩ := h
  injection e with e1 _ _
  subst e1
  exact Sl.of_int h3 hk
theorem take_succ_getD (l : List Int) (k : Nat) (hk : k < l.length) : l.take (k + 1) = l.take k ++ [l.getD k 0] := by
  rw [List.take_succ_eq_append_getElem hk, List.getD_eq_getElem?_getD, List.getElem?_eq_getElem hk]; rfl
theorem getD_ne {l r : List Int} {k : Nat} (h : l.getD k 0 ≠ r.getD k 0) : l ≠ r := fun e => h (by rw [e])
set_option maxRecDepth 100000 in
theorem refInC_any (x m : Int) (w : World) (h0 : 0 ≤ m) (h1 : m ≤ 4611686018427387904) :
    Calls Try.prog 79 #[.int .i64 x, .int .i64 m] w (Stays (.bool (inB x m)) w) := by
  have hu : inB x m = (decide (-m ≤ x) && decide (x ≤ m)) := rfl
  rw [hu]
  clear hu
  go_enter Try.func79, Try.ntmps79
  go_wp2
  all_goals go_ret
  all_goals refine ⟨ret_bool ?_, Qu.refl _⟩
  all_goals simp [*] <;> omega
set_option maxRecDepth 100000 in
theorem within_any (x m : Int) (w : World) (h0 : 0 ≤ m) (h1 : m ≤ 4611686018427387904) :
    Calls Try.prog 45 #[.int .i64 x, .int .i64 m] w (Stays (.bool (inB x m)) w) := by
  have hu : inB x m = (decide (-m ≤ x) && decide (x ≤ m)) := rfl
  rw [hu]
  clear hu
  go_enter Try.func45, Try.ntmps45
  go_wp2
  all_goals go_ret
  all_goals refine ⟨ret_bool ?_, Qu.refl _⟩
  all_goals simp [*] <;> omega
/-- Two lists held against one another up to a place. -/
def EqRel (l r : List Int) (w : World) (i : Value) (wr : World) : Prop := ∃ k : Nat, k ≤ l.length ∧ i = .int .i64 k ∧ l.take k = r.take k ∧ Qu w wr
set_option maxRecDepth 100000 in
set_option maxHeartbeats 1600000 in
theorem refSameC_any (v x : Value) (a b : CellM) (w : World) (hv : CellR w w.heap.size v a) (hx : CellR w w.heap.size x b) :
    Calls Try.prog 13 #[v, x] w (Gives (.bool (decide (a = b))) w) := by
  obtain ⟨v1, v2, v3, rfl, s1, s2, s3⟩ := hv
  obtain ⟨x1, x2, x3, rfl, t1, t2, t3⟩ := hx
  obtain ⟨A1, c1, rfl, hc1, hm1⟩ := s1.formI
  obtain ⟨A2, c2, rfl, hc2, hm2⟩ := s2.formI
  obtain ⟨A3, c3, rfl, hc3, hm3⟩ := s3.formI
  obtain ⟨X1, d1, rfl, hd1, hn1⟩ := t1.formI
  obtain ⟨X2, d2, rfl, hd2, hn2⟩ := t2.formI
  obtain ⟨X3, d3, rfl, hd3, hn3⟩ := t3.formI
  unfold maxLen at hm1 hm2 hm3 hn1 hn2 hn3
  have S1 := hid s1; have S2 := hid s2; have S3 := hid s3; have T1 := hid t1; have T2 := hid t2; have T3 := hid t3
  clear s1 s2 s3 t1 t2 t3
  obtain ⟨n, s, lo, hi⟩ := a
  obtain ⟨m, r, lo', hi'⟩ := b
  simp only at *
  have hdec : (n ≠ m ∨ s ≠ r ∨ lo ≠ lo' ∨ hi ≠ hi') → decide ((⟨n, s, lo, hi⟩ : CellM) = ⟨m, r, lo', hi'⟩) = false := fun h => by
    rw [decide_eq_false_iff_not]; intro e; injection e with e1 e2 e3 e4; rcases h with h | h | h | h <;> exact h (by assumption)
  have hyes : n = m → s = r → lo = lo' → hi = hi' → decide ((⟨n, s, lo, hi⟩ : CellM) = ⟨m, r, lo', hi'⟩) = true := fun h1 h2 h3 h4 => by subst h1 h2 h3 h4; simp
  generalize decide ((⟨n, s, lo, hi⟩ : CellM) = ⟨m, r, lo', hi'⟩) = res at *
  have HD := hid hdec; have HY := hid hyes; clear hdec hyes
  go_enter Try.func13, Try.ntmps13
  by_cases h0 : n = m ∧ s.length = r.length ∧ lo.length = lo'.length ∧ hi.length = hi'.length
  · obtain ⟨e0, e1, e2, e3⟩ := h0
    have HE := hid (And.intro e0 (And.intro e1 (And.intro e2 e3)))
    have u0 : (n != m) = false := by simp [e0]
    have u1 : ((s.length : Int) != (r.length : Int)) = false := by simp [e1]
    have u2 : ((lo.length : Int) != (lo'.length : Int)) = false := by simp [e2]
    have u3 : ((hi.length : Int) != (hi'.length : Int)) = false := by simp [e3]
    clear e0 e1 e2 e3
    have hb0 : Below w.heap.size w ((w.alloc (.cells #[.int .i64 n, .slice A1 s.length c1, .slice A2 lo.length c2, .slice A3 hi.length c3] 25)).alloc (.cells #[.int .i64 m, .slice X1 r.length d1, .slice X2 lo'.length d2, .slice X3 hi'.length d3] 25)) := (by repeat' first | with_reducible exact Below.refl _ _ | assumption | (with_reducible refine Below.alloc ?_ ?_ _) | (with_reducible refine Below.setCell ?_ ?_ _) | (with_reducible refine Below.drew ?_) | (with_reducible refine below_drewN ?_ _) | (with_reducible refine Below.trans ?_ (Below.mono ‹_› ?_)) | omega | (with_reducible refine le_alloc ?_) | (with_reducible refine le_setCell ?_) | (with_reducible refine le_drew ?_) | (with_reducible refine le_drewN ?_) | (with_reducible refine Nat.le_trans ?_ (Below.size ‹_›)) | (simp <;> omega))
    have HB := hid hb0; clear hb0
    go_wp2
    go_loopw [5] (fun i wr => EqRel s r ((w.alloc (.cells #[.int .i64 n, .slice A1 s.length c1, .slice A2 lo.length c2, .slice A3 hi.length c3] 25)).alloc (.cells #[.int .i64 m, .slice X1 r.length d1, .slice X2 lo'.length d2, .slice X3 hi'.length d3] 25)) i wr) (fun i _ => s.length - (intOf i).toNat)
    case atStart => exact ⟨0, by omega, rfl, rfl, Qu.refl _⟩
    case round =>
      obtain ⟨k, hk, rfl, hsame, hq⟩ := hrel
      have HS := hid hsame; clear hsame
      have y1 : wr.cell? ⟨w.heap.size, 1, none⟩ = some (.slice A1 s.length c1) := (hq.cell _).trans (by simp [go_sem])
      have y2 : wr.cell? ⟨w.heap.size + 1, 1, none⟩ = some (.slice X1 r.length d1) := (hq.cell _).trans (by simp [go_sem])
      by_cases hlt : k < s.length
      · have hlt' : k < r.length := by have := HE.out; omega
        obtain ⟨b1, o1, rfl, hb1, hx1⟩ := (S1.out.below HB.out).int hlt
        obtain ⟨b2, o2, rfl, hb2, hx2⟩ := (T1.out.below HB.out).int hlt'
        have g1 : wr.cell? ⟨b1, o1 + k, none⟩ = _ := (hq.cell _).trans hx1
        have g2 : wr.cell? ⟨b2, o2 + k, none⟩ = _ := (hq.cell _).trans hx2
        clear hx1 hx2
        have e1 := take_succ_getD s k hlt
        have e2 := take_succ_getD r k hlt'
        have hgn : s.getD k 0 ≠ r.getD k 0 → s ≠ r := getD_ne
        generalize s.getD k 0 = p1 at *
        generalize r.getD k 0 = p2 at *
        by_cases he : p1 = p2
        · subst he
          have hs' : s.take (k + 1) = r.take (k + 1) := by rw [e1, e2, HS.out]
          have t2 : (p1 != p1) = false := by simp
          have HS' := hid hs'; clear e1 e2 hs' hgn
          go_wp2
          go_quiet (fail)
          go_wp2
          go_roundw
          case rel => exact ⟨k + 1, by omega, by go_num, HS'.out, hq.drewN _⟩
          case measure => simp [intOf]; omega
        · have hn := HD.out (.inr (.inl (hgn he)))
          have t2 : (p1 != p2) = true := by simpa using he
          have HN := hid hn; clear e1 e2 hgn hn he
          go_wp2
          go_quiet (fail)
          go_wp2
          go_ret
          exact ⟨by rw [HN.out]; rfl, HB.out.trans ((hq.drewN _).below _)⟩
      · have he1 : s = r := by
          have := HS.out
          rwa [List.take_of_length_le (by omega), List.take_of_length_le (by have := HE.out; omega)] at this
        have HEQ1 := hid he1; clear he1 HS
        go_wp2
        obtain ⟨wo1, rfl⟩ : ∃ wo : World, wo = wr := ⟨_, rfl⟩
        go_loopw [6] (fun i wr => EqRel lo lo' ((w.alloc (.cells #[.int .i64 n, .slice A1 s.length c1, .slice A2 lo.length c2, .slice A3 hi.length c3] 25)).alloc (.cells #[.int .i64 m, .slice X1 r.length d1, .slice X2 lo'.length d2, .slice X3 hi'.length d3] 25)) i wr) (fun i _ => lo.length - (intOf i).toNat)
        case atStart => exact ⟨0, by omega, rfl, rfl, hq⟩
        case round =>
          clear hq
          obtain ⟨k, hk, rfl, hsame, hq⟩ := hrel
          have HS := hid hsame; clear hsame
          have y1 : wr.cell? ⟨w.heap.size, 2, none⟩ = some (.slice A2 lo.length c2) := (hq.cell _).trans (by simp [go_sem])
          have y2 : wr.cell? ⟨w.heap.size + 1, 2, none⟩ = some (.slice X2 lo'.length d2) := (hq.cell _).trans (by simp [go_sem])
          by_cases hlt : k < lo.length
          · have hlt' : k < lo'.length := by have := HE.out; omega
            obtain ⟨b1, o1, rfl, hb1, hx1⟩ := (S2.out.below HB.out).int hlt
            obtain ⟨b2, o2, rfl, hb2, hx2⟩ := (T2.out.below HB.out).int hlt'
            have g1 : wr.cell? ⟨b1, o1 + k, none⟩ = _ := (hq.cell _).trans hx1
            have g2 : wr.cell? ⟨b2, o2 + k, none⟩ = _ := (hq.cell _).trans hx2
            clear hx1 hx2
            have e1 := take_succ_getD lo k hlt
            have e2 := take_succ_getD lo' k hlt'
            have hgn : lo.getD k 0 ≠ lo'.getD k 0 → lo ≠ lo' := getD_ne
            generalize lo.getD k 0 = p1 at *
            generalize lo'.getD k 0 = p2 at *
            by_cases he : p1 = p2
            · subst he
              have hs' : lo.take (k + 1) = lo'.take (k + 1) := by rw [e1, e2, HS.out]
              have t2 : (p1 != p1) = false := by simp
              have HS' := hid hs'; clear e1 e2 hs' hgn
              go_wp2
              go_quiet (fail)
              go_wp2
              go_roundw
              case rel => exact ⟨k + 1, by omega, by go_num, HS'.out, hq.drewN _⟩
              case measure => simp [intOf]; omega
            · have hn := HD.out (.inr (.inr (.inl (hgn he))))
              have t2 : (p1 != p2) = true := by simpa using he
              have HN := hid hn; clear e1 e2 hgn hn he
              go_wp2
              go_quiet (fail)
              go_wp2
              go_ret
              exact ⟨by rw [HN.out]; rfl, HB.out.trans ((hq.drewN _).below _)⟩
          · have he2 : lo = lo' := by
              have := HS.out
              rwa [List.take_of_length_le (by omega), List.take_of_length_le (by have := HE.out; omega)] at this
            have HEQ2 := hid he2; clear he2 HS
            go_wp2
            obtain ⟨wo2, rfl⟩ : ∃ wo : World, wo = wr := ⟨_, rfl⟩
            go_loopw [7] (fun i wr => EqRel hi hi' ((w.alloc (.cells #[.int .i64 n, .slice A1 s.length c1, .slice A2 lo.length c2, .slice A3 hi.length c3] 25)).alloc (.cells #[.int .i64 m, .slice X1 r.length d1, .slice X2 lo'.length d2, .slice X3 hi'.length d3] 25)) i wr) (fun i _ => hi.length - (intOf i).toNat)
            case atStart => exact ⟨0, by omega, rfl, rfl, hq⟩
            case round =>
              clear hq
              obtain ⟨k, hk, rfl, hsame, hq⟩ := hrel
              have HS := hid hsame; clear hsame
              have y1 : wr.cell? ⟨w.heap.size, 3, none⟩ = some (.slice A3 hi.length c3) := (hq.cell _).trans (by simp [go_sem])
              have y2 : wr.cell? ⟨w.heap.size + 1, 3, none⟩ = some (.slice X3 hi'.length d3) := (hq.cell _).trans (by simp [go_sem])
              by_cases hlt : k < hi.length
              · have hlt' : k < hi'.length := by have := HE.out; omega
                obtain ⟨b1, o1, rfl, hb1, hx1⟩ := (S3.out.below HB.out).int hlt
                obtain ⟨b2, o2, rfl, hb2, hx2⟩ := (T3.out.below HB.out).int hlt'
                have g1 : wr.cell? ⟨b1, o1 + k, none⟩ = _ := (hq.cell _).trans hx1
                have g2 : wr.cell? ⟨b2, o2 + k, none⟩ = _ := (hq.cell _).trans hx2
                clear hx1 hx2
                have e1 := take_succ_getD hi k hlt
                have e2 := take_succ_getD hi' k hlt'
                have hgn : hi.getD k 0 ≠ hi'.getD k 0 → hi ≠ hi' := getD_ne
                generalize hi.getD k 0 = p1 at *
                generalize hi'.getD k 0 = p2 at *
                by_cases he : p1 = p2
                · subst he
                  have hs' : hi.take (k + 1) = hi'.take (k + 1) := by rw [e1, e2, HS.out]
                  have t2 : (p1 != p1) = false := by simp
                  have HS' := hid hs'; clear e1 e2 hs' hgn
                  go_wp2
                  go_quiet (fail)
                  go_wp2
                  go_roundw
                  case rel => exact ⟨k + 1, by omega, by go_num, HS'.out, hq.drewN _⟩
                  case measure => simp [intOf]; omega
                · have hn := HD.out (.inr (.inr (.inr (hgn he))))
                  have t2 : (p1 != p2) = true := by simpa using he
                  have HN := hid hn; clear e1 e2 hgn hn he
                  go_wp2
                  go_quiet (fail)
                  go_wp2
                  go_ret
                  exact ⟨by rw [HN.out]; rfl, HB.out.trans ((hq.drewN _).below _)⟩
              · have he3 : hi = hi' := by
                  have := HS.out
                  rwa [List.take_of_length_le (by omega), List.take_of_length_le (by have := HE.out; omega)] at this
                have HEQ3 := hid he3; clear he3 HS
                have hy := HY.out HE.out.1 HEQ1.out HEQ2.out HEQ3.out
                have HYY := hid hy; clear hy
                go_wp2
                go_ret
                exact ⟨by rw [HYY.out]; rfl, HB.out.trans (hq.below _)⟩
  · have hne : n ≠ m ∨ (n = m ∧ s.length ≠ r.length) ∨ (n = m ∧ s.length = r.length ∧ lo.length ≠ lo'.length) ∨ (n = m ∧ s.length = r.length ∧ lo.length = lo'.length ∧ hi.length ≠ hi'.length) := by omega
    have hn : res = false := HD.out (by
      rcases hne with h | ⟨_, h⟩ | ⟨_, _, h⟩ | ⟨_, _, _, h⟩
      · exact .inl h
      · exact .inr (.inl (fun e => h (by rw [e])))
      · exact .inr (.inr (.inl (fun e => h (by rw [e]))))
      · exact .inr (.inr (.inr (fun e => h (by rw [e])))))
    have HN := hid hn; clear hn h0
    rcases hne with h | ⟨h0, h⟩ | ⟨h0, h1, h⟩ | ⟨h0, h1, h2, h⟩
    case' inl => have u0 : (n != m) = true := by simpa using h
    case' inr.inl =>
      have u0 : (n != m) = false := by simp [h0]
      have u1 : ((s.length : Int) != (r.length : Int)) = true := by simp; omega
    case' inr.inr.inl =>
      have u0 : (n != m) = false := by simp [h0]
      have u1 : ((s.length : Int) != (r.length : Int)) = false := by simp [h1]
      have u2 : ((lo.length : Int) != (lo'.length : Int)) = true := by simp; omega
    case' inr.inr.inr =>
      have u0 : (n != m) = false := by simp [h0]
      have u1 : ((s.length : Int) != (r.length : Int)) = false := by simp [h1]
      have u2 : ((lo.length : Int) != (lo'.length : Int)) = false := by simp [h2]
      have u3 : ((hi.length : Int) != (hi'.length : Int)) = true := by simp; omega
    all_goals
      have HH := hid h; clear h
      try clear h0
      try clear h1
      try clear h2
      go_wp2
      go_ret
      exact ⟨by rw [HN.out]; rfl, (by repeat' first | with_reducible exact Below.refl _ _ | assumption | (with_reducible refine Below.alloc ?_ ?_ _) | (with_reducible refine Below.setCell ?_ ?_ _) | (with_reducible refine Below.drew ?_) | (with_reducible refine below_drewN ?_ _) | (with_reducible refine Below.trans ?_ (Below.mono ‹_› ?_)) | omega | (with_reducible refine le_alloc ?_) | (with_reducible refine le_setCell ?_) | (with_reducible refine le_drew ?_) | (with_reducible refine le_drewN ?_) | (with_reducible refine Nat.le_trans ?_ (Below.size ‹_›)) | (simp <;> omega))⟩
end Go.Proofs.Ytclhnnidbhchnaa
