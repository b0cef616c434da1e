/- 2 texts of this claim, in build order. -/
import Derived.Test.YtkgifbnkkmeoiaaGreatDoorPkdfgmfbn
import Derived.Test.YtkgifbnkkmeoiaaGreatDoorPbdcknajg
import Derived.Test.YtkgifbnkkmeoiaaGreatDoorPkgjcpaoe
import Derived.Test.YtkgifbnkkmeoiaaGreatDoorPbkbinjci
import Derived.BigQuiet
/- The reference's May of messages. -/
namespace Go.Proofs.YtkgifbnkkmeoiaaGreatDoor
open Go.ChangeShapes Go.WideShapes Go.ChangeAt Go.RowKit
set_option linter.unusedVariables false
set_option linter.unusedSimpArgs false

def nums7 (m : MsgX) : List Int := [m.term, m.index, m.logTerm, m.commit, m.round, m.off, m.total]
theorem nums_of7 {m : MsgX} (h : headM m) (h7 : ∀ j, j < 7 → numB ((nums7 m).getD j 0) 0 = true) : ∀ j, j < 11 → numB ((numsM m).getD j 0) 0 = true := by
  obtain ⟨-, h2, h3, -, h5, -⟩ := h
  intro j hj
  match j, hj with
  | 0, _ => exact decide_eq_true (show 0 ≤ m.src ∧ m.src ≤ 1099511627776 by omega)
  | 1, _ => exact decide_eq_true (show 0 ≤ m.dst ∧ m.dst ≤ 1099511627776 by omega)
  | 2, _ => exact h7 0 (by omega)
  | 3, _ => exact h7 1 (by omega)
  | 4, _ => exact h7 2 (by omega)
  | 5, _ => exact h7 3 (by omega)
  | 6, _ => exact h7 4 (by omega)
  | 7, _ =>
    show numB (if m.reject = true then 1 else 0) 0 = true
    split <;> decide
  | 8, _ => exact h7 5 (by omega)
  | 9, _ => exact h7 6 (by omega)
  | 10, _ => exact decide_eq_true (show (0 : Int) ≤ (m.ents.length : Int) ∧ (m.ents.length : Int) ≤ 1099511627776 by omega)
theorem nums_to7 {m : MsgX} (h : ∀ j, j < 11 → numB ((numsM m).getD j 0) 0 = true) : ∀ j, j < 7 → numB ((nums7 m).getD j 0) 0 = true := by
  intro j hj
  match j, hj with
  | 0, _ => exact h 2 (by omega)
  | 1, _ => exact h 3 (by omega)
  | 2, _ => exact h 4 (by omega)
  | 3, _ => exact h 5 (by omega)
  | 4, _ => exact h 6 (by omega)
  | 5, _ => exact h 8 (by omega)
  | 6, _ => exact h 9 (by omega)
theorem head_waysR (m : MsgX) : (m.kind < 1 ∧ ¬ headM m) ∨ (¬ m.kind < 1 ∧ 8 < m.kind ∧ ¬ headM m) ∨ (¬ m.kind < 1 ∧ ¬ 8 < m.kind ∧ m.src < 1 ∧ ¬ headM m) ∨ (¬ m.kind < 1 ∧ ¬ 8 < m.kind ∧ ¬ m.src < 1 ∧ 7 < m.src ∧ ¬ headM m) ∨
    (¬ m.kind < 1 ∧ ¬ 8 < m.kind ∧ ¬ m.src < 1 ∧ ¬ 7 < m.src ∧ m.dst < 1 ∧ ¬ headM m) ∨ (¬ m.kind < 1 ∧ ¬ 8 < m.kind ∧ ¬ m.src < 1 ∧ ¬ 7 < m.src ∧ ¬ m.dst < 1 ∧ 7 < m.dst ∧ ¬ headM m) ∨
    (¬ m.kind < 1 ∧ ¬ 8 < m.kind ∧ ¬ m.src < 1 ∧ ¬ 7 < m.src ∧ ¬ m.dst < 1 ∧ ¬ 7 < m.dst ∧ (m.src == m.dst) = true ∧ ¬ headM m) ∨
    (¬ m.kind < 1 ∧ ¬ 8 < m.kind ∧ ¬ m.src < 1 ∧ ¬ 7 < m.src ∧ ¬ m.dst < 1 ∧ ¬ 7 < m.dst ∧ (m.src == m.dst) = false ∧ (6 : Int) < (m.ents.length : Int) ∧ ¬ headM m) ∨
    (¬ m.kind < 1 ∧ ¬ 8 < m.kind ∧ ¬ m.src < 1 ∧ ¬ 7 < m.src ∧ ¬ m.dst < 1 ∧ ¬ 7 < m.dst ∧ (m.src == m.dst) = false ∧ ¬ (6 : Int) < (m.ents.length : Int) ∧ (160 : Int) < (m.data.length : Int) ∧ ¬ headM m) ∨
    (¬ m.kind < 1 ∧ ¬ 8 < m.kind ∧ ¬ m.src < 1 ∧ ¬ 7 < m.src ∧ ¬ m.dst < 1 ∧ ¬ 7 < m.dst ∧ (m.src == m.dst) = false ∧ ¬ (6 : Int) < (m.ents.length : Int) ∧ ¬ (160 : Int) < (m.data.length : Int) ∧ headM m) := by
  rcases head_ways m with ⟨g1, hH⟩ | ⟨g1, g2, hH⟩ | ⟨g1, g2, g3, hH⟩ | ⟨g1, g2, g3, g4, hH⟩ | ⟨g1, g2, g3, g4, g5, hH⟩ | ⟨g1, g2, g3, g4, g5, g6, hH⟩ | ⟨g1, g2, g3, g4, g5, g6, hH⟩
  · have := of_decide_eq_false g1
    by_cases h : m.kind < 1
    · exact .inl ⟨h, hH⟩
    · exact .inr (.inl ⟨h, by omega, hH⟩)
  · have := of_decide_eq_true g1
    have := of_decide_eq_false g2
    by_cases h : m.src < 1
    · exact .inr (.inr (.inl ⟨by omega, by omega, h, hH⟩))
    · exact .inr (.inr (.inr (.inl ⟨by omega, by omega, h, by omega, hH⟩)))
  · have := of_decide_eq_true g1
    have := of_decide_eq_true g2
    have := of_decide_eq_false g3
    by_cases h : m.dst < 1
    · exact .inr (.inr (.inr (.inr (.inl ⟨by omega, by omega, by omega, by omega, h, hH⟩))))
    · exact .inr (.inr (.inr (.inr (.inr (.inl ⟨by omega, by omega, by omega, by omega, h, by omega, hH⟩)))))
  all_goals
    have h1 := of_decide_eq_true g1
    have h2 := of_decide_eq_true g2
    have h3 := of_decide_eq_true g3
  · exact .inr (.inr (.inr (.inr (.inr (.inr (.inl ⟨by omega, by omega, by omega, by omega, by omega, by omega, g4, hH⟩))))))
  · exact .inr (.inr (.inr (.inr (.inr (.inr (.inr (.inl ⟨by omega, by omega, by omega, by omega, by omega, by omega, g4, by omega, hH⟩)))))))
  · exact .inr (.inr (.inr (.inr (.inr (.inr (.inr (.inr (.inl ⟨by omega, by omega, by omega, by omega, by omega, by omega, g4, by omega, by omega, hH⟩))))))))
  · exact .inr (.inr (.inr (.inr (.inr (.inr (.inr (.inr (.inr ⟨by omega, by omega, by omega, by omega, by omega, by omega, g4, by omega, by omega, hH⟩))))))))
/-- A test's answer. -/
def Asks (p : Prop) (w : World) (e : Ending) (w' : World) : Prop := ∃ b : Bool, e = .returned (.bool b) ∧ (b = true ↔ p) ∧ Below w.heap.size w w'
def MyRel (ns : List Int) (w : World) (i : Value) (wr : World) : Prop := ∃ k : Nat, k ≤ 7 ∧ i = .int .i64 k ∧ (∀ j, j < k → numB (ns.getD j 0) 0 = true) ∧ w = wr
def MyEnt (l : List EntX) (w : World) (i : Value) (wr : World) : Prop := ∃ k : Nat, k ≤ l.length ∧ i = .int .i64 k ∧ (∀ j (h : j < l.length), j < k → errN l[j] = 0) ∧ Below w.heap.size w wr
set_option maxRecDepth 100000 in
set_option maxHeartbeats 3200000 in
theorem refMayM_any (v : Value) (m : MsgX) (w : World) (hv : MsgV w w.heap.size v m) : Calls Tryz.prog 21 #[v] w (Asks (MayM m) w) := by
  obtain ⟨A1, c1, A2, c2, rfl, hE, hD, hIn⟩ := hv
  obtain ⟨W1, hW1⟩ : ∃ W1, W1 = w.alloc (.cells (msgCs m (.slice A1 m.ents.length c1) (.slice A2 m.data.length c2)).toArray 25) := ⟨_, rfl⟩
  have hcl : ∀ i v, (msgCs m (.slice A1 m.ents.length c1) (.slice A2 m.data.length c2))[i]? = some v → W1.cell? ⟨w.heap.size, i, none⟩ = some v := fun i v h => by
    rw [hW1, World.cell?_alloc_at _ _ _ _ rfl, List.getElem?_toArray]; exact h
  have hb1 : Below w.heap.size w W1 := by rw [hW1]; exact bl1 _ _
  have hz1 : W1.heap.size = w.heap.size + 1 := by rw [hW1]; simp
  have HE := hid (good_ents.on hE hb1)
  have hec : m.ents.length ≤ c1 ∧ c1 ≤ 9223372036854775807 := by obtain ⟨A, c, e, h1, h2⟩ := hE.open_; injection e with e _; injection e with _ _ e3; subst e3; exact ⟨h1, h2⟩
  have hways := head_waysR m
  obtain ⟨hb, hhb⟩ : ∃ b : Bool, (b = true ↔ ¬ headM m) := by
    classical exact ⟨decide (¬ headM m), decide_eq_true_iff⟩
  obtain ⟨P, hP⟩ : ∃ P, P = MayM m := ⟨_, rfl⟩
  rw [← hP]
  have HHD := hid (show ¬ headM m → ¬ P from fun h g => by rw [hP] at g; exact h g.1)
  have HNB := hid (show ∀ j, j < 7 → numB ((nums7 m).getD j 0) 0 = false → ¬ P from fun j hj h g => by rw [hP] at g; have := nums_to7 g.2.1 j hj; rw [h] at this; cases this)
  have HEB := hid (show ∀ j (h : j < m.ents.length), errN m.ents[j] ≠ 0 → ¬ P from fun j hj h g => by rw [hP] at g; exact h (g.2.2 j hj))
  have HOK := hid (show headM m → (∀ j, j < 7 → numB ((nums7 m).getD j 0) 0 = true) → (∀ j (h : j < m.ents.length), errN m.ents[j] = 0) → P from fun h1 h2 h3 => by
    rw [hP]; exact ⟨h1, nums_of7 h1 h2, h3⟩)
  have hns : nums7 m = [m.term, m.index, m.logTerm, m.commit, m.round, m.off, m.total] := rfl
  have q0 := hcl 0 _ rfl; have q1 := hcl 1 _ rfl; have q2 := hcl 2 _ rfl; have q3 := hcl 3 _ rfl; have q4 := hcl 4 _ rfl; have q5 := hcl 5 _ rfl; have q6 := hcl 6 _ rfl; have q7 := hcl 7 _ rfl; have q9 := hcl 9 _ rfl; have q10 := hcl 10 _ rfl; have q11 := hcl 11 _ rfl; have q12 := hcl 12 _ rfl
  obtain ⟨q, hq⟩ : ∃ q, q = w.heap.size := ⟨_, rfl⟩
  rw [← hq] at q0 q1 q2 q3 q4 q5 q6 q7 q9 q10 q11 q12 hb1
  have HQ := hid hq.symm; have HW1 := hid hW1; have HB1 := hid hb1
  have hq1 : q < W1.heap.size := by omega
  unfold msgCs at HW1 ⊢
  obtain ⟨kind, src, dst, term, index, logTerm, commit, round, rej, off, total, ents, data⟩ := m
  simp only at *
  generalize hNS : nums7 ⟨kind, src, dst, term, index, logTerm, commit, round, rej, off, total, ents, data⟩ = ns at *
  generalize hHm : headM ⟨kind, src, dst, term, index, logTerm, commit, round, rej, off, total, ents, data⟩ = Hm at *
  have HNS := hid hns
  have HHB := hid hhb; have HWY := hid hways
  clear hP hcl hb1 hz1 hE hD hIn hW1 hq hNS hHm hns hhb hways
  go_enter Tryz.func21, Tryz.ntmps21
  go_upto_region 1 with (fail)
  rw [← HW1.out, HQ.out]
  go_cut [54] from 8 to 54 (fun s54 wx => s54 = .bool hb ∧ W1 = wx)
  case first =>
    rcases HWY.out with ⟨g1, hH⟩ | ⟨g1, g2, hH⟩ | ⟨g1, g2, g3, hH⟩ | ⟨g1, g2, g3, g4, hH⟩ | ⟨g1, g2, g3, g4, g5, hH⟩ | ⟨g1, g2, g3, g4, g5, g6, hH⟩ | ⟨g1, g2, g3, g4, g5, g6, g7, hH⟩ | ⟨g1, g2, g3, g4, g5, g6, g7, g8, hH⟩ | ⟨g1, g2, g3, g4, g5, g6, g7, g8, g9, hH⟩ | ⟨g1, g2, g3, g4, g5, g6, g7, g8, g9, hH⟩
    case inr.inr.inr.inr.inr.inr.inr.inr.inr =>
      have hbt : hb = false := by
        cases hb with
        | false => rfl
        | true => exact absurd hH (HHB.out.1 rfl)
      subst hbt
      clear hH
      go_wp2
      go_meet
      case rel => exact ⟨rfl, rfl⟩
    all_goals
      have hbt : hb = true := HHB.out.2 hH
      subst hbt
      clear hH
      go_wp2
      go_meet
      case rel => exact ⟨rfl, rfl⟩
  case rest =>
  obtain ⟨rfl, rfl⟩ := hcut
  cases hb with
  | true =>
    have HP0 := hid (HHD.out (HHB.out.1 rfl))
    go_wp2
    go_ret
    exact ⟨_, rfl, ⟨fun h => (by cases h), fun h => absurd h HP0.out⟩, by rw [HQ.out]; exact HB1.out⟩
  | false =>
    have HH := hid (show Hm from Classical.byContradiction fun h => by have := HHB.out.2 h; cases this)
    go_upto_region 4 with (fail)
    obtain ⟨W2, hW2⟩ : ∃ W2, W2 = W1.alloc (.cells #[.int .i64 term, .int .i64 index, .int .i64 logTerm, .int .i64 commit, .int .i64 round, .int .i64 off, .int .i64 total] 3) := ⟨_, rfl⟩
    rw [← hW2]
    have hic : ∀ k, k < 7 → W2.cell? ⟨W1.heap.size, k, none⟩ = some (.int .i64 (ns.getD k 0)) := fun k hk => by
      rw [hW2, World.cell?_alloc_at _ _ _ _ rfl, HNS.out]
      match k, hk with
      | 0, _ => rfl
      | 1, _ => rfl
      | 2, _ => rfl
      | 3, _ => rfl
      | 4, _ => rfl
      | 5, _ => rfl
      | 6, _ => rfl
    have hb2 : Below W1.heap.size W1 W2 := by rw [hW2]; exact bl1 _ _
    have hz2 : W1.heap.size < W2.heap.size := by rw [hW2]; simp
    have q11 := cellK hb2 hq1 q11
    have HIC := hid hic; have HB2 := hid hb2; have HEC := hid hec
    clear hW2 hic hb2 q0 q1 q2 q3 q4 q5 q6 q7 q9 q10 q12
    go_wp2
    go_loopw [4] (fun i wr => MyRel ns W2 i wr) (fun i _ => 7 - (intOf i).toNat)
    case atStart => exact ⟨0, by omega, rfl, fun j hj => by omega, rfl⟩
    case round =>
    obtain ⟨k, hk, rfl, hall, rfl⟩ := hrel
    by_cases hlt : k < 7
    · have qk := HIC.out k hlt
      have hbad := HNB.out k hlt
      have hall' : numB (ns.getD k 0) 0 = true → ∀ j, j < k + 1 → numB (ns.getD j 0) 0 = true := fun h j hj => by
        rcases Nat.lt_or_ge j k with h1 | h1
        · exact hall j h1
        · rw [show j = k by omega]; exact h
      have HBAD := hid hbad; have HALL := hid hall'
      generalize ns.getD k 0 = z at *
      clear hbad hall hall'
      cases hnb : numB z 0 with
      | false =>
        have hp := HBAD.out hnb
        have HP := hid hp
        have hn := numB_false hnb
        clear hnb hp
        rcases hn with hn | ⟨hn, hn2⟩
        all_goals
          go_wp2
          go_ret
          exact ⟨_, rfl, ⟨fun h => (by cases h), fun h => absurd h HP.out⟩, by rw [HQ.out]; exact HB1.out.trans (HB2.out.mono (by omega))⟩
      | true =>
        have HALL' := hid (HALL.out hnb)
        obtain ⟨g1, g2⟩ := numB_true hnb
        clear hnb
        go_wp2
        go_roundw
        case rel => exact ⟨k + 1, by omega, by go_num, HALL'.out, rfl⟩
        case measure => simp [intOf]; omega
    · obtain rfl : k = 7 := by omega
      have HALL7 := hid hall
      clear hall
      go_wp2
      go_loopw [5] (fun i wr => MyEnt ents W2 i wr) (fun i _ => ents.length - (intOf i).toNat)
      case atStart => exact ⟨0, by omega, rfl, fun j _ hj => by omega, Below.refl _ _⟩
      case round =>
      obtain ⟨k, hk, rfl, hall, hb⟩ := hrel
      have hbw := HB2.out.trans (hb.mono (Nat.le_of_lt hz2))
      have q11 := cellK hb (by omega) q11
      by_cases hlt : k < ents.length
      · obtain ⟨eb, eo, AF, cF, rfl, heb, e0, e1, e2, e3, e4, e5, hev⟩ := ents_at HE.out hlt
        have e0 := cellK hbw heb e0; have e1 := cellK hbw heb e1; have e2 := cellK hbw heb e2; have e3 := cellK hbw heb e3; have e4 := cellK hbw heb e4; have e5 := cellK hbw heb e5
        have hbad := HEB.out k hlt
        have hall' : errN (ents[k]'hlt) = 0 → ∀ j (h : j < ents.length), j < k + 1 → errN ents[j] = 0 := fun h j hj hjk => by
          rcases Nat.lt_or_ge j k with h1 | h1
          · exact hall j hj h1
          · have : j = k := by omega
            subst this
            exact h
        have HBAD := hid hbad; have HALL2 := hid hall'
        generalize ents[k]'hlt = x at *
        obtain ⟨ix, tm, op, ses, seq, fs⟩ := x
        simp only at e0 e1 e2 e3 e4 e5 hev
        have HPE := hid ((refPutEnt_any (.slice none 0 0) (.agg #[.int .i64 ix, .int .i64 tm, .int .i64 op, .int .i64 ses, .int .i64 seq, .slice AF fs.length cF]) [] (ix, tm, op, ses, seq, fs) wr Sl.nil_ (by simp) (hev.on hbw)).mono (fun e w' h => h.one))
        have HB := hid hb; have HBW := hid hbw
        generalize errN (ix, tm, op, ses, seq, fs) = er at *
        clear hb hbw hall hbad hall' hev
        go_wp2_with fail
        refine HPE.out.mono ?_
        rintro e w8 ⟨v8, rfl, -, hb8⟩
        have hzw := HBW.out.size
        by_cases hne : er = 0
        · subst hne
          have HALL3 := hid (HALL2.out rfl)
          have HB8 := hid (HB.out.trans (hb8.mono HB.out.size))
          clear hb8
          go_wp2
          go_roundw
          case rel =>
            repeat (apply Exists.intro)
            refine ⟨?_, rfl⟩
            exact ⟨k + 1, by omega, by go_num, HALL3.out, HB8.out⟩
          case measure => simp [intOf]; omega
        · have hnz : (er != 0) = true := by simpa using hne
          have HP := hid (HBAD.out hne)
          have HB8 := hid (HBW.out.trans (hb8.mono hzw))
          clear hne hb8
          go_wp2
          go_ret
          exact ⟨_, rfl, ⟨fun h => (by cases h), fun h => absurd h HP.out⟩, by rw [HQ.out]; exact HB1.out.trans (HB8.out.mono (by omega))⟩
      · obtain rfl : k = ents.length := by omega
        have HP := hid (HOK.out HH.out HALL7.out (fun j hj => hall j hj hj))
        have HBW := hid hbw
        clear hall hb hbw
        go_wp2
        go_ret
        exact ⟨_, rfl, ⟨fun _ => HP.out, fun _ => rfl⟩, by rw [HQ.out]; exact HB1.out.trans (HBW.out.mono (by omega))⟩
end Go.Proofs.YtkgifbnkkmeoiaaGreatDoor
/- slices.Equal at bytes. -/
namespace Go.Proofs.YtkgifbnkkmeoiaaGreatDoor
open Go.ChangeShapes Go.WideShapes Go.ChangeAt Go.RowKit
set_option linter.unusedVariables false
set_option linter.unusedSimpArgs false

def EqBRel (l r : List UInt8) (w : World) (i : Value) (wr : World) : Prop := ∃ k : Nat, k ≤ l.length ∧ i = .int .i64 k ∧ l.take k = r.take k ∧ Qu w wr
theorem take_succ_b (l : List UInt8) (k : Nat) (h : k < l.length) : l.take (k + 1) = l.take k ++ [l.getD k 0] := by
  rw [List.take_succ_eq_append_getElem h, List.getD_eq_getElem?_getD, List.getElem?_eq_getElem h]; rfl
set_option maxRecDepth 100000 in
set_option maxHeartbeats 800000 in
theorem equalB_any (v x : Value) (l r : List UInt8) (w : World) (hv : Sl w w.heap.size v (bvals l)) (hx : Sl w w.heap.size x (bvals r)) (hl : l.length ≤ 140737488355328) (hr : r.length ≤ 140737488355328) :
    Calls Tryz.prog 74 #[v, x] w (Stays (.bool (decide (l = r))) w) := by
  obtain ⟨A1, c1, e1, hc1, hm1, -⟩ := id hv
  obtain ⟨A2, c2, e2, hc2, hm2, -⟩ := id hx
  rw [bvals_len] at e1 hc1 e2 hc2
  subst e1; subst e2
  unfold maxLen at hm1 hm2
  have S1 := hid hv; have S2 := hid hx; clear hv hx
  have hdec : l ≠ r → decide (l = r) = false := fun h => decide_eq_false h
  have hyes : l = r → decide (l = r) = true := fun h => decide_eq_true h
  generalize decide (l = r) = res at *
  have HD := hid hdec; have HY := hid hyes; clear hdec hyes
  go_enter Tryz.func74, Tryz.ntmps74
  by_cases hl : l.length = r.length
  · have HL := hid hl
    have u0 : ((l.length : Int) != (r.length : Int)) = false := by simp [hl]
    clear hl
    go_wp2
    go_loopw [13] (fun i wr => EqBRel l r w i wr) (fun i _ => l.length - (intOf i).toNat)
    case atStart => exact ⟨0, by omega, rfl, rfl, Qu.refl _⟩
    case round =>
      obtain ⟨k, hk, rfl, hsame, hq⟩ := hrel
      have HS := hid hsame; clear hsame
      by_cases hlt : k < l.length
      · have hlt' : k < r.length := by have := HL.out; omega
        obtain ⟨b1, o1, rfl, hb1, hx1⟩ := S1.out.byteAt hlt
        obtain ⟨b2, o2, rfl, hb2, hx2⟩ := S2.out.byteAt hlt'
        have g1 : wr.cell? ⟨b1, o1 + k, none⟩ = _ := (hq.cell _).trans hx1
        have g2 : wr.cell? ⟨b2, o2 + k, none⟩ = _ := (hq.cell _).trans hx2
        clear hx1 hx2
        have e1 := take_succ_b l k hlt
        have e2 := take_succ_b r k hlt'
        have hgn : l.getD k 0 ≠ r.getD k 0 → l ≠ r := fun h e => h (by rw [e])
        generalize l.getD k 0 = p1 at *
        generalize r.getD k 0 = p2 at *
        by_cases he : p1 = p2
        · subst he
          have hs' : l.take (k + 1) = r.take (k + 1) := by rw [e1, e2, HS.out]
          have t2 : ((p1.toNat : Int) != (p1.toNat : Int)) = false := by simp
          have HS' := hid hs'; clear e1 e2 hs' hgn
          go_wp2
          go_quiet (fail)
          go_wp2
          go_roundw
          case rel => exact ⟨k + 1, by omega, by go_num, HS'.out, hq.drewN _⟩
          case measure => simp [intOf]; omega
        · have hn := HD.out (hgn he)
          have hne : p1.toNat ≠ p2.toNat := fun h => he (UInt8.toNat_inj.1 h)
          have t2 : ((p1.toNat : Int) != (p2.toNat : Int)) = true := by rw [bne_iff_ne]; exact fun h => hne (by omega)
          have HN := hid hn; clear e1 e2 hgn hn he hne
          go_wp2
          go_quiet (fail)
          go_wp2
          go_ret
          exact ⟨ret_bool HN.out.symm, hq.drewN _⟩
      · have he1 : l = r := by
          have := HS.out
          rwa [List.take_of_length_le (by omega), List.take_of_length_le (by have := HL.out; omega)] at this
        have hn := HY.out he1
        have HN := hid hn; clear he1 HS hn
        go_wp2
        go_ret
        exact ⟨ret_bool HN.out.symm, hq⟩
  · have u0 : ((l.length : Int) != (r.length : Int)) = true := by simp; omega
    have hn := HD.out (fun e => hl (by rw [e]))
    have HN := hid hn; clear hl hn
    go_wp2
    go_ret
    exact ⟨ret_bool HN.out.symm, Qu.refl _⟩
end Go.Proofs.YtkgifbnkkmeoiaaGreatDoor
