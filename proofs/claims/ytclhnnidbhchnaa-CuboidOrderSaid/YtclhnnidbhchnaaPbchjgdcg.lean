/- 3 texts of this claim, in build order. -/
import Derived.Test.YtclhnnidbhchnaaPpjjdaaob
import Derived.Test.YtclhnnidbhchnaaPkpbafcfk
import Derived.Maps.OwnSet
import Derived.Maps.RangeWalk
import Derived.DeepKeys4
import Derived.Test.YtclhnnidbhchnaaPaeddjmei
import Derived.Test.YtclhnnidbhchnaaPpmbahhjc
/- The program's cuboid in memory: the map of its cells. -/
namespace Go.Proofs.Ytclhnnidbhchnaa
open Go.ChangeShapes Go.WideShapes Go.ChangeAt Go.RowKit Go.Maps
set_option linter.unusedVariables false
set_option linter.unusedSimpArgs false

/-- A key of the program: three codes. -/
def keyV (a b c : Int) : Value := .agg #[.int .i64 a, .int .i64 b, .int .i64 c]
def keyT (k : List Int) : Value := keyV (k.getD 0 0) (k.getD 1 0) (k.getD 2 0)
theorem key_law : Keyed Try.prog 99 := Keyed.of_law (deep_law_laid laidOut (m := 3) (by omega) (of_decide_eq_true (by kernel_rfl)) (by kernel_rfl) (by rw [Try.underlying99]))
def keyL (a b c : Int) : Lit := .string (keyBytes [.int .i64 a, .int .i64 b, .int .i64 c])
theorem wf64 {a : Int} (h : -9223372036854775808 ≤ a ∧ a ≤ 9223372036854775807) : (Lit.int .i64 a).wf = true := WalkArith.wf_i64 h
theorem keyLits_arr (a b c : Value) (d : Nat) : Try.prog.keyLits (d + 1) 99 [a, b, c] = ((Try.prog.keyLits d 3 [a]).bind fun x => (Try.prog.keyLits d 3 [b]).bind fun y => (Try.prog.keyLits d 3 [c]).bind fun z => some (x ++ (y ++ z))) := by
  have hc : Try.prog.cellsOf 99 = 3 := by kernel_rfl
  have hci : Try.prog.cellsOf 3 = 1 := by kernel_rfl
  conv => lhs; unfold Program.keyLits
  rw [Try.underlying99]
  simp only
  rw [if_pos (by rw [hc]; rfl), hci]
  have hr : List.range 3 = [0, 1, 2] := by decide
  rw [hr]
  simp only [List.mapM_cons, List.mapM_nil]
  simp
  cases Try.prog.keyLits d 3 [a] <;> cases Try.prog.keyLits d 3 [b] <;> cases Try.prog.keyLits d 3 [c] <;> simp
theorem keyLits_int (v : Value) (d : Nat) : Try.prog.keyLits (d + 1) 3 [v] = match v with | .int q' n => if q' = .i64 ∧ (Lit.int .i64 n).wf = true then some [.int .i64 n] else none | _ => none := by
  unfold Program.keyLits
  rw [Try.underlying3]
  cases v <;> rfl
theorem key_of {a b c : Int} (ha : -9223372036854775808 ≤ a ∧ a ≤ 9223372036854775807) (hb : -9223372036854775808 ≤ b ∧ b ≤ 9223372036854775807) (hc : -9223372036854775808 ≤ c ∧ c ≤ 9223372036854775807) : keyOf Try.prog 99 (keyV a b c) = some (keyL a b c) := by
  have hk : Try.prog.keyType 99 = true := by kernel_rfl
  have hcc : Try.prog.cellsOf 99 = 3 := by kernel_rfl
  have hf : (keyV a b c).formed Try.prog 99 = true := by simp [Value.formed, keyV, Try.underlying99, hcc]
  obtain ⟨n, hn⟩ : ∃ n, Try.prog.types.size + 1 = n + 1 + 1 := ⟨Try.prog.types.size - 1, by
    have : 0 < Try.prog.types.size := of_decide_eq_true (by kernel_rfl)
    omega⟩
  unfold keyOf
  rw [Try.underlying99]
  simp only [hk, hf, hn]
  have e0 : (keyV a b c).cells.toList = [.int .i64 a, .int .i64 b, .int .i64 c] := rfl
  rw [e0, keyLits_arr, keyLits_int, keyLits_int, keyLits_int]
  simp [wf64 ha, wf64 hb, wf64 hc, keyL]
set_option maxRecDepth 100000 in
/-- What is read as a key is one. -/
theorem key_inv {v : Value} {kl : Lit} (h : keyOf Try.prog 99 v = some kl) : ∃ a b c : Int, v = keyV a b c := by
  have hcc : Try.prog.cellsOf 99 = 3 := by kernel_rfl
  obtain ⟨n, hn⟩ : ∃ n, Try.prog.types.size + 1 = n + 1 + 1 := ⟨Try.prog.types.size - 1, by
    have : 0 < Try.prog.types.size := of_decide_eq_true (by kernel_rfl)
    omega⟩
  unfold keyOf at h
  rw [Try.underlying99] at h
  simp only at h
  rw [hn] at h
  by_cases hf : (Try.prog.keyType 99 && v.formed Try.prog 99) = true
  · rw [if_pos hf] at h
    rw [Bool.and_eq_true] at hf
    have hfo := hf.2
    cases v with
    | agg cs =>
      simp only [Value.formed, Try.underlying99, hcc] at hfo
      have hsz : cs.size = 3 := by simpa using hfo
      obtain ⟨x, y, z, rfl⟩ : ∃ x y z, cs = #[x, y, z] := by
        obtain ⟨l⟩ := cs
        match l, hsz with
        | [x, y, z], _ => exact ⟨x, y, z, rfl⟩
      have e0 : (Value.agg #[x, y, z]).cells.toList = [x, y, z] := rfl
      rw [e0, keyLits_arr, keyLits_int, keyLits_int, keyLits_int] at h
      cases x with
      | int qx a => cases y with
        | int qy b => cases z with
          | int qz c =>
            simp only at h
            by_cases h1 : qx = .i64 ∧ (Lit.int .i64 a).wf = true
            · by_cases h2 : qy = .i64 ∧ (Lit.int .i64 b).wf = true
              · by_cases h3 : qz = .i64 ∧ (Lit.int .i64 c).wf = true
                · exact ⟨a, b, c, by rw [h1.1, h2.1, h3.1]; rfl⟩
                · simp [h1, h2, h3] at h
              · simp [h1, h2] at h
            · simp [h1] at h
          | _ => simp at h
        | _ => simp at h
      | _ => simp at h
    | _ => simp [Value.formed, Try.underlying99] at hfo
  · rw [if_neg hf] at h
    cases h
end Go.Proofs.Ytclhnnidbhchnaa
/- The reference's cuboid: Less, Is. -/
namespace Go.Proofs.Ytclhnnidbhchnaa
open Go.ChangeShapes Go.WideShapes Go.ChangeAt Go.RowKit
set_option linter.unusedVariables false
set_option linter.unusedSimpArgs false

def LexRel (a b : List Int) (w : World) (i : Value) (wr : World) : Prop := ∃ k : Nat, k ≤ a.length ∧ k ≤ b.length ∧ i = .int .i64 k ∧ a.take k = b.take k ∧ Qu w wr
set_option maxRecDepth 100000 in
set_option maxHeartbeats 1600000 in
theorem lessR_any (v x : Value) (a b : List Int) (w : World) (B : Nat) (hv : Sl w B v (ivals a)) (hx : Sl w B x (ivals b)) :
    Calls Try.prog 70 #[v, x] w (Stays (.bool (lexB a b)) w) := by
  obtain ⟨A1, c1, rfl, hc1, hm1⟩ := hv.formI
  obtain ⟨A2, c2, rfl, hc2, hm2⟩ := hx.formI
  unfold maxLen at hm1 hm2
  have S1 := hid hv; have S2 := hid hx; clear hv hx
  go_enter Try.func70, Try.ntmps70
  go_wp2
  go_loopw [5] (fun i wr => LexRel a b w i wr) (fun i _ => a.length - (intOf i).toNat)
  case atStart => exact ⟨0, by omega, by omega, rfl, rfl, Qu.refl _⟩
  case round =>
    obtain ⟨k, hk1, hk2, rfl, ht, hq⟩ := hrel
    by_cases h1 : k < a.length
    · by_cases h2 : k < b.length
      · obtain ⟨b1, o1, rfl, hb1, hx1⟩ := S1.out.int h1
        obtain ⟨b2, o2, rfl, hb2, hx2⟩ := S2.out.int h2
        have g1 : wr.cell? ⟨b1, o1 + k, none⟩ = _ := (hq.cell _).trans hx1
        have g2 : wr.cell? ⟨b2, o2 + k, none⟩ = _ := (hq.cell _).trans hx2
        have HP := hid (fun h => lexB_part h1 h2 ht h)
        have HE := hid (fun h => take_succ_same h1 h2 ht h)
        clear hx1 hx2 ht
        generalize a.getD k 0 = p at *
        generalize b.getD k 0 = q at *
        by_cases hpq : p = q
        · have t1 : (p != q) = false := by simp [hpq]
          have HT := hid (HE.out hpq)
          clear hpq
          go_wp2
          go_quiet (fail)
          go_wp2
          go_roundw
          case rel => exact ⟨k + 1, by omega, by omega, by go_num, HT.out, hq.drewN _⟩
          case measure => simp [intOf]; omega
        · have t1 : (p != q) = true := by simpa using hpq
          have HT := hid (HP.out hpq)
          clear hpq
          go_wp2
          go_quiet (fail)
          go_wp2
          go_quiet (fail)
          go_wp2
          go_ret
          exact ⟨ret_bool HT.out.symm, (hq.drewN _).drewN _⟩
      · have HT := hid (lexB_end hk1 hk2 ht (.inr (by omega)))
        clear ht
        have hb : decide (k < b.length) = false := by rw [decide_eq_false_iff_not]; exact h2
        have hb' : decide (k < a.length) = true := by rw [decide_eq_true_eq]; exact h1
        go_wp2
        go_ret
        exact ⟨ret_bool HT.out.symm, hq⟩
    · have HT := hid (lexB_end hk1 hk2 ht (.inl (by omega)))
      clear ht
      have hb' : decide (k < a.length) = false := by rw [decide_eq_false_iff_not]; exact h1
      go_wp2
      go_ret
      exact ⟨ret_bool HT.out.symm, hq⟩
end Go.Proofs.Ytclhnnidbhchnaa
/- The reference's Same of numbers (layer 8), for slices that read as lists. -/
namespace Go.Proofs.Ytclhnnidbhchnaa
open Go.ChangeShapes Go.WideShapes Go.ChangeAt Go.RowKit
set_option linter.unusedVariables false
set_option linter.unusedSimpArgs false

set_option maxRecDepth 100000 in
set_option maxHeartbeats 800000 in
theorem same8_any (v x : Value) (l r : List Int) (w : World) (B B' : Nat) (hv : Sl w B v (ivals l)) (hx : Sl w B' x (ivals r)) :
    Calls Try.prog 59 #[v, x] w (Stays (.bool (decide (l = r))) w) := by
  obtain ⟨A1, c1, rfl, hc1, hm1⟩ := hv.formI
  obtain ⟨A2, c2, rfl, hc2, hm2⟩ := hx.formI
  unfold maxLen at hm1 hm2
  have S1 := hid hv; have S2 := hid hx; clear hv hx
  have hdec : l ≠ r → decide (l = r) = false := fun h => decide_eq_false h
  have hyes : l = r → decide (l = r) = true := fun h => decide_eq_true h
  generalize decide (l = r) = res at *
  have HD := hid hdec; have HY := hid hyes; clear hdec hyes
  go_enter Try.func59, Try.ntmps59
  by_cases hl : l.length = r.length
  · have HL := hid hl
    have u0 : ((l.length : Int) != (r.length : Int)) = false := by simp [hl]
    clear hl
    go_wp2
    go_loopw [5] (fun i wr => EqRel l r w i wr) (fun i _ => l.length - (intOf i).toNat)
    case atStart => exact ⟨0, by omega, rfl, rfl, Qu.refl _⟩
    case round =>
      obtain ⟨k, hk, rfl, hsame, hq⟩ := hrel
      have HS := hid hsame; clear hsame
      by_cases hlt : k < l.length
      · have hlt' : k < r.length := by have := HL.out; omega
        obtain ⟨b1, o1, rfl, hb1, hx1⟩ := S1.out.int hlt
        obtain ⟨b2, o2, rfl, hb2, hx2⟩ := S2.out.int hlt'
        have g1 : wr.cell? ⟨b1, o1 + k, none⟩ = _ := (hq.cell _).trans hx1
        have g2 : wr.cell? ⟨b2, o2 + k, none⟩ = _ := (hq.cell _).trans hx2
        clear hx1 hx2
        have e1 := take_succ_getD l k hlt
        have e2 := take_succ_getD r k hlt'
        have hgn := fun h => @getD_ne l r k h
        generalize l.getD k 0 = p1 at *
        generalize r.getD k 0 = p2 at *
        by_cases he : p1 = p2
        · subst he
          have hs' : l.take (k + 1) = r.take (k + 1) := by rw [e1, e2, HS.out]
          have t2 : (p1 != p1) = false := by simp
          have HS' := hid hs'; clear e1 e2 hs' hgn
          go_wp2
          go_quiet (fail)
          go_wp2
          go_roundw
          case rel => exact ⟨k + 1, by omega, by go_num, HS'.out, hq.drewN _⟩
          case measure => simp [intOf]; omega
        · have hn := HD.out (hgn he)
          have t2 : (p1 != p2) = true := by simpa using he
          have HN := hid hn; clear e1 e2 hgn hn he
          go_wp2
          go_quiet (fail)
          go_wp2
          go_ret
          exact ⟨by rw [HN.out]; rfl, hq.drewN _⟩
      · have he1 : l = r := by
          have := HS.out
          rwa [List.take_of_length_le (by omega), List.take_of_length_le (by have := HL.out; omega)] at this
        have hn := HY.out he1
        have HN := hid hn; clear he1 HS hn
        go_wp2
        go_ret
        exact ⟨by rw [HN.out]; rfl, hq⟩
  · have u0 : ((l.length : Int) != (r.length : Int)) = true := by simp; omega
    have hn := HD.out (fun e => hl (by rw [e]))
    have HN := hid hn
    clear hl hn
    go_wp2
    go_ret
    exact ⟨by rw [HN.out]; rfl, Qu.refl _⟩
end Go.Proofs.Ytclhnnidbhchnaa
