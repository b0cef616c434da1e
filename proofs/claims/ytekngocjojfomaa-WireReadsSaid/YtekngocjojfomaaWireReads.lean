/- The walk of WireReads. -/
import Derived.Test.YtekngocjojfomaaWireOwns
import Derived.Test.YtekngocjojfomaaReads
namespace Go.Proofs.Ytekngocjojfomaa
open Go.ChangeShapes Go.WideShapes Go.ChangeAt Go.RowKit
set_option linter.unusedVariables false

/-- What is asked: Bad, Text, Least, Most. -/
abbrev rAsk : Rd (Bool × Bool × Int × Int) := rdPair 1 rdBool (rdPair 1 rdBool (rdPair 1 rdInt rdInt))
theorem opens_asks : Opens Try.prog 65 1 (rdSlice 4 rAsk) := by
  refine opens_slice (e := 67) ?_ Try.underlying65 ?_ (by kernel_rfl) (by omega)
  · exact good_pair good_bool (good_pair good_bool (good_pair good_int good_int))
  · refine opens_struct (k := 4) Try.underlying67 (by kernel_rfl) ?_
    exact opensF_cons (by rfl) (opens_bool Try.underlying4 (by kernel_rfl)) (opensF_cons (k2 := 2) (by rfl) (opens_bool Try.underlying4 (by kernel_rfl)) (opensF_cons (k2 := 1) (by rfl) (opens_int Try.underlying3 (by kernel_rfl)) (opensF_one (by rfl) (opens_int Try.underlying3 (by kernel_rfl)))))
theorem ask_cells {w : World} {B : Nat} {es : List Value} {x : Bool × Bool × Int × Int} (h : rAsk w B es x) (he : es.length = 4) : es = [.bool x.1, .bool x.2.1, .int .i64 x.2.2.1, .int .i64 x.2.2.2] := by
  match es, he with
  | [a, b, c, d], _ =>
    obtain ⟨-, h1, -, h2, -, h3, h4⟩ := h
    simp [rdBool, rdInt] at h1 h2 h3 h4
    rw [h1, h2, h3.1, h4.1]
theorem RW.cellA {w : World} {B p a : Nat} {l : List UInt8} {e : Int} (h : RW w B p l a e) : w.cell? ⟨p, 1, none⟩ = some (.int .i64 a) := by
  obtain ⟨_, _, _, _, _, _, h6, _, _⟩ := h
  exact h6
theorem RW.cellE {w : World} {B p a : Nat} {l : List UInt8} {e : Int} (h : RW w B p l a e) : w.cell? ⟨p, 2, none⟩ = some (.int .i64 e) := by
  obtain ⟨_, _, _, _, _, _, _, h7, _⟩ := h
  exact h7
def AskRel (s : List UInt8) (asks : List (Bool × Bool × Int × Int)) (p q : Nat) (w : World) (i : Value) (wr : World) : Prop :=
  ∃ (k a : Nat) (e : Int), k ≤ asks.length ∧ k ≤ 60 ∧ i = .int .i64 k ∧ RW wr p p s a e ∧ RW wr w.heap.size q s a e ∧ Below w.heap.size w wr
set_option maxRecDepth 100000 in
set_option maxHeartbeats 1600000 in
theorem walk_WireReads (w : World) (v : Value) (l : List UInt8) (hv : Sl w w.heap.size v (bvals l)) (hz : l.length ≤ maxLen) (v2 : Value) (asks : List (Bool × Bool × Int × Int)) (h2 : rdSlice 4 rAsk w w.heap.size [v2] asks) :
    Calls Try.prog 15 #[v, v2] w (Gives (.bool true) w) := by
  have hl : (l.take 200).length ≤ 200 := by rw [List.length_take]; omega
  have f1 := few_any v l 200 w (by omega) hv
  unfold FewPost at f1
  generalize l.take 200 = s at *
  have n1 := fun v W h => new2_any v s W h (by omega)
  obtain ⟨A2, c2, rfl, hc2, hcm2⟩ := h2.form
  unfold maxLen at hcm2
  have F1 := hid f1; have N1 := hid n1; have H2 := hid h2; clear f1 n1 hv hz h2
  go_enter Try.func15, Try.ntmps15
  go_wp2_with fail
  refine F1.out.mono ?_
  rintro en w1 ⟨v1, rfl, h1, rfl⟩
  obtain ⟨A1, c1, rfl, hc1, hcm1⟩ := h1.form
  have H1 := hid h1; clear h1
  go_wp2_with fail
  refine (N1.out _ _ H1.out).mono ?_
  rintro en w2 ⟨p, rfl, hr, hp, hap, hb2⟩
  have hpl := hr.lt
  have hH2 := hb2.size
  have R1 := hid (hr.below (bl1 w2 (.cells #[.slice A1 s.length c1, .int .i64 0, .int .i64 0] 62)))
  have X1 := hid (rw_mk (t := 62) (H1.out.below hb2) hH2 (by omega))
  have B2 := hid (hb2.alloc hH2 (.cells #[.slice A1 s.length c1, .int .i64 0, .int .i64 0] 62))
  clear hr hap hb2
  go_wp2
  go_loopw [7] (fun i wr => AskRel s asks p w2.heap.size w i wr) (fun i _ => asks.length - (intOf i).toNat)
  case atStart => exact ⟨0, 0, 0, by omega, by omega, rfl, R1.out, X1.out, B2.out⟩
  case round =>
    obtain ⟨k, a, e, hk, hk60, rfl, hr, hx, hb⟩ := hrel
    have hpw := hr.lt; have hqw := hx.lt
    have HR := hid hr; have HX := hid hx; have HB := hid hb; clear hr hx hb
    by_cases hgo : k < asks.length ∧ k < 60
    · obtain ⟨hk1, hk2⟩ := hgo
      obtain ⟨b, off, rfl, hbl, es, he1, he2, he3⟩ := H2.out.at_ hk1
      have hes := ask_cells he3 he1
      subst hes
      have c0 := cellK HB.out hbl (he2 0 _ rfl)
      have c1 := cellK HB.out hbl (he2 1 _ rfl)
      have c2 := cellK HB.out hbl (he2 2 _ rfl)
      have c3 := cellK HB.out hbl (he2 3 _ rfl)
      have C2 := hid (he2 2 _ rfl); have C3 := hid (he2 3 _ rfl)
      clear he1 he2 he3
      generalize asks[k] = x at *
      obtain ⟨bad, text, least, most⟩ := x
      simp only at c0 c1 c2 c3 C2 C3
      rw [Nat.add_zero] at c0
      cases bad
      · cases text
        · have T1 := hid (fun W h => readInt_any p p s a e least most W h)
          have T2 := hid (fun W h => refReadInt_any w.heap.size w2.heap.size s a e least most W h)
          unfold RIntPost at T1 T2
          generalize rInt s a e least most = res at *
          obtain ⟨z, a1, e1⟩ := res
          simp only at T1 T2
          have t0 : (z != z) = false := by simp
          have hpq : p ≠ w2.heap.size := by omega
          have hpq' : p ≤ w2.heap.size := by omega
          have hqp : w2.heap.size ≠ p := by omega
          go_wp2
          go_region_held3 (fun w' => w'.cell? ⟨b, off + k * 4 + 2, none⟩ = some (.int .i64 least) ∧ w'.cell? ⟨b, off + k * 4 + 3, none⟩ = some (.int .i64 most)) (go_keep)
            (first
              | (go_at_call 46; refine (T1.out _ (HR.out.qu ⟨1, rfl⟩)).mono ?_; rintro en w5 ⟨rfl, hr5, hu5⟩; have A5 := hid hr5; have U5 := hid hu5; have HX5 := hid ((HX.out.qu (w' := wr.drew) ⟨1, rfl⟩).far hu5 hp hqp); have V5 := hid (hu5.below (B := w.heap.size) hp (by exact hpw)); have D5 := hid ((below_drewN HB.out 1).trans V5.out); have d2 := cellK D5.out hbl C2.out; have d3 := cellK D5.out hbl C3.out; clear hr5 hu5)
              | (go_at_call 47; refine (T2.out _ HX5.out).mono ?_; rintro en w6 ⟨rfl, hx6, hu6⟩; have R6 := hid (And.intro (A5.out.far hu6 hpq' hpq) hx6); have B6 := hid ((below_drewN HB.out 1).trans (V5.out.trans (hu6.below (B := w.heap.size) hH2 HX5.out.lt))); have g2 := cellK B6.out hbl C2.out; have g3 := cellK B6.out hbl C3.out; clear hx6 hu6)
              | (go_at_call 47; refine (T2.out _ (HX.out.qu ⟨1, rfl⟩)).mono ?_; rintro en w5 ⟨rfl, hx5, hu5⟩; have A5 := hid hx5; have HR5 := hid ((HR.out.qu (w' := wr.drew) ⟨1, rfl⟩).far hu5 hpq' hpq); have V5 := hid (hu5.below (B := w.heap.size) hH2 (by exact hqw)); have D5 := hid ((below_drewN HB.out 1).trans V5.out); have d2 := cellK D5.out hbl C2.out; have d3 := cellK D5.out hbl C3.out; clear hx5 hu5)
              | (go_at_call 46; refine (T1.out _ HR5.out).mono ?_; rintro en w6 ⟨rfl, hr6, hu6⟩; have R6 := hid (And.intro hr6 (A5.out.far hu6 hp hqp)); have B6 := hid ((below_drewN HB.out 1).trans (V5.out.trans (hu6.below (B := w.heap.size) hp HR5.out.lt))); have g2 := cellK B6.out hbl C2.out; have g3 := cellK B6.out hbl C3.out; clear hr6 hu6))
          all_goals clear T1 T2
          all_goals
            have HE := hid (fun W h => readEnd_any p p s a1 e1 W h); have HF := hid (fun W h => refReadEnd_any w.heap.size w2.heap.size s a1 e1 W h)
            have HA := hid (fun W h => readAt_any p p s a1 e1 W h); have HG := hid (fun W h => readFailed_any p p s a1 e1 W h)
            have y1 := R6.out.2.cellA
            have y2 := R6.out.2.cellE
            generalize rEnd s a1 e1 = z1 at *
            have t1 : (z1 != z1) = false := by simp
            have t2 : ((a1 : Int) != (a1 : Int)) = false := by simp
            have R7 := R6; clear R6
            have t3 : ((e1 != 0) != (e1 != 0)) = false := by simp
            have hk61 : k + 1 ≤ 60 := by omega
            go_wp2
            go_quiet (first | (go_at_call 48; exact Calls.quiet_of (HE.out _ (R7.out.1.qu ⟨_, rfl⟩))) | (go_at_call 49; exact Calls.quiet_of (HF.out _ (R7.out.2.qu ⟨_, rfl⟩))) | (go_at_call 50; exact Calls.quiet_of (HA.out _ (R7.out.1.qu ⟨_, rfl⟩))) | (go_at_call 51; exact Calls.quiet_of (HG.out _ (R7.out.1.qu ⟨_, rfl⟩))))
            go_wp2
            go_roundw
            case rel => exact ⟨k + 1, a1, e1, by omega, hk61, by go_num, R7.out.1.qu ⟨_, rfl⟩, R7.out.2.qu ⟨_, rfl⟩, below_drewN B6.out _⟩
            case measure => simp [intOf]; omega
        · have T1 := hid (fun W h => readText_any p p s a e most W h)
          have T2 := hid (fun W h => refReadText_any w.heap.size w2.heap.size s a e most W h)
          unfold RTextPost at T1 T2
          generalize rText s a e most = res at *
          obtain ⟨tx, a1, e1⟩ := res
          simp only at T1 T2
          generalize (⟨tx.toArray⟩ : ByteArray) = tb at *
          have hpq : p ≠ w2.heap.size := by omega
          have hpq' : p ≤ w2.heap.size := by omega
          have hqp : w2.heap.size ≠ p := by omega
          go_wp2
          go_region_held3 (fun w' => w'.cell? ⟨b, off + k * 4 + 3, none⟩ = some (.int .i64 most)) (go_keep)
            (first
              | (go_at_call 42; refine (T1.out _ (HR.out.qu ⟨1, rfl⟩)).mono ?_; rintro en w5 ⟨rfl, hr5, hu5⟩; have A5 := hid hr5; have U5 := hid hu5; have HX5 := hid ((HX.out.qu (w' := wr.drew) ⟨1, rfl⟩).far hu5 hp hqp); have V5 := hid (hu5.below (B := w.heap.size) hp (by exact hpw)); have D5 := hid ((below_drewN HB.out 1).trans V5.out); have d3 := cellK D5.out hbl C3.out; clear hr5 hu5)
              | (go_at_call 43; refine (T2.out _ HX5.out).mono ?_; rintro en w6 ⟨rfl, hx6, hu6⟩; have R6 := hid (And.intro (A5.out.far hu6 hpq' hpq) hx6); have B6 := hid ((below_drewN HB.out 1).trans (V5.out.trans (hu6.below (B := w.heap.size) hH2 HX5.out.lt))); have g3 := cellK B6.out hbl C3.out; clear hx6 hu6)
              | (go_at_call 43; refine (T2.out _ (HX.out.qu ⟨1, rfl⟩)).mono ?_; rintro en w5 ⟨rfl, hx5, hu5⟩; have A5 := hid hx5; have HR5 := hid ((HR.out.qu (w' := wr.drew) ⟨1, rfl⟩).far hu5 hpq' hpq); have V5 := hid (hu5.below (B := w.heap.size) hH2 (by exact hqw)); have D5 := hid ((below_drewN HB.out 1).trans V5.out); have d3 := cellK D5.out hbl C3.out; clear hx5 hu5)
              | (go_at_call 42; refine (T1.out _ HR5.out).mono ?_; rintro en w6 ⟨rfl, hr6, hu6⟩; have R6 := hid (And.intro hr6 (A5.out.far hu6 hp hqp)); have B6 := hid ((below_drewN HB.out 1).trans (V5.out.trans (hu6.below (B := w.heap.size) hp HR5.out.lt))); have g3 := cellK B6.out hbl C3.out; clear hr6 hu6))
          all_goals clear T1 T2
          all_goals
            have HE := hid (fun W h => readEnd_any p p s a1 e1 W h); have HF := hid (fun W h => refReadEnd_any w.heap.size w2.heap.size s a1 e1 W h)
            have HA := hid (fun W h => readAt_any p p s a1 e1 W h); have HG := hid (fun W h => readFailed_any p p s a1 e1 W h)
            have y1 := R6.out.2.cellA
            have y2 := R6.out.2.cellE
            generalize rEnd s a1 e1 = z1 at *
            have t1 : (z1 != z1) = false := by simp
            have t2 : ((a1 : Int) != (a1 : Int)) = false := by simp
            have R7 := R6; clear R6
            have t3 : ((e1 != 0) != (e1 != 0)) = false := by simp
            have hk61 : k + 1 ≤ 60 := by omega
            go_wp2
            go_quiet (first | (go_at_call 48; exact Calls.quiet_of (HE.out _ (R7.out.1.qu ⟨_, rfl⟩))) | (go_at_call 49; exact Calls.quiet_of (HF.out _ (R7.out.2.qu ⟨_, rfl⟩))) | (go_at_call 50; exact Calls.quiet_of (HA.out _ (R7.out.1.qu ⟨_, rfl⟩))) | (go_at_call 51; exact Calls.quiet_of (HG.out _ (R7.out.1.qu ⟨_, rfl⟩))))
            go_wp2
            go_roundw
            case rel => exact ⟨k + 1, a1, e1, by omega, hk61, by go_num, R7.out.1.qu ⟨_, rfl⟩, R7.out.2.qu ⟨_, rfl⟩, below_drewN B6.out _⟩
            case measure => simp [intOf]; omega
      · have T1 := hid (fun W h => readBad_any p p s a e W h)
        have T2 := hid (fun W h => refReadBad_any w.heap.size w2.heap.size s a e W h)
        unfold BadPost at T1 T2
        have hpq : p ≠ w2.heap.size := by omega
        have hpq' : p ≤ w2.heap.size := by omega
        have hqp : w2.heap.size ≠ p := by omega
        obtain ⟨a1, ha1⟩ : ∃ a1, a1 = a := ⟨_, rfl⟩
        generalize (if e = 0 then (2 : Int) else e) = e1 at *
        go_wp2_with fail
        refine (T1.out _ HR.out).mono ?_
        rintro en w5 ⟨rfl, hr5, hu5⟩
        have A5 := hid hr5; have U5 := hid hu5; clear hr5 hu5
        have HX5 := hid (HX.out.far U5.out hp hqp)
        go_wp2_with fail
        refine (T2.out _ HX5.out).mono ?_
        rintro en w6 ⟨rfl, hx6, hu6⟩
        have R6 := hid (And.intro (A5.out.far hu6 hpq' hpq) hx6)
        have B6 := hid (HB.out.trans ((U5.out.below (B := w.heap.size) hp hpw).trans (hu6.below (B := w.heap.size) hH2 HX5.out.lt)))
        clear hx6 hu6 T1 T2
        rw [← ha1] at R6
        clear ha1
        have HE := hid (fun W h => readEnd_any p p s a1 e1 W h); have HF := hid (fun W h => refReadEnd_any w.heap.size w2.heap.size s a1 e1 W h)
        have HA := hid (fun W h => readAt_any p p s a1 e1 W h); have HG := hid (fun W h => readFailed_any p p s a1 e1 W h)
        have y1 := R6.out.2.cellA
        have y2 := R6.out.2.cellE
        generalize rEnd s a1 e1 = z1 at *
        have t1 : (z1 != z1) = false := by simp
        have t2 : ((a1 : Int) != (a1 : Int)) = false := by simp
        have R7 := R6; clear R6
        have t3 : ((e1 != 0) != (e1 != 0)) = false := by simp
        have hk61 : k + 1 ≤ 60 := by omega
        go_wp2
        go_quiet (first | (go_at_call 48; exact Calls.quiet_of (HE.out _ (R7.out.1.qu ⟨_, rfl⟩))) | (go_at_call 49; exact Calls.quiet_of (HF.out _ (R7.out.2.qu ⟨_, rfl⟩))) | (go_at_call 50; exact Calls.quiet_of (HA.out _ (R7.out.1.qu ⟨_, rfl⟩))) | (go_at_call 51; exact Calls.quiet_of (HG.out _ (R7.out.1.qu ⟨_, rfl⟩))))
        go_wp2
        go_roundw
        case rel => exact ⟨k + 1, a1, e1, by omega, hk61, by go_num, R7.out.1.qu ⟨_, rfl⟩, R7.out.2.qu ⟨_, rfl⟩, below_drewN B6.out _⟩
        case measure => simp [intOf]; omega
    · have H0 : ¬ ((k : Int) < (asks.length : Int) ∧ (k : Int) < 60) := by omega
      have HH0 := hid H0; clear H0 hgo
      by_cases hk1 : k < asks.length
      · have hk2 : ¬ k < 60 := by have := HH0.out; omega
        go_wp2_with fail
        refine (livesW_true _).mono ?_
        rintro en w9 ⟨rfl, hb9⟩
        go_wp2
        go_ret
        exact ⟨rfl, HB.out.trans (hb9.mono HB.out.size)⟩
      · go_wp2_with fail
        refine (livesW_true _).mono ?_
        rintro en w9 ⟨rfl, hb9⟩
        go_wp2
        go_ret
        exact ⟨rfl, HB.out.trans (hb9.mono HB.out.size)⟩
end Go.Proofs.Ytekngocjojfomaa
