/- 5 texts of this claim, in build order. -/
import Derived.Test.YtgoapnkdcfcjgaaGreatPkkdpconn
import Derived.Test.YtgoapnkdcfcjgaaGreatPfhgfjgme
set_option linter.unusedVariables false
set_option linter.unusedSimpArgs false
namespace Go.Proofs.YtgoapnkdcfcjgaaGreat
open Go.ChangeShapes Go.WideShapes Go.ChangeAt Go.RowKit
def wval (hi lo : Int) : Value := .agg #[.int .i64 hi, .int .i64 lo]
def MayB (hi lo : Int) : Bool := decide (0 <= lo /\ lo <= 4294967295 /\ -1099511627776 <= hi /\ hi <= 1099511627776)
set_option maxRecDepth 100000 in
theorem zeh (n : Int) (w : World) :
  Calls Tryz.prog 128 #[.int .i64 n] w (zY (wval (n / 4294967296) (n % 4294967296)) w) := by
 go_enter Tryz.func128, Tryz.ntmps128
 go_wp2
 exact bodyPost_ret (v := wval (n / 4294967296) (n % 4294967296)) (by simp [results, Tryz.results128, go_sem, wval, zff]) rfl ⟨rfl, bl1 _ _⟩
set_option maxRecDepth 100000 in
theorem zcp (a b : Int) (w : World) : Calls Tryz.prog 130 #[wval a b] w (zY (.bool (MayB a b)) w) := by
 go_enter Tryz.func130, Tryz.ntmps130
 unfold wval
 go_wp2
 all_goals go_ret
 all_goals refine ⟨zZ ?_, bl1 _ _⟩
 all_goals unfold MayB
 all_goals first | (symm; rw [decide_eq_true_eq]; omega) | (symm; rw [decide_eq_false_iff_not]; omega) | (rw [decide_eq_decide]; omega)
set_option maxRecDepth 100000 in
theorem zja (a b c d : Int) (w : World) (h1 : -4611686018427387904 <= a) (h2 : a <= 4611686018427387904) (h3 : 0 <= b) (h4 : b <= 4294967295) (h5 : -4611686018427387904 <= c) (h6 : c <= 4611686018427387000) (h7 : 0 <= d) (h8 : d <= 4294967295) :
  Calls Tryz.prog 127 #[wval a b, wval c d] w (zY (wval (a + c + (b + d) / 4294967296) ((b + d) % 4294967296)) w) := by
 go_enter Tryz.func127, Tryz.ntmps127
 unfold wval
 go_wp2
 exact bodyPost_ret (v := wval (a + c + (b + d) / 4294967296) ((b + d) % 4294967296)) (by simp [results, Tryz.results127, go_sem, wval, zff]) rfl ⟨rfl, zI⟩
set_option maxRecDepth 100000 in
theorem ziU (a b : Int) (w : World) (h : MayB a b = true) : Calls Tryz.prog 129 #[wval a b] w (zY (.tuple #[wval a b, .int .i64 0]) w) := by
 go_enter Tryz.func129, Tryz.ntmps129
 unfold wval
 go_wp2_with fail
 refine (zcp a b _).mono ?_
 rintro e w1 ⟨rfl, hb1⟩
 obtain ⟨hc1, hf1⟩ := zk0 hb1; have hs1 := hb1.size
 go_wp2
 exact bodyPost_ret (v := .tuple #[wval a b, .int .i64 0]) (by simp [results, Tryz.results129, go_sem, wval, hc1]; done) rfl ⟨rfl, zI⟩
set_option maxRecDepth 100000 in
theorem zi3 (a b : Int) (w : World) (h : MayB a b = false) : Calls Tryz.prog 129 #[wval a b] w (zY (.tuple #[wval 0 0, .int .i64 14]) w) := by
 go_enter Tryz.func129, Tryz.ntmps129
 unfold wval
 go_wp2_with fail
 refine (zcp a b _).mono ?_
 rintro e w1 ⟨rfl, hb1⟩
 obtain ⟨hc1, hf1⟩ := zk0 hb1; have hs1 := hb1.size
 go_wp2
 exact bodyPost_ret (v := .tuple #[wval 0 0, .int .i64 14]) (by simp [results, Tryz.results129, go_sem, wval, hc1]; done) rfl ⟨rfl, zI⟩
theorem zgg {a b : Int} (h : MayB a b = true) : 0 <= b /\ b <= 4294967295 /\ -1099511627776 <= a /\ a <= 1099511627776 := by
 unfold MayB at h; rw [decide_eq_true_eq] at h; exact h
theorem ziv (a b : Int) (w : World) : Calls Tryz.prog 129 #[wval a b] w (zY (.tuple (if MayB a b then #[wval a b, .int .i64 0] else #[wval 0 0, .int .i64 14])) w) := by
 by_cases h : MayB a b = true
 ·rw [if_pos h]; exact ziU a b w h
 ·rw [if_neg h]; exact zi3 a b w (by simpa using h)
def zl5 (a b : Int) : Array Value := if MayB a b then #[wval a b, .int .i64 0] else #[wval 0 0, .int .i64 14]
set_option maxRecDepth 100000 in
set_option maxHeartbeats 400000 in
theorem zjs (a b : Int) (w : World) (h : MayB a b = true) (h1 : -2147483648 <= a) (h2 : a < 2147483648) : Calls Tryz.prog 102 #[wval a b] w (zY (.tuple #[.int .i64 (a * 4294967296 + b), .int .i64 0]) w) := by
 go_enter Tryz.func102, Tryz.ntmps102
 unfold wval
 go_wp2_with fail
 refine (zcp a b _).mono ?_
 rintro e w1 ⟨rfl, hb1⟩
 obtain ⟨hc1, hf1⟩ := zk0 hb1; have hs1 := hb1.size
 have hm := zgg h
 go_wp2
 rw [show Go.bits .or .i64 (a * 4294967296) b = a * 4294967296 + b by rw [zgE _ _ (by omega) (by omega), IntKind.wrap_i64]; omega]
 have e1 : (a * 4294967296 + b) / 4294967296 = a := by omega
 have e2 : (a * 4294967296 + b) % 4294967296 = b := by omega
 generalize hN : a * 4294967296 + b = N at e1 e2
 clear hm h1 h2
 have HN := hid hN; clear hN
 have hx := zeh N
 rw [e1, e2] at hx
 unfold wval at hx
 have HX := hid hx
 clear hx e1 e2
 go_region_held3 (fun w' => w'.cell? ⟨w.heap.size, 0, none⟩ = some (.int .i64 a) /\ w'.cell? ⟨w.heap.size, 1, none⟩ = some (.int .i64 b)) (go_keep)
  ((go_at_call 128; refine (HX.out _).mono ?_; rintro e w2 ⟨rfl, hb2⟩; have hm2 := Below.mono hb2 (Nat.le_trans hs1 (by simp)); obtain ⟨hc2, hf2⟩ := zk0 hm2; have hs2 := Nat.le_trans (Nat.le_trans hs1 (by simp)) hb2.size))
 go_wp2
 go_ret2
 exact ⟨by rw [HN.out]; rfl, zI⟩
set_option maxRecDepth 100000 in
set_option maxHeartbeats 400000 in
theorem zlF (a b : Int) (w : World) (h : MayB a b = true) (h1 : a < -2147483648 \/ 2147483648 <= a) : Calls Tryz.prog 102 #[wval a b] w (zY (.tuple #[.int .i64 0, .int .i64 14]) w) := by
 have HH := hid h1; clear h1
 go_enter Tryz.func102, Tryz.ntmps102
 unfold wval
 go_wp2_with fail
 refine (zcp a b _).mono ?_
 rintro e w1 ⟨rfl, hb1⟩
 obtain ⟨hc1, hf1⟩ := zk0 hb1; have hs1 := hb1.size
 have hm := zgg h
 have HM := hid hm; clear hm
 go_wp2
 have hm := HM.out
 rw [show Go.bits .or .i64 (wrap64 (a * 4294967296)) b = IntKind.i64.wrap (a * 4294967296 + b) by rw [znB]; exact zft a b (by omega) (by omega)]
 generalize hN : IntKind.i64.wrap (a * 4294967296 + b) = N
 rw [IntKind.wrap_i64] at hN
 have hx := zeh N
 have hne : (N / 4294967296 == a) = false := by
  rw [beq_eq_false_iff_ne]
  have := HH.out
  omega
 clear hm
 generalize N / 4294967296 = A at hx hne
 generalize N % 4294967296 = B at hx
 unfold wval at hx
 have HX := hid hx
 have HN := hid hN; clear hN hx
 go_region_held3 (fun w' => w'.cell? ⟨w.heap.size, 0, none⟩ = some (.int .i64 a) /\ w'.cell? ⟨w.heap.size, 1, none⟩ = some (.int .i64 b)) (go_keep)
  ((go_at_call 128; refine (HX.out _).mono ?_; rintro e w2 ⟨rfl, hb2⟩; have hm2 := Below.mono hb2 (Nat.le_trans hs1 (by simp)); obtain ⟨hc2, hf2⟩ := zk0 hm2; have hs2 := Nat.le_trans (Nat.le_trans hs1 (by simp)) hb2.size))
 go_wp2
 go_ret2
 exact ⟨rfl, zI⟩
theorem znH (x y : Int) : x / 4294967296 + y / 4294967296 + (x % 4294967296 + y % 4294967296) / 4294967296 = (x + y) / 4294967296 /\ (x % 4294967296 + y % 4294967296) % 4294967296 = (x + y) % 4294967296 := by omega
theorem zlz (l : List Int) (hr : ∀ x ∈ l, -9223372036854775808 <= x /\ x <= 9223372036854775807) : -9223372036854775808 * (l.length : Int) <= l.sum /\ l.sum <= 9223372036854775808 * (l.length : Int) := by
 induction l with
 | nil => simp
 | cons x l ih =>
   have h1 := hr x (by simp)
   have h2 := ih (fun y hy => hr y (by simp [hy]))
   simp only [List.sum_cons, List.length_cons]
   omega
theorem zgI (l : List Int) (k : Nat) (hk : k < l.length) : (l.take (k + 1)).sum = (l.take k).sum + l.getD k 0 := by
 rw [List.take_succ_eq_append_getElem hk, List.sum_append, List.getD_eq_getElem?_getD, List.getElem?_eq_getElem hk]
 simp
def TotRel (l : List Int) (w : World) (i : Value) (wr : World) : Prop :=
 ∃ k : Nat, k <= l.length /\ i = .int .i64 k /\ wr.cell? ⟨w.heap.size + 1, 0, none⟩ = some (.int .i64 ((l.take k).sum / 4294967296)) /\ wr.cell? ⟨w.heap.size + 1, 1, none⟩ = some (.int .i64 ((l.take k).sum % 4294967296)) /\
  Below (w.heap.size + 1) ((w.alloc (.cells #[.int .i64 0, .int .i64 0] 156)).alloc (.cells #[.int .i64 0, .int .i64 0] 156)) wr /\ wr.frozen? ⟨w.heap.size + 1, 0, none⟩ = false /\ wr.frozen? ⟨w.heap.size + 1, 1, none⟩ = false
set_option maxRecDepth 100000 in
set_option maxHeartbeats 800000 in
theorem zdX (v : Value) (l : List Int) (w : World) (hl : l.length <= 1073741824) (hv : Sl w w.heap.size v (zk l)) (hr : ∀ x ∈ l, -9223372036854775808 <= x /\ x <= 9223372036854775807) :
  Calls Tryz.prog 101 #[v] w (zY (.tuple (zl5 (l.sum / 4294967296) (l.sum % 4294967296))) w) := by
 obtain ⟨A, c, rfl, hc1, hc2, hA⟩ := hv
 simp only [zaf] at *
 have HA := hid hA; have HR := hid hr
 clear hA hr
 go_enter Tryz.func101, Tryz.ntmps101
 go_wp2
 go_loopw [9] (fun i wr => TotRel l w i wr) (fun i _ => l.length - (intOf i).toNat)
 case atStart => exact ⟨0, by omega, rfl, by simp [go_sem], by simp [go_sem], Below.refl _ _, by simp [go_sem], by simp [go_sem]⟩
 case round =>
  obtain ⟨k, hk, rfl, q0, q1, hb, f0, f1⟩ := hrel
  have hbs := hb.size
  simp at hbs
  have hl0 : w.heap.size < wr.heap.size := by omega
  have hl1 : w.heap.size + 1 < wr.heap.size := by omega
  by_cases hlt : k < l.length
  ·obtain ⟨b, off, rfl, hbl, hcell⟩ := HA.out (by omega)
   have g1 : wr.cell? ⟨b, off + k, none⟩ = some (.int .i64 (l.getD k 0)) := by
    rw [(hb.cell (p := ⟨b, off + k, none⟩) (by show b < _; omega))]
    rw [World.cell?_alloc_past _ _ _ (by simp; omega), World.cell?_alloc_past _ _ _ (by omega)]
    refine hcell k _ ?_
    simp [zk, List.getElem?_eq_getElem hlt]
   have hx := HR.out (l.getD k 0) (by rw [List.getD_eq_getElem?_getD, List.getElem?_eq_getElem hlt]; simp)
   have hs := zlz (l.take k) (fun x hx => HR.out x (List.mem_of_mem_take hx))
   rw [List.length_take, Nat.min_eq_left hk] at hs
   have hsn := zgI l k hlt
   have hst := znH (l.take k).sum (l.getD k 0)
   rw [<- hsn] at hst
   generalize l.getD k 0 = x at *
   generalize (l.take k).sum = s at *
   generalize hs' : (l.take (k + 1)).sum = s' at *
   have HS' := hid hs'; clear hs'
   have hsum := fun W => zja (s / 4294967296) (s % 4294967296) (x / 4294967296) (x % 4294967296) W (by omega) (by omega) (by omega) (by omega) (by omega) (by omega) (by omega) (by omega)
   rw [hst.1, hst.2] at hsum
   have HS := hid hsum
   clear hsum hst hsn hs hx hcell
   have hof := zeh x
   generalize x / 4294967296 = xh at *
   generalize x % 4294967296 = xl at *
   generalize s / 4294967296 = sh at *
   generalize s % 4294967296 = sl at *
   have HO := hid hof; clear hof
   unfold wval at HS HO
   go_wp2
   go_region_with (first | (go_at_call 128; refine (HO.out _).mono ?_; rintro e w2 ⟨rfl, hb2⟩; have z0 := zc hb2 hl1 q0; have z1 := zc hb2 hl1 q1) | (go_at_call 127; refine (HS.out _).mono ?_; rintro e w3 ⟨rfl, hb3⟩; have z2 := zc (hb3.mono hb2.size) hl1 z0; have z3 := zc (hb3.mono hb2.size) hl1 z1; have z4 := zy (hb3.mono hb2.size) hl1 (zy hb2 hl1 f0); have z5 := zy (hb3.mono hb2.size) hl1 (zy hb2 hl1 f1)))
   all_goals go_wp2
   all_goals go_roundw
   all_goals first | (case measure => simp [intOf]; omega) | skip
   all_goals
    refine ⟨k + 1, by omega, by go_num, by rw [HS'.out]; simp [go_sem, z2], by rw [HS'.out]; simp [go_sem, z3], ?_, by simp [go_sem, z4], by simp [go_sem, z5]⟩
    have hb' := hb.trans ((show Below wr.heap.size wr w3 from ((Below.refl _ wr).drew.trans hb2).trans (hb3.mono hb2.size)).mono (by omega))
    exact (hb'.setCell (by simp) _).setCell (by simp) _
  ·obtain rfl : k = l.length := by omega
   rw [List.take_length] at q0 q1
   generalize hX : l.sum / 4294967296 = X at *
   generalize hY : l.sum % 4294967296 = Y at *
   have HX := hid hX; have HY := hid hY
   clear hX hY
   have p0 : wr.cell? ⟨w.heap.size, 0, none⟩ = some (.int .i64 0) := (hb.cell (p := ⟨w.heap.size, 0, none⟩) (by simp)).trans (by simp [go_sem])
   have p1 : wr.cell? ⟨w.heap.size, 1, none⟩ = some (.int .i64 0) := (hb.cell (p := ⟨w.heap.size, 1, none⟩) (by simp)).trans (by simp [go_sem])
   have p2 : wr.frozen? ⟨w.heap.size, 0, none⟩ = false := (hb.frozen (p := ⟨w.heap.size, 0, none⟩) (by simp)).trans (by simp [go_sem])
   have p3 : wr.frozen? ⟨w.heap.size, 1, none⟩ = false := (hb.frozen (p := ⟨w.heap.size, 1, none⟩) (by simp)).trans (by simp [go_sem])
   go_wp2_with fail
   refine (ziv X Y _).mono ?_
   rintro e w1 ⟨rfl, hb1⟩
   have y0 := zc hb1 hl0 p0
   have y1 := zc hb1 hl0 p1
   have y2 := zy hb1 hl0 p2
   have y3 := zy hb1 hl0 p3
   have hbw : Below w.heap.size w wr := (show Below w.heap.size w _ from ((bl1 w _).alloc (by simp) _)).trans (hb.mono (by omega))
   unfold zl5
   by_cases h3 : MayB X Y = true
   ·rw [if_pos h3]
    unfold wval
    go_wp2
    exact bodyPost_ret (v := .tuple #[wval X Y, .int .i64 0]) (by simp [results, Tryz.results101, go_sem, wval, y0, y1]; done) rfl ⟨by unfold zl5; rw [if_pos h3], zI⟩
   ·rw [if_neg h3]
    unfold wval
    go_wp2
    exact bodyPost_ret (v := .tuple #[wval 0 0, .int .i64 14]) (by simp [results, Tryz.results101, go_sem, wval, y0, y1]; done) rfl ⟨by unfold zl5; rw [if_neg h3], zI⟩
def cmpI (a b : Int) : Int := if a < b then -1 else if b < a then 1 else 0
set_option maxRecDepth 100000 in
theorem zmW (n : Int) (w : World) : Calls Tryz.prog 140 #[.int .i64 n] w fun e w' => e = .returned (.bool false) /\ w' = w := by
 have h : (n != n) = false := by simp
 go_enter Tryz.func140, Tryz.ntmps140
 go_wp2
 go_ret
 exact ⟨rfl, rfl⟩
set_option maxRecDepth 100000 in
theorem zdn (a b : Int) (w : World) : Calls Tryz.prog 133 #[.int .i64 a, .int .i64 b] w fun e w' => e = .returned (.int .i64 (cmpI a b)) /\ w' = w := by
 go_enter Tryz.func133, Tryz.ntmps133
 go_wp2_with (go_at_call 140; refine (zmW _ _).mono ?_; rintro e w1 ⟨rfl, rfl⟩)
 all_goals go_ret
 all_goals refine ⟨zd8 ?_, rfl⟩
 all_goals unfold cmpI
 all_goals first | (rw [if_pos (by omega)]; done) | (rw [if_neg (by omega), if_pos (by omega)]; done) | (rw [if_neg (by omega), if_neg (by omega)]; done)
def zaZ (w : World) (B : Nat) (v : Value) (c : zp) : Prop :=
 ∃ v1 v2 v3, v = .agg #[.int .i64 c.n, v1, v2, v3] /\ Sl w B v1 (zk c.s) /\ Sl w B v2 (zk c.lo) /\ Sl w B v3 (zk c.hi)
theorem zaZ.below {w w' : World} {B : Nat} {v : Value} {c : zp} (h : zaZ w B v c) (hb : Below B w w') : zaZ w' B v c := by
 obtain ⟨v1, v2, v3, e, h1, h2, h3⟩ := h
 exact ⟨v1, v2, v3, e, h1.below hb, h2.below hb, h3.below hb⟩
theorem zaZ.more {w : World} {B B' : Nat} {v : Value} {c : zp} (h : zaZ w B v c) (hb : B <= B') : zaZ w B' v c := by
 obtain ⟨v1, v2, v3, e, h1, h2, h3⟩ := h
 exact ⟨v1, v2, v3, e, h1.more hb, h2.more hb, h3.more hb⟩
theorem zaZ.nil_ {w : World} {B : Nat} : zaZ w B (.agg #[.int .i64 0, .slice none 0 0, .slice none 0 0, .slice none 0 0]) nilC := ⟨_, _, _, rfl, Sl.nil_, Sl.nil_, Sl.nil_⟩
theorem Sl.formI {w : World} {B : Nat} {v : Value} {l : List Int} (h : Sl w B v (zk l)) : ∃ A c, v = .slice A l.length c /\ l.length <= c /\ c <= maxLen := by
 obtain ⟨A, c, rfl, h1, h2, -⟩ := h
 rw [zaf] at h1 ⊢
 exact ⟨A, c, rfl, h1, h2⟩
theorem Sl.int {w : World} {B n c : Nat} {A : Option Addr} {l : List Int} {k : Nat} (h : Sl w B (.slice A n c) (zk l)) (hk : k < l.length) :
  ∃ b off, A = some ⟨b, off, none⟩ /\ b < B /\ w.cell? ⟨b, off + k, none⟩ = some (.int .i64 (l.getD k 0)) := by
 obtain ⟨A', c', e, h1, h2, h3⟩ := h
 injection e with e1 _ _
 subst e1
 exact Sl.of_int h3 hk
theorem zP (l : List Int) (k : Nat) (hk : k < l.length) : l.take (k + 1) = l.take k ++ [l.getD k 0] := by
 rw [List.take_succ_eq_append_getElem hk, List.getD_eq_getElem?_getD, List.getElem?_eq_getElem hk]; rfl
theorem zqj {l r : List Int} {k : Nat} (h : l.getD k 0 ≠ r.getD k 0) : l ≠ r := fun e => h (by rw [e])
set_option maxRecDepth 100000 in
theorem zgt (x m : Int) (w : World) (h0 : 0 <= m) (h1 : m <= 4611686018427387904) :
  Calls Tryz.prog 137 #[.int .i64 x, .int .i64 m] w (za5 (.bool (inB x m)) w) := by
 have hu : inB x m = (decide (-m <= x) && decide (x <= m)) := rfl
 rw [hu]
 clear hu
 go_enter Tryz.func137, Tryz.ntmps137
 go_wp2
 all_goals go_ret
 all_goals refine ⟨zZ ?_, Qu.refl _⟩
 all_goals simp [*] <;> omega
set_option maxRecDepth 100000 in
theorem zeb (x m : Int) (w : World) (h0 : 0 <= m) (h1 : m <= 4611686018427387904) :
  Calls Tryz.prog 99 #[.int .i64 x, .int .i64 m] w (za5 (.bool (inB x m)) w) := by
 have hu : inB x m = (decide (-m <= x) && decide (x <= m)) := rfl
 rw [hu]
 clear hu
 go_enter Tryz.func99, Tryz.ntmps99
 go_wp2
 all_goals go_ret
 all_goals refine ⟨zZ ?_, Qu.refl _⟩
 all_goals simp [*] <;> omega
def EqRel (l r : List Int) (w : World) (i : Value) (wr : World) : Prop := ∃ k : Nat, k <= l.length /\ i = .int .i64 k /\ l.take k = r.take k /\ Qu w wr
structure Bld (w : World) (H C : Nat) (n : Int) (V : Nat -> Value) (X : Nat -> List Int) : Prop where
 lt : C < w.heap.size
 hs : H <= w.heap.size
 c0 : w.cell? ⟨C, 0, none⟩ = some (.int .i64 n)
 cj : ∀ j, 1 <= j -> j <= 3 -> w.cell? ⟨C, j, none⟩ = some (V j)
 fz : ∀ j, j < 4 -> w.frozen? ⟨C, j, none⟩ = false
 own : ∀ j, 1 <= j -> j <= 3 -> w.ownsRow H 3 1 (V j) (X j).length (zk (X j))
 ne : ∀ i j g, 1 <= i -> i <= 3 -> 1 <= j -> j <= 3 -> i ≠ j -> (V i).ownBlock = some g -> (V j).ownBlock ≠ some g
 nC : ∀ j, 1 <= j -> j <= 3 -> (V j).ownBlock ≠ some C
def upd {α : Type} (f : Nat -> α) (j : Nat) (x : α) : Nat -> α := fun i => if i = j then x else f i
theorem zco {α : Type} (f : Nat -> α) (j : Nat) (x : α) : upd f j x j = x := if_pos rfl
theorem zey {α : Type} (f : Nat -> α) {i j : Nat} (x : α) (h : i ≠ j) : upd f j x i = f i := if_neg h
theorem Bld.kept {w w' : World} {H C : Nat} {n : Int} {V : Nat -> Value} {X : Nat -> List Int} (h : Bld w H C n V X) (hb : Below w.heap.size w w') : Bld w' H C n V X :=
 ⟨Nat.lt_of_lt_of_le h.lt hb.size, Nat.le_trans h.hs hb.size, zc hb h.lt h.c0, fun j h1 h2 => zc hb h.lt (h.cj j h1 h2), fun j hj => zy hb h.lt (h.fz j hj),
  fun j h1 h2 => zo (h.own j h1 h2) (fun g hg => hb.block g ((h.own j h1 h2).lt g hg).2), h.ne, h.nC⟩
theorem Bld.step {wr wa w1 : World} {H C m : Nat} {n : Int} {V : Nat -> Value} {X : Nat -> List Int} {v' : Value} {news : List Int} (h : Bld wr H C n V X) (j : Nat) (h1 : 1 <= j) (h3 : j <= 3) (hb : Below wr.heap.size wr wa)
  (hown : w1.ownsRow H 3 1 v' m (zk (X j) ++ zk news)) (hg : wa.grownBy w1 (V j).ownBlock) (hat : v'.ownBlock = (V j).ownBlock \/ v'.ownBlock = some wa.heap.size) :
  w1.cell? ⟨C, j, none⟩ = some (V j) /\ w1.frozen? ⟨C, j, none⟩ = false /\ Bld (w1.setCell ⟨C, j, none⟩ v') H C n (upd V j v') (upd X j (X j ++ news)) /\ (∀ B w, B <= C -> B <= H -> Below B w wr -> Below B w (w1.setCell ⟨C, j, none⟩ v')) := by
 have ha := h.kept hb
 have hlt := h.lt
 have hsb0 := hb.size
 have hsa := ha.hs
 have hgs := hg.size
 have hbl : ∀ g, (V j).ownBlock = some g -> H <= g /\ g < wr.heap.size := fun g hg => (h.own j h1 h3).lt g hg
 have hk : ∀ g, g < wa.heap.size -> (V j).ownBlock ≠ some g -> w1.heap[g]? = wa.heap[g]? := fun g hg' hn => hg.block g hg' (fun e => hn e.symm)
 have hC : w1.heap[C]? = wa.heap[C]? := hk C (by omega) (fun e => h.nC j h1 h3 e)
 have hcell : ∀ i v, wa.cell? ⟨C, i, none⟩ = some v -> w1.cell? ⟨C, i, none⟩ = some v := fun i v hv => (World.cell?_of_block (a := ⟨C, i, none⟩) hC).trans hv
 have hfz : ∀ i, i < 4 -> w1.frozen? ⟨C, i, none⟩ = false := fun i hi => (World.frozen?_of_block (a := ⟨C, i, none⟩) hC).trans (ha.fz i hi)
 have hfar : ∀ g, g ≠ C -> (w1.setCell ⟨C, j, none⟩ v').heap[g]? = w1.heap[g]? := fun g hg => Below.heap_setCell _ _ _ g (by simpa using hg)
 have hsz : (w1.setCell ⟨C, j, none⟩ v').heap.size = w1.heap.size := by simp [World.setCell]
 have hsb := hb.size
 have hsr := h.hs
 have hC1 : C < w1.heap.size := by omega
 have hnC' : v'.ownBlock ≠ some C := fun e => by
  rcases hat with e' | e'
  ·exact h.nC j h1 h3 (e' ▸ e)
  ·rw [e'] at e; injection e with e; omega
 have hlen : m = (X j ++ news).length := by
  have := hown.1; simp only [List.length_append, zaf] at this ⊢; omega
 have hne' : ∀ i g, 1 <= i -> i <= 3 -> i ≠ j -> (V i).ownBlock = some g -> v'.ownBlock ≠ some g := fun i g i1 i3 hij hg h' => by
  rcases hat with e | e
  ·exact h.ne i j g i1 i3 h1 h3 hij hg (e ▸ h')
  ·have := (h.own i i1 i3).lt g hg; rw [e] at h'; injection h' with h'; omega
 refine ⟨hcell j _ (ha.cj j h1 h3), hfz j (by omega), ⟨by rw [hsz]; omega, by rw [hsz]; omega, zb (by omega) (hcell 0 _ ha.c0), fun i i1 i3 => ?_, fun i hi => frozen_far (hfz i hi), fun i i1 i3 => ?_, fun i k g i1 i3 k1 k3 hik hg' => ?_, fun i i1 i3 => ?_⟩, fun B w hB hBH hw => ?_⟩
 ·by_cases hij : i = j
  ·subst hij; rw [zco]; exact zt (hcell i _ (ha.cj i h1 h3))
  ·rw [zey _ _ hij]; exact zb (by omega) (hcell i _ (ha.cj i i1 i3))
 ·by_cases hij : i = j
  ·subst hij; rw [zco, zco, <- hlen]
   have e : zk (X i ++ news) = zk (X i) ++ zk news := by simp [zk]
   rw [e]
   exact zo hown (fun g hg' => hfar g (fun e => hnC' (e ▸ hg')))
  ·rw [zey _ _ hij, zey _ _ hij]
   refine zo (h.own i i1 i3) (fun g hg' => ?_)
   have hl := (h.own i i1 i3).lt g hg'
   exact (hfar g (fun e => h.nC i i1 i3 (e ▸ hg'))).trans ((hk g (by omega) (h.ne i j g i1 i3 h1 h3 hij hg')).trans (hb.block g hl.2))
 ·by_cases hij : i = j
  ·subst hij
   rw [zco] at hg'
   rw [zey _ _ (fun e => hik e.symm)]
   exact fun e => hne' k g k1 k3 (fun e => hik e.symm) e hg'
  ·rw [zey _ _ hij] at hg'
   by_cases hkj : k = j
   ·subst hkj; rw [zco]; exact hne' i g i1 i3 hij hg'
   ·rw [zey _ _ hkj]; exact h.ne i k g i1 i3 k1 k3 hik hg'
 ·by_cases hij : i = j
  ·subst hij; rw [zco]; exact hnC'
  ·rw [zey _ _ hij]; exact h.nC i i1 i3
 ·have hw' : Below B w wa := hw.trans (hb.mono (by omega))
  have h2 : Below B w w1 := hw'.grown hg (by omega) (fun g hg' => by have := hbl g hg'; omega)
  exact h2.trans ((Upd.setCell C j w1 v').below hB hC1)
theorem Bld.read {w : World} {H C : Nat} {n : Int} {V : Nat -> Value} {X : Nat -> List Int} (h : Bld w H C n V X) : zaZ w w.heap.size (.agg #[.int .i64 n, V 1, V 2, V 3]) ⟨n, X 1, X 2, X 3⟩ :=
 ⟨V 1, V 2, V 3, rfl, Sl.of_own (h.own 1 (by omega) (by omega)), Sl.of_own (h.own 2 (by omega) (by omega)), Sl.of_own (h.own 3 (by omega) (by omega))⟩
theorem Bld.start {w : World} {C : Nat} {n : Int} (hC : w.heap.size = C) : Bld (w.alloc (.cells #[.int .i64 n, .slice none 0 0, .slice none 0 0, .slice none 0 0] 125)) (C + 1) C n (fun _ => .slice none 0 0) (fun _ => []) := by
 subst hC
 refine ⟨by simp, by simp, by simp [go_sem], fun j h1 h3 => ?_, fun j hj => by simp [go_sem], fun j _ _ => World.ownsRow_nil _ _ _ _, fun i j g _ _ _ _ _ hg => by simp [Value.ownBlock] at hg, fun j _ _ e => by simp [Value.ownBlock] at e⟩
 rw [World.cell?_alloc_at _ _ _ _ rfl]
 obtain rfl | rfl | rfl : j = 1 \/ j = 2 \/ j = 3 := by omega
 all_goals rfl
theorem zbv {w : World} {H C : Nat} {n : Int} {V V' : Nat -> Value} {X X' : Nat -> List Int} (h : Bld w H C n V X) (hV : ∀ j, 1 <= j -> j <= 3 -> V j = V' j) (hX : ∀ j, 1 <= j -> j <= 3 -> X j = X' j) : Bld w H C n V' X' :=
 ⟨h.lt, h.hs, h.c0, fun j h1 h3 => by rw [<- hV j h1 h3]; exact h.cj j h1 h3, h.fz, fun j h1 h3 => by rw [<- hV j h1 h3, <- hX j h1 h3]; exact h.own j h1 h3, fun i j g i1 i3 j1 j3 hij hg => by
  rw [<- hV i i1 i3] at hg; rw [<- hV j j1 j3]; exact h.ne i j g i1 i3 j1 j3 hij hg, fun j h1 h3 => by rw [<- hV j h1 h3]; exact h.nC j h1 h3⟩
theorem Bld.setN {w : World} {H C : Nat} {n : Int} {V : Nat -> Value} {X : Nat -> List Int} (h : Bld w H C n V X) (m : Int) : Bld (w.setCell ⟨C, 0, none⟩ (.int .i64 m)) H C m V X :=
 ⟨by simpa [World.setCell] using h.lt, by simpa [World.setCell] using h.hs, zt h.c0, fun j h1 h3 => zb (by omega) (h.cj j h1 h3), fun j hj => frozen_far (h.fz j hj),
  fun j h1 h3 => zo (h.own j h1 h3) (fun g hg => Below.heap_setCell _ _ _ g (fun e => h.nC j h1 h3 (by rw [hg, e]))), h.ne, h.nC⟩
theorem zno (l : List Int) (i : Nat) (x : Int) : (zk l).set i (.int .i64 x) = zk (l.set i x) := by unfold zk; rw [List.map_set]
theorem Bld.setAt {w : World} {H C : Nat} {n : Int} {V : Nat -> Value} {X : Nat -> List Int} (h : Bld w H C n V X) (j : Nat) (h1 : 1 <= j) (h3 : j <= 3) {g m c i : Nat} (hV : V j = .slice (some ⟨g, 0, none⟩) m c) (hi : i < (X j).length) (x : Int) :
  w.cell? ⟨g, i, none⟩ = some (.int .i64 ((X j).getD i 0)) /\ w.frozen? ⟨g, i, none⟩ = false /\ Bld (w.setCell ⟨g, i, none⟩ (.int .i64 x)) H C n V (Go.Proofs.YtgoapnkdcfcjgaaGreat.upd X j ((X j).set i x)) /\ (∀ B w0, B <= H -> Below B w0 w -> Below B w0 (w.setCell ⟨g, i, none⟩ (.int .i64 x))) := by
 have ho := h.own j h1 h3
 have hg : (V j).ownBlock = some g := by rw [hV]; rfl
 have hlt := ho.lt g hg
 have hm : m = (X j).length := by
  rcases ho.2 with ⟨e, _⟩ | ⟨_, _, _, e, _⟩
  ·rw [hV] at e; cases e
  ·rw [hV] at e; injection e
 rw [hV] at ho
 subst hm
 have hgC : g ≠ C := fun e => h.nC j h1 h3 (e ▸ hg)
 have hcell := ho.cellAt (g := g) i (by omega)
 have hxs : (zk (X j))[i]? = some (.int .i64 ((X j).getD i 0)) := by simp [zk, List.getElem?_eq_getElem hi]
 have hfar : ∀ k, k ≠ g -> (w.setCell ⟨g, i, none⟩ (.int .i64 x)).heap[k]? = w.heap[k]? := fun k hk => Below.heap_setCell _ _ _ k (by simpa using hk)
 have hst := (ho.stored i (.int .i64 x)).1
 refine ⟨hcell.trans hxs, ho.frozenAt i, ⟨by simpa [World.setCell] using h.lt, by simpa [World.setCell] using h.hs, cell_far hgC h.c0, fun k k1 k3 => cell_far hgC (h.cj k k1 k3), fun k hk => frozen_far (h.fz k hk), fun k k1 k3 => ?_, h.ne, h.nC⟩, fun B w0 hB hw => hw.trans ((Upd.setCell g i w _).below (by omega) (by omega))⟩
 by_cases hk : k = j
 ·subst hk
  rw [zco, hV, List.length_set, <- zno]
  exact hst
 ·rw [zey _ _ hk]
  exact zo (h.own k k1 k3) (fun q hq => hfar q (fun e => h.ne k j q k1 k3 h1 h3 hk hq (e ▸ hg)))
def OwnC (w : World) (H : Nat) (v : Value) (c : zp) : Prop :=
 ∃ v1 v2 v3, v = .agg #[.int .i64 c.n, v1, v2, v3] /\ w.ownsRow H 3 1 v1 c.s.length (zk c.s) /\ w.ownsRow H 3 1 v2 c.lo.length (zk c.lo) /\ w.ownsRow H 3 1 v3 c.hi.length (zk c.hi) /\
  (∀ g, v1.ownBlock = some g -> v2.ownBlock ≠ some g /\ v3.ownBlock ≠ some g) /\ ∀ g, v2.ownBlock = some g -> v3.ownBlock ≠ some g
def zg2 (c : zp) (w : World) (e : Ending) (w' : World) : Prop := ∃ v, e = .returned v /\ OwnC w' w.heap.size v c /\ Below w.heap.size w w'
theorem OwnC.read {w : World} {H : Nat} {v : Value} {c : zp} (h : OwnC w H v c) : zaZ w w.heap.size v c := by
 obtain ⟨v1, v2, v3, e, h1, h2, h3, -, -⟩ := h
 exact ⟨v1, v2, v3, e, Sl.of_own h1, Sl.of_own h2, Sl.of_own h3⟩
def V3 (v1 v2 v3 : Value) : Nat -> Value := fun j => if j = 1 then v1 else if j = 2 then v2 else v3
def X3 (c : zp) : Nat -> List Int := fun j => if j = 1 then c.s else if j = 2 then c.lo else c.hi
theorem zj8 {j : Nat} (h1 : 1 <= j) (h3 : j <= 3) : j = 1 \/ j = 2 \/ j = 3 := by omega
theorem OwnC.bld {w : World} {H : Nat} {v1 v2 v3 : Value} {c : zp} (h : OwnC w H (.agg #[.int .i64 c.n, v1, v2, v3]) c) (hH : H <= w.heap.size) (t : TypeId) {N : Nat} (hN : w.heap.size = N) :
  Bld (w.alloc (.cells #[.int .i64 c.n, v1, v2, v3] t)) H N c.n (V3 v1 v2 v3) (X3 c) := by
 subst hN
 obtain ⟨u1, u2, u3, e, h1, h2, h3, h4, h5⟩ := h
 obtain ⟨rfl, rfl, rfl⟩ : v1 = u1 /\ v2 = u2 /\ v3 = u3 := by simpa using e
 have hown : ∀ j, 1 <= j -> j <= 3 -> w.ownsRow H 3 1 (V3 v1 v2 v3 j) (X3 c j).length (zk (X3 c j)) := fun j a b => by
  obtain rfl | rfl | rfl := zj8 a b
  ·exact h1
  ·exact h2
  ·exact h3
 refine ⟨by simp, by simp; omega, by simp [go_sem], fun j a b => ?_, fun j hj => by simp [go_sem], fun j a b => (hown j a b).alloc _, fun i j g i1 i3 j1 j3 hij hg => ?_, fun j a b e => ?_⟩
 ·rw [World.cell?_alloc_at _ _ _ _ rfl]
  obtain rfl | rfl | rfl := zj8 a b <;> rfl
 ·obtain rfl | rfl | rfl := zj8 i1 i3 <;> obtain rfl | rfl | rfl := zj8 j1 j3
  all_goals first
   | exact absurd rfl hij
   | exact (h4 g hg).1
   | exact (h4 g hg).2
   | exact h5 g hg
   | exact fun e => (h4 g e).1 hg
   | exact fun e => (h4 g e).2 hg
   | exact fun e => h5 g e hg
 ·have := (hown j a b).lt _ e; omega
theorem Bld.ownC {w : World} {H C : Nat} {n : Int} {V : Nat -> Value} {X : Nat -> List Int} (h : Bld w H C n V X) : OwnC w H (.agg #[.int .i64 n, V 1, V 2, V 3]) ⟨n, X 1, X 2, X 3⟩ :=
 ⟨V 1, V 2, V 3, rfl, h.own 1 (by omega) (by omega), h.own 2 (by omega) (by omega), h.own 3 (by omega) (by omega),
  fun g hg => ⟨h.ne 1 2 g (by omega) (by omega) (by omega) (by omega) (by omega) hg, h.ne 1 3 g (by omega) (by omega) (by omega) (by omega) (by omega) hg⟩, fun g hg => h.ne 2 3 g (by omega) (by omega) (by omega) (by omega) (by omega) hg⟩
theorem zaK (w : World) (x : Value) (t : TypeId) {N : Nat} (hN : w.heap.size = N) : ∀ j u, [x][j]? = some u -> (w.alloc (.cells #[x] t)).cell? ((⟨N, 0, none⟩ : Addr).add j) = some u := by
 subst hN; exact cell_one_new w x t
theorem Bld.upd' {w w' : World} {H C b : Nat} {n : Int} {V : Nat -> Value} {X : Nat -> List Int} (h : Bld w H C n V X) (hu : Upd b w w') (hC : b ≠ C) (hH : ∀ j, 1 <= j -> j <= 3 -> (V j).ownBlock ≠ some b) : Bld w' H C n V X :=
 ⟨Nat.lt_of_lt_of_le h.lt hu.size, Nat.le_trans h.hs hu.size, hu.cellAt h.lt (fun e => hC e.symm) h.c0, fun j h1 h2 => hu.cellAt h.lt (fun e => hC e.symm) (h.cj j h1 h2), fun j hj => hu.frozenAt h.lt (fun e => hC e.symm) (h.fz j hj),
  fun j h1 h2 => zo (h.own j h1 h2) (fun g hg => hu.block g ((h.own j h1 h2).lt g hg).2 (fun e => hH j h1 h2 (e ▸ hg))), h.ne, h.nC⟩
theorem Bld.upd {w w' : World} {H C b : Nat} {n : Int} {V : Nat -> Value} {X : Nat -> List Int} (h : Bld w H C n V X) (hu : Upd b w w') (hC : b ≠ C) (hH : b < H) : Bld w' H C n V X :=
 h.upd' hu hC (fun j h1 h2 e => by have := (h.own j h1 h2).lt b e; omega)
theorem upd4 (b : Nat) (w : World) (v0 v1 v2 v3 : Value) : Upd b w ((((w.setCell ⟨b, 0, none⟩ v0).setCell ⟨b, 1, none⟩ v1).setCell ⟨b, 2, none⟩ v2).setCell ⟨b, 3, none⟩ v3) :=
 (((Upd.setCell b 0 _ _).trans (Upd.setCell b 1 _ _)).trans (Upd.setCell b 2 _ _)).trans (Upd.setCell b 3 _ _)
theorem zbk {p : Nat -> Prop} (h1 : p 1) (h2 : p 2) (h3 : p 3) : ∀ j, 1 <= j -> j <= 3 -> p j := fun j a b => by
 obtain rfl | rfl | rfl : j = 1 \/ j = 2 \/ j = 3 := by omega
 ·exact h1
 ·exact h2
 ·exact h3
structure Blk (w : World) (b : Nat) (v0 v1 v2 v3 : Value) : Prop where
 c0 : w.cell? ⟨b, 0, none⟩ = some v0
 c1 : w.cell? ⟨b, 1, none⟩ = some v1
 c2 : w.cell? ⟨b, 2, none⟩ = some v2
 c3 : w.cell? ⟨b, 3, none⟩ = some v3
 f0 : w.frozen? ⟨b, 0, none⟩ = false
 f1 : w.frozen? ⟨b, 1, none⟩ = false
 f2 : w.frozen? ⟨b, 2, none⟩ = false
 f3 : w.frozen? ⟨b, 3, none⟩ = false
theorem Blk.new (w : World) (v0 v1 v2 v3 : Value) (t : TypeId) : Blk (w.alloc (.cells #[v0, v1, v2, v3] t)) w.heap.size v0 v1 v2 v3 := by
 constructor <;> simp [go_sem]
theorem Blk.new' {w : World} {N : Nat} (v0 v1 v2 v3 : Value) (t : TypeId) (hN : w.heap.size = N) : Blk (w.alloc (.cells #[v0, v1, v2, v3] t)) N v0 v1 v2 v3 := by
 subst hN; exact Blk.new w v0 v1 v2 v3 t
theorem Blk.below {w w' : World} {b B : Nat} {v0 v1 v2 v3 : Value} (h : Blk w b v0 v1 v2 v3) (hb : Below B w w') (hlt : b < B) : Blk w' b v0 v1 v2 v3 :=
 ⟨zc hb hlt h.c0, zc hb hlt h.c1, zc hb hlt h.c2, zc hb hlt h.c3, zy hb hlt h.f0, zy hb hlt h.f1, zy hb hlt h.f2, zy hb hlt h.f3⟩
theorem Blk.qu {w w' : World} {b : Nat} {v0 v1 v2 v3 : Value} (h : Blk w b v0 v1 v2 v3) (k : Qu w w') : Blk w' b v0 v1 v2 v3 := by
 obtain ⟨n, rfl⟩ := k
 exact ⟨h.c0, h.c1, h.c2, h.c3, h.f0, h.f1, h.f2, h.f3⟩
theorem Blk.alloc {w : World} {b : Nat} {v0 v1 v2 v3 : Value} (h : Blk w b v0 v1 v2 v3) (hlt : b < w.heap.size) (o : Obj) : Blk (w.alloc o) b v0 v1 v2 v3 := h.below (bl1 w o) hlt
end Go.Proofs.YtgoapnkdcfcjgaaGreat
