/- 2 texts of this claim, in build order. -/
import Derived.Test.YtkgifbnkkmeoiaaGreatDoorPbkbinjci
import Derived.Test.YtkgifbnkkmeoiaaGreatDoorPnbddnjge
import Derived.Deep.RegionLaw
import Derived.BigQuiet
/- What is read of bytes: commands and entries. -/
namespace Go.Proofs.YtkgifbnkkmeoiaaGreatDoor
open Go.ChangeShapes Go.WideShapes Go.ChangeAt Go.RowKit
set_option linter.unusedVariables false
set_option linter.unusedSimpArgs false

def c0X : CmdX := (0, 0, 0, [])
def e0X : EntX := (0, 0, c0X)
def cmdR (l : List UInt8) (a : Nat) (e : Int) : CmdX × Nat × Int :=
  let o := rInt l a e 0 3
  let s := rInt l o.2.1 o.2.2 0 1099511627776
  let q := rInt l s.2.1 s.2.2 0 1099511627776
  let f := readB l q.2.1 q.2.2
  (if f.2.2 = 0 then (o.1, s.1, q.1, f.1) else c0X, f.2)
def entR (l : List UInt8) (a : Nat) (e : Int) : EntX × Nat × Int :=
  let i := rInt l a e 1 1099511627776
  let t := rInt l i.2.1 i.2.2 1 1099511627776
  let c := cmdR l t.2.1 t.2.2
  (if c.2.2 = 0 then (i.1, t.1, c.1) else e0X, c.2)
/-- A number that is read: where it is, once it is there. -/
theorem rInt_range (l : List UInt8) (a : Nat) (e least most : Int) (h : (rInt l a e least most).2.2 = 0) : e = 0 ∧ least ≤ (rInt l a e least most).1 ∧ (rInt l a e least most).1 ≤ most := by
  unfold rInt at h ⊢
  split at h
  · rename_i h1; exact absurd h h1
  · rename_i h1
    have he : e = 0 := by simpa using h1
    rw [if_neg h1]
    split at h
    · rename_i h2; exact absurd h h2
    · rename_i h2
      rw [if_neg h2]
      split at h
      · cases h
      · rename_i h3
        rw [if_neg h3]
        exact ⟨he, by show least ≤ (getInt (l.drop a)).1; omega, by show (getInt (l.drop a)).1 ≤ most; omega⟩
theorem rInt_at (l : List UInt8) (a : Nat) (e least most : Int) (ha : a ≤ l.length) : (rInt l a e least most).2.1 ≤ l.length ∧ InI64 (rInt l a e least most).1 ∨ True := .inr trivial
end Go.Proofs.YtkgifbnkkmeoiaaGreatDoor
/- session.PutCmd and session.PutEntry: what they put is what the plain functions say. -/
namespace Go.Proofs.YtkgifbnkkmeoiaaGreatDoor
open Go.ChangeShapes Go.WideShapes Go.ChangeAt Go.RowKit
set_option linter.unusedVariables false
set_option linter.unusedSimpArgs false

theorem numS_any (n a : Int) (w : World) : Calls Tryz.prog 46 #[.int .i64 n, .int .i64 a] w fun e w' => e = .returned (.bool (numB n a)) ∧ w = w' := by
  unfold numB
  go_enter Tryz.func46, Tryz.ntmps46
  have hc : (a ≤ n ∧ n ≤ 1099511627776) ∨ (a ≤ n ∧ ¬ n ≤ 1099511627776) ∨ ¬ a ≤ n := by omega
  rcases hc with ⟨h1, h2⟩ | ⟨h1, h2⟩ | h1
  · go_wp2
    go_ret
    exact ⟨by simp [h1, h2], rfl⟩
  · go_wp2
    go_ret
    exact ⟨by simp [h1, h2], rfl⟩
  · have hf : decide (a ≤ n ∧ n ≤ 1099511627776) = false := decide_eq_false (by omega)
    rw [hf]
    clear hf
    go_wp2
    go_ret
    exact ⟨rfl, rfl⟩
/-- What is put or refused, as one ending. -/
def Put1 (bs : List UInt8) (er : Int) (w : World) (e : Ending) (w' : World) : Prop :=
  ∃ u, e = .returned (.tuple #[u, .int .i64 er]) ∧ ((er = 0 ∧ Own8 w' w.heap.size u bs) ∨ (er ≠ 0 ∧ u = .slice none 0 0)) ∧ Below w.heap.size w w'
theorem PutFP.one {b : List UInt8} {l : List FactX} {w : World} {e : Ending} {w' : World} (h : PutFP b l w e w') : Put1 (b ++ putFacts l) (putE l) w e w' := by
  rcases h with ⟨h0, r, rfl, h1, h2⟩ | ⟨h0, rfl, h2⟩
  · exact ⟨r, by rw [h0], .inl ⟨h0, h1⟩, h2⟩
  · exact ⟨_, rfl, .inr ⟨h0, rfl⟩, h2⟩
theorem PutR.one {b bs : List UInt8} {er : Int} {w : World} {e : Ending} {w' : World} (h : PutR b bs er w e w') : Put1 (b ++ bs) er w e w' := by
  rcases h with ⟨h0, r, rfl, h1, h2⟩ | ⟨h0, rfl, h2⟩
  · exact ⟨r, by rw [h0], .inl ⟨h0, h1⟩, h2⟩
  · exact ⟨_, rfl, .inr ⟨h0, rfl⟩, h2⟩
theorem Put1.back {b bs : List UInt8} {er : Int} {w : World} {e : Ending} {w' : World} (h : Put1 (b ++ bs) er w e w') : PutR b bs er w e w' := by
  obtain ⟨u, rfl, h1 | h1, h2⟩ := h
  · exact .inl ⟨h1.1, u, by rw [h1.1], h1.2, h2⟩
  · exact .inr ⟨h1.1, by rw [h1.2], h2⟩
/-- .. from a world that only holds more. -/
theorem Put1.from_ {bs : List UInt8} {er : Int} {w w1 w' : World} {u : Value} (h : (er = 0 ∧ Own8 w' w1.heap.size u bs) ∨ (er ≠ 0 ∧ u = .slice none 0 0)) (hs : w.heap.size ≤ w1.heap.size) (hb : Below w.heap.size w w') : Put1 bs er w (.returned (.tuple #[u, .int .i64 er])) w' :=
  ⟨u, rfl, h.imp (fun h => ⟨h.1, h.2.less hs⟩) id, hb⟩
theorem errC_ways (op ses seq : Int) (fs : List FactX) : (op < 0 ∧ errC (op, ses, seq, fs) = 24) ∨ (¬ op < 0 ∧ 3 < op ∧ errC (op, ses, seq, fs) = 24) ∨ (¬ op < 0 ∧ ¬ 3 < op ∧ numB ses 0 = false ∧ errC (op, ses, seq, fs) = 1) ∨
    (¬ op < 0 ∧ ¬ 3 < op ∧ numB ses 0 = true ∧ numB seq 0 = false ∧ errC (op, ses, seq, fs) = 1) ∨ (¬ op < 0 ∧ ¬ 3 < op ∧ numB ses 0 = true ∧ numB seq 0 = true ∧ errC (op, ses, seq, fs) = putE fs) := by
  unfold errC
  simp only
  by_cases h1 : op < 0
  · exact .inl ⟨h1, if_pos (.inl h1)⟩
  by_cases h2 : 3 < op
  · exact .inr (.inl ⟨h1, h2, if_pos (.inr h2)⟩)
  rw [if_neg (by omega)]
  cases h3 : numB ses 0 with
  | false => exact .inr (.inr (.inl ⟨h1, h2, rfl, rfl⟩))
  | true =>
    cases h4 : numB seq 0 with
    | false => exact .inr (.inr (.inr (.inl ⟨h1, h2, rfl, rfl, rfl⟩)))
    | true => exact .inr (.inr (.inr (.inr ⟨h1, h2, rfl, rfl, rfl⟩)))
set_option maxRecDepth 100000 in
set_option maxHeartbeats 1600000 in
theorem putCmd_any (v x : Value) (b : List UInt8) (c : CmdX) (w : World) (hv : Sl w w.heap.size v (bvals b)) (hb0 : b.length ≤ 40000) (hx : CmdV w w.heap.size x c) :
    Calls Tryz.prog 47 #[v, x] w (PutR b (putC c) (errC c) w) := by
  obtain ⟨A, k, rfl, hF, hi1, hi2, hi3⟩ := hx
  obtain ⟨op, ses, seq, fs⟩ := c
  simp only at hi1 hi2 hi3 hF ⊢
  obtain ⟨W1, hW1⟩ : ∃ W1, W1 = w.alloc (.cells #[.int .i64 op, .int .i64 ses, .int .i64 seq, .slice A fs.length k] 47) := ⟨_, rfl⟩
  have c0 : W1.cell? ⟨w.heap.size, 0, none⟩ = some (.int .i64 op) := by rw [hW1]; simp [go_sem]
  have c1 : W1.cell? ⟨w.heap.size, 1, none⟩ = some (.int .i64 ses) := by rw [hW1]; simp [go_sem]
  have c2 : W1.cell? ⟨w.heap.size, 2, none⟩ = some (.int .i64 seq) := by rw [hW1]; simp [go_sem]
  have c3 : W1.cell? ⟨w.heap.size, 3, none⟩ = some (.slice A fs.length k) := by rw [hW1]; simp [go_sem]
  have hb1 : Below w.heap.size w W1 := by rw [hW1]; exact bl1 _ _
  have hz1 : W1.heap.size = w.heap.size + 1 := by rw [hW1]; simp
  obtain ⟨q, hq⟩ : ∃ q, q = w.heap.size := ⟨_, rfl⟩
  have HV := hid ((hv.below hb1).more hb1.size)
  have HF := hid (good_facts.on hF hb1)
  obtain ⟨Va, vc, rfl, -, -, -⟩ := id hv
  rw [bvals_len] at HV ⊢
  have HB1 := hid hb1; have HW1 := hid hW1
  have hq1 : q < W1.heap.size := by omega
  have HN := hid (fun n W => numS_any n 0 W)
  have HQ := hid hq.symm
  rw [← hq] at c0 c1 c2 c3 HB1
  clear hv hF hb1 hW1 hz1 hq
  rcases errC_ways op ses seq fs with ⟨h1, hE⟩ | ⟨h1, h2, hE⟩ | ⟨h1, h2, hs1, hE⟩ | ⟨h1, h2, hs1, hs2, hE⟩ | ⟨h1, h2, hs1, hs2, hE⟩
  · rw [hE]
    clear hE
    go_enter Tryz.func47, Tryz.ntmps47
    go_upto_region 1 with (fail)
    rw [← HW1.out, HQ.out]
    go_wp2
    go_ret2
    exact .inr ⟨by decide, rfl, by rw [HQ.out]; exact HB1.out⟩
  · rw [hE]
    clear hE
    go_enter Tryz.func47, Tryz.ntmps47
    go_upto_region 1 with (fail)
    rw [← HW1.out, HQ.out]
    go_wp2
    go_ret2
    exact .inr ⟨by decide, rfl, by rw [HQ.out]; exact HB1.out⟩
  · rw [hE]
    clear hE
    go_enter Tryz.func47, Tryz.ntmps47
    go_upto_region 1 with (fail)
    rw [← HW1.out, HQ.out]
    go_wp2_with fail
    refine (HN.out _ _).mono ?_
    rintro e w2 ⟨rfl, rfl⟩
    go_wp2
    go_ret2
    exact .inr ⟨by decide, rfl, by rw [HQ.out]; exact HB1.out⟩
  · rw [hE]
    clear hE
    go_enter Tryz.func47, Tryz.ntmps47
    go_upto_region 1 with (fail)
    rw [← HW1.out, HQ.out]
    go_wp2_with fail
    refine (HN.out _ _).mono ?_
    rintro e w2 ⟨rfl, rfl⟩
    go_wp2_with fail
    refine (HN.out _ _).mono ?_
    rintro e w2 ⟨rfl, rfl⟩
    go_wp2
    go_ret2
    exact .inr ⟨by decide, rfl, by rw [HQ.out]; exact HB1.out⟩
  · rw [hE]
    clear hE
    have a1 := putInt_le op
    have a2 := putInt_le ses
    have a3 := putInt_le seq
    obtain ⟨T, hT⟩ : ∃ T, T = putC (op, ses, seq, fs) := ⟨_, rfl⟩
    rw [← hT]
    have HT := hid (show b ++ T = b ++ putInt op ++ putInt ses ++ putInt seq ++ putFacts fs by rw [hT]; simp [putC])
    have hi1 := hid hi1; have hi2 := hid hi2; have hi3 := hid hi3
    clear hT
    go_enter Tryz.func47, Tryz.ntmps47
    go_upto_region 1 with (fail)
    rw [← HW1.out, HQ.out]
    go_wp2_with fail
    refine (HN.out _ _).mono ?_
    rintro e w2 ⟨rfl, rfl⟩
    go_wp2_with fail
    refine (HN.out _ _).mono ?_
    rintro e w2 ⟨rfl, rfl⟩
    go_upto_region 5 with (fail)
    have HC1 := hid (putI8 _ b op W1.drew (HV.out.qu' ⟨1, rfl⟩) (by omega) hi1.out)
    go_region_held3 (fun w' => w'.cell? ⟨q, 0, none⟩ = some (.int .i64 op) ∧ w'.cell? ⟨q, 1, none⟩ = some (.int .i64 ses) ∧ w'.cell? ⟨q, 2, none⟩ = some (.int .i64 seq) ∧ w'.cell? ⟨q, 3, none⟩ = some (.slice A fs.length k)) (go_keep)
      (first
        | ((with_reducible refine HC4.out.mono ?_); rintro e w8 h8; obtain ⟨v8, rfl, ho8, hb8⟩ := h8.one; have c0 := cellK hb8 (by omega) c0; have c1 := cellK hb8 (by omega) c1; have c2 := cellK hb8 (by omega) c2; have c3 := cellK hb8 (by omega) c3; have HO8 := hid ho8; have HB8 := hid (HB7.out.trans (hb8.mono HB7.out.size)); clear ho8 hb8 h8)
        | ((with_reducible refine HC3.out.mono ?_); rintro e w7 ⟨v7, rfl, ho7, hb7⟩; have hz7 := Nat.lt_of_lt_of_le hq6 hb7.size; have c0 := cellK hb7 (by omega) c0; have c1 := cellK hb7 (by omega) c1; have c2 := cellK hb7 (by omega) c2; have c3 := cellK hb7 (by omega) c3; have HB7 := hid (HB6.out.trans (hb7.mono HB6.out.size)); have HC4 := hid (putFacts_any v7 (.slice A fs.length k) (b ++ putInt op ++ putInt ses ++ putInt seq) fs w7 ho7.sl (by simp only [List.length_append]; omega) (good_facts.on HF.out HB7.out)); clear ho7 hb7)
        | ((with_reducible refine HC2.out.mono ?_); rintro e w6 ⟨v6, rfl, ho6, hb6⟩; have hq6 := Nat.lt_of_lt_of_le hq5 hb6.size; have c0 := cellK hb6 (by omega) c0; have c1 := cellK hb6 (by omega) c1; have c2 := cellK hb6 (by omega) c2; have c3 := cellK hb6 (by omega) c3; have HB6 := hid (HB5.out.trans (hb6.mono HB5.out.size)); have HC3 := hid (putI8 v6 (b ++ putInt op ++ putInt ses) seq w6 ho6.sl (by simp only [List.length_append]; omega) hi3.out); clear ho6 hb6)
        | ((with_reducible refine HC1.out.mono ?_); rintro e w5 ⟨v5, rfl, ho5, hb5⟩; have hd5 := (Below.refl W1.heap.size W1).drew.trans hb5; have hq5 := Nat.lt_of_lt_of_le hq1 hd5.size; have c0 := cellK hd5 (by omega) c0; have c1 := cellK hd5 (by omega) c1; have c2 := cellK hd5 (by omega) c2; have c3 := cellK hd5 (by omega) c3; have HB5 := hid hd5; have HC2 := hid (putI8 v5 (b ++ putInt op) ses w5 ho5.sl (by simp only [List.length_append]; omega) hi2.out); clear ho5 hb5 hd5))
    have z8 := HB7.out.size
    go_wp2
    go_ret2
    have hz := HB1.out.size
    refine Put1.back ?_
    rw [HT.out]
    exact Put1.from_ HO8.out (by have := HQ.out; omega) (by rw [HQ.out]; exact HB1.out.trans (HB8.out.mono (by omega)))
/-- How an entry may be refused. -/
theorem errN_ways (i t : Int) (c : CmdX) : (numB i 1 = false ∧ errN (i, t, c) = 1) ∨ (numB i 1 = true ∧ numB t 1 = false ∧ errN (i, t, c) = 1) ∨ (numB i 1 = true ∧ numB t 1 = true ∧ errN (i, t, c) = errC c) := by
  unfold errN
  simp only
  cases h3 : numB i 1 with
  | false => exact .inl ⟨rfl, rfl⟩
  | true =>
    cases h4 : numB t 1 with
    | false => exact .inr (.inl ⟨rfl, rfl, rfl⟩)
    | true => exact .inr (.inr ⟨rfl, rfl, rfl⟩)
set_option maxRecDepth 100000 in
set_option maxHeartbeats 1600000 in
theorem putEnt_any (v x : Value) (b : List UInt8) (c : EntX) (w : World) (hv : Sl w w.heap.size v (bvals b)) (hb0 : b.length ≤ 30000) (hx : EntV w w.heap.size x c) :
    Calls Tryz.prog 18 #[v, x] w (PutR b (putN c) (errN c) w) := by
  obtain ⟨ix, tm, cm⟩ := c
  obtain ⟨op, ses, seq, fs⟩ := cm
  obtain ⟨A, k, rfl, hF, hi1, hi2, hi3, hi4, hi5⟩ := hx
  simp only at hi1 hi2 hi3 hi4 hi5 hF ⊢
  have hC : CmdV w w.heap.size (.agg #[.int .i64 op, .int .i64 ses, .int .i64 seq, .slice A fs.length k]) (op, ses, seq, fs) := ⟨A, k, rfl, hF, hi3, hi4, hi5⟩
  obtain ⟨W1, hW1⟩ : ∃ W1, W1 = w.alloc (.cells #[.int .i64 ix, .int .i64 tm, .int .i64 op, .int .i64 ses, .int .i64 seq, .slice A fs.length k] 49) := ⟨_, rfl⟩
  have c0 : W1.cell? ⟨w.heap.size, 0, none⟩ = some (.int .i64 ix) := by rw [hW1]; simp [go_sem]
  have c1 : W1.cell? ⟨w.heap.size, 1, none⟩ = some (.int .i64 tm) := by rw [hW1]; simp [go_sem]
  have c2 : W1.cell? ⟨w.heap.size, 2, none⟩ = some (.int .i64 op) := by rw [hW1]; simp [go_sem]
  have c3 : W1.cell? ⟨w.heap.size, 3, none⟩ = some (.int .i64 ses) := by rw [hW1]; simp [go_sem]
  have c4 : W1.cell? ⟨w.heap.size, 4, none⟩ = some (.int .i64 seq) := by rw [hW1]; simp [go_sem]
  have c5 : W1.cell? ⟨w.heap.size, 5, none⟩ = some (.slice A fs.length k) := by rw [hW1]; simp [go_sem]
  have hb1 : Below w.heap.size w W1 := by rw [hW1]; exact bl1 _ _
  have hz1 : W1.heap.size = w.heap.size + 1 := by rw [hW1]; simp
  obtain ⟨q, hq⟩ : ∃ q, q = w.heap.size := ⟨_, rfl⟩
  have HV := hid ((hv.below hb1).more hb1.size)
  have HC := hid (hC.on hb1)
  obtain ⟨Va, vc, rfl, -, -, -⟩ := id hv
  rw [bvals_len] at HV ⊢
  have HB1 := hid hb1; have HW1 := hid hW1
  have hq1 : q < W1.heap.size := by omega
  have HN := hid (fun n W => numS_any n 1 W)
  have HQ := hid hq.symm
  rw [← hq] at c0 c1 c2 c3 c4 c5 HB1
  clear hv hC hb1 hW1 hz1 hq
  rcases errN_ways ix tm (op, ses, seq, fs) with ⟨hs1, hE⟩ | ⟨hs1, hs2, hE⟩ | ⟨hs1, hs2, hE⟩
  · rw [hE]
    clear hE
    go_enter Tryz.func18, Tryz.ntmps18
    go_upto_region 1 with (fail)
    rw [← HW1.out, HQ.out]
    go_wp2_with fail
    refine (HN.out _ _).mono ?_
    rintro e w2 ⟨rfl, rfl⟩
    go_wp2
    go_ret2
    exact .inr ⟨by decide, rfl, by rw [HQ.out]; exact HB1.out⟩
  · rw [hE]
    clear hE
    go_enter Tryz.func18, Tryz.ntmps18
    go_upto_region 1 with (fail)
    rw [← HW1.out, HQ.out]
    go_wp2_with fail
    refine (HN.out _ _).mono ?_
    rintro e w2 ⟨rfl, rfl⟩
    go_wp2_with fail
    refine (HN.out _ _).mono ?_
    rintro e w2 ⟨rfl, rfl⟩
    go_wp2
    go_ret2
    exact .inr ⟨by decide, rfl, by rw [HQ.out]; exact HB1.out⟩
  · rw [hE]
    clear hE
    have a1 := putInt_le ix
    have a2 := putInt_le tm
    obtain ⟨T, hT⟩ : ∃ T, T = putN (ix, tm, op, ses, seq, fs) := ⟨_, rfl⟩
    rw [← hT]
    have HT := hid (show b ++ T = b ++ putInt ix ++ putInt tm ++ putC (op, ses, seq, fs) by rw [hT]; simp [putN])
    have hi1 := hid hi1; have hi2 := hid hi2
    have HCM := hid (fun v (b' : List UInt8) W (h1 : Sl W W.heap.size v (bvals b')) (h2 : b'.length ≤ 40000) (hb : Below W1.heap.size W1 W) => (putCmd_any v (.agg #[.int .i64 op, .int .i64 ses, .int .i64 seq, .slice A fs.length k]) b' (op, ses, seq, fs) W h1 h2 (HC.out.on hb)).mono (fun e w' h => h.one))
    generalize errC (op, ses, seq, fs) = er at *
    generalize putC (op, ses, seq, fs) = pc at *
    clear hT hF hi3 hi4 hi5
    go_enter Tryz.func18, Tryz.ntmps18
    go_upto_region 1 with (fail)
    rw [← HW1.out, HQ.out]
    go_wp2_with fail
    refine (HN.out _ _).mono ?_
    rintro e w2 ⟨rfl, rfl⟩
    go_wp2_with fail
    refine (HN.out _ _).mono ?_
    rintro e w2 ⟨rfl, rfl⟩
    go_upto_region 3 with (fail)
    have HC1 := hid (putI8 _ b ix W1.drew (HV.out.qu' ⟨1, rfl⟩) (by omega) hi1.out)
    go_region_held3 (fun w' => w'.cell? ⟨q, 0, none⟩ = some (.int .i64 ix) ∧ w'.cell? ⟨q, 1, none⟩ = some (.int .i64 tm) ∧ w'.cell? ⟨q, 2, none⟩ = some (.int .i64 op) ∧ w'.cell? ⟨q, 3, none⟩ = some (.int .i64 ses) ∧ w'.cell? ⟨q, 4, none⟩ = some (.int .i64 seq) ∧ w'.cell? ⟨q, 5, none⟩ = some (.slice A fs.length k)) (go_keep)
      (first
        | ((with_reducible refine HC3.out.mono ?_); rintro e w8 ⟨v8, rfl, ho8, hb8⟩; have c0 := cellK hb8 (by omega) c0; have c1 := cellK hb8 (by omega) c1; have c2 := cellK hb8 (by omega) c2; have c3 := cellK hb8 (by omega) c3; have c4 := cellK hb8 (by omega) c4; have c5 := cellK hb8 (by omega) c5; have HO8 := hid ho8; have HB8 := hid (HB6.out.trans (hb8.mono HB6.out.size)); clear ho8 hb8)
        | ((with_reducible refine HC2.out.mono ?_); rintro e w6 ⟨v6, rfl, ho6, hb6⟩; have hq6 := Nat.lt_of_lt_of_le hq5 hb6.size; have c0 := cellK hb6 (by omega) c0; have c1 := cellK hb6 (by omega) c1; have c2 := cellK hb6 (by omega) c2; have c3 := cellK hb6 (by omega) c3; have c4 := cellK hb6 (by omega) c4; have c5 := cellK hb6 (by omega) c5; have HB6 := hid (HB5.out.trans (hb6.mono HB5.out.size)); have HC3 := hid (HCM.out v6 (b ++ putInt ix ++ putInt tm) w6 ho6.sl (by simp only [List.length_append]; omega) HB6.out); clear ho6 hb6)
        | ((with_reducible refine HC1.out.mono ?_); rintro e w5 ⟨v5, rfl, ho5, hb5⟩; have hd5 := (Below.refl W1.heap.size W1).drew.trans hb5; have hq5 := Nat.lt_of_lt_of_le hq1 hd5.size; have c0 := cellK hd5 (by omega) c0; have c1 := cellK hd5 (by omega) c1; have c2 := cellK hd5 (by omega) c2; have c3 := cellK hd5 (by omega) c3; have c4 := cellK hd5 (by omega) c4; have c5 := cellK hd5 (by omega) c5; have HB5 := hid hd5; have HC2 := hid (putI8 v5 (b ++ putInt ix) tm w5 ho5.sl (by simp only [List.length_append]; omega) hi2.out); clear ho5 hb5 hd5))
    have z8 := HB6.out.size
    go_wp2
    go_ret2
    have hz := HB1.out.size
    refine Put1.back ?_
    rw [HT.out]
    exact Put1.from_ HO8.out (by have := HQ.out; omega) (by rw [HQ.out]; exact HB1.out.trans (HB8.out.mono (by omega)))
end Go.Proofs.YtkgifbnkkmeoiaaGreatDoor
