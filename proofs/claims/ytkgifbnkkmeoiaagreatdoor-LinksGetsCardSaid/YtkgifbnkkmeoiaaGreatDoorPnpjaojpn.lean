/- 4 texts of this claim, in build order. -/
import Derived.Test.YtkgifbnkkmeoiaaGreatDoorPjomjnnil
import Derived.Test.YtkgifbnkkmeoiaaGreatDoorPiaambljm
import Derived.BigQuiet
import Derived.Shelf.SlSortCmp.NoneTotal
import Derived.Test.YtkgifbnkkmeoiaaGreatDoorProg
import Derived.Sort.LotA
/- cmp.Compare at floats, cmp.Or, the order of links. -/
namespace Go.Proofs.YtkgifbnkkmeoiaaGreatDoor
open Go.ChangeShapes Go.WideShapes Go.ChangeAt Go.RowKit Go.Sort
set_option linter.unusedVariables false
set_option linter.unusedSimpArgs false

def cm1 (a b : Nat) : Int := if a < b then -1 else if b < a then 1 else 0
def cm2 (x y : G2) : Int := if cm1 x.1 y.1 ≠ 0 then cm1 x.1 y.1 else cm1 x.2 y.2
theorem ord_lt {n m : Nat} (h : 1 ≤ n) (h7 : n ≤ 7) (k : 1 ≤ m) (k7 : m ≤ 7) : (FloatKind.f64.format.order (FB n) (FB m) == some Ordering.lt) = decide (n < m) := by
  rcases le7 h h7 with rfl | rfl | rfl | rfl | rfl | rfl | rfl <;> rcases le7 k k7 with rfl | rfl | rfl | rfl | rfl | rfl | rfl <;> kernel_rfl
theorem ord_gt {n m : Nat} (h : 1 ≤ n) (h7 : n ≤ 7) (k : 1 ≤ m) (k7 : m ≤ 7) : (FloatKind.f64.format.order (FB n) (FB m) == some Ordering.gt) = decide (m < n) := by
  rcases le7 h h7 with rfl | rfl | rfl | rfl | rfl | rfl | rfl <;> rcases le7 k k7 with rfl | rfl | rfl | rfl | rfl | rfl | rfl <;> kernel_rfl
theorem ord_ne {n : Nat} (h : 1 ≤ n) (h7 : n ≤ 7) : (FloatKind.f64.format.order (FB n) (FB n) != some Ordering.eq) = false := by
  rcases le7 h h7 with rfl | rfl | rfl | rfl | rfl | rfl | rfl <;> kernel_rfl
set_option maxRecDepth 100000 in
theorem isNaN_any {n : Nat} (h : 1 ≤ n) (h7 : n ≤ 7) (w : World) : Calls Tryz.prog 80 #[.float .f64 (FB n)] w (Stays (.bool false) w) := by
  have t1 := ord_ne h h7
  generalize FB n = a at *
  go_enter Tryz.func80, Tryz.ntmps80
  go_wp2
  go_ret
  exact ⟨rfl, Qu.refl _⟩
set_option maxRecDepth 100000 in
theorem cmpF_any {n m : Nat} (h : 1 ≤ n) (h7 : n ≤ 7) (k : 1 ≤ m) (k7 : m ≤ 7) (w : World) : Calls Tryz.prog 65 #[.float .f64 (FB n), .float .f64 (FB m)] w (Stays (.int .i64 (cm1 n m)) w) := by
  have hl := ord_lt h h7 k k7
  have hg := ord_gt h h7 k k7
  have HN := hid (fun w => isNaN_any h h7 w)
  have HM := hid (fun w => isNaN_any k k7 w)
  have hcm : cm1 n m = if n < m then -1 else if m < n then 1 else 0 := rfl
  generalize cm1 n m = c at *
  generalize FB n = a at *
  generalize FB m = b at *
  have HCM := hid hcm
  have HL := hid hl; have HG := hid hg
  clear hcm hl hg
  go_enter Tryz.func65, Tryz.ntmps65
  go_wp2_with fail
  refine (HN.out w).mono ?_
  rintro e w1 ⟨rfl, hq1⟩
  go_wp2_with fail
  refine (HM.out w1).mono ?_
  rintro e w2 ⟨rfl, hq2⟩
  have HQ := hid (hq1.trans hq2)
  clear hq1 hq2
  have hc := HCM.out
  by_cases h1 : n < m
  · have t1 := HL.out
    rw [decide_eq_true h1] at t1
    rw [if_pos h1] at hc
    subst hc
    go_wp2
    go_ret
    exact ⟨rfl, HQ.out⟩
  · have t1 := HL.out
    rw [decide_eq_false h1] at t1
    rw [if_neg h1] at hc
    by_cases h2 : m < n
    · have t2 := HG.out
      rw [decide_eq_true h2] at t2
      rw [if_pos h2] at hc
      subst hc
      go_wp2
      go_ret
      exact ⟨rfl, HQ.out⟩
    · have t2 := HG.out
      rw [decide_eq_false h2] at t2
      rw [if_neg h2] at hc
      subst hc
      go_wp2
      go_ret
      exact ⟨rfl, HQ.out⟩
def OrRel (a b : Int) (w : World) (i : Value) (wr : World) : Prop := ∃ k : Nat, k ≤ 2 ∧ i = .int .i64 k ∧ (1 ≤ k → a = 0) ∧ (2 ≤ k → b = 0) ∧ Qu w wr
set_option maxRecDepth 100000 in
theorem or_any (N : Nat) (a b : Int) (w : World) (h0 : w.cell? ⟨N, 0, none⟩ = some (.int .i64 a)) (h1 : w.cell? ⟨N, 1, none⟩ = some (.int .i64 b)) :
    Calls Tryz.prog 64 #[.slice (some ⟨N, 0, none⟩) 2 2] w (Stays (.int .i64 (if a ≠ 0 then a else b)) w) := by
  obtain ⟨r, hr⟩ : ∃ r, r = if a ≠ 0 then a else b := ⟨_, rfl⟩
  rw [← hr]
  have HR := hid hr
  clear hr
  go_enter Tryz.func64, Tryz.ntmps64
  go_wp2
  go_loopw [8] (fun i wr => OrRel a b w i wr) (fun i _ => 2 - (intOf i).toNat)
  case atStart => exact ⟨0, by omega, rfl, fun h => by omega, fun h => by omega, Qu.refl _⟩
  case round =>
    obtain ⟨k, hk, rfl, ha, hb, hq⟩ := hrel
    have y0 : wr.cell? ⟨N, 0, none⟩ = _ := (hq.cell _).trans h0
    have y1 : wr.cell? ⟨N, 1, none⟩ = _ := (hq.cell _).trans h1
    have HQ := hid hq
    clear hq
    have hk3 : k = 0 ∨ k = 1 ∨ k = 2 := by omega
    rcases hk3 with rfl | rfl | rfl
    · by_cases hz : a = 0
      · have t1 : (a != 0) = false := by simp [hz]
        go_wp2
        go_roundw
        case rel => exact ⟨1, by omega, by go_num, fun _ => hz, fun h => by omega, HQ.out⟩
        case measure => simp [intOf]
      · have t1 : (a != 0) = true := by simpa using hz
        have hra : r = a := by rw [HR.out, if_pos hz]
        subst hra
        go_wp2
        go_ret
        exact ⟨rfl, HQ.out⟩
    · have ha0 := ha (by omega)
      have hra : r = b := by rw [HR.out, if_neg (by simp [ha0])]
      by_cases hz : b = 0
      · have t1 : (b != 0) = false := by simp [hz]
        go_wp2
        go_roundw
        case rel => exact ⟨2, by omega, by go_num, fun _ => ha0, fun _ => hz, HQ.out⟩
        case measure => simp [intOf]
      · have t1 : (b != 0) = true := by simpa using hz
        subst hra
        go_wp2
        go_ret
        exact ⟨rfl, HQ.out⟩
    · have ha0 := ha (by omega)
      have hb0 := hb (by omega)
      have hra : r = 0 := by rw [HR.out, if_neg (by simp [ha0]), hb0]
      subst hra
      go_wp2
      go_ret
      exact ⟨rfl, HQ.out⟩
theorem alloc_grow1 (W : World) (a : Obj) (q : Nat) : (W.alloc a).drewN q = grow (W.drewN q) #[a] := by
  rw [alloc_eq_grow]; rfl
set_option maxRecDepth 100000 in
theorem cmpL_any {x y : G2} (hx : inG x) (hy : inG y) (W : World) : Calls Tryz.prog 63 #[CV x, CV y] W fun e w' => e = .returned (.int .i64 (cm2 x y)) ∧ ∃ q os', w' = grow (W.drewN q) os' := by
  obtain ⟨x1, x2⟩ := x
  obtain ⟨y1, y2⟩ := y
  have HC1 := hid (fun w => cmpF_any hx.1.1 hx.1.2 hy.1.1 hy.1.2 w)
  have HC2 := hid (fun w => cmpF_any hx.2.1 hx.2.2 hy.2.1 hy.2.2 w)
  unfold CV
  have hc : cm2 (x1, x2) (y1, y2) = if cm1 x1 y1 ≠ 0 then cm1 x1 y1 else cm1 x2 y2 := rfl
  simp only at HC1 HC2 ⊢
  generalize cm2 (x1, x2) (y1, y2) = r at *
  generalize cm1 x1 y1 = c1 at *
  generalize cm1 x2 y2 = c2 at *
  generalize FB x1 = a1 at *
  generalize FB x2 = a2 at *
  generalize FB y1 = b1 at *
  generalize FB y2 = b2 at *
  have HR := hid hc
  clear hc
  go_enter Tryz.func63, Tryz.ntmps63
  go_wp2_with fail
  refine (HC1.out W).mono ?_
  rintro e w1 ⟨rfl, hq1⟩
  go_wp2_with fail
  refine (HC2.out w1).mono ?_
  rintro e w2 ⟨rfl, hq2⟩
  obtain ⟨q, hq⟩ := hq1.trans hq2
  obtain ⟨W3, hW3⟩ : ∃ W', W' = w2.alloc (.cells #[.int .i64 c1, .int .i64 c2] 3) := ⟨_, rfl⟩
  have HO := hid (or_any w2.heap.size c1 c2 W3 (by rw [hW3]; simp [go_sem]) (by rw [hW3]; simp [go_sem]))
  rw [← HR.out] at HO
  have HW3 := hid hW3; have HQ := hid hq
  clear hq1 hq2 hq hW3
  go_wp2_with fail
  rw [← HW3.out]
  refine HO.out.mono ?_
  rintro e w4 ⟨rfl, nq, rfl⟩
  go_wp2
  go_ret
  refine ⟨rfl, q + nq, #[.cells #[.int .i64 c1, .int .i64 c2] 3], ?_⟩
  rw [HW3.out, HQ.out, alloc_grow1, drewN_add]
end Go.Proofs.YtkgifbnkkmeoiaaGreatDoor
/- slices.SortFunc at the complex numbers, off the shelf (the layings are the kit's own command's print, in plain words; shelf.py put names for numbers). -/
namespace Go.Proofs.YtkgifbnkkmeoiaaGreatDoor
open Go.Shelf
def laysK_ren : Go.Shelf.Ren := ⟨fun | 6 => 62 | 15 => 79 | 14 => 78 | 28 => 100 | 29 => 101 | 20 => 92 | 21 => 93 | 22 => 94 | 23 => 95 | 24 => 96 | 25 => 97 | 26 => 98 | 27 => 99 | 46 => 116 | 47 => 117 | 48 => 118 | 49 => 119 | 50 => 120 | 57 => 132 | n => n, fun | 22 => 104 | 24 => 105 | 25 => 111 | 3 => 3 | 39 => 84 | 0 => 0 | 53 => 37 | 55 => 83 | 4 => 4 | 46 => 141 | 45 => 140 | 50 => 145 | 5 => 5 | 9 => 9 | 66 => 158 | 70 => 59 | 76 => 176 | 77 => 177 | n => n, fun | n => n⟩
theorem laysK : Go.Proofs.SlLaysF0.n6 Tryz.prog laysK_ren := {
  mixed := by kernel_rfl
  f6 := ⟨Tryz.f62.name, by decide, Tryz.func62.trans (congrArg some (by kernel_rfl))⟩
  f14 := ⟨Tryz.f78.name, by decide, Tryz.func78.trans (congrArg some (by kernel_rfl))⟩
  f15 := Tryz.func79.trans (congrArg some (by kernel_rfl))
  f20 := ⟨Tryz.f92.name, by decide, Tryz.func92.trans (congrArg some (by kernel_rfl))⟩
  f21 := ⟨Tryz.f93.name, by decide, Tryz.func93.trans (congrArg some (by kernel_rfl))⟩
  f22 := ⟨Tryz.f94.name, by decide, Tryz.func94.trans (congrArg some (by kernel_rfl))⟩
  f23 := ⟨Tryz.f95.name, by decide, Tryz.func95.trans (congrArg some (by kernel_rfl))⟩
  f24 := ⟨Tryz.f96.name, by decide, Tryz.func96.trans (congrArg some (by kernel_rfl))⟩
  f25 := ⟨Tryz.f97.name, by decide, Tryz.func97.trans (congrArg some (by kernel_rfl))⟩
  f26 := ⟨Tryz.f98.name, by decide, Tryz.func98.trans (congrArg some (by kernel_rfl))⟩
  f27 := ⟨Tryz.f99.name, by decide, Tryz.func99.trans (congrArg some (by kernel_rfl))⟩
  f28 := Tryz.func100.trans (congrArg some (by kernel_rfl))
  f29 := Tryz.func101.trans (congrArg some (by kernel_rfl))
  f46 := ⟨Tryz.f116.name, by decide, Tryz.func116.trans (congrArg some (by kernel_rfl))⟩
  f47 := Tryz.func117.trans (congrArg some (by kernel_rfl))
  f48 := Tryz.func118.trans (congrArg some (by kernel_rfl))
  f49 := ⟨Tryz.f119.name, by decide, Tryz.func119.trans (congrArg some (by kernel_rfl))⟩
  f50 := ⟨Tryz.f120.name, by decide, Tryz.func120.trans (congrArg some (by kernel_rfl))⟩
  f57 := ⟨Tryz.f132.name, by decide, Tryz.func132.trans (congrArg some (by kernel_rfl))⟩
  t0 := Tryz.underlying0
  a0 := Tryz.isAgg0
  z0 := Tryz.sizeOf0
  v0 := Tryz.zeroValue0
  t3 := Tryz.underlying3
  a3 := Tryz.isAgg3
  z3 := Tryz.sizeOf3
  v3 := Tryz.zeroValue3
  t4 := Tryz.underlying4
  a4 := Tryz.isAgg4
  z4 := Tryz.sizeOf4
  v4 := Tryz.zeroValue4
  t5 := Tryz.underlying5
  a5 := Tryz.isAgg5
  z5 := Tryz.sizeOf5
  v5 := Tryz.zeroValue5
  t9 := Tryz.underlying9
  a9 := Tryz.isAgg9
  z9 := Tryz.sizeOf9
  v9 := Tryz.zeroValue9
  t22 := Tryz.underlying104
  a22 := Tryz.isAgg104
  z22 := Tryz.sizeOf104
  v22 := Tryz.zeroValue104
  t25 := Tryz.underlying111
  a25 := Tryz.isAgg111
  z25 := Tryz.sizeOf111
  v25 := Tryz.zeroValue111
  t39 := Tryz.underlying84
  a39 := Tryz.isAgg84
  z39 := Tryz.sizeOf84
  v39 := Tryz.zeroValue84
  t45 := Tryz.underlying140
  a45 := Tryz.isAgg140
  z45 := Tryz.sizeOf140
  v45 := Tryz.zeroValue140
  t46 := Tryz.underlying141
  a46 := Tryz.isAgg141
  z46 := Tryz.sizeOf141
  v46 := Tryz.zeroValue141
  t50 := Tryz.underlying145
  a50 := Tryz.isAgg145
  z50 := Tryz.sizeOf145
  v50 := Tryz.zeroValue145
  t53 := Tryz.underlying37
  a53 := Tryz.isAgg37
  z53 := Tryz.sizeOf37
  v53 := Tryz.zeroValue37
  t55 := Tryz.underlying83
  a55 := Tryz.isAgg83
  z55 := Tryz.sizeOf83
  v55 := Tryz.zeroValue83
  t66 := Tryz.underlying158
  a66 := Tryz.isAgg158
  z66 := Tryz.sizeOf158
  v66 := Tryz.zeroValue158
  t70 := Tryz.underlying59
  a70 := Tryz.isAgg59
  z70 := Tryz.sizeOf59
  v70 := Tryz.zeroValue59
  t76 := Tryz.underlying176
  a76 := Tryz.isAgg176
  z76 := Tryz.sizeOf176
  v76 := Tryz.zeroValue176
  t77 := Tryz.underlying177
  a77 := Tryz.isAgg177
  z77 := Tryz.sizeOf177
  v77 := Tryz.zeroValue177 }
theorem laysK1 : Go.Proofs.SlLaysF.n6 Tryz.prog laysK_ren := { laysK with a24 := Tryz.isAgg105, z24 := Tryz.sizeOf105 }
end Go.Proofs.YtkgifbnkkmeoiaaGreatDoor
/- slices.SortFunc at the links. -/
namespace Go.Proofs.YtkgifbnkkmeoiaaGreatDoor
open Go.ChangeShapes Go.WideShapes Go.ChangeAt Go.RowKit Go.Sort Go.Shelf
set_option linter.unusedVariables false
set_option linter.unusedSimpArgs false

abbrev GS := {x : G2 // inG x}
instance : Inhabited GS := ⟨⟨(1, 1), ⟨by decide, by decide⟩, by decide, by decide⟩⟩
def encS (x : GS) : Value := CV x.1
def cmS (x y : GS) : Int := cm2 x.1 y.1
def ltG (x y : G2) : Bool := decide (x.1 < y.1 ∨ (x.1 = y.1 ∧ x.2 < y.2))
theorem ltG_iff (x y : G2) : ltG x y = true ↔ x.1 < y.1 ∨ (x.1 = y.1 ∧ x.2 < y.2) := by unfold ltG; rw [decide_eq_true_eq]
theorem ltG_not (x y : G2) : ltG x y = false ↔ ¬ (x.1 < y.1 ∨ (x.1 = y.1 ∧ x.2 < y.2)) := by unfold ltG; rw [decide_eq_false_iff_not]
theorem ltS (x y : GS) : ltOf cmS x y = ltG x.1 y.1 := by
  obtain ⟨⟨x1, x2⟩, hx⟩ := x
  obtain ⟨⟨y1, y2⟩, hy⟩ := y
  unfold ltOf cmS cm2 cm1 ltG
  simp only
  by_cases h1 : x1 < y1
  · rw [if_pos h1, if_pos (by omega), decide_eq_true (by omega), decide_eq_true (by omega)]
  · rw [if_neg h1]
    by_cases h2 : y1 < x1
    · rw [if_pos h2, if_pos (by omega), decide_eq_false (by omega), decide_eq_false (by omega)]
    · rw [if_neg h2, if_neg (by simp)]
      by_cases h3 : x2 < y2
      · rw [if_pos h3, decide_eq_true (by omega), decide_eq_true (by omega)]
      · rw [if_neg h3]
        by_cases h4 : y2 < x2
        · rw [if_pos h4, decide_eq_false (by omega), decide_eq_false (by omega)]
        · rw [if_neg h4, decide_eq_false (by omega), decide_eq_false (by omega)]
theorem swoS : SWO (ltOf cmS) where
  irrefl x := by rw [ltS, ltG_not]; omega
  trans x y z h1 h2 := by rw [ltS, ltG_iff] at *; omega
  ntrans x y z h1 h2 := by rw [ltS, ltG_not] at *; omega
theorem totS (x y : GS) (h1 : ltOf cmS x y = false) (h2 : ltOf cmS y x = false) : x = y := by
  rw [ltS, ltG_not] at h1 h2
  exact Subtype.ext (Prod.ext (by omega) (by omega))
/-- Two lists in strict order with the same members are one. -/
theorem sorted_ext {α : Type} {r : α → α → Prop} (hi : ∀ a, ¬ r a a) (ht : ∀ a b c, r a b → r b c → r a c) : ∀ {A B : List α}, A.Pairwise r → B.Pairwise r → (∀ x, x ∈ A ↔ x ∈ B) → A = B
  | [], [], _, _, _ => rfl
  | [], y :: B, _, _, h => by have := (h y).2 List.mem_cons_self; cases this
  | x :: A, [], _, _, h => by have := (h x).1 List.mem_cons_self; cases this
  | x :: A, y :: B, hA, hB, h => by
    obtain ⟨a1, a2⟩ := List.pairwise_cons.1 hA
    obtain ⟨b1, b2⟩ := List.pairwise_cons.1 hB
    have hxy : x = y := by
      rcases List.mem_cons.1 ((h x).1 List.mem_cons_self) with e | hx
      · exact e
      · rcases List.mem_cons.1 ((h y).2 List.mem_cons_self) with e | hy
        · exact e.symm
        · exact absurd (ht _ _ _ (a1 _ hy) (b1 _ hx)) (hi _)
    subst hxy
    congr 1
    refine sorted_ext hi ht a2 b2 fun z => ?_
    constructor
    · intro hz
      rcases List.mem_cons.1 ((h z).1 (List.mem_cons_of_mem _ hz)) with e | h'
      · subst e; exact absurd (a1 _ hz) (hi _)
      · exact h'
    · intro hz
      rcases List.mem_cons.1 ((h z).2 (List.mem_cons_of_mem _ hz)) with e | h'
      · subst e; exact absurd (b1 _ hz) (hi _)
      · exact h'
/-- What sorting gives: the links in order. -/
theorem sortS {V S : List GS} (hS : S.Pairwise fun x y => ltG x.1 y.1 = true) (hn : V.Nodup) (hm : ∀ x, x ∈ V ↔ x ∈ S) : (V.mergeSort fun x y => !(ltOf cmS) y x) = S := by
  have hp := List.mergeSort_perm V fun x y => !(ltOf cmS) y x
  have hs := List.pairwise_mergeSort (le := fun x y => !(ltOf cmS) y x) (fun a b c h1 h2 => by
      simp only [Bool.not_eq_true'] at h1 h2 ⊢
      exact swoS.ntrans _ _ _ h2 h1) (fun a b => by
      cases h : ltOf cmS b a
      · simp
      · rw [ltS, ltG_iff] at h
        have : ltOf cmS a b = false := by rw [ltS, ltG_not]; omega
        simp [this]) V
  have hn' := hp.nodup_iff.2 hn
  refine sorted_ext (r := fun x y => ltG x.1 y.1 = true) (fun a h => by rw [ltG_iff] at h; omega) (fun a b c h1 h2 => by rw [ltG_iff] at *; omega) ?_ hS (fun x => (hp.mem_iff).trans (hm x))
  refine List.Pairwise.imp₂ ?_ hs hn'
  intro a b h1 h2
  simp only [Bool.not_eq_true'] at h1
  rw [ltS, ltG_not] at h1
  rw [ltG_iff]
  have hne : a.1 ≠ b.1 := fun e => h2 (Subtype.ext e)
  by_cases h3 : a.1.1 = b.1.1
  · have : a.1.2 ≠ b.1.2 := fun e => hne (Prod.ext h3 e)
    omega
  · omega
theorem holdsS {w : World} {base g cap n : Nat} {V : List GS} (h : w.ownsRow base 105 1 (.slice (some ⟨g, 0, none⟩) n cap) n (V.map encS)) (hn : V.length = n) : Holds encS w g 0 V.toArray := by
  intro j hj
  have hj' : j < V.length := by simpa using hj
  rw [Nat.zero_add]
  refine ⟨?_, h.frozenAt j⟩
  rw [h.cellAt j (by omega)]
  simp [hj']
theorem updS_sorted {w : World} {g n : Nat} {os : Array Obj} (d : Array GS) : Upd g w (sortWorld encS w g 0 n d os) := by
  unfold sortWorld putRow
  have hz : (mapBlock (Sort.ahead w n) g (putCells encS 0 d)).heap.size = w.heap.size := by simp [mapBlock, Sort.ahead]
  refine ⟨rfl, rfl, rfl, by simp [hz], fun k hk hne => ?_⟩
  rw [heap_grow_old _ _ (by rw [hz]; exact hk)]
  have : g ≠ k := fun e => hne (by rw [e])
  simp [mapBlock, Sort.ahead, Array.getElem?_modify, this]
theorem sortS_any (g cap n : Nat) (V S : List GS) (w : World) (hH : Holds encS w g 0 V.toArray) (hg : g < w.heap.size) (hn : V.length = n) (hsz : n < 4611686018427387904)
    (hS : S.Pairwise fun x y => ltG x.1 y.1 = true) (hd : V.Nodup) (hm : ∀ x, x ∈ V ↔ x ∈ S) :
    Calls Tryz.prog 62 #[.slice (some ⟨g, 0, none⟩) n cap, .func (.func 63) #[] #[]] w fun e w' => e = .returned (.tuple #[]) ∧ Holds encS w' g 0 S.toArray ∧ Upd g w w' := by
  subst hn
  have eg : ∀ args w, (callFunc 63 args).run Tryz.prog w = .ok (.enter 63 args) w := enters_of Tryz.func63 (by kernel_rfl) rfl
  have hV := sortS hS hd hm
  have hlen : S.length = V.length := by rw [← hV]; exact List.length_mergeSort V
  have hcmp : CmpLays1 Tryz.prog 63 #[] encS cmS g 0 V.toArray.size w := fun _ _ _ _ x y => cmpL_any x.2 y.2 _
  have h := Any.slices_SortFunc_total laysK1 encS (fun _ => rfl) cmS swoS 63 #[] g 0 cap V.toArray w eg hcmp hH hg (by simpa using hsz) totS
  refine h.mono ?_
  rintro e w' ⟨rfl, m, os, rfl⟩
  have e1 : V.toArray.toList = V := rfl
  rw [e1, hV]
  exact ⟨rfl, holds_sortWorld encS w g 0 m V.toArray S.toArray os hg hH (by simpa using hlen), updS_sorted _⟩
theorem sortS_none (w : World) : Calls Tryz.prog 62 #[.slice none 0 0, .func (.func 63) #[] #[]] w fun e w' => e = .returned (.tuple #[]) ∧ w' = w :=
  AnyF.slices_SortFunc_none laysK none 0 _ w
end Go.Proofs.YtkgifbnkkmeoiaaGreatDoor
/- The program's Busy. -/
namespace Go.Proofs.YtkgifbnkkmeoiaaGreatDoor
open Go.ChangeShapes Go.WideShapes Go.ChangeAt Go.RowKit Go.Sort
set_option linter.unusedVariables false
set_option linter.unusedSimpArgs false

def okP (p : PK) : Prop := 1 ≤ p.1 ∧ p.1 ≤ 7 ∧ 1 ≤ p.2.1 ∧ p.2.1 ≤ 7 ∧ p.1 ≠ p.2.1
def lnkG (p : PK) : G2 := (p.1.toNat, p.2.1.toNat)
theorem okP.inG {p : PK} (h : okP p) : inG (lnkG p) := by
  obtain ⟨h1, h2, h3, h4, -⟩ := h
  unfold Go.Proofs.YtkgifbnkkmeoiaaGreatDoor.inG lnkG
  simp only
  omega
def gridS : List GS := (List.range 49).map fun i => if h : i < 49 then ⟨(i / 7 + 1, i % 7 + 1), by unfold inG; simp only; omega⟩ else default
theorem gridS_sorted : gridS.Pairwise fun x y => ltG x.1 y.1 = true := by
  unfold gridS
  rw [List.pairwise_map]
  refine List.Pairwise.imp_of_mem ?_ List.pairwise_lt_range
  intro a b ha hb hab
  rw [List.mem_range] at ha hb
  rw [dif_pos ha, dif_pos hb, ltG_iff]
  simp only
  omega
theorem gridS_mem (x : GS) : x ∈ gridS := by
  obtain ⟨⟨a, b⟩, h⟩ := x
  have h' := h
  unfold inG at h'
  simp only at h'
  refine List.mem_map.2 ⟨(a - 1) * 7 + (b - 1), List.mem_range.2 (by omega), ?_⟩
  rw [dif_pos (by omega)]
  refine Subtype.ext (Prod.ext ?_ ?_)
  · show ((a - 1) * 7 + (b - 1)) / 7 + 1 = a
    omega
  · show ((a - 1) * 7 + (b - 1)) % 7 + 1 = b
    omega
def busyS (L : List PK) : List GS := gridS.filter fun x => decide (x.1 ∈ L.map lnkG)
theorem busyS_sorted (L : List PK) : (busyS L).Pairwise fun x y => ltG x.1 y.1 = true := gridS_sorted.filter _
theorem busyS_mem (L : List PK) (x : GS) : x ∈ busyS L ↔ x.1 ∈ L.map lnkG := by
  unfold busyS
  rw [List.mem_filter, decide_eq_true_eq]
  exact ⟨fun h => h.2, fun h => ⟨gridS_mem x, h⟩⟩
theorem busyS_len (L : List PK) : (busyS L).length ≤ 49 := by
  unfold busyS
  refine Nat.le_trans (List.length_filter_le _ _) ?_
  unfold gridS
  simp
set_option maxRecDepth 100000 in
theorem link_any (f t : Nat) (A : Option Addr) (n c : Nat) (w : World) (h : inG (f, t)) : Calls Tryz.prog 61 #[.agg #[.int .i64 f, .int .i64 t, .slice A n c]] w fun e w' => e = .returned (CV (f, t)) ∧ Below w.heap.size w w' := by
  have h1 := fun w => conv_to h.1.1 h.1.2 w
  have h2 := fun w => conv_to h.2.1 h.2.2 w
  unfold CV
  simp only at h1 h2 ⊢
  generalize FB f = a at *
  generalize FB t = b at *
  go_enter Tryz.func61, Tryz.ntmps61
  go_wp2_with (simp only [h1, h2])
  go_ret
  exact ⟨rfl, bl1 _ _⟩
end Go.Proofs.YtkgifbnkkmeoiaaGreatDoor
