/- 3 texts of this claim, in build order. -/
import Derived.Test.YtkgifbnkkmeoiaaGreatDoorPgpomknba
import Derived.Maps.OwnSet
import Derived.Test.YtkgifbnkkmeoiaaGreatDoorPbkbinjci
import Derived.BigQuiet
import Derived.Shelf.SlSortCmp.NoneTotal
import Derived.Test.YtkgifbnkkmeoiaaGreatDoorProg
/- A map from complex numbers to bools: what was laid in is found. -/
namespace Go.Proofs.YtkgifbnkkmeoiaaGreatDoor
open Go.ChangeShapes Go.WideShapes Go.ChangeAt Go.RowKit Go.Maps
open Go.ChangeMaps (setBlock)
set_option linter.unusedVariables false
set_option linter.unusedSimpArgs false

abbrev G2 := Nat × Nat
def CV (x : G2) : Value := .complex .f64 (FB x.1) (FB x.2)
def inG (x : G2) : Prop := (1 ≤ x.1 ∧ x.1 ≤ 7) ∧ 1 ≤ x.2 ∧ x.2 ≤ 7
theorem feq {n m : Nat} (h : 1 ≤ n) (h7 : n ≤ 7) (k : 1 ≤ m) (k7 : m ≤ 7) : Op.floatEq .f64 (FB n) (FB m) = decide (n = m) := by
  rcases le7 h h7 with rfl | rfl | rfl | rfl | rfl | rfl | rfl <;> rcases le7 k k7 with rfl | rfl | rfl | rfl | rfl | rfl | rfl <;> kernel_rfl
theorem equal_run {x y : G2} (hx : inG x) (hy : inG y) (w : World) : (Op.equal 105 (CV x) (CV y)).run Tryz.prog w = .ok (decide (x = y)) w := by
  obtain ⟨x1, x2⟩ := x
  obtain ⟨y1, y2⟩ := y
  have e1 := feq hx.1.1 hx.1.2 hy.1.1 hy.1.2
  have e2 := feq hx.2.1 hx.2.2 hy.2.1 hy.2.2
  simp only at e1 e2
  show (Op.equalIn (9999 + 1) _ _ _).run _ _ = _
  rw [Op.equalIn]
  simp [run_underlying Tryz.underlying105, CV, e1, e2]
/-- The entries, in the order in which they were laid in. -/
def entG : Nat → List G2 → List MapEntry
  | _, [] => []
  | i, x :: S => ⟨CV x, .bool true, i⟩ :: entG (i + 1) S
theorem entG_snoc (x : G2) : ∀ (i : Nat) (S : List G2), entG i (S ++ [x]) = entG i S ++ [⟨CV x, .bool true, i + S.length⟩]
  | i, [] => rfl
  | i, y :: S => by
    show _ :: entG (i + 1) (S ++ [x]) = _
    rw [entG_snoc x (i + 1) S]
    simp [entG, Nat.add_comm, Nat.add_left_comm]
theorem asking_run {x : G2} (hx : inG x) (w : World) : ∀ (S : List G2) (i k : Nat), (∀ y ∈ S, inG y) → ∃ r, (Instr.findAsking 105 (CV x) (entG i S) k).run Tryz.prog w = .ok r w ∧ (x ∈ S → ∃ j, r = some (j, .bool true)) ∧ (x ∉ S → r = none)
  | [], i, k, _ => ⟨none, rfl, fun h => by simp at h, fun _ => rfl⟩
  | y :: S, i, k, h => by
    have he := equal_run hx (h y List.mem_cons_self) w
    by_cases e : x = y
    · subst e
      rw [decide_eq_true rfl] at he
      refine ⟨some (k, .bool true), ?_, fun _ => ⟨k, rfl⟩, fun hn => absurd List.mem_cons_self hn⟩
      show (Instr.findAsking _ _ (_ :: _) _).run _ _ = _
      unfold Instr.findAsking
      simp [he]
    · obtain ⟨r, h1, h2, h3⟩ := asking_run hx w S (i + 1) (k + 1) (fun z hz => h z (List.mem_cons_of_mem _ hz))
      refine ⟨r, ?_, fun hm => h2 ((List.mem_cons.1 hm).resolve_left e), fun hn => h3 (fun hm => hn (List.mem_cons_of_mem _ hm))⟩
      show (Instr.findAsking _ _ (_ :: _) _).run _ _ = _
      unfold Instr.findAsking
      simp [he, e, h1]
theorem find_run {x : G2} (hx : inG x) (w : World) (S : List G2) (h : ∀ y ∈ S, inG y) : ∃ r, (Instr.findKey 105 (CV x) (entG 0 S)).run Tryz.prog w = .ok r w ∧ (x ∈ S → ∃ j, r = some (j, .bool true)) ∧ (x ∉ S → r = none) := by
  cases S with
  | nil => exact ⟨none, by simp [Instr.findKey, run_underlying Tryz.underlying105, entG, Instr.findNow], fun h => by simp at h, fun _ => rfl⟩
  | cons y S =>
    obtain ⟨r, h1, h2, h3⟩ := asking_run hx w (y :: S) 0 0 h
    refine ⟨r, ?_, h2, h3⟩
    rw [← h1]
    simp [Instr.findKey, run_underlying Tryz.underlying105, entG, Instr.findNow, Instr.sameNow]
theorem check_run (e : Bool) (x : G2) (w : World) : (Instr.checkKey e 10000 105 (CV x)).run Tryz.prog w = .ok () w := by
  show (Instr.checkKey e (9999 + 1) _ _).run _ _ = _
  rw [Instr.checkKey]
  simp [run_underlying Tryz.underlying105, CV]
/-- The map at m holds the links S. -/
def HasM (w : World) (m : Nat) (S : List G2) : Prop := w.heap[m]? = some (.map (entG 0 S).toArray S.length) ∧ ∀ y ∈ S, inG y
theorem HasM.look {w : World} {m : Nat} {S : List G2} (h : HasM w m S) {x : G2} (hx : inG x) : (Instr.lookup 103 (.map (some m)) (CV x) false).run Tryz.prog w = .ok (.bool (decide (x ∈ S))) w := by
  obtain ⟨r, h1, h2, h3⟩ := find_run hx w S h.2
  by_cases hm : x ∈ S
  · obtain ⟨j, rfl⟩ := h2 hm
    simp [Instr.lookup, run_underlying Tryz.underlying103, MapKept.run_getObj_map h.1, check_run, h1, hm]
  · rw [h3 hm] at h1
    have hz : (zeroValue 4).run Tryz.prog w = .ok (.bool false) w := by kernel_rfl
    simp [Instr.lookup, run_underlying Tryz.underlying103, MapKept.run_getObj_map h.1, check_run, h1, hm, hz]
theorem HasM.put {w : World} {m : Nat} {S : List G2} (h : HasM w m S) {x : G2} (hx : inG x) (hn : x ∉ S) :
    ∃ w', (Instr.mapUpdate 103 (.map (some m)) (CV x) (.bool true)).run Tryz.prog w = .ok () w' ∧ HasM w' m (S ++ [x]) ∧ Upd m w w' := by
  obtain ⟨r, h1, h2, h3⟩ := find_run hx w S h.2
  rw [h3 hn] at h1
  have hlt : m < w.heap.size := (Array.getElem?_eq_some_iff.1 h.1).1
  refine ⟨setBlock w m (.map ((entG 0 S).toArray.push ⟨CV x, .bool true, S.length⟩) (S.length + 1)), ?_, ⟨?_, fun y hy => ?_⟩, ⟨rfl, rfl, rfl, ?_, fun k hk hne => ?_⟩⟩
  · simp [Instr.mapUpdate, run_underlying Tryz.underlying103, MapKept.run_getObj_map h.1, check_run, h1, MapKept.run_setObj_map _ h.1, Result.andThen, setBlock]
  · rw [entG_snoc, Nat.zero_add]
    simp [setBlock, hlt]
  · rcases List.mem_append.1 hy with hy | hy
    · exact h.2 y hy
    · rw [List.mem_singleton.1 hy]; exact hx
  · simp [setBlock]
  · have : m ≠ k := fun e => hne (by rw [e])
    simp [setBlock, Array.getElem?_setIfInBounds, this]
end Go.Proofs.YtkgifbnkkmeoiaaGreatDoor
/- cmp.Compare at floats, cmp.Or, the order of links. -/
namespace Go.Proofs.YtkgifbnkkmeoiaaGreatDoor
open Go.ChangeShapes Go.WideShapes Go.ChangeAt Go.RowKit Go.Sort
set_option linter.unusedVariables false
set_option linter.unusedSimpArgs false

def cm1 (a b : Nat) : Int := if a < b then -1 else if b < a then 1 else 0
def cm2 (x y : G2) : Int := if cm1 x.1 y.1 ≠ 0 then cm1 x.1 y.1 else cm1 x.2 y.2
theorem ord_lt {n m : Nat} (h : 1 ≤ n) (h7 : n ≤ 7) (k : 1 ≤ m) (k7 : m ≤ 7) : (FloatKind.f64.format.order (FB n) (FB m) == some Ordering.lt) = decide (n < m) := by
  rcases le7 h h7 with rfl | rfl | rfl | rfl | rfl | rfl | rfl <;> rcases le7 k k7 with rfl | rfl | rfl | rfl | rfl | rfl | rfl <;> kernel_rfl
theorem ord_gt {n m : Nat} (h : 1 ≤ n) (h7 : n ≤ 7) (k : 1 ≤ m) (k7 : m ≤ 7) : (FloatKind.f64.format.order (FB n) (FB m) == some Ordering.gt) = decide (m < n) := by
  rcases le7 h h7 with rfl | rfl | rfl | rfl | rfl | rfl | rfl <;> rcases le7 k k7 with rfl | rfl | rfl | rfl | rfl | rfl | rfl <;> kernel_rfl
theorem ord_ne {n : Nat} (h : 1 ≤ n) (h7 : n ≤ 7) : (FloatKind.f64.format.order (FB n) (FB n) != some Ordering.eq) = false := by
  rcases le7 h h7 with rfl | rfl | rfl | rfl | rfl | rfl | rfl <;> kernel_rfl
set_option maxRecDepth 100000 in
theorem isNaN_any {n : Nat} (h : 1 ≤ n) (h7 : n ≤ 7) (w : World) : Calls Tryz.prog 80 #[.float .f64 (FB n)] w (Stays (.bool false) w) := by
  have t1 := ord_ne h h7
  generalize FB n = a at *
  go_enter Tryz.func80, Tryz.ntmps80
  go_wp2
  go_ret
  exact ⟨rfl, Qu.refl _⟩
set_option maxRecDepth 100000 in
theorem cmpF_any {n m : Nat} (h : 1 ≤ n) (h7 : n ≤ 7) (k : 1 ≤ m) (k7 : m ≤ 7) (w : World) : Calls Tryz.prog 65 #[.float .f64 (FB n), .float .f64 (FB m)] w (Stays (.int .i64 (cm1 n m)) w) := by
  have hl := ord_lt h h7 k k7
  have hg := ord_gt h h7 k k7
  have HN := hid (fun w => isNaN_any h h7 w)
  have HM := hid (fun w => isNaN_any k k7 w)
  have hcm : cm1 n m = if n < m then -1 else if m < n then 1 else 0 := rfl
  generalize cm1 n m = c at *
  generalize FB n = a at *
  generalize FB m = b at *
  have HCM := hid hcm
  have HL := hid hl; have HG := hid hg
  clear hcm hl hg
  go_enter Tryz.func65, Tryz.ntmps65
  go_wp2_with fail
  refine (HN.out w).mono ?_
  rintro e w1 ⟨rfl, hq1⟩
  go_wp2_with fail
  refine (HM.out w1).mono ?_
  rintro e w2 ⟨rfl, hq2⟩
  have HQ := hid (hq1.trans hq2)
  clear hq1 hq2
  have hc := HCM.out
  by_cases h1 : n < m
  · have t1 := HL.out
    rw [decide_eq_true h1] at t1
    rw [if_pos h1] at hc
    subst hc
    go_wp2
    go_ret
    exact ⟨rfl, HQ.out⟩
  · have t1 := HL.out
    rw [decide_eq_false h1] at t1
    rw [if_neg h1] at hc
    by_cases h2 : m < n
    · have t2 := HG.out
      rw [decide_eq_true h2] at t2
      rw [if_pos h2] at hc
      subst hc
      go_wp2
      go_ret
      exact ⟨rfl, HQ.out⟩
    · have t2 := HG.out
      rw [decide_eq_false h2] at t2
      rw [if_neg h2] at hc
      subst hc
      go_wp2
      go_ret
      exact ⟨rfl, HQ.out⟩
def OrRel (a b : Int) (w : World) (i : Value) (wr : World) : Prop := ∃ k : Nat, k ≤ 2 ∧ i = .int .i64 k ∧ (1 ≤ k → a = 0) ∧ (2 ≤ k → b = 0) ∧ Qu w wr
set_option maxRecDepth 100000 in
theorem or_any (N : Nat) (a b : Int) (w : World) (h0 : w.cell? ⟨N, 0, none⟩ = some (.int .i64 a)) (h1 : w.cell? ⟨N, 1, none⟩ = some (.int .i64 b)) :
    Calls Tryz.prog 64 #[.slice (some ⟨N, 0, none⟩) 2 2] w (Stays (.int .i64 (if a ≠ 0 then a else b)) w) := by
  obtain ⟨r, hr⟩ : ∃ r, r = if a ≠ 0 then a else b := ⟨_, rfl⟩
  rw [← hr]
  have HR := hid hr
  clear hr
  go_enter Tryz.func64, Tryz.ntmps64
  go_wp2
  go_loopw [8] (fun i wr => OrRel a b w i wr) (fun i _ => 2 - (intOf i).toNat)
  case atStart => exact ⟨0, by omega, rfl, fun h => by omega, fun h => by omega, Qu.refl _⟩
  case round =>
    obtain ⟨k, hk, rfl, ha, hb, hq⟩ := hrel
    have y0 : wr.cell? ⟨N, 0, none⟩ = _ := (hq.cell _).trans h0
    have y1 : wr.cell? ⟨N, 1, none⟩ = _ := (hq.cell _).trans h1
    have HQ := hid hq
    clear hq
    have hk3 : k = 0 ∨ k = 1 ∨ k = 2 := by omega
    rcases hk3 with rfl | rfl | rfl
    · by_cases hz : a = 0
      · have t1 : (a != 0) = false := by simp [hz]
        go_wp2
        go_roundw
        case rel => exact ⟨1, by omega, by go_num, fun _ => hz, fun h => by omega, HQ.out⟩
        case measure => simp [intOf]
      · have t1 : (a != 0) = true := by simpa using hz
        have hra : r = a := by rw [HR.out, if_pos hz]
        subst hra
        go_wp2
        go_ret
        exact ⟨rfl, HQ.out⟩
    · have ha0 := ha (by omega)
      have hra : r = b := by rw [HR.out, if_neg (by simp [ha0])]
      by_cases hz : b = 0
      · have t1 : (b != 0) = false := by simp [hz]
        go_wp2
        go_roundw
        case rel => exact ⟨2, by omega, by go_num, fun _ => ha0, fun _ => hz, HQ.out⟩
        case measure => simp [intOf]
      · have t1 : (b != 0) = true := by simpa using hz
        subst hra
        go_wp2
        go_ret
        exact ⟨rfl, HQ.out⟩
    · have ha0 := ha (by omega)
      have hb0 := hb (by omega)
      have hra : r = 0 := by rw [HR.out, if_neg (by simp [ha0]), hb0]
      subst hra
      go_wp2
      go_ret
      exact ⟨rfl, HQ.out⟩
theorem alloc_grow1 (W : World) (a : Obj) (q : Nat) : (W.alloc a).drewN q = grow (W.drewN q) #[a] := by
  rw [alloc_eq_grow]; rfl
set_option maxRecDepth 100000 in
theorem cmpL_any {x y : G2} (hx : inG x) (hy : inG y) (W : World) : Calls Tryz.prog 63 #[CV x, CV y] W fun e w' => e = .returned (.int .i64 (cm2 x y)) ∧ ∃ q os', w' = grow (W.drewN q) os' := by
  obtain ⟨x1, x2⟩ := x
  obtain ⟨y1, y2⟩ := y
  have HC1 := hid (fun w => cmpF_any hx.1.1 hx.1.2 hy.1.1 hy.1.2 w)
  have HC2 := hid (fun w => cmpF_any hx.2.1 hx.2.2 hy.2.1 hy.2.2 w)
  unfold CV
  have hc : cm2 (x1, x2) (y1, y2) = if cm1 x1 y1 ≠ 0 then cm1 x1 y1 else cm1 x2 y2 := rfl
  simp only at HC1 HC2 ⊢
  generalize cm2 (x1, x2) (y1, y2) = r at *
  generalize cm1 x1 y1 = c1 at *
  generalize cm1 x2 y2 = c2 at *
  generalize FB x1 = a1 at *
  generalize FB x2 = a2 at *
  generalize FB y1 = b1 at *
  generalize FB y2 = b2 at *
  have HR := hid hc
  clear hc
  go_enter Tryz.func63, Tryz.ntmps63
  go_wp2_with fail
  refine (HC1.out W).mono ?_
  rintro e w1 ⟨rfl, hq1⟩
  go_wp2_with fail
  refine (HC2.out w1).mono ?_
  rintro e w2 ⟨rfl, hq2⟩
  obtain ⟨q, hq⟩ := hq1.trans hq2
  obtain ⟨W3, hW3⟩ : ∃ W', W' = w2.alloc (.cells #[.int .i64 c1, .int .i64 c2] 3) := ⟨_, rfl⟩
  have HO := hid (or_any w2.heap.size c1 c2 W3 (by rw [hW3]; simp [go_sem]) (by rw [hW3]; simp [go_sem]))
  rw [← HR.out] at HO
  have HW3 := hid hW3; have HQ := hid hq
  clear hq1 hq2 hq hW3
  go_wp2_with fail
  rw [← HW3.out]
  refine HO.out.mono ?_
  rintro e w4 ⟨rfl, nq, rfl⟩
  go_wp2
  go_ret
  refine ⟨rfl, q + nq, #[.cells #[.int .i64 c1, .int .i64 c2] 3], ?_⟩
  rw [HW3.out, HQ.out, alloc_grow1, drewN_add]
end Go.Proofs.YtkgifbnkkmeoiaaGreatDoor
/- slices.SortFunc at the complex numbers, off the shelf (the layings are the kit's own command's print, in plain words; shelf.py put names for numbers). -/
namespace Go.Proofs.YtkgifbnkkmeoiaaGreatDoor
open Go.Shelf
def laysK_ren : Go.Shelf.Ren := ⟨fun | 6 => 62 | 15 => 79 | 14 => 78 | 28 => 100 | 29 => 101 | 20 => 92 | 21 => 93 | 22 => 94 | 23 => 95 | 24 => 96 | 25 => 97 | 26 => 98 | 27 => 99 | 46 => 116 | 47 => 117 | 48 => 118 | 49 => 119 | 50 => 120 | 57 => 132 | n => n, fun | 22 => 104 | 24 => 105 | 25 => 111 | 3 => 3 | 39 => 84 | 0 => 0 | 53 => 37 | 55 => 83 | 4 => 4 | 46 => 141 | 45 => 140 | 50 => 145 | 5 => 5 | 9 => 9 | 66 => 158 | 70 => 59 | 76 => 176 | 77 => 177 | n => n, fun | n => n⟩
theorem laysK : Go.Proofs.SlLaysF0.n6 Tryz.prog laysK_ren := {
  mixed := by kernel_rfl
  f6 := ⟨Tryz.f62.name, by decide, Tryz.func62.trans (congrArg some (by kernel_rfl))⟩
  f14 := ⟨Tryz.f78.name, by decide, Tryz.func78.trans (congrArg some (by kernel_rfl))⟩
  f15 := Tryz.func79.trans (congrArg some (by kernel_rfl))
  f20 := ⟨Tryz.f92.name, by decide, Tryz.func92.trans (congrArg some (by kernel_rfl))⟩
  f21 := ⟨Tryz.f93.name, by decide, Tryz.func93.trans (congrArg some (by kernel_rfl))⟩
  f22 := ⟨Tryz.f94.name, by decide, Tryz.func94.trans (congrArg some (by kernel_rfl))⟩
  f23 := ⟨Tryz.f95.name, by decide, Tryz.func95.trans (congrArg some (by kernel_rfl))⟩
  f24 := ⟨Tryz.f96.name, by decide, Tryz.func96.trans (congrArg some (by kernel_rfl))⟩
  f25 := ⟨Tryz.f97.name, by decide, Tryz.func97.trans (congrArg some (by kernel_rfl))⟩
  f26 := ⟨Tryz.f98.name, by decide, Tryz.func98.trans (congrArg some (by kernel_rfl))⟩
  f27 := ⟨Tryz.f99.name, by decide, Tryz.func99.trans (congrArg some (by kernel_rfl))⟩
  f28 := Tryz.func100.trans (congrArg some (by kernel_rfl))
  f29 := Tryz.func101.trans (congrArg some (by kernel_rfl))
  f46 := ⟨Tryz.f116.name, by decide, Tryz.func116.trans (congrArg some (by kernel_rfl))⟩
  f47 := Tryz.func117.trans (congrArg some (by kernel_rfl))
  f48 := Tryz.func118.trans (congrArg some (by kernel_rfl))
  f49 := ⟨Tryz.f119.name, by decide, Tryz.func119.trans (congrArg some (by kernel_rfl))⟩
  f50 := ⟨Tryz.f120.name, by decide, Tryz.func120.trans (congrArg some (by kernel_rfl))⟩
  f57 := ⟨Tryz.f132.name, by decide, Tryz.func132.trans (congrArg some (by kernel_rfl))⟩
  t0 := Tryz.underlying0
  a0 := Tryz.isAgg0
  z0 := Tryz.sizeOf0
  v0 := Tryz.zeroValue0
  t3 := Tryz.underlying3
  a3 := Tryz.isAgg3
  z3 := Tryz.sizeOf3
  v3 := Tryz.zeroValue3
  t4 := Tryz.underlying4
  a4 := Tryz.isAgg4
  z4 := Tryz.sizeOf4
  v4 := Tryz.zeroValue4
  t5 := Tryz.underlying5
  a5 := Tryz.isAgg5
  z5 := Tryz.sizeOf5
  v5 := Tryz.zeroValue5
  t9 := Tryz.underlying9
  a9 := Tryz.isAgg9
  z9 := Tryz.sizeOf9
  v9 := Tryz.zeroValue9
  t22 := Tryz.underlying104
  a22 := Tryz.isAgg104
  z22 := Tryz.sizeOf104
  v22 := Tryz.zeroValue104
  t25 := Tryz.underlying111
  a25 := Tryz.isAgg111
  z25 := Tryz.sizeOf111
  v25 := Tryz.zeroValue111
  t39 := Tryz.underlying84
  a39 := Tryz.isAgg84
  z39 := Tryz.sizeOf84
  v39 := Tryz.zeroValue84
  t45 := Tryz.underlying140
  a45 := Tryz.isAgg140
  z45 := Tryz.sizeOf140
  v45 := Tryz.zeroValue140
  t46 := Tryz.underlying141
  a46 := Tryz.isAgg141
  z46 := Tryz.sizeOf141
  v46 := Tryz.zeroValue141
  t50 := Tryz.underlying145
  a50 := Tryz.isAgg145
  z50 := Tryz.sizeOf145
  v50 := Tryz.zeroValue145
  t53 := Tryz.underlying37
  a53 := Tryz.isAgg37
  z53 := Tryz.sizeOf37
  v53 := Tryz.zeroValue37
  t55 := Tryz.underlying83
  a55 := Tryz.isAgg83
  z55 := Tryz.sizeOf83
  v55 := Tryz.zeroValue83
  t66 := Tryz.underlying158
  a66 := Tryz.isAgg158
  z66 := Tryz.sizeOf158
  v66 := Tryz.zeroValue158
  t70 := Tryz.underlying59
  a70 := Tryz.isAgg59
  z70 := Tryz.sizeOf59
  v70 := Tryz.zeroValue59
  t76 := Tryz.underlying176
  a76 := Tryz.isAgg176
  z76 := Tryz.sizeOf176
  v76 := Tryz.zeroValue176
  t77 := Tryz.underlying177
  a77 := Tryz.isAgg177
  z77 := Tryz.sizeOf177
  v77 := Tryz.zeroValue177 }
theorem laysK1 : Go.Proofs.SlLaysF.n6 Tryz.prog laysK_ren := { laysK with a24 := Tryz.isAgg105, z24 := Tryz.sizeOf105 }
end Go.Proofs.YtkgifbnkkmeoiaaGreatDoor
