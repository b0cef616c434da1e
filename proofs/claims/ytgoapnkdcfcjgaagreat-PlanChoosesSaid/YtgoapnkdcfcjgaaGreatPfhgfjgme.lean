/- 4 texts of this claim, in build order. -/
import Derived.Test.YtgoapnkdcfcjgaaGreatPkkdpconn
set_option linter.unusedVariables false
set_option linter.unusedSimpArgs false
namespace Go.Proofs.YtgoapnkdcfcjgaaGreat
structure zp where
 n : Int
 s : List Int
 lo : List Int
 hi : List Int
deriving DecidableEq
def VAL : Int := 2305843009213693952
def SUM : Int := 4611686018427387904
def CNT : Int := 1099511627776
def inB (x m : Int) : Bool := decide (-m <= x) && decide (x <= m)
theorem zcm {x m : Int} : inB x m = true ↔ -m <= x /\ x <= m := by unfold inB; simp
theorem zqU {x m : Int} : inB x m = false ↔ ¬ (-m <= x /\ x <= m) := by rw [<- zcm]; cases inB x m <;> simp
def zz (m : Nat) : zp := ⟨0, List.replicate m 0, List.replicate m 0, List.replicate m 0⟩
def nilC : zp := ⟨0, [], [], []⟩
def colP (n x lo hi : Int) : Prop := lo <= hi /\ (-VAL <= lo /\ lo <= VAL) /\ (-VAL <= hi /\ hi <= VAL) /\ (-SUM <= x /\ x <= SUM) /\ (n = 1 -> x = lo /\ x = hi)
instance (n x lo hi : Int) : Decidable (colP n x lo hi) := by unfold colP; infer_instance
def zp.col (c : zp) (i : Nat) : Prop := colP c.n (c.s.getD i 0) (c.lo.getD i 0) (c.hi.getD i 0)
instance (c : zp) (i : Nat) : Decidable (c.col i) := by unfold zp.col; infer_instance
def zp.shape (c : zp) : Prop := c.s.length <= 2 /\ c.lo.length = c.s.length /\ c.hi.length = c.s.length
def MayP (c : zp) : Prop := c.shape /\ ((¬ (1 <= c.n /\ c.n <= CNT) /\ c = zz c.s.length) \/ ((1 <= c.n /\ c.n <= CNT) /\ ∀ i, i < c.s.length -> c.col i))
instance (c : zp) : Decidable (MayP c) := by unfold MayP zp.shape; infer_instance
def mayC (c : zp) : Bool := decide (MayP c)
theorem zaO {c : zp} : mayC c = true ↔ MayP c := by unfold mayC; rw [decide_eq_true_eq]
theorem zeJ {c : zp} : mayC c = false ↔ ¬ MayP c := by unfold mayC; rw [decide_eq_false_iff_not]
theorem znA {m : Nat} (h : m <= 2) : MayP (zz m) := by
 refine ⟨⟨by simp [zz, h], by simp [zz], by simp [zz]⟩, .inl ⟨by simp [zz], by simp [zz]⟩⟩
theorem zeR {c : zp} (h : MayP c) (h0 : c.n ≠ 0) : (1 <= c.n /\ c.n <= CNT) /\ ∀ i, i < c.s.length -> c.col i := by
 rcases h.2 with ⟨_, e⟩ | h
 ·rw [e] at h0; simp [zz] at h0
 ·exact h
theorem zpl {c : zp} (h : MayP c) (h0 : c.n = 0) : c = zz c.s.length := by
 rcases h.2 with ⟨_, e⟩ | h
 ·exact e
 ·omega
def zoP (a b : zp) : zp := ⟨a.n + b.n, List.zipWith (· + ·) a.s b.s, List.zipWith min a.lo b.lo, List.zipWith max a.hi b.hi⟩
def zbU (a b : zp) : zp × Int :=
 if mayC a = false \/ mayC b = false \/ a.s.length ≠ b.s.length then (nilC, 1) else if a.n = 0 then (b, 0) else if b.n = 0 then (a, 0) else
 if mayC (zoP a b) then (zoP a b, 0) else (nilC, 14)
def minL : List Int -> Int
 | [] => 0
 | x :: l => l.foldl min x
def maxL : List Int -> Int
 | [] => 0
 | x :: l => l.foldl max x
theorem zns (l : List Int) (x : Int) : (l.foldl min x = x \/ l.foldl min x ∈ l) /\ l.foldl min x <= x /\ ∀ y ∈ l, l.foldl min x <= y := by
 induction l generalizing x with
 | nil => simp
 | cons z l ih =>
   obtain ⟨h1, h2, h3⟩ := ih (min x z)
   simp only [List.foldl_cons]
   refine ⟨?_, by omega, fun y hy => ?_⟩
   ·rcases h1 with h1 | h1
    ·rw [h1]
     by_cases h : x <= z
     ·left; omega
     ·right; rw [show min x z = z by omega]; exact List.mem_cons_self
    ·right; exact List.mem_cons_of_mem _ h1
   ·rcases List.mem_cons.1 hy with rfl | hy
    ·omega
    ·exact h3 y hy
theorem znr (l : List Int) (x : Int) : (l.foldl max x = x \/ l.foldl max x ∈ l) /\ x <= l.foldl max x /\ ∀ y ∈ l, y <= l.foldl max x := by
 induction l generalizing x with
 | nil => simp
 | cons z l ih =>
   obtain ⟨h1, h2, h3⟩ := ih (max x z)
   simp only [List.foldl_cons]
   refine ⟨?_, by omega, fun y hy => ?_⟩
   ·rcases h1 with h1 | h1
    ·rw [h1]
     by_cases h : z <= x
     ·left; omega
     ·right; rw [show max x z = z by omega]; exact List.mem_cons_self
    ·right; exact List.mem_cons_of_mem _ h1
   ·rcases List.mem_cons.1 hy with rfl | hy
    ·omega
    ·exact h3 y hy
theorem zdT {l : List Int} (h : l ≠ []) : minL l ∈ l /\ ∀ y ∈ l, minL l <= y := by
 cases l with
 | nil => exact absurd rfl h
 | cons x l =>
   obtain ⟨h1, h2, h3⟩ := zns l x
   refine ⟨?_, fun y hy => ?_⟩
   ·show l.foldl min x ∈ _
    rcases h1 with h1 | h1
    ·rw [h1]; exact List.mem_cons_self
    ·exact List.mem_cons_of_mem _ h1
   ·rcases List.mem_cons.1 hy with rfl | hy
    ·exact h2
    ·exact h3 y hy
theorem zdS {l : List Int} (h : l ≠ []) : maxL l ∈ l /\ ∀ y ∈ l, y <= maxL l := by
 cases l with
 | nil => exact absurd rfl h
 | cons x l =>
   obtain ⟨h1, h2, h3⟩ := znr l x
   refine ⟨?_, fun y hy => ?_⟩
   ·show l.foldl max x ∈ _
    rcases h1 with h1 | h1
    ·rw [h1]; exact List.mem_cons_self
    ·exact List.mem_cons_of_mem _ h1
   ·rcases List.mem_cons.1 hy with rfl | hy
    ·exact h2
    ·exact h3 y hy
theorem zjc {l : List Int} {x : Int} (h1 : x ∈ l) (h2 : ∀ y ∈ l, x <= y) : minL l = x := by
 have := zdT (List.ne_nil_of_mem h1)
 have a := this.2 x h1
 have b := h2 _ this.1
 omega
theorem zjo {l : List Int} {x : Int} (h1 : x ∈ l) (h2 : ∀ y ∈ l, y <= x) : maxL l = x := by
 have := zdS (List.ne_nil_of_mem h1)
 have a := this.2 x h1
 have b := h2 _ this.1
 omega
theorem zeW {l m : List Int} (hl : l ≠ []) (hm : m ≠ []) : minL (l ++ m) = min (minL l) (minL m) := by
 obtain ⟨a1, a2⟩ := zdT hl
 obtain ⟨b1, b2⟩ := zdT hm
 refine zjc ?_ (fun y hy => ?_)
 ·by_cases h : minL l <= minL m
  ·rw [show min (minL l) (minL m) = minL l by omega]; exact List.mem_append_left _ a1
  ·rw [show min (minL l) (minL m) = minL m by omega]; exact List.mem_append_right _ b1
 ·rcases List.mem_append.1 hy with h | h
  ·have := a2 y h; omega
  ·have := b2 y h; omega
theorem zfM {l m : List Int} (hl : l ≠ []) (hm : m ≠ []) : maxL (l ++ m) = max (maxL l) (maxL m) := by
 obtain ⟨a1, a2⟩ := zdS hl
 obtain ⟨b1, b2⟩ := zdS hm
 refine zjo ?_ (fun y hy => ?_)
 ·by_cases h : minL m <= minL l /\ maxL m <= maxL l
  ·rw [show max (maxL l) (maxL m) = maxL l by omega]; exact List.mem_append_left _ a1
  ·by_cases h' : maxL m <= maxL l
   ·rw [show max (maxL l) (maxL m) = maxL l by omega]; exact List.mem_append_left _ a1
   ·rw [show max (maxL l) (maxL m) = maxL m by omega]; exact List.mem_append_right _ b1
 ·rcases List.mem_append.1 hy with h | h
  ·have := a2 y h; omega
  ·have := b2 y h; omega
def zaU (m : Int) (v : List Int) : Bool := decide ((v.length : Int) = m) && v.all (fun x => inB x VAL)
def colL (l : List (List Int)) (i : Nat) : List Int := l.map fun v => v.getD i 0
def zi (m : Nat) (l : List (List Int)) : zp := ⟨l.length, (List.range m).map fun i => (colL l i).sum, (List.range m).map fun i => minL (colL l i), (List.range m).map fun i => maxL (colL l i)⟩
def zaQ (m : Int) (l : List (List Int)) : zp × Int :=
 if m < 0 \/ 2 < m then (nilC, 1) else if l.all (zaU m) = false then (nilC, 1) else if l = [] then (zz m.toNat, 0) else
 if mayC (zi m.toNat l) then (zi m.toNat l, 0) else (nilC, 14)
theorem zF {f : Nat -> Int} {m i : Nat} (h : i < m) : ((List.range m).map f).getD i 0 = f i := by
 simp [List.getD_eq_getElem?_getD, h]
theorem zcH {m : Int} {v : List Int} : zaU m v = true ↔ (v.length : Int) = m /\ ∀ x ∈ v, -VAL <= x /\ x <= VAL := by
 unfold zaU
 rw [Bool.and_eq_true, decide_eq_true_eq, List.all_eq_true]
 exact ⟨fun h => ⟨h.1, fun x hx => zcm.1 (h.2 x hx)⟩, fun h => ⟨h.1, fun x hx => zcm.2 (h.2 x hx)⟩⟩
theorem zig {m i : Nat} {l : List (List Int)} (h : ∀ v ∈ l, zaU m v = true) (hi : i < m) : ∀ x ∈ colL l i, -VAL <= x /\ x <= VAL := by
 intro x hx
 obtain ⟨v, hv, rfl⟩ := List.mem_map.1 hx
 obtain ⟨h1, h2⟩ := zcH.1 (h v hv)
 have hlt : i < v.length := by omega
 rw [List.getD_eq_getElem?_getD, List.getElem?_eq_getElem hlt]
 exact h2 _ (List.getElem_mem hlt)
theorem zc2 {m : Nat} {l : List (List Int)} (hm : m <= 2) (hl : l ≠ []) (hn : l.length <= 1000000) (hv : ∀ v ∈ l, zaU m v = true) :
  MayP (zi m l) ↔ ∀ i, i < m -> -SUM <= (colL l i).sum /\ (colL l i).sum <= SUM := by
 have h0 : 0 < l.length := List.length_pos_iff.2 hl
 have hcol : ∀ i, i < m -> ((zi m l).col i ↔ -SUM <= (colL l i).sum /\ (colL l i).sum <= SUM) := by
  intro i hi
  have hne : colL l i ≠ [] := by intro h; exact hl (List.map_eq_nil_iff.1 h)
  have hx := zig hv hi
  obtain ⟨a1, a2⟩ := zdT hne
  obtain ⟨b1, b2⟩ := zdS hne
  unfold zp.col zi colP
  simp only
  rw [zF hi, zF hi, zF hi]
  constructor
  ·intro h; exact h.2.2.2.1
  ·intro h
   refine ⟨a2 _ b1, hx _ a1, hx _ b1, h, fun h1 => ?_⟩
   match l, h1 with
   | [v], _ => simp [colL, minL, maxL]
   | [], h1 => simp at h1
   | _ :: _ :: _, h1 => simp at h1; omega
 unfold MayP zp.shape
 have hs : (zi m l).s.length = m := by simp [zi]
 rw [hs]
 constructor
 ·rintro ⟨_, ⟨h1, h2⟩ | ⟨h1, h2⟩⟩
  ·exfalso
   have : (zi m l).n = 0 := by rw [h2]; rfl
   simp only [zi] at this; omega
  ·exact fun i hi => (hcol i hi).1 (h2 i hi)
 ·intro h
  refine ⟨⟨hm, by simp [zi], by simp [zi]⟩, .inr ⟨?_, fun i hi => (hcol i hi).2 (h i hi)⟩⟩
  simp only [zi]
  unfold CNT; omega
def bit (z : Int) (k : Nat) : Int := (z / 2 ^ k) % 2
def bits (z : Int) (n : Nat) : List Int := (List.range n).map (bit z)
theorem zaX (z : Int) (n : Nat) : (bits z n).length = n := by simp [bits]
theorem zhZ (z : Int) (n : Nat) : bits z (n + 1) = bits z n ++ [bit z n] := by simp [bits, List.range_succ]
theorem zoB (z : Int) (n k : Nat) (h : k < n) : (bits z n)[k]? = some (bit z k) := by
 simp [bits, List.getElem?_map, List.getElem?_range h]
theorem zkA (z : Int) (k : Nat) : 0 <= bit z k /\ bit z k <= 1 := by unfold bit; omega
theorem zdL (k : Nat) : (0 : Int) < 2 ^ k := Int.pow_pos (by omega)
theorem zbY (z : Int) (k : Nat) : z / 2 ^ (k + 1) = z / 2 ^ k / 2 := by
 rw [Int.pow_succ, Int.ediv_ediv_of_nonneg (by have := zdL k; omega)]
theorem zjB (z : Int) (k : Nat) : 2 * (z / 2 ^ (k + 1)) + bit z k = z / 2 ^ k := by
 rw [zbY]; unfold bit; omega
def zeV (x y : Int) (k : Nat) : Int := (x % 2 ^ k + y % 2 ^ k) / 2 ^ k
theorem zdz (p x : Int) (hp : 0 < p) : ∃ q r, x = p * q + r /\ 0 <= r /\ r < p /\ x / p = q /\ x % p = r :=
 ⟨x / p, x % p, (Int.mul_ediv_add_emod x p).symm, Int.emod_nonneg _ (by omega), Int.emod_lt_of_pos _ hp, rfl, rfl⟩
theorem zdk (x y : Int) (k : Nat) : (x + y) / 2 ^ k = x / 2 ^ k + y / 2 ^ k + zeV x y k := by
 unfold zeV
 have hp := zdL k
 generalize (2 : Int) ^ k = p at hp
 obtain ⟨qx, rx, hx, hx0, hx1, ex, ex'⟩ := zdz p x hp
 obtain ⟨qy, ry, hy, hy0, hy1, ey, ey'⟩ := zdz p y hp
 rw [ex, ex', ey, ey', hx, hy]
 rw [show p * qx + rx + (p * qy + ry) = (rx + ry) + p * (qx + qy) by rw [Int.mul_add]; omega]
 rw [Int.add_mul_ediv_left _ _ (by omega)]
 omega
theorem zoY (x y : Int) (k : Nat) : 0 <= zeV x y k /\ zeV x y k <= 1 := by
 unfold zeV
 have hp := zdL k
 generalize (2 : Int) ^ k = p at hp
 obtain ⟨qx, rx, hx, hx0, hx1, ex, ex'⟩ := zdz p x hp
 obtain ⟨qy, ry, hy, hy0, hy1, ey, ey'⟩ := zdz p y hp
 rw [ex', ey']
 constructor
 ·exact Int.ediv_nonneg (by omega) (by omega)
 ·have : (rx + ry) / p < 2 := Int.ediv_lt_of_lt_mul hp (by omega)
  omega
theorem zlp (x y : Int) : zeV x y 0 = 0 := by simp [zeV, Int.emod_one]
theorem zq9 (x y : Int) (k : Nat) : bit (x + y) k = (bit x k + bit y k + zeV x y k) % 2 := by
 unfold bit; rw [zdk]; omega
theorem zl9 (x y : Int) (k : Nat) : zeV x y (k + 1) = (bit x k + bit y k + zeV x y k) / 2 := by
 have h1 := zdk x y (k + 1)
 have h2 := zdk x y k
 rw [zbY (x + y), zbY x, zbY y, h2] at h1
 unfold bit
 omega
theorem zoE (z : Int) (m k : Nat) : bit z (m + k) = bit (z / 2 ^ m) k := by
 unfold bit
 rw [Int.ediv_ediv_of_nonneg (by have := zdL m; omega), Int.pow_add]
end Go.Proofs.YtgoapnkdcfcjgaaGreat
namespace Go.Proofs.YtgoapnkdcfcjgaaGreat
open Go.ChangeShapes Go.WideShapes Go.ChangeAt Go.RowKit
def zm2 (n : Int) (w : World) (e : Ending) (w' : World) : Prop := ∃ v, e = .returned v /\ Sl w' w'.heap.size v (zk (bits n 80)) /\ Below w.heap.size w w'
def zo3 (n : Int) (w : World) (v i m : Value) (wr : World) : Prop :=
 ∃ k : Nat, k <= 80 /\ i = .int .i64 k /\ m = .int .i64 (n / 2 ^ k) /\ wr.ownsRow w.heap.size 3 1 v k (zk (bits n k)) /\ Below w.heap.size w wr
set_option maxRecDepth 100000 in
set_option maxHeartbeats 400000 in
theorem zis (n : Int) (w : World) :
  Calls Tryz.prog 145 #[.int .i64 n] w (zm2 n w) := by
 obtain ⟨i0, hi, hz0, hz1, hz2⟩ := info_parts zaE
 go_enter Tryz.func145, Tryz.ntmps145
 go_wp2
 go_loopw [3, 4, 0] (fun v i m wr => zo3 n w v i m wr) (fun _ i _ _ => 80 - (intOf i).toNat)
 case atStart => exact ⟨0, by omega, rfl, by simp, World.ownsRow_nil _ _ _ _, Below.refl _ _⟩
 case round =>
  obtain ⟨k, hk, rfl, rfl, hown, hb⟩ := hrel
  have hB := hb.size
  by_cases hlt : k < 80
  ·go_wp2_with (at_builtin; refine zr ?_)
   refine zar ?_
   refine wpList_append_own _ rfl _ _ 190 rfl w.heap.size 3 i0 (.int .i64 0) 1 8 Tryz.underlying190 hi hz0 hz1 hz2 rfl (by decide) u3 _ _ rfl (hown.alloc _) ⟨wr.heap.size, 0, none⟩ 1 1 [_] rfl rfl (cell_one_new _ _ _) (by simp; rfl) (by simp [maxLen]; omega) (by omega) (by simp; omega) ?_
   intro v' w1 hown1 hg1 _
   go_wp2
   go_roundw
   case rel =>
    refine ⟨k + 1, by omega, by go_num, by rw [zbY], ?_, ziP hown hb hB hg1⟩
    rw [zhZ, za0]
    rw [zi5] at hown1
    exact hown1
   case measure => simp [intOf]; omega
  ·obtain rfl : k = 80 := by omega
   go_wp2
   go_ret
   exact ⟨_, rfl, Sl.of_own hown, hb⟩
theorem zbI (z : Int) (n k : Nat) (h : k < n) : (bits z n).getD k 0 = bit z k := by
 rw [List.getD_eq_getElem?_getD, zoB _ _ _ h]; rfl
def zlR (x y : Int) (w : World) (e : Ending) (w' : World) : Prop := ∃ v, e = .returned v /\ Sl w' w'.heap.size v (zk (bits (x + y) 80)) /\ Below w.heap.size w w'
def zmI (x y : Int) (w : World) (v m i : Value) (wr : World) : Prop :=
 ∃ k : Nat, k <= 80 /\ i = .int .i64 k /\ m = .int .i64 (zeV x y k) /\ wr.ownsRow w.heap.size 3 1 v k (zk (bits (x + y) k)) /\ Below w.heap.size w wr
set_option maxRecDepth 100000 in
set_option maxHeartbeats 400000 in
theorem zlw (v0 v1 : Value) (x y : Int) (w : World) (hx : Sl w w.heap.size v0 (zk (bits x 80))) (hy : Sl w w.heap.size v1 (zk (bits y 80))) :
  Calls Tryz.prog 146 #[v0, v1] w (zlR x y w) := by
 obtain ⟨i0, hi, hz0, hz1, hz2⟩ := info_parts zaE
 obtain ⟨b, off, c, rfl, hc1, hc2, hbl, hcell⟩ := hx.ints (by simp [zaX])
 obtain ⟨b', off', c', rfl, hc1', hc2', hbl', hcell'⟩ := hy.ints (by simp [zaX])
 simp only [zaX] at *
 have HX := hid hcell; have HY := hid hcell'
 clear hx hy hcell hcell'
 go_enter Tryz.func146, Tryz.ntmps146
 go_wp2
 go_loopw [5, 6, 7] (fun v m i wr => zmI x y w v m i wr) (fun _ _ i _ => 80 - (intOf i).toNat)
 case atStart => exact ⟨0, by omega, rfl, by simp [zlp], World.ownsRow_nil _ _ _ _, Below.refl _ _⟩
 case round =>
  obtain ⟨k, hk, rfl, rfl, hown, hb⟩ := hrel
  have hB := hb.size
  by_cases hlt : k < 80
  ·have g1 : wr.cell? ⟨b, off + k, none⟩ = some (.int .i64 (bit x k)) := by
    rw [<- zbI x 80 k hlt]; exact (hb.cell (p := ⟨b, off + k, none⟩) hbl).trans (HX.out k hlt)
   have g2 : wr.cell? ⟨b', off' + k, none⟩ = some (.int .i64 (bit y k)) := by
    rw [<- zbI y 80 k hlt]; exact (hb.cell (p := ⟨b', off' + k, none⟩) hbl').trans (HY.out k hlt)
   have q1 := zkA x k
   have q2 := zkA y k
   have q3 := zoY x y k
   go_wp2
   go_quiet (fail)
   generalize hwq : World.drewN wr _ = wq
   have hownq : wq.ownsRow w.heap.size 3 1 u5 k (zk (bits (x + y) k)) := by rw [<- hwq]; exact hown
   have hbq : Below w.heap.size w wq := by rw [<- hwq]; exact zn hb _
   have hBq := hbq.size
   clear hwq g1 g2
   go_wp2_with (at_builtin; refine zr ?_)
   refine zar ?_
   refine wpList_append_own _ rfl _ _ 190 rfl w.heap.size 3 i0 (.int .i64 0) 1 8 Tryz.underlying190 hi hz0 hz1 hz2 rfl (by decide) u5 _ _ rfl (hownq.alloc _) ⟨wq.heap.size, 0, none⟩ 1 1 [_] rfl rfl (cell_one_new _ _ _) (by simp; rfl) (by simp [maxLen]; omega) (by omega) (by simp; omega) ?_
   intro v' w1 hown1 hg1 _
   go_wp2
   go_roundw
   case rel =>
    refine ⟨k + 1, by omega, by go_num, by rw [zl9], ?_, ziP hownq hbq hBq hg1⟩
    rw [zhZ, za0, zq9]
    exact hown1
   case measure => simp [intOf]; omega
  ·obtain rfl : k = 80 := by omega
   go_wp2
   go_ret
   exact ⟨_, rfl, Sl.of_own hown, hb⟩
def nAt (V : Int) (m j : Nat) : Int := if j = m then 0 else V / 2 ^ j
def Fits (V : Int) (m : Nat) : Bool -> Prop
 | true => -2 ^ (m - 1) <= V /\ V < 2 ^ (m - 1)
 | false => 0 <= V /\ V < 2 ^ m
theorem zmb (V : Int) (j : Nat) (h1 : -9223372036854775808 <= V) (h2 : V <= 9223372036854775807) : -9223372036854775808 <= V / 2 ^ j /\ V / 2 ^ j <= 9223372036854775807 := by
 induction j with
 | zero => simp only [Int.pow_zero, Int.ediv_one]; omega
 | succ j ih => rw [zbY]; omega
theorem zkV (V : Int) (m j : Nat) (h1 : -9223372036854775808 <= V) (h2 : V <= 9223372036854775807) : -4611686018427387904 <= nAt V m (j + 1) /\ nAt V m (j + 1) <= 4611686018427387903 := by
 unfold nAt
 have := zmb V j h1 h2
 split
 ·omega
 ·rw [zbY]; omega
theorem zoy (V : Int) (m : Nat) (h : 0 < m) : nAt V m 0 = V := by
 unfold nAt
 rw [if_neg (by omega), Int.pow_zero, Int.ediv_one]
theorem zh9 (V : Int) (m : Nat) (h0 : 0 <= V) (h1 : V < 2 ^ m) : V / 2 ^ m = 0 := Int.ediv_eq_zero_of_lt h0 h1
theorem zkb (V : Int) (m t : Nat) (ht : t < m) (h : t + 1 = m -> 0 <= V /\ V < 2 ^ m) : 2 * nAt V m (t + 1) + bit V t = nAt V m t := by
 unfold nAt
 rw [if_neg (by omega : ¬ t = m)]
 split
 ·rename_i e
  have := zjB V t
  rw [e, zh9 V m (h e).1 (h e).2] at this
  exact this
 ·exact zjB V t
theorem zq5 (V : Int) (m t : Nat) (ht : t + 1 = m) (h1 : -2 ^ (m - 1) <= V) (h2 : V < 2 ^ (m - 1)) : -bit V t = nAt V m t := by
 subst ht
 unfold nAt
 rw [if_neg (by omega)]
 simp only [Nat.add_sub_cancel] at h1 h2
 have hp := zdL t
 unfold bit
 rcases Int.lt_or_le V 0 with h | h
 ·have : V / 2 ^ t = -1 := by
   apply Int.le_antisymm
   ·have := Int.ediv_neg_of_neg_of_pos h hp; omega
   ·rw [Int.le_ediv_iff_mul_le hp]; omega
  rw [this]; rfl
 ·rw [Int.ediv_eq_zero_of_lt h h2]; rfl
def zqP (V : Int) (w : World) (e : Ending) (w' : World) : Prop := e = .returned (.int .i64 V) /\ w' = w
def NumRel (V : Int) (m : Nat) (n i : Value) : Prop :=
 ∃ j : Nat, j <= m /\ i = .int .i64 ((j : Int) - 1) /\ n = .int .i64 (nAt V m j)
set_option maxRecDepth 100000 in
set_option maxHeartbeats 400000 in
theorem zlq (v0 : Value) (sg : Bool) (V : Int) (m : Nat) (w : World) (hr : Sl w w.heap.size v0 (zk (bits V m))) (hm : 0 < m) (hm' : m <= 64) (hV : Fits V m sg)
  (h1 : -9223372036854775808 <= V) (h2 : V <= 9223372036854775807) :
  Calls Tryz.prog 144 #[v0, .bool sg] w (zqP V w) := by
 obtain ⟨b, off, c, rfl, hc1, hc2, hbl, hcell⟩ := hr.ints (by simpa [zaX] using hm)
 simp only [zaX] at *
 have HX := hid hcell; have HV := hid hV
 clear hr hcell hV
 go_enter Tryz.func144, Tryz.ntmps144
 go_wp2
 go_loop [5, 6] (fun n i => NumRel V m n i) (fun _ i => (intOf i + 1).toNat)
 case atStart => exact ⟨m, by omega, rfl, by simp [nAt]⟩
 case round =>
  obtain ⟨j, hj, rfl, rfl⟩ := hrel
  rcases j with _ | t
  ·go_wp2
   go_ret
   exact ⟨zd8 (zoy V m hm), rfl⟩
  ·have g1 : w.cell? ⟨b, off + t, none⟩ = some (.int .i64 (bit V t)) := by
    rw [<- zbI V m t (by omega)]; exact HX.out t (by omega)
   have q1 := zkA V t
   rw [show (((t + 1 : Nat) : Int) - 1) = (t : Int) by omega]
   have q2 := zkV V m t h1 h2
   by_cases ht : t + 1 = m
   ·have ht' : ((t : Int) == (m : Int) - 1) = true := by rw [beq_iff_eq]; omega
    have HT := hid ht; clear ht
    cases sg
    ·have Hq := hid (zkb V m t (by omega) (fun _ => HV.out))
     generalize nAt V m (t + 1) = q at q2 Hq
     go_wp2
     go_round
     case rel => exact ⟨t, by omega, rfl, by rw [<- Hq.out]⟩
     case measure => simp [intOf]
    ·have Hq := hid (zq5 V m t HT.out HV.out.1 HV.out.2)
     go_wp2
     go_round
     case rel => exact ⟨t, by omega, rfl, by rw [<- Hq.out]⟩
     case measure => simp [intOf]
   ·have ht' : ((t : Int) == (m : Int) - 1) = false := by rw [beq_eq_false_iff_ne]; omega
    have Hq := hid (zkb V m t (by omega) (fun e => absurd e ht))
    generalize nAt V m (t + 1) = q at q2 Hq
    go_wp2
    go_round
    case rel => exact ⟨t, by omega, rfl, by rw [<- Hq.out]⟩
    case measure => simp [intOf]
theorem Sl.take_ {w : World} {B : Nat} {b off n c : Nat} {l : List Int} (hb : b < B) (hn : n = l.length) (hc : n <= c) (hm : c <= maxLen)
  (hcell : ∀ j, j < n -> w.cell? ⟨b, off + j, none⟩ = some (.int .i64 (l.getD j 0))) : Sl w B (.slice (some ⟨b, off, none⟩) n c) (zk l) := by
 subst hn
 refine ⟨_, c, by rw [zaf], by rw [zaf]; exact hc, hm, fun _ => ⟨b, off, rfl, hb, fun j u hu => ?_⟩⟩
 simp only [zk, List.getElem?_map, Option.map_eq_some_iff] at hu
 obtain ⟨x, hx, rfl⟩ := hu
 have hj : j < l.length := (List.getElem?_eq_some_iff.1 hx).1
 rw [hcell j hj, List.getD_eq_getElem?_getD, hx]; rfl
theorem zq7 {w w' : World} {B b off c : Nat} {z : Int} (hb : b < B) (hcell : ∀ j, j < 80 -> w.cell? ⟨b, off + j, none⟩ = some (.int .i64 ((bits z 80).getD j 0))) (hw : Qu w w')
  (fr n : Nat) (hfr : fr + n <= 80) (hn : n <= c) (hm : c <= maxLen) : Sl w' B (.slice (some ⟨b, off + fr, none⟩) n c) (zk (bits (z / 2 ^ fr) n)) := by
 refine Sl.take_ hb (by rw [zaX]) hn hm fun j hj => ?_
 rw [hw.cell, Nat.add_assoc, hcell _ (by omega), zbI _ _ _ (by omega), zbI _ _ _ hj, zoE]
theorem zqC {w w' : World} {B b off c : Nat} {z : Int} (hb : b < B) (hcell : ∀ j, j < 80 -> w.cell? ⟨b, off + j, none⟩ = some (.int .i64 ((bits z 80).getD j 0))) (hw : Qu w w')
  (n : Nat) (hfr : n <= 80) (hn : n <= c) (hm : c <= maxLen) : Sl w' B (.slice (some ⟨b, off, none⟩) n c) (zk (bits z n)) := by
 have := zq7 hb hcell hw 0 n (by omega) hn hm
 simpa using this
def zqB (z : Int) (j : Nat) : Prop := ∀ k, 64 <= k -> k < j -> bit z k = bit z 63
theorem zlI (z : Int) (h1 : -604462909807314587353088 <= z) (h2 : z < 604462909807314587353088) (h : zqB z 80) : -9223372036854775808 <= z /\ z < 9223372036854775808 := by
 have b := zkA z 63
 have e79 : bit z 79 = bit z 63 := h 79 (by omega) (by omega)
 have q79 : z / 2 ^ 79 = -bit z 63 := by
  rw [<- e79]; unfold bit; simp only [Int.reducePow]; omega
 have key : ∀ d, d <= 16 -> z / 2 ^ (79 - d) = -bit z 63 := by
  intro d
  induction d with
  | zero => exact fun _ => q79
  | succ d ih =>
    intro hd
    have hq := ih (by omega)
    have hs := zjB z (79 - (d + 1))
    rw [show 79 - (d + 1) + 1 = 79 - d by omega, hq] at hs
    have hb : bit z (79 - (d + 1)) = bit z 63 := by
     rcases Nat.lt_or_ge (79 - (d + 1)) 64 with h' | h'
     ·rw [show 79 - (d + 1) = 63 by omega]
     ·exact h _ h' (by omega)
    omega
 have q63 := key 16 (by omega)
 simp only [Nat.reduceSub, Int.reducePow] at q63
 omega
theorem zlP (z : Int) (h1 : -9223372036854775808 <= z) (h2 : z < 9223372036854775808) (j : Nat) : zqB z j := by
 have : ∀ d, z / 2 ^ (63 + d) = z / 2 ^ 63 := by
  intro d
  induction d with
  | zero => rfl
  | succ d ih =>
    rw [show 63 + (d + 1) = (63 + d) + 1 by omega, zbY, ih]
    simp only [Int.reducePow]
    omega
 intro k hk _
 unfold bit
 obtain ⟨d, rfl⟩ : ∃ d, k = 63 + d := ⟨k - 63, by omega⟩
 rw [this]
def zhY (z : Int) : Bool := decide (-9223372036854775808 <= z /\ z < 9223372036854775808)
theorem zqn {z : Int} (h : zhY z = true) : -9223372036854775808 <= z /\ z < 9223372036854775808 := by unfold zhY at h; rwa [decide_eq_true_eq] at h
def zb7 (z : Int) (w : World) (e : Ending) (w' : World) : Prop := e = .returned (.tuple (if zhY z then #[.int .i64 z, .int .i64 0] else #[.int .i64 0, .int .i64 14])) /\ Qu w w'
def znI (z : Int) (w : World) (i : Value) (wr : World) : Prop := ∃ k : Nat, 64 <= k /\ k <= 80 /\ i = .int .i64 k /\ zqB z k /\ Qu w wr
set_option maxRecDepth 100000 in
set_option maxHeartbeats 400000 in
theorem zlM (v0 : Value) (z : Int) (w : World) (hr : Sl w w.heap.size v0 (zk (bits z 80))) (h1 : -604462909807314587353088 <= z) (h2 : z < 604462909807314587353088) :
  Calls Tryz.prog 138 #[v0] w (zb7 z w) := by
 obtain ⟨b, off, c, rfl, hc1, hc2, hbl, hcell⟩ := hr.ints (by simp [zaX])
 simp only [zaX] at *
 have HX := hid hcell; have H1 := hid h1; have H2 := hid h2
 clear hr hcell h1 h2
 go_enter Tryz.func138, Tryz.ntmps138
 go_wp2
 go_loopw [4] (fun i wr => znI z w i wr) (fun i _ => 80 - (intOf i).toNat)
 case atStart => exact ⟨64, by omega, by omega, rfl, fun k h1 h2 => by omega, Qu.refl _⟩
 case round =>
  obtain ⟨k, hk0, hk, rfl, hal, hq⟩ := hrel
  have HAL := hid hal; clear hal
  by_cases hlt : k < 80
  ·have g1 : wr.cell? ⟨b, off + k, none⟩ = some (.int .i64 (bit z k)) := by
    rw [hq.cell, <- zbI z 80 k hlt]; exact HX.out k hlt
   have g2 : wr.cell? ⟨b, off + 63, none⟩ = some (.int .i64 (bit z 63)) := by
    rw [hq.cell, <- zbI z 80 63 (by omega)]; exact HX.out 63 (by omega)
   by_cases he : bit z k = bit z 63
   ·have he' : (bit z k != bit z 63) = false := by simp [he]
    have HE := hid he; clear he
    go_wp2
    go_quiet (fail)
    go_wp2
    go_roundw
    case rel => exact ⟨k + 1, by omega, by omega, by go_num, fun j h1 h2 => by
     rcases Nat.lt_or_ge j k with h | h
     ·exact HAL.out j h1 h
     ·obtain rfl : j = k := by omega
      exact HE.out, hq.drewN _⟩
    case measure => simp [intOf]; omega
   ·have he' : (bit z k != bit z 63) = true := by simp [he]
    have HE := hid he; clear he
    go_wp2
    go_quiet (fail)
    go_wp2
    go_ret2
    have hn : zhY z = false := by
     rw [Bool.eq_false_iff]
     intro h
     have := zqn h
     exact HE.out (zlP z this.1 this.2 80 k hk0 hlt)
    exact ⟨by rw [hn]; rfl, hq.drewN _⟩
  ·obtain rfl : k = 80 := by omega
   have hf := zlI z H1.out H2.out HAL.out
   have hy : zhY z = true := by unfold zhY; rw [decide_eq_true_eq]; exact hf
   have hs := zqC (B := wr.heap.size) (c := c) (by rw [hq.size]; exact hbl) HX.out hq 64 (by omega) (by omega) (by omega)
   have hn := zlq _ true z 64 wr hs (by omega) (by omega) ⟨by omega, by omega⟩ (by omega) (by omega)
   have HN := hid hn
   have HY := hid hy
   clear hf hs hn hy
   go_wp2_with fail
   refine HN.out.mono ?_
   rintro e w1 ⟨rfl, rfl⟩
   go_wp2
   go_ret2
   exact ⟨by rw [HY.out]; rfl, hq⟩
theorem Sl.of_int {w : World} {B : Nat} {A : Option Addr} {l : List Int} {k : Nat} (h : 0 < (zk l).length -> ∃ b off, A = some ⟨b, off, none⟩ /\ b < B /\ ∀ j u, (zk l)[j]? = some u -> w.cell? ⟨b, off + j, none⟩ = some u) (hk : k < l.length) :
  ∃ b off, A = some ⟨b, off, none⟩ /\ b < B /\ w.cell? ⟨b, off + k, none⟩ = some (.int .i64 (l.getD k 0)) := by
 obtain ⟨b, off, e, hb, hc⟩ := h (by rw [zaf]; omega)
 exact ⟨b, off, e, hb, hc k _ (by simp [zk, List.getElem?_eq_getElem hk])⟩
theorem zhu (l : List Int) (k : Nat) (hk : k < l.length) : (l.take (k + 1)).sum = (l.take k).sum + l.getD k 0 := by
 rw [List.take_succ_eq_append_getElem hk, List.sum_append, List.getD_eq_getElem?_getD, List.getElem?_eq_getElem hk]
 simp
def zqL (l : List Int) (w : World) (s i : Value) (wr : World) : Prop :=
 ∃ k : Nat, k <= l.length /\ i = .int .i64 k /\ Sl wr wr.heap.size s (zk (bits (l.take k).sum 80)) /\ Below w.heap.size w wr
def zpn (l : List Int) (w : World) (e : Ending) (w' : World) : Prop := ∃ v, e = .returned v /\ Sl w' w'.heap.size v (zk (bits l.sum 80)) /\ Below w.heap.size w w'
set_option maxRecDepth 100000 in
set_option maxHeartbeats 800000 in
theorem ziO (v : Value) (l : List Int) (w : World) (hl : l.length <= 1073741824) (hv : Sl w w.heap.size v (zk l)) :
  Calls Tryz.prog 139 #[v] w (zpn l w) := by
 obtain ⟨A, c, rfl, hc1, hc2, hA⟩ := hv
 simp only [zaf] at hc1 ⊢
 have HA := hid hA
 clear hA
 go_enter Tryz.func139, Tryz.ntmps139
 go_wp2_with fail
 refine (zis _ _).mono ?_
 rintro e w1 ⟨v1, rfl, hv1, hb1⟩
 go_wp2
 go_loopw [3, 4] (fun s i wr => zqL l w s i wr) (fun _ i _ => l.length - (intOf i).toNat)
 case atStart => exact ⟨0, by omega, rfl, by simpa using hv1, hb1⟩
 case round =>
  obtain ⟨k, hk, rfl, hs, hb⟩ := hrel
  have HS := hid hs; clear hs
  by_cases hlt : k < l.length
  ·obtain ⟨b, off, rfl, hbl, hcell⟩ := Sl.of_int HA.out hlt
   have hbs := hb.size
   have g1 : wr.cell? ⟨b, off + k, none⟩ = some (.int .i64 (l.getD k 0)) := zc hb hbl hcell
   have ht := zhu l k hlt
   generalize l.getD k 0 = x at *
   have HT := hid ht; clear ht hcell
   go_wp2_with fail
   refine (zis _ _).mono ?_
   rintro e w2 ⟨v2, rfl, hv2, hb2⟩
   go_wp2_with fail
   refine (zlw _ _ _ _ _ ((HS.out.below hb2).more hb2.size) hv2).mono ?_
   rintro e w3 ⟨v3, rfl, hv3, hb3⟩
   go_wp2
   go_roundw
   case rel => exact ⟨k + 1, by omega, by go_num, by rw [HT.out]; exact hv3, zI⟩
   case measure => simp [intOf]; omega
  ·obtain rfl : k = l.length := by omega
   have hs := HS.out
   rw [List.take_length] at hs
   go_wp2
   go_ret
   exact ⟨_, rfl, hs, hb⟩
end Go.Proofs.YtgoapnkdcfcjgaaGreat
