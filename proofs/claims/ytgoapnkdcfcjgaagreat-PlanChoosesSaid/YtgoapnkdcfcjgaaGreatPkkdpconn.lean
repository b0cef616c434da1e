/- 4 texts of this claim, in build order. -/
import Derived.Test.YtgoapnkdcfcjgaaGreatRows
import Derived.WalkKit
import Derived.ProofKit
import Derived.OpenShut
import Derived.BigQuiet
import Derived.Deep.QuietTactic
import Derived.Deep.AppendLies
import Derived.Deep.Draws
import Derived.Laws.OwnMore
import Derived.RegionTactic
import Derived.Outline
import Derived.Deep.RegionWith
import Derived.Deep.RegionHeld3
import Derived.WalkLawsBesides
import Derived.WalkSpells
import Derived.Handy
import Derived.Deep.AppendSrc
set_option linter.unusedVariables false
set_option linter.unusedSimpArgs false
namespace Go.Proofs.YtgoapnkdcfcjgaaGreat
open Go.ChangeShapes Go.WideShapes Go.ChangeAt Go.RowKit
theorem zd8 {k : IntKind} {a b : Int} (h : a = b) : Ending.returned (.int k a) = .returned (.int k b) := by rw [h]
theorem zZ {a b : Bool} (h : a = b) : Ending.returned (.bool a) = .returned (.bool b) := by rw [h]
theorem hid {p : Prop} (h : p) : Hid p := h
def Stop (p : Prop) : Prop := p
theorem zr {p : Prop} (h : Stop p) : p := h
theorem zar {p : Prop} (h : p) : Stop p := h
@[congr] theorem Stop.stays {p : Prop} : Stop p = Stop p := rfl
theorem zeA (z : Int) (k : Nat) (hk : k <= 63) : Go.bits .and .i64 z ((2 ^ k - 1 : Nat) : Int) = z % 2 ^ k := by
 show IntKind.i64.wrap ((BitVec.ofInt 64 z &&& BitVec.ofInt 64 ((2 ^ k - 1 : Nat) : Int)).toNat : Int) = _
 have hp : (2 : Nat) ^ k <= 2 ^ 63 := Nat.pow_le_pow_right (by omega) hk
 have h0 : 0 < (2 : Nat) ^ k := Nat.pow_pos (by omega)
 have h2 : (BitVec.ofInt 64 ((2 ^ k - 1 : Nat) : Int)).toNat = 2 ^ k - 1 := by
  rw [BitVec.ofInt_natCast, BitVec.toNat_ofNat]; exact Nat.mod_eq_of_lt (by omega)
 rw [BitVec.toNat_and, h2, Nat.and_two_pow_sub_one_eq_mod, BitVec.toNat_ofInt, IntKind.wrap_i64]
 have h3 : ((z % 18446744073709551616).toNat : Int) = z % 18446744073709551616 := Int.toNat_of_nonneg (by omega)
 have h4 : (((z % 2 ^ 64).toNat % 2 ^ k : Nat) : Int) = z % 2 ^ k := by
  rw [Int.natCast_emod, show (2 : Int) ^ 64 = 18446744073709551616 by rfl, h3]
  have : ((2 ^ k : Nat) : Int) = 2 ^ k := by simp
  rw [this]
  exact Int.emod_emod_of_dvd z (by
   refine ⟨2 ^ (64 - k), ?_⟩
   rw [<- Int.pow_add, show k + (64 - k) = 64 by omega]; rfl)
 rw [show ((2 ^ 64 : Nat) : Int) = 2 ^ 64 by rfl, h4]
 have h5 := Int.emod_nonneg z (show (2 : Int) ^ k ≠ 0 by have : (0 : Int) < 2 ^ k := Int.pow_pos (by omega); omega)
 have h6 := Int.emod_lt_of_pos z (show (0 : Int) < 2 ^ k from Int.pow_pos (by omega))
 have h7 : (2 : Int) ^ k <= 9223372036854775808 := by
  have : ((2 ^ k : Nat) : Int) <= ((2 ^ 63 : Nat) : Int) := by exact_mod_cast hp
  simpa using this
 omega
theorem zi5 (z : Int) : Go.bits .and .i64 z 1 = z % 2 := zeA z 1 (by omega)
theorem zff (z : Int) : Go.bits .and .i64 z 4294967295 = z % 4294967296 := zeA z 32 (by omega)
theorem zgE (z b : Int) (h0 : 0 <= b) (h1 : b < 4294967296) : Go.bits .or .i64 (z * 4294967296) b = IntKind.i64.wrap (z * 4294967296 + b) := by
 show IntKind.i64.wrap ((BitVec.ofInt 64 (z * 4294967296) ||| BitVec.ofInt 64 b).toNat : Int) = _
 have e1 : (BitVec.ofInt 64 (z * 4294967296)).toNat = 2 ^ 32 * (z % 4294967296).toNat := by
  rw [BitVec.toNat_ofInt]; omega
 have e2 : (BitVec.ofInt 64 b).toNat = b.toNat := by
  rw [BitVec.toNat_ofInt]; omega
 rw [BitVec.toNat_or, e1, e2, <- Nat.two_pow_add_eq_or_of_lt (by omega), IntKind.wrap_i64, IntKind.wrap_i64]
 omega
theorem zft (z b : Int) (h0 : 0 <= b) (h1 : b < 4294967296) : Go.bits .or .i64 (IntKind.i64.wrap (z * 4294967296)) b = IntKind.i64.wrap (z * 4294967296 + b) := by
 have e : IntKind.i64.wrap (z * 4294967296) = ((z + 2147483648) % 4294967296 - 2147483648) * 4294967296 := by
  rw [IntKind.wrap_i64]; omega
 rw [e, zgE _ _ h0 h1, IntKind.wrap_i64, IntKind.wrap_i64]
 omega
theorem znB (n : Int) : wrap64 n = IntKind.i64.wrap n := by rw [IntKind.wrap_i64]; unfold wrap64; rfl
def zk (l : List Int) : List Value := l.map (Value.int .i64)
theorem za0 (l : List Int) (n : Int) : zk (l ++ [n]) = zk l ++ [.int .i64 n] := by simp [zk]
theorem zaf (l : List Int) : (zk l).length = l.length := by simp [zk]
theorem zaE : (Tryz.prog.info? 3).map (fun i => (i.zero, i.size, i.bytes)) = some (some (.int .i64 0), 1, 8) := by kernel_rfl
def Sl (w : World) (B : Nat) (v : Value) (xs : List Value) : Prop :=
 ∃ A c, v = .slice A xs.length c /\ xs.length <= c /\ c <= maxLen /\
  (0 < xs.length -> ∃ b off, A = some ⟨b, off, none⟩ /\ b < B /\ ∀ j u, xs[j]? = some u -> w.cell? ⟨b, off + j, none⟩ = some u)
theorem Sl.nil_ {w : World} {B : Nat} : Sl w B (.slice none 0 0) [] := ⟨none, 0, rfl, by simp, by simp [maxLen], by simp⟩
theorem Sl.below {w w' : World} {B : Nat} {v : Value} {xs : List Value} (h : Sl w B v xs) (hb : Below B w w') : Sl w' B v xs := by
 obtain ⟨A, c, h1, h2, h3, h4⟩ := h
 refine ⟨A, c, h1, h2, h3, fun h => ?_⟩
 obtain ⟨b, off, e, hlt, hc⟩ := h4 h
 exact ⟨b, off, e, hlt, fun j u hu => (hb.cell (p := ⟨b, off + j, none⟩) hlt).trans (hc j u hu)⟩
theorem Sl.more {w : World} {B B' : Nat} {v : Value} {xs : List Value} (h : Sl w B v xs) (hB : B <= B') : Sl w B' v xs := by
 obtain ⟨A, c, h1, h2, h3, h4⟩ := h
 refine ⟨A, c, h1, h2, h3, fun h => ?_⟩
 obtain ⟨b, off, e, hlt, hc⟩ := h4 h
 exact ⟨b, off, e, by omega, hc⟩
theorem Sl.of_own {w : World} {base : Nat} {e : TypeId} {v : Value} {n : Nat} {xs : List Value} (h : w.ownsRow base e 1 v n xs) : Sl w w.heap.size v xs := by
 obtain ⟨h1, h2⟩ := h
 have hn : xs.length = n := by omega
 rcases h2 with ⟨rfl, rfl⟩ | ⟨g, cap, cur, rfl, hb, hg, hnc, hcm, hcs, htk⟩
 ·obtain rfl := List.eq_nil_of_length_eq_zero (by omega : xs.length = 0)
  exact Sl.nil_
 ·have hown : w.ownsRow base e 1 (.slice (some ⟨g, 0, none⟩) n cap) n xs := ⟨h1, .inr ⟨g, cap, cur, rfl, hb, hg, hnc, hcm, hcs, htk⟩⟩
  refine ⟨some ⟨g, 0, none⟩, cap, by rw [hn], by omega, hcm, fun _ => ⟨g, 0, rfl, (hown.lt g rfl).2, fun j u hu => ?_⟩⟩
  have hj : j < xs.length := (List.getElem?_eq_some_iff.1 hu).1
  rw [Nat.zero_add, hown.cellAt j (by omega), hu]
theorem zn {B : Nat} {a w : World} (h : Below B a w) (n : Nat) : Below B a (w.drewN n) := ⟨h.os, h.tape, h.output, h.size, h.block⟩
theorem zk0 {W w1 : World} {B : Nat} (hb : Below B W w1) : (∀ b o, b < B -> w1.cell? ⟨b, o, none⟩ = W.cell? ⟨b, o, none⟩) /\ (∀ b o, b < B -> w1.frozen? ⟨b, o, none⟩ = W.frozen? ⟨b, o, none⟩) :=
 ⟨fun b o h => hb.cell (p := ⟨b, o, none⟩) h, fun b o h => hb.frozen (p := ⟨b, o, none⟩) h⟩
theorem zc {W w' : World} {B b o : Nat} {v : Value} (hb : Below B W w') (hlt : b < B) (h : W.cell? ⟨b, o, none⟩ = some v) : w'.cell? ⟨b, o, none⟩ = some v := (hb.cell (p := ⟨b, o, none⟩) hlt).trans h
theorem zy {W w' : World} {B b o : Nat} {v : Bool} (hb : Below B W w') (hlt : b < B) (h : W.frozen? ⟨b, o, none⟩ = v) : w'.frozen? ⟨b, o, none⟩ = v := (hb.frozen (p := ⟨b, o, none⟩) hlt).trans h
theorem zoC {n : Nat} {w : World} {o : Obj} (h : n <= w.heap.size) : n <= (w.alloc o).heap.size := by simp; omega
theorem zme {n : Nat} {w : World} {a : Addr} {v : Value} (h : n <= w.heap.size) : n <= (w.setCell a v).heap.size := by simpa [World.setCell] using h
theorem zqF {n : Nat} {w : World} (h : n <= w.heap.size) : n <= w.drew.heap.size := h
theorem zkD {n k : Nat} {w : World} (h : n <= w.heap.size) : n <= (w.drewN k).heap.size := h
def Qu (w wr : World) : Prop := ∃ n, wr = w.drewN n
theorem Qu.refl (w : World) : Qu w w := ⟨0, rfl⟩
theorem zmz (w : World) (n m : Nat) : (w.drewN n).drewN m = w.drewN (n + m) := World.drewN_drewN _ _ _
theorem Qu.drewN {w wr : World} (h : Qu w wr) (n : Nat) : Qu w (wr.drewN n) := by
 obtain ⟨m, rfl⟩ := h
 exact ⟨m + n, zmz _ _ _⟩
theorem Qu.trans {a b c : World} (h : Qu a b) (k : Qu b c) : Qu a c := by
 obtain ⟨m, rfl⟩ := k
 exact h.drewN m
theorem Qu.cell {w wr : World} (h : Qu w wr) (a : Addr) : wr.cell? a = w.cell? a := by
 obtain ⟨m, rfl⟩ := h
 rfl
theorem Qu.below {w wr : World} (h : Qu w wr) (B : Nat) : Below B w wr := by
 obtain ⟨m, rfl⟩ := h
 exact zn (Below.refl _ _) m
theorem Qu.size {w wr : World} (h : Qu w wr) : wr.heap.size = w.heap.size := by
 obtain ⟨m, rfl⟩ := h
 rfl
theorem zdA {w : World} {b off : Nat} {news : List Value} (h : ∀ j u, news[j]? = some u -> w.cell? ⟨b, off + j, none⟩ = some u) :
  ∀ j u, news[j]? = some u -> w.cell? ((⟨b, off, none⟩ : Addr).add j) = some u := by
 intro j u hu
 have e : (⟨b, off, none⟩ : Addr).add j = ⟨b, off + j, none⟩ := by unfold Addr.add; split <;> simp_all
 rw [e]; exact h j u hu
theorem ziP {w wr w1 : World} {base : Nat} {e : TypeId} {size n : Nat} {v : Value} {xs : List Value} {o : Obj} (hown : wr.ownsRow base e size v n xs) (hb : Below base w wr)
  (hB : base <= wr.heap.size) (hg : (wr.alloc o).grownBy w1 v.ownBlock) : Below base w w1 :=
 (hb.alloc hB o).grown hg (by simp; omega) (fun j hj => (hown.lt j hj).1)
theorem Sl.ints {w : World} {B : Nat} {v : Value} {l : List Int} (h : Sl w B v (zk l)) (h0 : 0 < l.length) :
  ∃ b off c, v = .slice (some ⟨b, off, none⟩) l.length c /\ l.length <= c /\ c <= maxLen /\ b < B /\ ∀ j, j < l.length -> w.cell? ⟨b, off + j, none⟩ = some (.int .i64 (l.getD j 0)) := by
 obtain ⟨A, c, e, h2, h3, h4⟩ := h
 rw [zaf] at e h2 h4
 obtain ⟨b, off, rfl, hb, hc⟩ := h4 h0
 refine ⟨b, off, c, e, h2, h3, hb, fun j hj => hc j _ ?_⟩
 simp [zk, List.getElem?_eq_getElem hj]
theorem zI {K : Nat} {w w' : World} (h : Below K w w' := by repeat' first | with_reducible exact Below.refl _ _ | assumption | (with_reducible refine Below.alloc ?_ ?_ _) | (with_reducible refine Below.setCell ?_ ?_ _) | (with_reducible refine Below.drew ?_) | (with_reducible refine zn ?_ _) | (with_reducible refine Below.trans ?_ (Below.mono ‹_› ?_)) | omega | (with_reducible refine zoC ?_) | (with_reducible refine zme ?_) | (with_reducible refine zqF ?_) | (with_reducible refine zkD ?_) | (with_reducible refine Nat.le_trans ?_ (Below.size ‹_›)) | (simp <;> omega)) : Below K w w' := h
def zY (v : Value) (w : World) (e : Ending) (w' : World) : Prop := e = .returned v /\ Below w.heap.size w w'
theorem bl1 (w : World) (o : Obj) : Below w.heap.size w (w.alloc o) := (Below.refl _ _).alloc (Nat.le_refl _) o
theorem zv {w : World} {o : Obj} {b i : Nat} {v : Value} (hb : b < w.heap.size) (h : w.cell? ⟨b, i, none⟩ = some v) : (w.alloc o).cell? ⟨b, i, none⟩ = some v := by
 rw [World.cell?_alloc_past _ _ _ hb]; exact h
theorem zal {w : World} {o : Obj} {b i : Nat} {v : Bool} (hb : b < w.heap.size) (h : w.frozen? ⟨b, i, none⟩ = v) : (w.alloc o).frozen? ⟨b, i, none⟩ = v := by
 rw [World.frozen?_alloc_past _ _ _ hb]; exact h
theorem cell_far {w : World} {B i b j : Nat} {u v : Value} (hne : B ≠ b) (h : w.cell? ⟨b, j, none⟩ = some v) : (w.setCell ⟨B, i, none⟩ u).cell? ⟨b, j, none⟩ = some v := by
 rw [World.cell?_setCell_other _ _ _ _ (fun e => hne (by injection e))]; exact h
theorem zt {w : World} {b j : Nat} {u v : Value} (h : w.cell? ⟨b, j, none⟩ = some v) : (w.setCell ⟨b, j, none⟩ u).cell? ⟨b, j, none⟩ = some u := World.cell?_setCell_same _ _ _ h
theorem zb {w : World} {b i j : Nat} {u v : Value} (hne : i ≠ j) (h : w.cell? ⟨b, j, none⟩ = some v) : (w.setCell ⟨b, i, none⟩ u).cell? ⟨b, j, none⟩ = some v := by
 rw [World.cell?_setCell_other _ _ _ _ (fun e => hne (by injection e))]; exact h
theorem frozen_far {w : World} {B i b j : Nat} {u : Value} {v : Bool} (h : w.frozen? ⟨b, j, none⟩ = v) : (w.setCell ⟨B, i, none⟩ u).frozen? ⟨b, j, none⟩ = v := by
 rw [World.frozen?_setCell]; exact h
section
variable {P : Program}
theorem zgA (w : World) (base : Nat) (e : TypeId) (i : TypeInfo) (z : Value) (hzs : z.cells.size = i.size) (n m old : Nat) (xs news : List Value) (hx : xs.length = n * i.size) (hl : news.length = m * i.size) (h63 : n + m <= maxLen) (hbase : base <= w.heap.size) (row : Option Nat) :
  (w.drew.alloc (.cells ((xs ++ news).toArray ++ Builtin.zeroCells z.cells (grownCap w (n + m) old e - (n + m))) e)).ownsRow base e i.size
   (.slice (some ⟨w.heap.size, 0, none⟩) (n + m) (grownCap w (n + m) old e)) (n + m) (xs ++ news) /\
  w.grownBy (w.drew.alloc (.cells ((xs ++ news).toArray ++ Builtin.zeroCells z.cells (grownCap w (n + m) old e - (n + m))) e)) row := by
 have hge := grownCap_ge w (n + m) old e
 have hcm : grownCap w (n + m) old e <= maxLen := grownCap_le_maxLen w (n + m) old e h63
 have hlen : (xs ++ news).length = (n + m) * i.size := by rw [List.length_append, hx, hl, Nat.add_mul]
 refine ⟨⟨hlen, .inr ⟨w.heap.size, _, _, rfl, hbase, heap_alloc_new w.drew _, hge, hcm, ?_, ?_⟩⟩, ⟨rfl, rfl, rfl, by simp, fun k hk _ => Below.heap_alloc w.drew _ k hk⟩⟩
 ·rw [Array.size_append, List.size_toArray, size_zeroCells, hzs, hlen, <- Nat.add_mul]
  congr 1
  omega
 ·rw [Array.toList_append, <- hlen]
  exact List.take_left
theorem zdm (w : World) (base : Nat) (t tx ty e : TypeId) (i : TypeInfo) (z : Value) (size bytes : Nat) (ht : P.underlying t = some (.slice e)) (hi : P.info? e = some i) (hz : i.zero = some z)
  (hsize : i.size = size) (hby : i.bytes = bytes) (hzs : z.cells.size = size) (hsz : 0 < size)
  (v : Value) (n : Nat) (xs : List Value) (hown : w.ownsRow base e size v n xs)
  (x : Value) (m : Nat) (news : List Value) (hs : Src P size tx x m news w)
  (h63 : n + m <= maxLen) (hbytes : (n + m) * bytes <= 140737488355328) (hbase : base <= w.heap.size) :
  ∃ v' w', (Builtin.append_ #[t, tx] ty #[v, x]).run P w = .ok v' w' /\ w'.ownsRow base e size v' (n + m) (xs ++ news) /\ w.grownBy w' v.ownBlock /\ (v'.ownBlock = v.ownBlock \/ v'.ownBlock = some w.heap.size) := by
 subst hsize
 subst hby
 have hsmall : n + m <= 9223372036854775807 := by simp only [maxLen] at h63; omega
 have hlen : (xs ++ news).length = (n + m) * i.size := by rw [List.length_append, hown.1, hs.newsLen, Nat.add_mul]
 rcases hown.2 with ⟨rfl, rfl⟩ | ⟨g, cap, cur, rfl, hbg, hg, hnc, hcm, hcs, htake⟩
 ·have hx : xs = [] := List.eq_nil_of_length_eq_zero (by simpa using hown.1)
  subst hx
  by_cases hm : m = 0
  ·subst hm
   have hn : news = [] := List.eq_nil_of_length_eq_zero (by simpa using hs.newsLen)
   subst hn
   refine ⟨.slice none 0 0, w, ?_, World.ownsRow_nil w base e i.size, ⟨rfl, rfl, rfl, Nat.le_refl _, fun _ _ _ => rfl⟩, .inl rfl⟩
   rcases hs.kind with ⟨e', hk⟩ | hk <;> simp [Builtin.append_, run_underlying ht, run_underlying hk, sizeOf, typeInfo, hi, hs.len, hs.cells]
  ·have hr := run_append_grow_src (P := P) w t tx ty e i z ht hi hz none 0 0 [] (by simp [Builtin.firstCells]) x m news hs (by omega) (by omega) (growslice_fits (by omega) hbytes)
   obtain ⟨r1, r2⟩ := zgA w base e i z hzs 0 m 0 [] news (by simp) hs.newsLen h63 hbase none
   exact ⟨_, _, hr, r1, r2, .inr rfl⟩
 ·by_cases hroom : n + m <= cap
  ·have hfit : n * i.size + news.length <= cur.size := by rw [hs.newsLen, hcs, <- Nat.add_mul]; exact Nat.mul_le_mul_right _ hroom
   have hst := run_storeCells_at P g (n * i.size) e news 0 cur w hg (by simpa using hfit) hs.one
   simp only [Nat.add_zero] at hst
   have hr : (Builtin.append_ #[t, tx] ty #[.slice (some ⟨g, 0, none⟩) n cap, x]).run P w =
     .ok (.slice (some ⟨g, 0, none⟩) (n + m) cap) (w.setRow g (cur.toList.take (n * i.size) ++ news ++ cur.toList.drop (n * i.size + news.length)).toArray) := by
    rcases hs.kind with ⟨e', hk⟩ | hk <;> simp [Builtin.append_, run_underlying ht, run_underlying hk, sizeOf, typeInfo, hi, hs.len, hroom, hs.cells, Addr.add_lit, hst]
   refine ⟨_, _, hr, ⟨hlen, .inr ⟨g, cap, _, rfl, hbg, setRow_heap w g cur _ e _ hg, hroom, hcm, ?_, ?_⟩⟩, ⟨rfl, rfl, rfl, by simp, fun k _ hk => setRow_other w g k _ (fun e => hk (by simp [Value.ownBlock, e]))⟩, .inl rfl⟩
   ·simp only [List.size_toArray, List.length_append, List.length_take, List.length_drop, Array.length_toList]
    omega
   ·rw [htake, <- hlen]
    exact List.take_left
  ·have holds : ∀ j u, xs[j]? = some u -> w.drew.cell? ((⟨g, 0, none⟩ : Addr).add j) = some u := by simpa using hown.cells (g := g) rfl
   have hr := run_append_grow_src (P := P) w t tx ty e i z ht hi hz (some ⟨g, 0, none⟩) n cap xs (run_firstCells_some w.drew i.size n ⟨g, 0, none⟩ n cap xs hown.1 holds) x m news hs (by omega) (by omega) (growslice_fits (by omega) hbytes)
   obtain ⟨r1, r2⟩ := zgA w base e i z hzs n m cap xs news hown.1 hs.newsLen h63 hbase (some g)
   exact ⟨_, _, hr, r1, r2, .inr rfl⟩
theorem zfG (w : World) {tx e' : TypeId} {B : Nat} {v : Value} {news : List Value} (hk : P.underlying tx = some (.slice e')) (h : Sl w B v news) (h1 : ∀ u ∈ news, u.oneCell' = true) : Src P 1 tx v news.length news w := by
 obtain ⟨A, c, rfl, h2, h3, h4⟩ := h
 rcases Nat.eq_zero_or_pos news.length with h0 | h0
 ·obtain rfl := List.eq_nil_of_length_eq_zero h0
  cases A with
  | none => exact Src.ofNil w hk c
  | some a => exact Src.ofSlice w hk a 0 c [] (by simp) (by simp) h1
 ·obtain ⟨b, off, rfl, _, hc⟩ := h4 h0
  exact Src.ofSlice w hk ⟨b, off, none⟩ _ c news (by simp) (zdA hc) h1
theorem zfy {o : Oper} {a : Act} {w w' : World} {v' : Value} {K : Act -> World -> Prop} {Q : Exit -> Act -> World -> Prop} (s x : Operand) (t tx : TypeId)
  (ho : o.op = .call { callee := .builtin .append, args := #[s, x], argTypes := #[t, tx] }) (v xv : Value) (hsv : a.eval s = v) (hxv : a.eval x = xv)
  (hrun : (Builtin.append_ #[t, tx] o.type #[v, xv]).run P w = .ok v' w') (h : K (a.put o.dst v') w') : o.wp P a w K Q := by
 unfold Oper.wp execOp
 simp only [ho, resolve, invoke, builtin, Sem.run_bind, Sem.run_pure, Result.andThen_ok, List.map_toArray, List.map_cons, List.map_nil, hsv, hxv, hrun]
 exact h
theorem zav {ops : Array Oper} {rest : List Oper} {o : Oper} {a : Act} {w : World} {Q : Exit -> Act -> World -> Prop} (s x : Operand) (t tx : TypeId) (hgd : o.guard = none)
  (ho : o.op = .call { callee := .builtin .append, args := #[s, x], argTypes := #[t, tx] })
  (base : Nat) (e : TypeId) (i : TypeInfo) (z : Value) (size bytes : Nat) (ht : P.underlying t = some (.slice e)) (hi : P.info? e = some i) (hz : i.zero = some z)
  (hsize : i.size = size) (hby : i.bytes = bytes) (hzs : z.cells.size = size) (hsz : 0 < size)
  (v : Value) (n : Nat) (xs : List Value) (hsv : a.eval s = v) (hown : w.ownsRow base e size v n xs)
  (xv : Value) (m : Nat) (news : List Value) (hxv : a.eval x = xv) (hs : Src P size tx xv m news w)
  (h63 : n + m <= maxLen) (hbytes : (n + m) * bytes <= 140737488355328) (hbase : base <= w.heap.size)
  (h : ∀ v' w', w'.ownsRow base e size v' (n + m) (xs ++ news) -> w.grownBy w' v.ownBlock -> Below base w w' -> wpList P ops Q rest (a.put o.dst v') w') : wpList P ops Q (o :: rest) a w := by
 obtain ⟨v', w', hrun, h2, h3, _⟩ := zdm (P := P) w base t tx o.type e i z size bytes ht hi hz hsize hby hzs hsz v n xs hown xv m news hs h63 hbytes hbase
 exact wpList_plain hgd fun _ hK => zfy s x t tx ho v xv hsv hxv hrun (hK _ _ (h v' w' h2 h3 ((Below.refl _ _).grown h3 hbase (fun j hj => (hown.lt j hj).1))))
end
def za5 (v : Value) (w : World) (e : Ending) (w' : World) : Prop := e = .returned v /\ Qu w w'
theorem Sl.head {w : World} {B : Nat} {A : Option Addr} {n c : Nat} {xs : List Value} (m : Nat) (h : Sl w B (.slice A n c) xs) (hm : m <= n) : Sl w B (.slice A m c) (xs.take m) := by
 obtain ⟨A', c', e, h2, h3, h4⟩ := h
 injection e with e1 e2 e3
 subst e1; subst e3; subst e2
 have hl : (xs.take m).length = m := by rw [List.length_take]; omega
 refine ⟨A, _, by rw [hl], by omega, h3, fun h0 => ?_⟩
 obtain ⟨b, off, h5, h6, h7⟩ := h4 (by omega)
 refine ⟨b, off, h5, h6, fun j u hu => h7 j u ?_⟩
 rw [List.getElem?_take] at hu
 split at hu
 ·exact hu
 ·cases hu
theorem Sl.qu' {w w' : World} {B : Nat} {v : Value} {xs : List Value} (h : Sl w B v xs) (k : Qu w w') : Sl w' B v xs := by
 obtain ⟨n, rfl⟩ := k
 exact h
theorem zl {w : World} {base : Nat} {e : TypeId} {v : Value} {n : Nat} {xs : List Value} (h : w.ownsRow base e 1 v n xs) :
  ∃ A c, v = .slice A n c /\ n <= c /\ c <= maxLen /\ (0 < n -> ∃ g, A = some ⟨g, 0, none⟩ /\ base <= g /\ g < w.heap.size /\ ∀ j, j < n -> (∃ u, w.cell? ⟨g, j, none⟩ = some u) /\ w.frozen? ⟨g, j, none⟩ = false) := by
 have hown := h
 obtain ⟨h1, h2⟩ := h
 rcases h2 with ⟨rfl, rfl⟩ | ⟨g, cap, cur, rfl, hbg, hg, hnc, hcm, hcs, htk⟩
 ·exact ⟨none, 0, rfl, by omega, by simp [maxLen], fun h => by omega⟩
 ·refine ⟨_, cap, rfl, hnc, hcm, fun h0 => ⟨g, rfl, hbg, (hown.lt g rfl).2, fun j hj => ?_⟩⟩
  have hc := hown.cellAt (g := g) j (by omega)
  refine ⟨⟨xs[j]'(by omega), by rw [hc]; exact List.getElem?_eq_getElem (by omega)⟩, ?_⟩
  exact hown.frozenAt j
def Upd (p : Nat) (w w' : World) : Prop := w.grownBy w' (some p)
theorem Upd.refl (p : Nat) (w : World) : Upd p w w := World.grownBy.refl _ _
theorem Upd.trans {p : Nat} {a b c : World} (h : Upd p a b) (k : Upd p b c) : Upd p a c := World.grownBy.trans h k
theorem Upd.below {p B : Nat} {w w' : World} (h : Upd p w w') (hB : B <= p) (hs : p < w.heap.size) : Below B w w' :=
 ⟨h.os, h.tape, h.output, h.size, fun k hk => h.block k (by omega) (by intro e; injection e with e; omega)⟩
theorem Upd.setCell (p i : Nat) (w : World) (v : Value) : Upd p w (w.setCell ⟨p, i, none⟩ v) := by
 exact ⟨rfl, rfl, rfl, by simp, fun k _ hk => Below.heap_setCell _ _ _ k (fun e => hk (by rw [e]))⟩
theorem Upd.new {p : Nat} {a b c : World} (h : Upd p a b) (k : Below a.heap.size b c) : Upd p a c :=
 ⟨k.os.trans h.os, k.tape.trans h.tape, k.output.trans h.output, Nat.le_trans h.size k.size, fun i hi hn => (k.block i hi).trans (h.block i hi hn)⟩
theorem Upd.cellAt {p b i : Nat} {w w' : World} {v : Option Value} (hu : Upd p w w') (hb : b < w.heap.size) (hne : b ≠ p) (h : w.cell? ⟨b, i, none⟩ = v) : w'.cell? ⟨b, i, none⟩ = v :=
 (World.grownBy.cell_far hu _ hb (fun h => hne (by injection h))).trans h
theorem Upd.frozenAt {p b i : Nat} {w w' : World} {v : Bool} (hu : Upd p w w') (hb : b < w.heap.size) (hne : b ≠ p) (h : w.frozen? ⟨b, i, none⟩ = v) : w'.frozen? ⟨b, i, none⟩ = v :=
 (World.grownBy.frozen_far hu _ hb (fun h => hne (by injection h))).trans h
structure Chg (D : Nat -> Prop) (w w' : World) : Prop where
 os : w'.os = w.os
 tape : w'.tape = w.tape
 output : w'.output = w.output
 size : w.heap.size <= w'.heap.size
 block : ∀ k, k < w.heap.size -> ¬ D k -> w'.heap[k]? = w.heap[k]?
def Grow (w : World) (D D' : Nat -> Prop) : Prop := (∀ k, D k -> D' k) /\ ∀ k, D' k -> D k \/ w.heap.size <= k
theorem Grow.refl (w : World) (D : Nat -> Prop) : Grow w D D := ⟨fun _ h => h, fun _ h => .inl h⟩
theorem Chg.refl (D : Nat -> Prop) (w : World) : Chg D w w := ⟨rfl, rfl, rfl, Nat.le_refl _, fun _ _ _ => rfl⟩
theorem Chg.of_below {D : Nat -> Prop} {w w' : World} (h : Below w.heap.size w w') : Chg D w w' := ⟨h.os, h.tape, h.output, h.size, fun k hk _ => h.block k hk⟩
theorem Chg.of_qu {D : Nat -> Prop} {w w' : World} (h : Qu w w') : Chg D w w' := Chg.of_below (h.below _)
theorem Chg.below {D : Nat -> Prop} {w w' : World} {B : Nat} (h : Chg D w w') (hB : B <= w.heap.size) (hD : ∀ k, D k -> B <= k) : Below B w w' :=
 ⟨h.os, h.tape, h.output, h.size, fun k hk => h.block k (by omega) (fun hd => by have := hD k hd; omega)⟩
theorem Chg.trans {D D' : Nat -> Prop} {a b c : World} (h : Chg D a b) (k : Chg D' b c) (hD : ∀ i, D' i -> D i \/ a.heap.size <= i) : Chg D a c :=
 ⟨k.os.trans h.os, k.tape.trans h.tape, k.output.trans h.output, Nat.le_trans h.size k.size, fun i hi hd => (k.block i (Nat.lt_of_lt_of_le hi h.size) (fun hd' => by
  rcases hD i hd' with h1 | h1
  ·exact hd h1
  ·omega)).trans (h.block i hi hd)⟩
theorem Chg.mono {D D' : Nat -> Prop} {a b : World} (h : Chg D a b) (hD : ∀ i, D i -> D' i) : Chg D' a b := ⟨h.os, h.tape, h.output, h.size, fun k hk hd => h.block k hk (fun h' => hd (hD k h'))⟩
theorem Chg.same {D : Nat -> Prop} {a b c : World} (h : Chg D a b) (k : Chg D b c) : Chg D a c := h.trans k (fun _ h => .inl h)
theorem Chg.upd {D : Nat -> Prop} {p : Nat} {w w' : World} (h : Upd p w w') (hp : D p) : Chg D w w' :=
 ⟨h.os, h.tape, h.output, h.size, fun k hk hd => h.block k hk (fun e => by injection e with e; exact hd (e ▸ hp))⟩
theorem Grow.trans {a b : World} {D D' D'' : Nat -> Prop} (h : Grow a D D') (k : Grow b D' D'') (hs : a.heap.size <= b.heap.size) : Grow a D D'' :=
 ⟨fun i hi => k.1 i (h.1 i hi), fun i hi => by
  rcases k.2 i hi with h1 | h1
  ·exact h.2 i h1
  ·exact .inr (by omega)⟩
def Kept (E : Nat -> Prop) (w w' : World) : Prop := ∀ k, E k -> w'.heap[k]? = w.heap[k]?
theorem Chg.kept {D E : Nat -> Prop} {w w' : World} (h : Chg D w w') (hE : ∀ k, E k -> k < w.heap.size /\ ¬ D k) : Kept E w w' := fun k hk => h.block k (hE k hk).1 (hE k hk).2
theorem Kept.cell {E : Nat -> Prop} {w w' : World} (h : Kept E w w') {b i : Nat} {v : Option Value} (hb : E b) (hc : w.cell? ⟨b, i, none⟩ = v) : w'.cell? ⟨b, i, none⟩ = v := (World.cell?_of_block (a := ⟨b, i, none⟩) (h b hb)).trans hc
theorem Kept.frozen {E : Nat -> Prop} {w w' : World} (h : Kept E w w') {b i : Nat} {v : Bool} (hb : E b) (hc : w.frozen? ⟨b, i, none⟩ = v) : w'.frozen? ⟨b, i, none⟩ = v := (World.frozen?_of_block (a := ⟨b, i, none⟩) (h b hb)).trans hc
def SlE (w : World) (E : Nat -> Prop) (v : Value) (xs : List Value) : Prop :=
 ∃ A c, v = .slice A xs.length c /\ xs.length <= c /\ c <= maxLen /\
  (0 < xs.length -> ∃ b off, A = some ⟨b, off, none⟩ /\ E b /\ ∀ j u, xs[j]? = some u -> w.cell? ⟨b, off + j, none⟩ = some u)
theorem SlE.kept {w w' : World} {E : Nat -> Prop} {v : Value} {xs : List Value} (h : SlE w E v xs) (k : Kept E w w') : SlE w' E v xs := by
 obtain ⟨A, c, h1, h2, h3, h4⟩ := h
 refine ⟨A, c, h1, h2, h3, fun h => ?_⟩
 obtain ⟨b, off, e, hE, hc⟩ := h4 h
 exact ⟨b, off, e, hE, fun j u hu => k.cell hE (hc j u hu)⟩
theorem SlE.mono {w : World} {E E' : Nat -> Prop} {v : Value} {xs : List Value} (h : SlE w E v xs) (k : ∀ i, E i -> E' i) : SlE w E' v xs := by
 obtain ⟨A, c, h1, h2, h3, h4⟩ := h
 refine ⟨A, c, h1, h2, h3, fun h => ?_⟩
 obtain ⟨b, off, e, hE, hc⟩ := h4 h
 exact ⟨b, off, e, k b hE, hc⟩
theorem SlE.sl {w : World} {E : Nat -> Prop} {v : Value} {xs : List Value} (h : SlE w E v xs) : Sl w w.heap.size v xs := by
 obtain ⟨A, c, h1, h2, h3, h4⟩ := h
 refine ⟨A, c, h1, h2, h3, fun h => ?_⟩
 obtain ⟨b, off, e, hE, hc⟩ := h4 h
 exact ⟨b, off, e, World.block_lt_of_cell? w ⟨b, off + 0, none⟩ (hc 0 _ (List.getElem?_eq_getElem h)), hc⟩
theorem SlE.of_own {w : World} {base : Nat} {E : Nat -> Prop} {e : TypeId} {v : Value} {n : Nat} {xs : List Value} (h : w.ownsRow base e 1 v n xs) (hE : ∀ g, v.ownBlock = some g -> E g) : SlE w E v xs := by
 have hx := h
 obtain ⟨h1, h2⟩ := h
 rcases h2 with ⟨rfl, rfl⟩ | ⟨g, cap, cur, rfl, hb, hg, hnc, hcm, hcs, htk⟩
 ·obtain rfl := List.eq_nil_of_length_eq_zero (by omega : xs.length = 0)
  exact ⟨none, 0, rfl, by simp, by simp [maxLen], by simp⟩
 ·refine ⟨some ⟨g, 0, none⟩, cap, by rw [show xs.length = n by omega], by omega, hcm, fun _ => ⟨g, 0, rfl, hE g rfl, fun j u hu => ?_⟩⟩
  have hj : j < xs.length := (List.getElem?_eq_some_iff.1 hu).1
  rw [Nat.zero_add, hx.cellAt j (by omega), hu]
theorem zo {w w' : World} {base : Nat} {e : TypeId} {sz n : Nat} {v : Value} {xs : List Value} (h : w.ownsRow base e sz v n xs) (k : ∀ g, v.ownBlock = some g -> w'.heap[g]? = w.heap[g]?) : w'.ownsRow base e sz v n xs := by
 obtain ⟨h1, h2⟩ := h
 refine ⟨h1, ?_⟩
 rcases h2 with h2 | ⟨g, cap, cur, rfl, hb, hg, r⟩
 ·exact .inl h2
 ·exact .inr ⟨g, cap, cur, rfl, hb, (k g rfl).trans hg, r⟩
theorem own_lt {w : World} {base : Nat} {e : TypeId} {sz n : Nat} {v : Value} {xs : List Value} (h : w.ownsRow base e sz v n xs) : ∀ g, v.ownBlock = some g -> base <= g /\ g < w.heap.size := fun g hg => h.lt g hg
section
variable {P : Program}
theorem zN {ops : Array Oper} {rest : List Oper} {o : Oper} {a : Act} {w : World} {Q : Exit -> Act -> World -> Prop} (s x : Operand) (t tx : TypeId) (hgd : o.guard = none)
  (ho : o.op = .call { callee := .builtin .append, args := #[s, x], argTypes := #[t, tx] })
  (base : Nat) (e : TypeId) (i : TypeInfo) (z : Value) (size bytes : Nat) (ht : P.underlying t = some (.slice e)) (hi : P.info? e = some i) (hz : i.zero = some z)
  (hsize : i.size = size) (hby : i.bytes = bytes) (hzs : z.cells.size = size) (hsz : 0 < size)
  (v : Value) (n : Nat) (xs : List Value) (hsv : a.eval s = v) (hown : w.ownsRow base e size v n xs)
  (xv : Value) (m : Nat) (news : List Value) (hxv : a.eval x = xv) (hs : Src P size tx xv m news w)
  (h63 : n + m <= maxLen) (hbytes : (n + m) * bytes <= 140737488355328) (hbase : base <= w.heap.size)
  (h : ∀ v' w', w'.ownsRow base e size v' (n + m) (xs ++ news) -> w.grownBy w' v.ownBlock -> Below base w w' -> (v'.ownBlock = v.ownBlock \/ v'.ownBlock = some w.heap.size) -> wpList P ops Q rest (a.put o.dst v') w') : wpList P ops Q (o :: rest) a w := by
 obtain ⟨v', w', hrun, h2, h3, h4⟩ := zdm (P := P) w base t tx o.type e i z size bytes ht hi hz hsize hby hzs hsz v n xs hown xv m news hs h63 hbytes hbase
 exact wpList_plain hgd fun _ hK => zfy s x t tx ho v xv hsv hxv hrun (hK _ _ (h v' w' h2 h3 ((Below.refl _ _).grown h3 hbase (fun j hj => (hown.lt j hj).1)) h4))
end
theorem SlE.lt {w : World} {E : Nat -> Prop} {v : Value} {xs : List Value} (h : SlE w E v xs) : SlE w (fun g => E g /\ g < w.heap.size) v xs := by
 obtain ⟨A, c, h1, h2, h3, h4⟩ := h
 refine ⟨A, c, h1, h2, h3, fun h => ?_⟩
 obtain ⟨b, off, e, hE, hc⟩ := h4 h
 exact ⟨b, off, e, ⟨hE, World.block_lt_of_cell? w ⟨b, off + 0, none⟩ (hc 0 _ (List.getElem?_eq_getElem h))⟩, hc⟩
theorem zgR (v : Value) {n : Nat} {w : World} {base : Nat} {e : TypeId} {sz : Nat} {xs : List Value} (h : w.ownsRow base e sz v n xs) : v.oneCell' = true := by
 rcases h.2 with ⟨rfl, _⟩ | ⟨g, cap, cur, rfl, _⟩ <;> rfl
end Go.Proofs.YtgoapnkdcfcjgaaGreat
