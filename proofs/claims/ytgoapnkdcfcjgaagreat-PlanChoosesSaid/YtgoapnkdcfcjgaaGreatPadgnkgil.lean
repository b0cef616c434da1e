/- 1 text of this claim, in build order. -/
import Derived.Test.YtgoapnkdcfcjgaaGreatPnockapcc
import Derived.Test.YtgoapnkdcfcjgaaGreatPkkdpconn
import Derived.Test.YtgoapnkdcfcjgaaGreatPgdmeddkk
set_option linter.unusedVariables false
set_option linter.unusedSimpArgs false
namespace Go.Proofs.YtgoapnkdcfcjgaaGreat
open Go.ChangeShapes Go.WideShapes Go.ChangeAt Go.RowKit
theorem zmy : (Tryz.prog.info? 125).map (fun i => (i.zero, i.size, i.bytes)) = some (some (.agg #[.int .i64 0, .slice none 0 0, .slice none 0 0, .slice none 0 0]), 4, 80) := by kernel_rfl
def zet (x : E4) : Prop := ∃ A1 n1 c1 A2 n2 c2 A3 n3 c3, x = (x.1, .slice A1 n1 c1, .slice A2 n2 c2, .slice A3 n3 c3)
theorem zet.one {x : E4} (h : zet x) : ∀ u ∈ e4 x, u.oneCell' = true := by
 obtain ⟨A1, n1, c1, A2, n2, c2, A3, n3, c3, e⟩ := h
 rw [e]
 intro u hu
 simp [e4] at hu
 rcases hu with rfl | rfl | rfl | rfl <;> rfl
theorem zmX {es : List E4} (h : ∀ x ∈ es, zet x) : ∀ u ∈ zb0 es, u.oneCell' = true := by
 intro u hu
 unfold zb0 at hu
 obtain ⟨x, hx, hu⟩ := List.mem_flatMap.1 hu
 exact (h x hx).one u hu
def znb (n : Nat) (es : List E4) (w : World) (e : Ending) (w' : World) : Prop := ∃ v, e = .returned v /\ w'.ownsRow w.heap.size 125 4 v n (zb0 es) /\ Below w.heap.size w w'
set_option maxRecDepth 100000 in
set_option maxHeartbeats 800000 in
theorem zl4 (b off n c : Nat) (es : List E4) (w : World) (hn : es.length = n) (h0 : 0 < n) (hc : n <= c) (hcm : c <= maxLen) (h40 : n <= 65536) (hb : b < w.heap.size) (h : ∀ k, k < es.length -> At4 w b off k (es.getD k z4)) (h4 : ∀ x ∈ es, zet x) :
  Calls Tryz.prog 107 #[.slice (some ⟨b, off, none⟩) n c] w (znb n es w) := by
 obtain ⟨i0, hi, hz0, hz1, hz2⟩ := info_parts zmy
 have HC := hid (zjy h); have H1 := hid (zmX h4)
 have HL := hid (zfz es)
 have HN := hid hn
 clear h h4 hn
 go_enter Tryz.func107, Tryz.ntmps107
 have hq : ∀ W : World, (binOp .eql 123 (.slice (some ⟨b, off, none⟩) n c) (.slice none 0 0)).run Tryz.prog W = .ok (.bool false) W := fun _ => rfl
 go_wp2_with (at_builtin; refine zr ?_)
 refine zar ?_
 have hown : (w.alloc (.cells #[] 125)).ownsRow w.heap.size 125 4 (.slice (some ⟨w.heap.size, 0, none⟩) 0 0) 0 [] := by
  refine ⟨rfl, .inr ⟨w.heap.size, 0, #[], rfl, Nat.le_refl _, ?_, Nat.le_refl _, by simp [maxLen], rfl, rfl⟩⟩
  exact heap_alloc_new w _
 refine zav (.tmp 5) (.tmp 6) 123 123 rfl rfl w.heap.size 125 i0 (.agg #[.int .i64 0, .slice none 0 0, .slice none 0 0, .slice none 0 0]) 4 80 Tryz.underlying123 hi hz0 hz1 hz2 rfl (by omega) _ _ _ rfl hown (.slice (some ⟨b, off, none⟩) n c) n (zb0 es) rfl ?_ (by unfold maxLen; omega) (by omega) (by simp) ?_
 ·exact Src.ofSlice _ Tryz.underlying123 ⟨b, off, none⟩ n c (zb0 es) (by rw [HL.out, HN.out]) (fun j u hj => by rw [show (⟨b, off, none⟩ : Addr).add j = ⟨b, off + j, none⟩ by unfold Addr.add; split <;> simp_all]; exact zv hb (HC.out j u hj)) H1.out
 ·intro v2 w2 hown2 hg2 hb2
  go_wp2
  go_ret
  refine ⟨v2, rfl, by simpa using hown2, ?_⟩
  exact (bl1 w _).trans hb2
theorem ziz (x : E4) (hx : zet x) (w : World) : Calls Tryz.prog 108 #[.agg #[.int .i64 x.1, x.2.1, x.2.2.1, x.2.2.2]] w (fun e w' => e = .returned (.bool (x.1 == 0)) /\ Below w.heap.size w w') := by
 obtain ⟨A1, n1, c1, A2, n2, c2, A3, n3, c3, e⟩ := hx
 obtain ⟨n, y⟩ := x
 simp only at e
 injection e with _ e
 subst e
 go_enter Tryz.func108, Tryz.ntmps108
 go_wp2
 go_ret
 exact ⟨rfl, bl1 w _⟩
def IxRel (es : List E4) (w : World) (i : Value) (wr : World) : Prop := ∃ k : Nat, k <= es.length /\ i = .int .i64 k /\ (∀ j, j < k -> (es.getD j z4).1 ≠ 0) /\ Below w.heap.size w wr
def IxPost (es : List E4) (w : World) (e : Ending) (w' : World) : Prop :=
 ((e = .returned (.int .i64 (-1)) /\ ∀ j, j < es.length -> (es.getD j z4).1 ≠ 0) \/ ∃ k : Nat, k < es.length /\ e = .returned (.int .i64 k) /\ (es.getD k z4).1 = 0 /\ ∀ j, j < k -> (es.getD j z4).1 ≠ 0) /\ Below w.heap.size w w'
theorem ziy {es : List E4} {k : Nat} (hk : k < es.length) : es.getD k z4 ∈ es := by
 rw [List.getD_eq_getElem?_getD, List.getElem?_eq_getElem hk]; exact List.getElem_mem hk
set_option maxRecDepth 100000 in
set_option maxHeartbeats 800000 in
theorem zkT (b off n c : Nat) (es : List E4) (w : World) (hn : es.length = n) (hc : n <= c) (hcm : c <= maxLen) (hb : b < w.heap.size) (h : ∀ k, k < es.length -> At4 w b off k (es.getD k z4)) (h4 : ∀ x ∈ es, zet x) :
  Calls Tryz.prog 132 #[.slice (some ⟨b, off, none⟩) n c, .func (Fn.func 108) #[] #[]] w (IxPost es w) := by
 have HA := hid h; have H4 := hid h4
 subst hn
 unfold maxLen at hcm
 clear h h4
 go_enter Tryz.func132, Tryz.ntmps132
 go_wp2
 go_loopw [8] (fun i wr => IxRel es w i wr) (fun i _ => es.length - (intOf i).toNat)
 case atStart => exact ⟨0, by omega, rfl, fun j hj => by omega, Below.refl _ _⟩
 case round =>
  obtain ⟨k, hk, rfl, hall, hbw⟩ := hrel
  have HALL := hid hall; have HB := hid hbw
  have hs := hbw.size
  clear hall hbw
  by_cases hlt : k < es.length
  ·have hat := (HA.out k hlt).of_block (HB.out.block b hb)
   have hl4 := H4.out _ (ziy hlt)
   obtain ⟨y, hy⟩ : ∃ y, y = es.getD k z4 := ⟨_, rfl⟩
   rw [<- hy] at hat hl4
   have HY := hid hy
   obtain ⟨A1, n1, c1, A2, n2, c2, A3, n3, c3, e⟩ := id hl4
   obtain ⟨m, yy⟩ := y
   simp only at e
   injection e with _ e
   subst e
   obtain ⟨g0, g1, g2, g3⟩ := hat
   simp only at g0 g1 g2 g3
   have HC := hid (ziz _ hl4 wr)
   simp only at HC
   clear hy hl4
   go_wp2_with fail
   refine HC.out.mono ?_
   rintro e w1 ⟨rfl, hb1⟩
   have HB1 := hid (HB.out.trans (hb1.mono hs)); clear hb1
   by_cases hm : m = 0
   ·have t1 : (m == 0) = true := by simp [hm]
    have HM := hid (show (es.getD k z4).1 = 0 by rw [<- HY.out]; exact hm)
    clear hm
    go_wp2
    go_ret
    exact ⟨.inr ⟨k, hlt, rfl, HM.out, HALL.out⟩, HB1.out⟩
   ·have t1 : (m == 0) = false := by simpa using hm
    have HM := hid (show (es.getD k z4).1 ≠ 0 by rw [<- HY.out]; exact hm)
    have HX := hid (show ∀ j, j < k + 1 -> (es.getD j z4).1 ≠ 0 from fun j hj => by
     rcases Nat.lt_or_ge j k with h | h
     ·exact HALL.out j h
     ·obtain rfl : j = k := by omega
      exact HM.out)
    clear hm
    go_wp2
    go_roundw
    case rel => exact ⟨k + 1, by omega, by go_num, HX.out, HB1.out⟩
    case measure => simp [intOf]; omega
  ·go_wp2
   go_ret
   exact ⟨.inl ⟨rfl, fun j hj => HALL.out j (by omega)⟩, HB.out⟩
theorem zmk (w : World) (t e ty : TypeId) (z : Value) (sz : Nat) (ht : Tryz.prog.underlying t = some (.slice e)) (hv : ∀ w, (zeroValue e).run Tryz.prog w = .ok z w) (hz : z.cells.size = sz) (h1 : ∀ u ∈ z.cells.toList, u.oneCell' = true) (b o n c : Nat) (hn : 0 < n)
  (hc : ∀ j, j < n * sz -> (w.cell? ⟨b, o + j, none⟩).isSome = true /\ w.frozen? ⟨b, o + j, none⟩ = false) :
  (Builtin.clear_ #[t] ty #[.slice (some ⟨b, o, none⟩) n c]).run Tryz.prog w = .ok (.tuple #[]) (w.setCells b o (Builtin.zeroCells z.cells n).toList) := by
 have hl : (Builtin.zeroCells z.cells n).toList.length = n * sz := by simp [Builtin.zeroCells, hz]
 have hst := run_storeCells_cells (P := Tryz.prog) b o (Builtin.zeroCells z.cells n).toList 0 w (by rw [hl]; intro j hj; simpa using (hc j hj).1) (by rw [hl]; intro j hj; simpa using (hc j hj).2) (by
  intro v hv'
  unfold Builtin.zeroCells at hv'
  simp only [Array.toList_map, List.mem_map, Array.mem_toList_iff, Array.mem_range] at hv'
  obtain ⟨i, hi, rfl⟩ := hv'
  have hp : 0 < z.cells.size := by
   rcases Nat.eq_zero_or_pos z.cells.size with h | h
   ·rw [h] at hi; omega
   ·exact h
  rw [getElem!_pos z.cells _ (Nat.mod_lt _ hp)]
  exact h1 _ (by rw [Array.mem_toList_iff]; exact Array.getElem_mem _))
 simp only [Nat.add_zero] at hst
 obtain ⟨m, rfl⟩ : ∃ m, n = m + 1 := ⟨n - 1, by omega⟩
 simp [Builtin.clear_, run_underlying ht, hv, hst]
def Reg (w : World) (b off N : Nat) : Prop := ∀ j, j < N -> (w.cell? ⟨b, off + j, none⟩).isSome = true /\ w.frozen? ⟨b, off + j, none⟩ = false
theorem Reg.setCell {w : World} {b off N : Nat} (h : Reg w b off N) (o : Nat) (v : Value) : Reg (w.setCell ⟨b, o, none⟩ v) b off N := by
 intro j hj
 obtain ⟨h1, h2⟩ := h j hj
 refine ⟨?_, frozen_far h2⟩
 obtain ⟨u, hu⟩ := Option.isSome_iff_exists.1 h1
 by_cases e : o = off + j
 ·subst e; rw [zt hu]; rfl
 ·rw [zb e hu]; rfl
theorem Reg.below {w w' : World} {b off N B : Nat} (h : Reg w b off N) (hb : Below B w w') (hlt : b < B) : Reg w' b off N := by
 intro j hj
 obtain ⟨h1, h2⟩ := h j hj
 obtain ⟨u, hu⟩ := Option.isSome_iff_exists.1 h1
 exact ⟨by rw [zc hb hlt hu]; rfl, zy hb hlt h2⟩
theorem Reg.four {w : World} {b off n i : Nat} (h : Reg w b off (n * 4)) (hi : i < n) :
  ((∃ u, w.cell? ⟨b, off + i * 4, none⟩ = some u) /\ (∃ u, w.cell? ⟨b, off + i * 4 + 1, none⟩ = some u) /\ (∃ u, w.cell? ⟨b, off + i * 4 + 2, none⟩ = some u) /\ ∃ u, w.cell? ⟨b, off + i * 4 + 3, none⟩ = some u) /\
  w.frozen? ⟨b, off + i * 4, none⟩ = false /\ w.frozen? ⟨b, off + i * 4 + 1, none⟩ = false /\ w.frozen? ⟨b, off + i * 4 + 2, none⟩ = false /\ w.frozen? ⟨b, off + i * 4 + 3, none⟩ = false := by
 have q : ∀ d, d < 4 -> (∃ u, w.cell? ⟨b, off + i * 4 + d, none⟩ = some u) /\ w.frozen? ⟨b, off + i * 4 + d, none⟩ = false := fun d hd => by
  obtain ⟨h1, h2⟩ := h (i * 4 + d) (by omega)
  rw [<- Nat.add_assoc] at h1 h2
  exact ⟨Option.isSome_iff_exists.1 h1, h2⟩
 exact ⟨⟨(q 0 (by omega)).1, (q 1 (by omega)).1, (q 2 (by omega)).1, (q 3 (by omega)).1⟩, (q 0 (by omega)).2, (q 1 (by omega)).2, (q 2 (by omega)).2, (q 3 (by omega)).2⟩
def zaF (es : List E4) : List E4 := es.filter fun x => x.1 != 0
def set4 (w : World) (b o : Nat) (x : E4) : World := (((w.setCell ⟨b, o, none⟩ (.int .i64 x.1)).setCell ⟨b, o + 1, none⟩ x.2.1).setCell ⟨b, o + 2, none⟩ x.2.2.1).setCell ⟨b, o + 3, none⟩ x.2.2.2
theorem zoD {w : World} {b off N : Nat} (h : Reg w b off N) (o : Nat) (x : E4) : Reg (set4 w b o x) b off N := (((h.setCell _ _).setCell _ _).setCell _ _).setCell _ _
theorem zpI (w : World) (b o : Nat) (x : E4) : Upd b w (set4 w b o x) := (((Upd.setCell b _ _ _).trans (Upd.setCell b _ _ _)).trans (Upd.setCell b _ _ _)).trans (Upd.setCell b _ _ _)
theorem zn8 {w : World} {b off n i : Nat} (h : Reg w b off (n * 4)) (hi : i < n) (x : E4) : At4 (set4 w b (off + i * 4) x) b off i x := by
 obtain ⟨⟨⟨u0, h0⟩, ⟨u1, h1⟩, ⟨u2, h2⟩, u3, h3⟩, -⟩ := h.four hi
 refine ⟨?_, ?_, ?_, ?_⟩
 ·exact zb (by omega) (zb (by omega) (zb (by omega) (zt h0)))
 ·exact zb (by omega) (zb (by omega) (zt (zb (by omega) h1)))
 ·exact zb (by omega) (zt (zb (by omega) (zb (by omega) h2)))
 ·exact zt (zb (by omega) (zb (by omega) (zb (by omega) h3)))
theorem zkL {w : World} {b off i k : Nat} {y : E4} (h : At4 w b off k y) (x : E4) (hne : k ≠ i) : At4 (set4 w b (off + i * 4) x) b off k y := by
 obtain ⟨h0, h1, h2, h3⟩ := h
 refine ⟨?_, ?_, ?_, ?_⟩
 ·exact zb (by omega) (zb (by omega) (zb (by omega) (zb (by omega) h0)))
 ·exact zb (by omega) (zb (by omega) (zb (by omega) (zb (by omega) h1)))
 ·exact zb (by omega) (zb (by omega) (zb (by omega) (zb (by omega) h2)))
 ·exact zb (by omega) (zb (by omega) (zb (by omega) (zb (by omega) h3)))
structure DelS (es : List E4) (b off j : Nat) (w wr : World) : Prop where
 reg : Reg wr b off (es.length * 4)
 lt : b < wr.heap.size
 head : ∀ k, k < (zaF (es.take j)).length -> At4 wr b off k ((zaF (es.take j)).getD k z4)
 tail : ∀ k, j <= k -> k < es.length -> At4 wr b off k (es.getD k z4)
 upd : Upd b w wr
theorem zcJ {es : List E4} {j : Nat} (hj : j < es.length) : es.take (j + 1) = es.take j ++ [es.getD j z4] := by
 rw [List.take_succ_eq_append_getElem hj, List.getD_eq_getElem?_getD, List.getElem?_eq_getElem hj]; rfl
theorem zdJ {es : List E4} {j : Nat} (hj : j < es.length) (h : (es.getD j z4).1 = 0) : zaF (es.take (j + 1)) = zaF (es.take j) := by
 unfold zaF
 rw [zcJ hj, List.filter_append]
 simp [h, -List.getD_eq_getElem?_getD]
theorem zh4 {es : List E4} {j : Nat} (hj : j < es.length) (h : (es.getD j z4).1 ≠ 0) : zaF (es.take (j + 1)) = zaF (es.take j) ++ [es.getD j z4] := by
 unfold zaF
 rw [zcJ hj, List.filter_append]
 simp [h, -List.getD_eq_getElem?_getD]
theorem zo1 (es : List E4) (j : Nat) : (zaF (es.take j)).length <= j := by
 unfold zaF
 exact Nat.le_trans (List.length_filter_le _ _) (by rw [List.length_take]; omega)
theorem zh3 {es : List E4} (h : ∀ j, j < es.length -> (es.getD j z4).1 ≠ 0) : zaF es = es := by
 unfold zaF
 rw [List.filter_eq_self]
 intro x hx
 obtain ⟨j, hj, rfl⟩ := List.getElem_of_mem hx
 have := h j hj
 rw [List.getD_eq_getElem?_getD, List.getElem?_eq_getElem hj] at this
 simpa using this
theorem DelS.below {es : List E4} {b off j : Nat} {w wr w' : World} (h : DelS es b off j w wr) (hb : Below wr.heap.size wr w') : DelS es b off j w w' :=
 ⟨h.reg.below hb h.lt, Nat.lt_of_lt_of_le h.lt hb.size, fun k hk => (h.head k hk).of_block (hb.block b h.lt), fun k h1 h2 => (h.tail k h1 h2).of_block (hb.block b h.lt),
  ⟨hb.os.trans h.upd.os, hb.tape.trans h.upd.tape, hb.output.trans h.upd.output, Nat.le_trans h.upd.size hb.size, fun k hk hn => (hb.block k (Nat.lt_of_lt_of_le hk h.upd.size)).trans (h.upd.block k hk hn)⟩⟩
theorem DelS.skip {es : List E4} {b off j : Nat} {w wr : World} (h : DelS es b off j w wr) (hj : j < es.length) (h0 : (es.getD j z4).1 = 0) : DelS es b off (j + 1) w wr :=
 ⟨h.reg, h.lt, by rw [zdJ hj h0]; exact h.head, fun k h1 h2 => h.tail k (by omega) h2, h.upd⟩
theorem DelS.store {es : List E4} {b off j : Nat} {w wr : World} (h : DelS es b off j w wr) (hj : j < es.length) (h0 : (es.getD j z4).1 ≠ 0) : DelS es b off (j + 1) w (set4 wr b (off + (zaF (es.take j)).length * 4) (es.getD j z4)) := by
 have hle := zo1 es j
 refine ⟨zoD h.reg _ _, by simpa [set4, World.setCell] using h.lt, ?_, fun k h1 h2 => zkL (h.tail k (by omega) h2) _ (by omega), h.upd.trans (zpI _ _ _ _)⟩
 rw [zh4 hj h0]
 intro k hk
 rw [List.length_append, List.length_singleton] at hk
 rcases Nat.lt_or_ge k (zaF (es.take j)).length with hlt | hge
 ·rw [show (zaF (es.take j) ++ [es.getD j z4]).getD k z4 = (zaF (es.take j)).getD k z4 by simp only [List.getD_eq_getElem?_getD]; rw [List.getElem?_append_left hlt]]
  exact zkL (h.head k hlt) _ (by omega)
 ·obtain rfl : k = (zaF (es.take j)).length := by omega
  generalize es.getD j z4 = y
  rw [List.getD_eq_getElem?_getD, List.getElem?_append_right (by omega)]
  simp only [Nat.sub_self, List.getElem?_cons_zero, Option.getD_some]
  exact zn8 h.reg (by omega) _
def zqZ (es : List E4) (b off c : Nat) (w : World) (e : Ending) (w' : World) : Prop :=
 e = .returned (.slice (some ⟨b, off, none⟩) (zaF es).length c) /\ (∀ k, k < (zaF es).length -> At4 w' b off k ((zaF es).getD k z4)) /\ Upd b w w'
def DelRel (es : List E4) (b off : Nat) (w : World) (i j : Value) (wr : World) : Prop := ∃ n : Nat, n <= es.length /\ j = .int .i64 n /\ i = .int .i64 ((zaF (es.take n)).length : Nat) /\ (zaF (es.take n)).length < n /\ DelS es b off n w wr
theorem zhc {w : World} {b off m : Nat} {zs : List Value} {fs : List E4} (hf : fs.length = m) (h : ∀ k, k < fs.length -> At4 w b off k (fs.getD k z4)) : ∀ k, k < fs.length -> At4 (w.setCells b (off + m * 4) zs) b off k (fs.getD k z4) := by
 intro k hk
 obtain ⟨h0, h1, h2, h3⟩ := h k hk
 refine ⟨?_, ?_, ?_, ?_⟩
 ·rw [World.cell?_setCells_out b zs _ w ⟨b, off + k * 4, none⟩ (fun _ _ => .inl (by simp only; omega))]; exact h0
 ·rw [World.cell?_setCells_out b zs _ w ⟨b, off + k * 4 + 1, none⟩ (fun _ _ => .inl (by simp only; omega))]; exact h1
 ·rw [World.cell?_setCells_out b zs _ w ⟨b, off + k * 4 + 2, none⟩ (fun _ _ => .inl (by simp only; omega))]; exact h2
 ·rw [World.cell?_setCells_out b zs _ w ⟨b, off + k * 4 + 3, none⟩ (fun _ _ => .inl (by simp only; omega))]; exact h3
theorem zew (b : Nat) : ∀ (zs : List Value) (o : Nat) (w : World), Upd b w (w.setCells b o zs)
 | [], _, w => Upd.refl _ _
 | v :: zs, o, w => (Upd.setCell b o w v).trans (zew b zs (o + 1) _)
theorem zni (w : World) : (zeroValue 125).run Tryz.prog w = .ok (.agg #[.int .i64 0, .slice none 0 0, .slice none 0 0, .slice none 0 0]) w := by kernel_rfl
set_option maxRecDepth 100000 in
set_option maxHeartbeats 1600000 in
theorem zji (b off n c : Nat) (es : List E4) (w : World) (hn : es.length = n) (hc : n <= c) (hcm : c <= maxLen) (hb : b < w.heap.size) (hreg : Reg w b off (es.length * 4)) (h : ∀ k, k < es.length -> At4 w b off k (es.getD k z4)) (h4 : ∀ x ∈ es, zet x) :
  Calls Tryz.prog 106 #[.slice (some ⟨b, off, none⟩) n c, .func (Fn.func 108) #[] #[]] w (zqZ es b off c w) := by
 have HA := hid h; have H4 := hid h4
 have HI := hid (zkT b off n c es w hn hc hcm hb h h4)
 subst hn
 unfold maxLen at hcm
 have HR := hid hreg
 clear h h4 hreg
 go_enter Tryz.func106, Tryz.ntmps106
 go_wp2_with fail
 refine HI.out.mono ?_
 rintro e w1 ⟨hres, hb1⟩
 have HB1 := hid hb1; have hs1 := hb1.size; clear hb1
 rcases hres with ⟨rfl, hall⟩ | ⟨k0, hk0, rfl, hz, hall⟩
 ·have HK := hid (zh3 hall)
  clear hall
  go_wp2
  go_ret
  refine ⟨by rw [HK.out]; rfl, ?_, ⟨HB1.out.os, HB1.out.tape, HB1.out.output, HB1.out.size, fun k hk _ => HB1.out.block k hk⟩⟩
  rw [HK.out]
  exact fun k hk => (HA.out k hk).of_block (HB1.out.block b hb)
 ·have HZ := hid hz; have HL := hid hall
  clear hz hall
  have hkt : zaF (es.take k0) = es.take k0 := zh3 (fun j hj => by
   have hj' : j < k0 := by rw [List.length_take] at hj; omega
   have := HL.out j hj'
   rwa [List.getD_eq_getElem?_getD, List.getElem?_take, if_pos hj', <- List.getD_eq_getElem?_getD])
  have hlen0 : (zaF (es.take (k0 + 1))).length = k0 := by rw [zdJ hk0 HZ.out, hkt, List.length_take]; omega
  have HS0 : Hid (DelS es b off (k0 + 1) w w1) := by
   refine hid ⟨HR.out.below HB1.out hb, by omega, ?_, fun k _ h2 => (HA.out k h2).of_block (HB1.out.block b hb), ⟨HB1.out.os, HB1.out.tape, HB1.out.output, HB1.out.size, fun k hk _ => HB1.out.block k hk⟩⟩
   rw [zdJ hk0 HZ.out, hkt]
   intro k hk
   have hk' : k < k0 := by rw [List.length_take] at hk; omega
   have := (HA.out k (by omega)).of_block (HB1.out.block b hb)
   rwa [List.getD_eq_getElem?_getD, List.getElem?_take, if_pos hk', <- List.getD_eq_getElem?_getD]
  have HL0 := hid hlen0
  clear hkt hlen0
  have hn1 : ((k0 : Int) == -1) = false := by rw [beq_eq_false_iff_ne]; omega
  have HN1 := hid hn1
  go_wp2
  go_loopw [5, 6] (fun i j wr => DelRel es b off w i j wr) (fun _ j _ => es.length - (intOf j).toNat)
  case atStart => exact ⟨k0 + 1, by omega, rfl, by rw [HL0.out], by rw [HL0.out]; omega, HS0.out⟩
  case round =>
   obtain ⟨j, hj, rfl, rfl, hlt, hst⟩ := hrel
   have HS := hid hst; clear hst HS0 HL0 HN1 hn1
   obtain ⟨i, hi⟩ : ∃ i, i = (zaF (es.take j)).length := ⟨_, rfl⟩
   rw [<- hi] at hlt ⊢
   have HI2 := hid hi; clear hi
   by_cases hjn : j < es.length
   ·have hat := HS.out.tail j (Nat.le_refl _) hjn
    have hl4 := H4.out _ (ziy hjn)
    have HR0 := hid (HS.out.reg); have HLT := HS.out.lt
    obtain ⟨y, hy⟩ : ∃ y, y = es.getD j z4 := ⟨_, rfl⟩
    rw [<- hy] at hat hl4
    have HY := hid hy
    obtain ⟨A1, n1, c1, A2, n2, c2, A3, n3, c3, e⟩ := id hl4
    obtain ⟨m, yy⟩ := y
    simp only at e
    injection e with _ e
    subst e
    obtain ⟨g0, g1, g2, g3⟩ := hat
    simp only at g0 g1 g2 g3
    have HC := hid (fun W => ziz _ hl4 W)
    simp only at HC
    clear hy hl4
    go_wp2_with fail
    refine (HC.out _).mono ?_
    rintro e w2 ⟨rfl, hb2⟩
    have K := (Blk.new wr (.int .i64 m) (.slice A1 n1 c1) (.slice A2 n2 c2) (.slice A3 n3 c3) 125).below hb2 (by simp)
    have HB2 := hid ((bl1 wr (.cells #[.int .i64 m, .slice A1 n1 c1, .slice A2 n2 c2, .slice A3 n3 c3] 125)).trans (hb2.mono (by simp)))
    clear hb2
    have HS2 := hid (HS.out.below HB2.out)
    obtain ⟨p0, p1, p2, p3, -, -, -, -⟩ := K
    by_cases hm : m = 0
    ·have t1 : (m == 0) = true := by simp [hm]
     have HM := hid (show (es.getD j z4).1 = 0 by rw [<- HY.out]; exact hm)
     clear hm
     go_wp2
     go_roundw
     case rel => exact ⟨j + 1, by omega, by go_num, by rw [zdJ hjn HM.out, <- HI2.out], by rw [zdJ hjn HM.out, <- HI2.out]; omega, HS2.out.skip hjn HM.out⟩
     case measure => simp [intOf]; omega
    ·have t1 : (m == 0) = false := by simpa using hm
     have HM := hid (show (es.getD j z4).1 ≠ 0 by rw [<- HY.out]; exact hm)
     clear hm
     have hst2 := HS2.out.store hjn HM.out
     rw [<- HI2.out, <- HY.out] at hst2
     have HST := hid hst2; clear hst2
     obtain ⟨⟨⟨u0, q0⟩, ⟨u1, q1⟩, ⟨u2, q2⟩, u3, q3⟩, f0, f1, f2, f3⟩ := HS2.out.reg.four (i := i) (by omega)
     have hkl : (zaF (es.take (j + 1))).length = i + 1 := by rw [zh4 hjn HM.out, List.length_append, <- HI2.out]; rfl
     have HKL := hid hkl; clear hkl
     go_wp2
     go_roundw
     case rel => exact ⟨j + 1, by omega, by go_num, by rw [HKL.out]; go_num, by rw [HKL.out]; omega, HST.out⟩
     case measure => simp [intOf]; omega
   ·have hcl := fun ty => zmk wr 123 125 ty (.agg #[.int .i64 0, .slice none 0 0, .slice none 0 0, .slice none 0 0]) 4 Tryz.underlying123 zni rfl (by intro u hu; simp [Value.cells] at hu; rcases hu with rfl | rfl | rfl | rfl <;> rfl) b (off + i * 4) (es.length - i) (c - i) (by omega) (fun q hq => by rw [Nat.add_assoc]; exact HS.out.reg (i * 4 + q) (by omega))
    have HK := hid (show zaF es = zaF (es.take j) by rw [List.take_of_length_le (by omega)])
    obtain ⟨zs, hzs⟩ : ∃ zs, zs = (Builtin.zeroCells (Value.agg #[.int .i64 0, .slice none 0 0, .slice none 0 0, .slice none 0 0]).cells (es.length - i)).toList := ⟨_, rfl⟩
    rw [<- hzs] at hcl
    clear hzs
    have hci : i ≠ c := by omega
    go_wp2
    go_ret
    refine ⟨?_, ?_, HS.out.upd.trans (zew _ _ _ _)⟩
    ·rw [HK.out, <- HI2.out]; rfl
    ·rw [HK.out]
     have := zhc (zs := zs) HI2.out.symm HS.out.head
     exact this
end Go.Proofs.YtgoapnkdcfcjgaaGreat
