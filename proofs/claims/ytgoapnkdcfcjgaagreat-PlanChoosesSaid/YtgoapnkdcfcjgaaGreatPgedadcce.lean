/- 4 texts of this claim, in build order. -/
import Derived.Test.YtgoapnkdcfcjgaaGreatPfaigadad
import Derived.Test.YtgoapnkdcfcjgaaGreatPplomcpim
import Derived.Test.YtgoapnkdcfcjgaaGreatPflgpgfja
set_option linter.unusedVariables false
set_option linter.unusedSimpArgs false
namespace Go.Proofs.YtgoapnkdcfcjgaaGreat
open Go.ChangeShapes Go.WideShapes Go.ChangeAt Go.RowKit Go.Maps
def zpA (L : Int) (ns : List zH) (w : World) (e : Ending) (w' : World) : Prop :=
 ∃ d D, e = .returned (.pointer (some ⟨d, 0, none⟩)) /\ zbj w' D d L ns /\ (∀ k, D k -> w.heap.size <= k) /\ Below w.heap.size w w'
set_option maxRecDepth 100000 in
set_option maxHeartbeats 1600000 in
theorem znf (D : Nat -> Prop) (d : Nat) (L : Int) (ns : List zH) (w : World) (h : zbj w D d L ns) (hok : DOk ns) (h1 : 1 <= L) (h3 : L <= 3) :
  Calls Tryz.prog 66 #[.pointer (some ⟨d, 0, none⟩)] w (zpA L ns w) := by
 obtain ⟨A, c, h5, hc1, hc2, hrow⟩ := h.rows
 have hd := h.2.1 d h.1
 have hL := h.2.2.2.1
 have hlen := hok.len
 have HN := hid (zkn L w h1 h3)
 have HROW := hid hrow; have HOK := hid hok; clear h hrow hok
 unfold maxLen at hc2
 go_enter Tryz.func66, Tryz.ntmps66
 go_wp2_with fail
 refine HN.out.mono ?_
 rintro e w1 ⟨d1, D1, rfl, hd1, hD1, hb1⟩
 have h5' := zc hb1 hd h5
 have HD1 := hid hd1; have HG1 := hid hD1; have HB1 := hid hb1; clear hd1 hD1 hb1
 go_wp2
 go_loopw [5, 16] (fun _ i wr => ∃ (k : Nat) (D' : Nat -> Prop), i = .int .i64 k /\ k <= ns.length /\ zbj wr D' d1 L (ns.take k) /\ (∀ k, D' k -> w.heap.size <= k) /\ Below w.heap.size w wr) (fun _ i _ => ns.length - (intOf i).toNat)
 case atStart => exact ⟨0, D1, rfl, by omega, HD1.out, HG1.out, HB1.out⟩
 case round =>
  obtain ⟨k, D', rfl, hk, hdw, hg, hb⟩ := hrel
  have HDW := hid hdw; have HG := hid hg; have HB := hid hb; clear hdw hg hb
  by_cases hlt : k < ns.length
  ·obtain ⟨b, rfl, hbl, hcA, hcB⟩ := HROW.out k hlt
   replace hcA := zc HB.out hbl hcA
   replace hcB := zc HB.out hbl hcB
   obtain ⟨hx1, hx2⟩ := HOK.out.small _ (List.getElem_mem hlt)
   have e1 : ns.take (k + 1) = ns.take k ++ [ns[k]] := List.take_succ_eq_append_getElem hlt
   have hnot : ns[k] ∉ ns.take k := by
    intro hm
    obtain ⟨j, hj, he⟩ := List.mem_iff_getElem.1 hm
    rw [List.length_take] at hj
    rw [List.getElem_take] at he
    have c1 := zbc HOK.out.inv.nodup (List.getElem?_eq_getElem hlt)
    have c2 := zbc HOK.out.inv.nodup (List.getElem?_eq_getElem (show j < ns.length by omega))
    rw [he, c1] at c2
    omega
   have hb2 : Below w.heap.size w (wr.alloc (.cells #[.int .i64 (ns[k].1 : Int), .string ns[k].2] 146)) := HB.out.alloc HB.out.size _
   have hp := zky D' d1 L (ns.take k) ns[k].1 ns[k].2 (wr.alloc (.cells #[.int .i64 (ns[k].1 : Int), .string ns[k].2] 146)) (HDW.out.below (bl1 _ _)) (by rw [List.length_take]; omega) hx1 (by omega) hnot
   have e2 : ns.take k ++ [(ns[k].1, ns[k].2)] = ns.take (k + 1) := e1.symm
   rw [e2] at hp
   generalize ns[k].1 = up at *
   generalize ns[k].2 = s at *
   have HP := hid hp; have HB2 := hid hb2
   clear hp e1 e2 hnot hb2
   go_wp2_with fail
   refine HP.out.mono ?_
   rintro e w4 ⟨D2, rfl, hg2, hd4, hc4⟩
   have HD4 := hid hd4
   have HB4 := hid (HB2.out.trans (hc4.below HB2.out.size HG.out))
   have HG4 := hid (show ∀ k, D2 k -> w.heap.size <= k from fun k hk => (hg2.2 k hk).elim (HG.out k) (fun h => Nat.le_trans HB2.out.size h))
   clear hg2 hd4 hc4
   go_wp2
   go_roundw
   case rel => exact ⟨k + 1, D2, by go_num, by omega, HD4.out, HG4.out, HB4.out⟩
   case measure => simp [intOf]; omega
  ·obtain rfl : k = ns.length := by omega
   go_wp2
   go_ret
   refine ⟨d1, D', rfl, ?_, HG.out, HB.out⟩
   have := HDW.out
   rwa [List.take_length] at this
end Go.Proofs.YtgoapnkdcfcjgaaGreat
namespace Go.Proofs.YtgoapnkdcfcjgaaGreat
open Go.ChangeShapes Go.WideShapes Go.ChangeAt Go.RowKit
def SchR (w : World) (R : Nat -> Prop) (v1 v2 v3 : Value) (s : ze) : Prop :=
 ∃ (w0 : World) (a : Nat), SchO w0 a v1 v2 v3 s /\ ∀ g, a <= g -> g < w0.heap.size -> R g /\ w.heap[g]? = w0.heap[g]?
def RowR (w : World) (R : Nat -> Prop) (v : Value) (M : List (List Int)) : Prop :=
 ∃ (w0 : World) (a : Nat), RowI w0 a v M /\ ∀ g, a <= g -> g < w0.heap.size -> R g /\ w.heap[g]? = w0.heap[g]?
theorem SchR.kept {w w' : World} {R : Nat -> Prop} {v1 v2 v3 : Value} {s : ze} (h : SchR w R v1 v2 v3 s) (k : Kept R w w') : SchR w' R v1 v2 v3 s := by
 obtain ⟨w0, a, h1, h2⟩ := h
 exact ⟨w0, a, h1, fun g g1 g2 => ⟨(h2 g g1 g2).1, (k g (h2 g g1 g2).1).trans (h2 g g1 g2).2⟩⟩
theorem RowR.kept {w w' : World} {R : Nat -> Prop} {v : Value} {M : List (List Int)} (h : RowR w R v M) (k : Kept R w w') : RowR w' R v M := by
 obtain ⟨w0, a, h1, h2⟩ := h
 exact ⟨w0, a, h1, fun g g1 g2 => ⟨(h2 g g1 g2).1, (k g (h2 g g1 g2).1).trans (h2 g g1 g2).2⟩⟩
theorem SchR.mono {w : World} {R R' : Nat -> Prop} {v1 v2 v3 : Value} {s : ze} (h : SchR w R v1 v2 v3 s) (k : ∀ g, R g -> R' g) : SchR w R' v1 v2 v3 s := by
 obtain ⟨w0, a, h1, h2⟩ := h
 exact ⟨w0, a, h1, fun g g1 g2 => ⟨k g (h2 g g1 g2).1, (h2 g g1 g2).2⟩⟩
theorem RowR.mono {w : World} {R R' : Nat -> Prop} {v : Value} {M : List (List Int)} (h : RowR w R v M) (k : ∀ g, R g -> R' g) : RowR w R' v M := by
 obtain ⟨w0, a, h1, h2⟩ := h
 exact ⟨w0, a, h1, fun g g1 g2 => ⟨k g (h2 g g1 g2).1, (h2 g g1 g2).2⟩⟩
theorem zcc {w w' : World} {a : Nat} {e : TypeId} {sz n : Nat} {v : Value} {xs : List Value} (h : w.ownsRow a e sz v n xs) (k : ∀ g, a <= g -> g < w.heap.size -> w'.heap[g]? = w.heap[g]?) : w'.ownsRow a e sz v n xs :=
 zo h (fun g hg => k g (h.lt g hg).1 (h.lt g hg).2)
theorem RowI.range {w w' : World} {a : Nat} {v : Value} {M : List (List Int)} (h : RowI w a v M) (k : ∀ g, a <= g -> g < w.heap.size -> w'.heap[g]? = w.heap[g]?) : RowI w' a v M := by
 obtain ⟨vs, h1, h2, h3⟩ := h
 exact ⟨vs, h1, zcc h2 k, fun j hj => zcc (h3 j hj) k⟩
theorem DRow.range {w w' : World} {a : Nat} {v : Value} {M : List DimX} (h : DRow w a v M) (k : ∀ g, a <= g -> g < w.heap.size -> w'.heap[g]? = w.heap[g]?) : DRow w' a v M := by
 obtain ⟨es, h1, h2, h3⟩ := h
 exact ⟨es, h1, zcc h2 k, fun x hx => zcc (h3 x hx) k⟩
theorem SchR.rd {w : World} {R : Nat -> Prop} {v1 v2 v3 : Value} {s : ze} (h : SchR w R v1 v2 v3 s) (hs : zoi s) : zD w w.heap.size (.agg #[v1, v2, v3]) s := by
 obtain ⟨w0, a, ⟨h1, h2, h3⟩, k⟩ := h
 exact SchO.rd ⟨h1.range (fun g g1 g2 => (k g g1 g2).2), zcc h2 (fun g g1 g2 => (k g g1 g2).2), h3.range (fun g g1 g2 => (k g g1 g2).2)⟩ hs
theorem RowR.rd {w : World} {R : Nat -> Prop} {v : Value} {M : List (List Int)} (h : RowR w R v M) (hs : ∀ l ∈ M, ∀ n ∈ l, za4 n) : zj 1 zC w w.heap.size [v] M := by
 obtain ⟨w0, a, h1, k⟩ := h
 exact (h1.range (fun g g1 g2 => (k g g1 g2).2)).rows hs
structure Lay where
 R : Nat -> Prop
 S1 : Value
 S2 : Value
 S3 : Value
 V : Value
 DS : Value
 CS : Value
 dp : Nat -> Nat
 dD : Nat -> Nat -> Prop
 cq : Nat -> Nat
 cm : Nat -> Nat
 cD : Nat -> Nat -> Prop
def ptrs (f : Nat -> Nat) (n : Nat) : List Value := (List.range n).map fun i => .pointer (some ⟨f i, 0, none⟩)
theorem zg7 (f : Nat -> Nat) (n : Nat) : (ptrs f n).length = n := by simp [ptrs]
theorem zdl {f : Nat -> Nat} {n i : Nat} (h : i < n) : (ptrs f n)[i]? = some (.pointer (some ⟨f i, 0, none⟩)) := by simp [ptrs, h]
theorem zdy (f : Nat -> Nat) (n : Nat) : ptrs f (n + 1) = ptrs f n ++ [.pointer (some ⟨f n, 0, none⟩)] := by simp [ptrs, List.range_succ]
theorem zcV {f g : Nat -> Nat} {n : Nat} (h : ∀ i, i < n -> f i = g i) : ptrs f n = ptrs g n := by
 unfold ptrs
 exact List.map_congr_left (fun i hi => by rw [h i (List.mem_range.1 hi)])
theorem zpJ {f : Nat -> Nat} {n i q : Nat} (h : i < n) : (ptrs f n).set i (.pointer (some ⟨q, 0, none⟩)) = ptrs (fun j => if j = i then q else f j) n := by
 refine List.ext_getElem? (fun k => ?_)
 rw [List.getElem?_set, zg7]
 by_cases hk : k < n
 ·by_cases e : i = k
  ·subst e; rw [if_pos rfl, if_pos h, zdl h]; simp
  ·rw [if_neg e, zdl hk, zdl hk, if_neg (fun e' => e e'.symm)]
 ·rw [List.getElem?_eq_none (l := ptrs f n) (by rw [zg7]; omega), List.getElem?_eq_none (by rw [zg7]; omega)]
  split <;> simp_all <;> omega
structure LatW (w : World) (H p : Nat) (Y : Lay) (l : LatX) : Prop where
 hp : H <= p
 pl : p < w.heap.size
 fz : ∀ i, i < 7 -> w.frozen? ⟨p, i, none⟩ = false
 c0 : w.cell? ⟨p, 0, none⟩ = some Y.S1
 c1 : w.cell? ⟨p, 1, none⟩ = some Y.S2
 c2 : w.cell? ⟨p, 2, none⟩ = some Y.S3
 c3 : w.cell? ⟨p, 3, none⟩ = some Y.V
 c4 : w.cell? ⟨p, 4, none⟩ = some Y.DS
 c5 : w.cell? ⟨p, 5, none⟩ = some Y.CS
 c6 : w.cell? ⟨p, 6, none⟩ = some (.int .i64 l.n)
 sch : SchR w Y.R Y.S1 Y.S2 Y.S3 l.s
 sin : zoi l.s
 row : RowR w Y.R Y.V (zh l.s)
 ds : w.ownsRow H 88 1 Y.DS l.ds.length (ptrs Y.dp l.ds.length)
 cs : w.ownsRow H 79 1 Y.CS l.cs.length (ptrs Y.cq l.cs.length)
 dict : ∀ i, i < l.ds.length -> zbj w (Y.dD i) (Y.dp i) (dimL l.s i) (l.ds.getD i [])
 cub : ∀ i, i < l.cs.length -> CubW w (Y.cD i) (Y.cq i) (Y.cm i) l.s.1.length l.s.2.1.length (l.cs.getD i [])
 rl : ∀ g, Y.R g -> g < w.heap.size /\ g ≠ p /\ Y.CS.ownBlock ≠ some g /\ ∀ i, i < l.ds.length -> ¬ Y.dD i g
 rd : ∀ g, Y.R g -> Y.DS.ownBlock ≠ some g
 dsA : ∀ g, Y.DS.ownBlock = some g -> g ≠ p /\ Y.CS.ownBlock ≠ some g /\ ∀ i, i < l.ds.length -> ¬ Y.dD i g
 cuR : ∀ i, i < l.cs.length -> ∀ g, Y.cD i g -> Y.R g
 csA : ∀ g, Y.CS.ownBlock = some g -> g ≠ p /\ ∀ i, i < l.ds.length -> ¬ Y.dD i g
 dA : ∀ i, i < l.ds.length -> ∀ g, Y.dD i g -> H <= g /\ g ≠ p
 dd : ∀ i j, i < l.ds.length -> j < l.ds.length -> i ≠ j -> ∀ g, Y.dD i g -> ¬ Y.dD j g
def LatA (p : Nat) (Y : Lay) (n g : Nat) : Prop := g = p \/ Y.CS.ownBlock = some g \/ ∃ i, i < n /\ Y.dD i g
theorem LatW.on {w w' : World} {H p : Nat} {Y : Lay} {l : LatX} (h : LatW w H p Y l) (hb : Below w.heap.size w w') : LatW w' H p Y l where
 hp := h.hp
 pl := Nat.lt_of_lt_of_le h.pl hb.size
 fz := fun i hi => zy hb h.pl (h.fz i hi)
 c0 := zc hb h.pl h.c0
 c1 := zc hb h.pl h.c1
 c2 := zc hb h.pl h.c2
 c3 := zc hb h.pl h.c3
 c4 := zc hb h.pl h.c4
 c5 := zc hb h.pl h.c5
 c6 := zc hb h.pl h.c6
 sch := h.sch.kept (fun g hg => hb.block g (h.rl g hg).1)
 sin := h.sin
 row := h.row.kept (fun g hg => hb.block g (h.rl g hg).1)
 ds := zx h.ds hb
 cs := zx h.cs hb
 dict := fun i hi => (h.dict i hi).below hb
 cub := fun i hi => (h.cub i hi).below hb
 rl := fun g hg => ⟨Nat.lt_of_lt_of_le (h.rl g hg).1 hb.size, (h.rl g hg).2⟩
 rd := h.rd
 dsA := h.dsA
 cuR := h.cuR
 csA := h.csA
 dA := h.dA
 dd := h.dd
theorem LatW.views {w : World} {H p : Nat} {Y : Lay} {l : LatX} (h : LatW w H p Y l) : zj 1 zC w w.heap.size [Y.V] (zh l.s) :=
 h.row.rd (fun k hk n hn => by
  rcases List.mem_cons.1 hk with rfl | hk
  ·obtain ⟨d, hd, rfl⟩ := List.mem_map.1 hn
   have hr := h.sch.rd h.sin
   obtain ⟨A1, c1, A2, c2, A3, c3, e, h1, -, -⟩ := hr
   obtain ⟨j, hj, rfl⟩ := List.mem_iff_getElem.1 hd
   obtain ⟨b, off, -, -, es, -, -, hq⟩ := h1.at_ hj
   obtain ⟨-, -, hlv⟩ := hq
   obtain ⟨AL, cL, -, g1, g2⟩ := hlv.open_
   exact ⟨by omega, by omega⟩
  ·exact h.sin.2.2 k hk n hn)
theorem LatW.dictSet {w w' : World} {H p : Nat} {Y : Lay} {l : LatX} (h : LatW w H p Y l) {i : Nat} (hi : i < l.ds.length) {D' : Nat -> Prop} {ns : List zH}
  (hc : Chg (Y.dD i) w w') (hg : Grow w (Y.dD i) D') (hw : zbj w' D' (Y.dp i) (dimL l.s i) ns) :
  LatW w' H p { Y with dD := fun j => if j = i then D' else Y.dD j } { l with ds := l.ds.set i ns } := by
 have hlen : (l.ds.set i ns).length = l.ds.length := List.length_set
 have hnp : ∀ g, Y.dD i g -> g ≠ p := fun g hgd => (h.dA i hi g hgd).2
 have kp : Kept (fun g => g = p) w w' := hc.kept (fun g hg => by subst hg; exact ⟨h.pl, fun hd => hnp _ hd rfl⟩)
 have kR : Kept Y.R w w' := hc.kept (fun g hg => ⟨(h.rl g hg).1, (h.rl g hg).2.2.2 i hi⟩)
 have kC : Kept (fun g => Y.CS.ownBlock = some g) w w' := hc.kept (fun g hg => ⟨(h.cs.lt g hg).2, (h.csA g hg).2 i hi⟩)
 have hnew : ∀ g, D' g -> g < w.heap.size -> Y.dD i g := fun g hd hlt => (hg.2 g hd).elim id (fun h => absurd hlt (by omega))
 refine ⟨h.hp, Nat.lt_of_lt_of_le h.pl hc.size, fun j hj => kp.frozen rfl (h.fz j hj), kp.cell rfl h.c0, kp.cell rfl h.c1, kp.cell rfl h.c2, kp.cell rfl h.c3, kp.cell rfl h.c4, kp.cell rfl h.c5, kp.cell rfl h.c6, h.sch.kept kR, h.sin, h.row.kept kR, ?_, zo h.cs kC, ?_, fun j hj => (h.cub j hj).kept (fun g hg => kR g (h.cuR j hj g hg)) hc.size, ?_, h.rd, ?_, h.cuR, ?_, ?_, ?_⟩
 ·rw [hlen]; exact zo h.ds (hc.kept (E := fun g => Y.DS.ownBlock = some g) (fun g hg => ⟨(h.ds.lt g hg).2, (h.dsA g hg).2.2 i hi⟩))
 ·intro j hj
  rw [hlen] at hj
  show zbj w' (if j = i then D' else Y.dD j) (Y.dp j) (dimL l.s j) ((l.ds.set i ns).getD j [])
  by_cases e : j = i
  ·subst e
   rw [if_pos rfl, List.getD_eq_getElem?_getD, List.getElem?_set_self hi]
   exact hw
  ·rw [if_neg e, List.getD_eq_getElem?_getD, List.getElem?_set_ne (fun h => e h.symm), <- List.getD_eq_getElem?_getD]
   exact (h.dict j hj).kept (hc.kept (fun g hg => ⟨(h.dict j hj).2.1 g hg, h.dd j i hj hi e g hg⟩)) hc.size
 ·intro g hg
  obtain ⟨a1, a2, a3, a4⟩ := h.rl g hg
  refine ⟨Nat.lt_of_lt_of_le a1 hc.size, a2, a3, fun j hj => ?_⟩
  rw [hlen] at hj
  show ¬ (if j = i then D' else Y.dD j) g
  by_cases e : j = i
  ·subst e; rw [if_pos rfl]; exact fun hd => a4 _ hi (hnew g hd a1)
  ·rw [if_neg e]; exact a4 j hj
 ·intro g hg
  obtain ⟨a1, a3, a2⟩ := h.dsA g hg
  refine ⟨a1, a3, fun j hj => ?_⟩
  rw [hlen] at hj
  show ¬ (if j = i then D' else Y.dD j) g
  by_cases e : j = i
  ·subst e; rw [if_pos rfl]; exact fun hd => a2 _ hi (hnew g hd (h.ds.lt g hg).2)
  ·rw [if_neg e]; exact a2 j hj
 ·intro g hg
  obtain ⟨a1, a2⟩ := h.csA g hg
  refine ⟨a1, fun j hj => ?_⟩
  rw [hlen] at hj
  show ¬ (if j = i then D' else Y.dD j) g
  by_cases e : j = i
  ·subst e; rw [if_pos rfl]; exact fun hd => a2 _ hi (hnew g hd (h.cs.lt g hg).2)
  ·rw [if_neg e]; exact a2 j hj
 ·intro j hj g hgd
  rw [hlen] at hj
  replace hgd : (if j = i then D' else Y.dD j) g := hgd
  by_cases e : j = i
  ·subst e
   rw [if_pos rfl] at hgd
   rcases hg.2 g hgd with h1 | h1
   ·exact h.dA _ hi g h1
   ·have := h.pl; have := h.hp
    exact ⟨by omega, by omega⟩
  ·rw [if_neg e] at hgd; exact h.dA j hj g hgd
 ·intro j k hj hk hjk g hgd
  rw [hlen] at hj hk
  replace hgd : (if j = i then D' else Y.dD j) g := hgd
  show ¬ (if k = i then D' else Y.dD k) g
  by_cases e : j = i
  ·subst e
   rw [if_pos rfl] at hgd
   rw [if_neg (fun e => hjk e.symm)]
   intro hk2
   have hlt := (h.dict k hk).2.1 g hk2
   exact h.dd _ k hi hk hjk g (hnew g hgd hlt) hk2
  ·rw [if_neg e] at hgd
   by_cases e2 : k = i
   ·subst e2
    rw [if_pos rfl]
    exact fun hd => h.dd j _ hj hi hjk g hgd (hnew g hd ((h.dict j hj).2.1 g hgd))
   ·rw [if_neg e2]; exact h.dd j k hj hk hjk g hgd
theorem zgD {w w1 w4 : World} {o : Obj} {row : Option Nat} {p i : Nat} {v' : Value} (hb : Below w.heap.size w w1) (hg : (w1.alloc o).grownBy w4 row) {g : Nat} (hlt : g < w.heap.size) (hr : row ≠ some g) (hp : g ≠ p) :
  (w4.setCell ⟨p, i, none⟩ v').heap[g]? = w.heap[g]? := by
 have hs := hb.size
 refine (Below.heap_setCell _ _ _ g (by simp; omega)).trans ?_
 refine (hg.block g (by rw [World.size_alloc]; omega) (fun e => hr e.symm)).trans ?_
 refine (((Below.refl w1.heap.size w1).alloc (Nat.le_refl _) o).block g (by omega)).trans (hb.block g hlt)
theorem zfE {w1 w4 : World} {o : Obj} {row : Option Nat} {p i : Nat} {v' : Value} (hg : (w1.alloc o).grownBy w4 row) {g : Nat} (hlt : g < w1.heap.size) (hr : row ≠ some g) (hp : g ≠ p) :
  (w4.setCell ⟨p, i, none⟩ v').heap[g]? = w1.heap[g]? := by
 refine (Below.heap_setCell _ _ _ g (by simp; omega)).trans ?_
 refine (hg.block g (by rw [World.size_alloc]; omega) (fun e => hr e.symm)).trans ?_
 exact ((Below.refl w1.heap.size w1).alloc (Nat.le_refl _) o).block g hlt
theorem zgs {α : Type} (l : List (List α)) (x : List α) (j : Nat) : (l ++ [x]).getD j [] = if j = l.length then x else l.getD j [] := by
 rw [List.getD_eq_getElem?_getD, List.getD_eq_getElem?_getD]
 by_cases h : j < l.length
 ·rw [List.getElem?_append_left h, if_neg (by omega)]
 ·rw [List.getElem?_append_right (by omega), List.getElem?_eq_none (l := l) (by omega)]
  by_cases e : j = l.length
  ·subst e; rw [if_pos rfl, Nat.sub_self]; rfl
  ·rw [if_neg e, List.getElem?_eq_none (by simp; omega)]
theorem LatW.dictAdd {w w1 w4 : World} {H p : Nat} {Y : Lay} {s : ze} {ds : List (List zH)} {n : Int} (h : LatW w H p Y ⟨s, ds, [], n⟩) {d H4 : Nat} {D : Nat -> Prop} {v' : Value} {o : Obj} {ns : List zH}
  (hb : Below w.heap.size w w1) (hd : zbj w1 D d (dimL s ds.length) ns) (hD : ∀ k, D k -> w.heap.size <= k)
  (ho : w4.ownsRow H 88 1 v' (ds.length + 1) (ptrs Y.dp ds.length ++ [.pointer (some ⟨d, 0, none⟩)])) (hg : (w1.alloc o).grownBy w4 Y.DS.ownBlock) (hs4 : w1.heap.size <= w4.heap.size)
  (hat : v'.ownBlock = Y.DS.ownBlock \/ v'.ownBlock = some H4) (hH4 : w1.heap.size <= H4) (hc4 : ∃ u, w4.cell? ⟨p, 4, none⟩ = some u) :
  LatW (w4.setCell ⟨p, 4, none⟩ v') H p { Y with DS := v', dp := fun j => if j = ds.length then d else Y.dp j, dD := fun j => if j = ds.length then D else Y.dD j } ⟨s, ds ++ [ns], [], n⟩ := by
 have hs := hb.size
 have hpl := h.pl
 have hds := fun g hg => h.ds.lt g hg
 have kp : ∀ g, g < w.heap.size -> Y.DS.ownBlock ≠ some g -> g ≠ p -> (w4.setCell ⟨p, 4, none⟩ v').heap[g]? = w.heap[g]? := fun g h1 h2 h3 => zgD hb hg h1 h2 h3
 have k1 : ∀ g, g < w1.heap.size -> Y.DS.ownBlock ≠ some g -> g ≠ p -> (w4.setCell ⟨p, 4, none⟩ v').heap[g]? = w1.heap[g]? := fun g h1 h2 h3 => zfE hg h1 h2 h3
 have hpd : Y.DS.ownBlock ≠ some p := fun e => (h.dsA p e).1 rfl
 have p4 : w4.heap[p]? = w.heap[p]? := (hg.block p (by rw [World.size_alloc]; omega) (fun e => hpd e.symm)).trans ((((Below.refl w1.heap.size w1).alloc (Nat.le_refl _) o).block p (by omega)).trans (hb.block p hpl))
 have hcell : ∀ i v, i ≠ 4 -> w.cell? ⟨p, i, none⟩ = some v -> (w4.setCell ⟨p, 4, none⟩ v').cell? ⟨p, i, none⟩ = some v := fun i v hi hc => zb (by omega) ((World.cell?_of_block (a := ⟨p, i, none⟩) p4).trans hc)
 have hD1 : ∀ k, D k -> k < w1.heap.size := hd.2.1
 have hvn : ∀ g, v'.ownBlock = some g -> Y.DS.ownBlock = some g \/ w1.heap.size <= g := fun g hg' => by
  rcases hat with e | e
  ·exact .inl (by rw [<- e]; exact hg')
  ·rw [e] at hg'; injection hg' with hg'; exact .inr (by omega)
 have hlen : (ds ++ [ns]).length = ds.length + 1 := by simp
 have hold : ∀ j, j < ds.length -> (fun j => if j = ds.length then D else Y.dD j) j = Y.dD j := fun j hj => if_neg (by omega)
 have hnewD : (fun j => if j = ds.length then D else Y.dD j) ds.length = D := if_pos rfl
 refine ⟨h.hp, by simp [World.setCell]; omega, fun i hi => frozen_far ((World.frozen?_of_block (a := ⟨p, i, none⟩) p4).trans (h.fz i hi)), hcell 0 _ (by omega) h.c0, hcell 1 _ (by omega) h.c1, hcell 2 _ (by omega) h.c2, hcell 3 _ (by omega) h.c3,
  zt (hc4.choose_spec), hcell 5 _ (by omega) h.c5, hcell 6 _ (by omega) h.c6, h.sch.kept (fun g hg => kp g (h.rl g hg).1 (h.rd g hg) (h.rl g hg).2.1), h.sin, h.row.kept (fun g hg => kp g (h.rl g hg).1 (h.rd g hg) (h.rl g hg).2.1), ?_, ?_, ?_, fun i hi => absurd hi (by simp), ?_, ?_, ?_, fun i hi => absurd hi (by simp), ?_, ?_, ?_⟩
 ·show (w4.setCell ⟨p, 4, none⟩ v').ownsRow H 88 1 v' (ds ++ [ns]).length (ptrs (fun j => if j = ds.length then d else Y.dp j) (ds ++ [ns]).length)
  rw [hlen, zdy, if_pos rfl, zcV (g := Y.dp) (fun i hi => if_neg (by omega))]
  refine zo ho (fun g hg' => Below.heap_setCell _ _ _ g ?_)
  rcases hvn g hg' with e | e
  ·have := (h.dsA g e).1; simp; omega
  ·simp; omega
 ·exact zo h.cs (fun g hg' => kp g (h.cs.lt g hg').2 (fun e => (h.dsA g e).2.1 hg') (h.csA g hg').1)
 ·intro i hi
  rw [hlen] at hi
  show zbj _ (if i = ds.length then D else Y.dD i) (if i = ds.length then d else Y.dp i) (dimL s i) ((ds ++ [ns]).getD i [])
  rw [zgs]
  by_cases e : i = ds.length
  ·subst e
   rw [if_pos rfl, if_pos rfl, if_pos rfl]
   exact hd.kept (fun g hg' => k1 g (hD1 g hg') (fun e => by have := (hds g e).2; have := hD g hg'; omega) (fun e => by have := hD g hg'; omega)) (by simp [World.setCell]; omega)
  ·rw [if_neg e, if_neg e, if_neg e]
   have hi' : i < ds.length := by omega
   exact (h.dict i hi').kept (fun g hg' => kp g ((h.dict i hi').2.1 g hg') (fun e => (h.dsA g e).2.2 i hi' hg') (h.dA i hi' g hg').2) (by simp [World.setCell]; omega)
 ·intro g hgR
  obtain ⟨a1, a2, a3, a4⟩ := h.rl g hgR
  refine ⟨by simp [World.setCell]; omega, a2, a3, fun j hj => ?_⟩
  rw [hlen] at hj
  show ¬ (if j = ds.length then D else Y.dD j) g
  by_cases e : j = ds.length
  ·rw [if_pos e]; exact fun hdg => by have := hD g hdg; omega
  ·rw [if_neg e]; exact a4 j (show j < ds.length by omega)
 ·intro g hgR e
  rcases hvn g e with e | e
  ·exact h.rd g hgR e
  ·have := (h.rl g hgR).1; omega
 ·intro g hgv
  refine ⟨?_, ?_, fun j hj => ?_⟩
  ·rcases hvn g hgv with e | e
   ·exact (h.dsA g e).1
   ·omega
  ·intro e2
   have := (h.cs.lt g e2).2
   rcases hvn g hgv with e | e
   ·exact (h.dsA g e).2.1 e2
   ·omega
  ·rw [hlen] at hj
   show ¬ (if j = ds.length then D else Y.dD j) g
   by_cases e : j = ds.length
   ·rw [if_pos e]
    intro hdg
    have := hD g hdg; have := hD1 g hdg
    rcases hvn g hgv with e | e
    ·have := (hds g e).2; omega
    ·omega
   ·rw [if_neg e]
    have hj' : j < ds.length := by omega
    intro hdg
    have := (h.dict j hj').2.1 g hdg
    rcases hvn g hgv with e | e
    ·exact (h.dsA g e).2.2 j hj' hdg
    ·omega
 ·intro g hgc
  obtain ⟨a1, a2⟩ := h.csA g hgc
  refine ⟨a1, fun j hj => ?_⟩
  rw [hlen] at hj
  show ¬ (if j = ds.length then D else Y.dD j) g
  by_cases e : j = ds.length
  ·rw [if_pos e]; exact fun hdg => by have := hD g hdg; have := (h.cs.lt g hgc).2; omega
  ·rw [if_neg e]; exact a2 j (show j < ds.length by omega)
 ·intro j hj g hgd
  rw [hlen] at hj
  replace hgd : (if j = ds.length then D else Y.dD j) g := hgd
  by_cases e : j = ds.length
  ·rw [if_pos e] at hgd
   have := hD g hgd; have := h.hp
   exact ⟨by omega, by omega⟩
  ·rw [if_neg e] at hgd
   exact h.dA j (show j < ds.length by omega) g hgd
 ·intro i j hi hj hij g hgd
  rw [hlen] at hi hj
  replace hgd : (if i = ds.length then D else Y.dD i) g := hgd
  show ¬ (if j = ds.length then D else Y.dD j) g
  by_cases e : i = ds.length
  ·rw [if_pos e] at hgd
   rw [if_neg (by omega)]
   exact fun hdg => by have := (h.dict j (show j < ds.length by omega)).2.1 g hdg; have := hD g hgd; omega
  ·rw [if_neg e] at hgd
   by_cases e2 : j = ds.length
   ·rw [if_pos e2]
    exact fun hdg => by have := (h.dict i (show i < ds.length by omega)).2.1 g hgd; have := hD g hdg; omega
   ·rw [if_neg e2]
    exact h.dd i j (show i < ds.length by omega) (show j < ds.length by omega) hij g hgd
theorem LatW.cubAdd {w w1 w4 : World} {H p : Nat} {Y : Lay} {s : ze} {ds : List (List zH)} {cs : List (List KC)} {n : Int} (h : LatW w H p Y ⟨s, ds, cs, n⟩) {q m H4 : Nat} {D : Nat -> Prop} {v' : Value} {o : Obj} {L : List KC}
  (hb : Below w.heap.size w w1) (hd : CubW w1 D q m s.1.length s.2.1.length L) (hD : ∀ k, D k -> w.heap.size <= k)
  (ho : w4.ownsRow H 79 1 v' (cs.length + 1) (ptrs Y.cq cs.length ++ [.pointer (some ⟨q, 0, none⟩)])) (hg : (w1.alloc o).grownBy w4 Y.CS.ownBlock) (hs4 : w1.heap.size <= w4.heap.size)
  (hat : v'.ownBlock = Y.CS.ownBlock \/ v'.ownBlock = some H4) (hH4 : w1.heap.size <= H4) (hc5 : ∃ u, w4.cell? ⟨p, 5, none⟩ = some u) :
  LatW (w4.setCell ⟨p, 5, none⟩ v') H p { Y with R := fun g => Y.R g \/ D g, CS := v', cq := fun j => if j = cs.length then q else Y.cq j, cm := fun j => if j = cs.length then m else Y.cm j, cD := fun j => if j = cs.length then D else Y.cD j } ⟨s, ds, cs ++ [L], n⟩ := by
 have hs := hb.size
 have hpl := h.pl
 have hcs := fun g hg => h.cs.lt g hg
 have kp : ∀ g, g < w.heap.size -> Y.CS.ownBlock ≠ some g -> g ≠ p -> (w4.setCell ⟨p, 5, none⟩ v').heap[g]? = w.heap[g]? := fun g h1 h2 h3 => zgD hb hg h1 h2 h3
 have k1 : ∀ g, g < w1.heap.size -> Y.CS.ownBlock ≠ some g -> g ≠ p -> (w4.setCell ⟨p, 5, none⟩ v').heap[g]? = w1.heap[g]? := fun g h1 h2 h3 => zfE hg h1 h2 h3
 have hpd : Y.CS.ownBlock ≠ some p := fun e => (h.csA p e).1 rfl
 have p4 : w4.heap[p]? = w.heap[p]? := (hg.block p (by rw [World.size_alloc]; omega) (fun e => hpd e.symm)).trans ((((Below.refl w1.heap.size w1).alloc (Nat.le_refl _) o).block p (by omega)).trans (hb.block p hpl))
 have hcell : ∀ i v, i ≠ 5 -> w.cell? ⟨p, i, none⟩ = some v -> (w4.setCell ⟨p, 5, none⟩ v').cell? ⟨p, i, none⟩ = some v := fun i v hi hc => zb (by omega) ((World.cell?_of_block (a := ⟨p, i, none⟩) p4).trans hc)
 have hD1 : ∀ k, D k -> k < w1.heap.size := hd.2.2.2.1
 have hvn : ∀ g, v'.ownBlock = some g -> Y.CS.ownBlock = some g \/ w1.heap.size <= g := fun g hg' => by
  rcases hat with e | e
  ·exact .inl (by rw [<- e]; exact hg')
  ·rw [e] at hg'; injection hg' with hg'; exact .inr (by omega)
 have hlen : (cs ++ [L]).length = cs.length + 1 := by simp
 have kR : Kept Y.R w (w4.setCell ⟨p, 5, none⟩ v') := fun g hg => kp g (h.rl g hg).1 (h.rl g hg).2.2.1 (h.rl g hg).2.1
 have hdlt : ∀ i, i < ds.length -> ∀ g, Y.dD i g -> g < w.heap.size := fun i hi g hg' => (h.dict i hi).2.1 g hg'
 refine ⟨h.hp, by simp [World.setCell]; omega, fun i hi => frozen_far ((World.frozen?_of_block (a := ⟨p, i, none⟩) p4).trans (h.fz i hi)), hcell 0 _ (by omega) h.c0, hcell 1 _ (by omega) h.c1, hcell 2 _ (by omega) h.c2, hcell 3 _ (by omega) h.c3,
  hcell 4 _ (by omega) h.c4, zt (hc5.choose_spec), hcell 6 _ (by omega) h.c6, (h.sch.kept kR).mono (fun g hg => .inl hg), h.sin, (h.row.kept kR).mono (fun g hg => .inl hg), ?_, ?_, ?_, ?_, ?_, ?_, ?_, ?_, ?_, h.dA, h.dd⟩
 ·exact zo h.ds (fun g hg' => kp g (h.ds.lt g hg').2 (h.dsA g hg').2.1 (h.dsA g hg').1)
 ·show (w4.setCell ⟨p, 5, none⟩ v').ownsRow H 79 1 v' (cs ++ [L]).length (ptrs (fun j => if j = cs.length then q else Y.cq j) (cs ++ [L]).length)
  rw [hlen, zdy, if_pos rfl, zcV (g := Y.cq) (fun i hi => if_neg (by omega))]
  refine zo ho (fun g hg' => Below.heap_setCell _ _ _ g ?_)
  rcases hvn g hg' with e | e
  ·have := (h.csA g e).1; simp; omega
  ·simp; omega
 ·intro i hi
  exact (h.dict i hi).kept (fun g hg' => kp g (hdlt i hi g hg') (fun e => (h.csA g e).2 i hi hg') (h.dA i hi g hg').2) (by simp [World.setCell]; omega)
 ·intro i hi
  rw [hlen] at hi
  show CubW _ (if i = cs.length then D else Y.cD i) (if i = cs.length then q else Y.cq i) (if i = cs.length then m else Y.cm i) s.1.length s.2.1.length ((cs ++ [L]).getD i [])
  rw [zgs]
  by_cases e : i = cs.length
  ·subst e
   rw [if_pos rfl, if_pos rfl, if_pos rfl, if_pos rfl]
   exact hd.kept (fun g hg' => k1 g (hD1 g hg') (fun e => by have := (hcs g e).2; have := hD g hg'; omega) (fun e => by have := hD g hg'; omega)) (by simp [World.setCell]; omega)
  ·rw [if_neg e, if_neg e, if_neg e, if_neg e]
   have hi' : i < cs.length := by omega
   exact (h.cub i hi').kept (fun g hg' => kR g (h.cuR i hi' g hg')) (by simp [World.setCell]; omega)
 ·intro g hgR
  rcases hgR with hgR | hgR
  ·obtain ⟨a1, a2, a3, a4⟩ := h.rl g hgR
   refine ⟨by simp [World.setCell]; omega, a2, fun e => ?_, a4⟩
   rcases hvn g e with e | e
   ·exact a3 e
   ·omega
  ·have h1 := hD g hgR; have h2 := hD1 g hgR
   refine ⟨by simp [World.setCell]; omega, by omega, fun e => ?_, fun j hj hdg => by have := hdlt j hj g hdg; omega⟩
   rcases hvn g e with e | e
   ·have := (hcs g e).2; omega
   ·omega
 ·intro g hgR e
  rcases hgR with hgR | hgR
  ·exact h.rd g hgR e
  ·have := hD g hgR; have := (h.ds.lt g e).2; omega
 ·intro g hgv
  obtain ⟨a1, a2, a3⟩ := h.dsA g hgv
  refine ⟨a1, fun e => ?_, a3⟩
  have := (h.ds.lt g hgv).2
  rcases hvn g e with e | e
  ·exact a2 e
  ·omega
 ·intro i hi g hgd
  rw [hlen] at hi
  replace hgd : (if i = cs.length then D else Y.cD i) g := hgd
  by_cases e : i = cs.length
  ·rw [if_pos e] at hgd; exact .inr hgd
  ·rw [if_neg e] at hgd; exact .inl (h.cuR i (show i < cs.length by omega) g hgd)
 ·intro g hgv
  rcases hvn g hgv with e | e
  ·exact h.csA g e
  ·exact ⟨by omega, fun j hj hdg => by have := hdlt j hj g hdg; omega⟩
theorem zml (l : List Int) : ∀ u ∈ zk l, u.oneCell' = true := by
 intro u hu
 obtain ⟨x, _, rfl⟩ := List.mem_map.1 hu
 rfl
theorem zkt {w : World} {B : Nat} {v : Value} {l : List Int} (h : zC w B [v] l) : Sl w B v (zk l) := zj.sl (Value.int .i64) (fun es x hx => hx.1) h
set_option maxRecDepth 100000 in
set_option maxHeartbeats 400000 in
theorem zeg (v : Value) (l : List Int) (w : World) (hv : zC w w.heap.size [v] l) (hl : l.length <= 1073741824) :
  Calls Tryz.prog 34 #[v] w (zfL l w) := by
 obtain ⟨i0, hi, hz0, hz1, hz2⟩ := info_parts zaE
 have hv := zkt hv
 have hv' := hv
 obtain ⟨A, c, rfl, hc1, hc2, hA⟩ := hv
 simp only [zaf] at hc1 hv' ⊢
 have HV := hid hv'; have HA := hid hA
 clear hv' hA
 go_enter Tryz.func34, Tryz.ntmps34
 cases A with
 | none =>
   have h0 : l = [] := by
    cases l with
    | nil => rfl
    | cons x l => obtain ⟨b, off, h, _⟩ := HA.out (by simp [zk]); cases h
   have H0 := hid h0; clear h0
   have hq : ∀ W : World, (binOp .eql 27 (.slice none l.length c) (.slice none 0 0)).run Tryz.prog W = .ok (.bool true) W := fun _ => rfl
   go_wp2
   go_ret
   exact ⟨_, rfl, by rw [H0.out]; exact World.ownsRow_nil _ _ _ _, Below.refl _ _⟩
 | some x =>
   have hq : ∀ W : World, (binOp .eql 27 (.slice (some x) l.length c) (.slice none 0 0)).run Tryz.prog W = .ok (.bool false) W := fun _ => rfl
   go_wp2_with (at_builtin; refine zr ?_)
   refine zar ?_
   have hown : (w.alloc (.cells #[] 3)).ownsRow w.heap.size 3 1 (.slice (some ⟨w.heap.size, 0, none⟩) 0 0) 0 [] := by
    refine ⟨rfl, .inr ⟨w.heap.size, 0, #[], rfl, Nat.le_refl _, ?_, Nat.le_refl _, by simp [maxLen], rfl, rfl⟩⟩
    exact heap_alloc_new w _
   refine zav (.tmp 5) (.tmp 6) 27 27 rfl rfl w.heap.size 3 i0 (.int .i64 0) 1 8 Tryz.underlying27 hi hz0 hz1 hz2 rfl (by omega) _ _ _ rfl hown (.slice (some x) l.length c) l.length (zk l) rfl ?_ (by unfold maxLen; omega) (by omega) (by simp) ?_
   ·have hs : Sl (w.alloc (.cells #[] 3)) w.heap.size (.slice (some x) l.length c) (zk l) := by
     obtain ⟨A, c', g1, g2, g3, g4⟩ := HV.out
     refine ⟨A, c', g1, g2, g3, fun h0 => ?_⟩
     obtain ⟨b, off, g5, g6, g7⟩ := g4 h0
     exact ⟨b, off, g5, g6, fun j u hj => zv g6 (g7 j u hj)⟩
    have := zfG _ Tryz.underlying27 hs (zml l)
    rwa [zaf] at this
   ·intro v2 w2 hown2 hg2 hb2
    go_wp2
    go_ret
    refine ⟨v2, rfl, by simpa using hown2, ?_⟩
    exact (bl1 w _).trans hb2
end Go.Proofs.YtgoapnkdcfcjgaaGreat
