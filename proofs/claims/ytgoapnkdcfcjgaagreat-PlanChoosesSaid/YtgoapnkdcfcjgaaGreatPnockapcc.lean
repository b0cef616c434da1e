/- 3 texts of this claim, in build order. -/
import Derived.Test.YtgoapnkdcfcjgaaGreatPcbimcfdc
import Derived.Test.YtgoapnkdcfcjgaaGreatPplomcpim
import Derived.Test.YtgoapnkdcfcjgaaGreatPbdfgmcpj
import Derived.Test.YtgoapnkdcfcjgaaGreatPgdmeddkk
import Derived.Laws.IdiomCopy
set_option linter.unusedVariables false
set_option linter.unusedSimpArgs false
namespace Go.Proofs.YtgoapnkdcfcjgaaGreat
open Go.ChangeShapes Go.WideShapes Go.ChangeAt Go.RowKit
def zfC (w : World) (E : Nat -> Prop) (A : Option Addr) (c : Nat) (ps : List (List ByteArray)) : Prop :=
 ps.length <= c /\ c <= maxLen /\ ∀ j (hj : j < ps.length), ∃ b off Aj cj, A = some ⟨b, off, none⟩ /\ E b /\ w.cell? ⟨b, off + j, none⟩ = some (.slice Aj ps[j].length cj) /\ SlE w E (.slice Aj ps[j].length cj) (zL ps[j]) /\ zi6 ps[j]
theorem zfC.kept {w w' : World} {E : Nat -> Prop} {A : Option Addr} {c : Nat} {ps : List (List ByteArray)} (h : zfC w E A c ps) (k : Kept E w w') : zfC w' E A c ps :=
 ⟨h.1, h.2.1, fun j hj => by
  obtain ⟨b, off, Aj, cj, e, hb, hc, hs, ho⟩ := h.2.2 j hj
  exact ⟨b, off, Aj, cj, e, hb, k.cell hb hc, hs.kept k, ho⟩⟩
def RowZ (w : World) (K : Nat) (Z : Nat -> Prop) (v : Value) (M : List (List Int)) : Prop :=
 ∃ vs : List Value, ∃ hl : vs.length = M.length, w.ownsRow K 27 1 v M.length vs /\ (∀ g, v.ownBlock = some g -> Z g) /\
  ∀ j (h : j < M.length), w.ownsRow K 3 1 (vs[j]'(by omega)) M[j].length (zk M[j]) /\ ∀ g, (vs[j]'(by omega)).ownBlock = some g -> Z g
theorem RowZ.nil_ (w : World) (K : Nat) (Z : Nat -> Prop) : RowZ w K Z (.slice none 0 0) [] := ⟨[], rfl, World.ownsRow_nil _ _ _ _, fun g hg => by simp [Value.ownBlock] at hg, fun j hj => by simp at hj⟩
theorem RowZ.toI {w : World} {K : Nat} {Z : Nat -> Prop} {v : Value} {M : List (List Int)} (h : RowZ w K Z v M) : RowI w K v M := by
 obtain ⟨vs, h1, h2, -, h3⟩ := h
 exact ⟨vs, h1, h2, fun j hj => (h3 j hj).1⟩
theorem RowZ.kept {w w' : World} {K : Nat} {Z Z' : Nat -> Prop} {v : Value} {M : List (List Int)} (h : RowZ w K Z v M) (k : ∀ g, Z g -> K <= g -> g < w.heap.size -> w'.heap[g]? = w.heap[g]?) (hz : ∀ g, Z g -> K <= g -> g < w.heap.size -> Z' g) : RowZ w' K Z' v M := by
 obtain ⟨vs, h1, h2, h4, h3⟩ := h
 exact ⟨vs, h1, zo h2 (fun g hg => k g (h4 g hg) (h2.lt g hg).1 (h2.lt g hg).2), fun g hg => hz g (h4 g hg) (h2.lt g hg).1 (h2.lt g hg).2,
  fun j hj => ⟨zo (h3 j hj).1 (fun g hg => k g ((h3 j hj).2 g hg) ((h3 j hj).1.lt g hg).1 ((h3 j hj).1.lt g hg).2), fun g hg => hz g ((h3 j hj).2 g hg) ((h3 j hj).1.lt g hg).1 ((h3 j hj).1.lt g hg).2⟩⟩
theorem RowZ.on {w w' : World} {K : Nat} {Z : Nat -> Prop} {v : Value} {M : List (List Int)} (h : RowZ w K Z v M) (hb : Below w.heap.size w w') : RowZ w' K Z v M := h.kept (fun g _ _ hg => hb.block g hg) (fun g hg _ _ => hg)
theorem RowZ.less {w : World} {K K' : Nat} {Z : Nat -> Prop} {v : Value} {M : List (List Int)} (h : RowZ w K Z v M) (hk : K' <= K) : RowZ w K' Z v M := by
 obtain ⟨vs, h1, h2, h4, h3⟩ := h
 exact ⟨vs, h1, zw h2 hk, h4, fun j hj => ⟨zw (h3 j hj).1 hk, (h3 j hj).2⟩⟩
theorem RowZ.app {wa w4 : World} {K n : Nat} {Z : Nat -> Prop} {out v' u : Value} {M : List (List Int)} {x : List Int} {vs : List Value} (hn : n = M.length) (h1 : vs.length = M.length) (h2 : wa.ownsRow K 27 1 out n vs)
  (h3 : ∀ j (h : j < M.length), wa.ownsRow K 3 1 (vs[j]'(by omega)) M[j].length (zk M[j]) /\ ∀ g, (vs[j]'(by omega)).ownBlock = some g -> Z g)
  (hi : wa.ownsRow K 3 1 u x.length (zk x)) (hu : ∀ g, u.ownBlock = some g -> Z g)
  (ho : w4.ownsRow K 27 1 v' (n + 1) (vs ++ [u])) (hz : ∀ g, v'.ownBlock = some g -> Z g) (hg : wa.grownBy w4 out.ownBlock) : RowZ w4 K Z v' (M ++ [x]) := by
 subst hn
 have kk : zac 3 K wa w4 := zac.of_grown hg h2 (by decide)
 refine ⟨vs ++ [u], by simp [h1], by rw [List.length_append]; exact ho, hz, fun j hj => ?_⟩
 rcases Nat.lt_or_ge j M.length with hlt | hge
 ·have e1 : (vs ++ [u])[j]'(by simp; omega) = vs[j]'(by omega) := List.getElem_append_left (by omega)
  have e2 : (M ++ [x])[j] = M[j] := List.getElem_append_left hlt
  rw [e1, e2]
  exact ⟨zad (h3 j hlt).1 kk, (h3 j hlt).2⟩
 ·obtain rfl : j = M.length := by rw [List.length_append] at hj; simp at hj; omega
  have e1 : (vs ++ [u])[M.length]'(by simp; omega) = u := by rw [List.getElem_append_right (by omega)]; simp [h1]
  have e2 : (M ++ [x])[M.length] = x := by rw [List.getElem_append_right (by omega)]; simp
  rw [e1, e2]
  exact ⟨zad hi kk, hu⟩
theorem zcj {w : World} {H p : Nat} {Y : Lay} {l : LatX} (h : LatW w H p Y l) {g : Nat} (hg : LatA p Y l.ds.length g) : H <= g /\ g < w.heap.size := by
 rcases hg with rfl | hg | ⟨i, hi, hg⟩
 ·exact ⟨h.hp, h.pl⟩
 ·exact h.cs.lt g hg
 ·exact ⟨(h.dA i hi g hg).1, (h.dict i hi).2.1 g hg⟩
def LatO (p : Nat) (Y : Lay) (n g : Nat) : Prop := Y.R g \/ Y.DS.ownBlock = some g \/ LatA p Y n g
theorem zct {w : World} {H p : Nat} {Y : Lay} {l : LatX} (h : LatW w H p Y l) {g : Nat} (hg : LatO p Y l.ds.length g) : g < w.heap.size := by
 rcases hg with hg | hg | hg
 ·exact (h.rl g hg).1
 ·exact (h.ds.lt g hg).2
 ·exact (zcj h hg).2
theorem LatW.chg {w w' : World} {H p : Nat} {Y : Lay} {l : LatX} (h : LatW w H p Y l) {Z0 : Nat -> Prop} (hc : Chg Z0 w w') (hz : ∀ g, Z0 g -> ¬ LatO p Y l.ds.length g) : LatW w' H p Y l := by
 have kk : Kept (fun g => LatO p Y l.ds.length g) w w' := hc.kept (fun g hg => ⟨zct h hg, fun hd => hz g hd hg⟩)
 have kp : Kept (fun g => g = p) w w' := fun g hg => kk g (.inr (.inr (.inl hg)))
 have kR : Kept Y.R w w' := fun g hg => kk g (.inl hg)
 exact ⟨h.hp, Nat.lt_of_lt_of_le h.pl hc.size, fun j hj => kp.frozen rfl (h.fz j hj), kp.cell rfl h.c0, kp.cell rfl h.c1, kp.cell rfl h.c2, kp.cell rfl h.c3, kp.cell rfl h.c4, kp.cell rfl h.c5, kp.cell rfl h.c6, h.sch.kept kR, h.sin, h.row.kept kR,
  zo h.ds (fun g hg => kk g (.inr (.inl hg))), zo h.cs (fun g hg => kk g (.inr (.inr (.inr (.inl hg))))), fun i hi => (h.dict i hi).kept (fun g hg => kk g (.inr (.inr (.inr (.inr ⟨i, hi, hg⟩))))) hc.size,
  fun i hi => (h.cub i hi).kept (fun g hg => kR g (h.cuR i hi g hg)) hc.size, fun g hg => ⟨Nat.lt_of_lt_of_le (h.rl g hg).1 hc.size, (h.rl g hg).2⟩, h.rd, h.dsA, h.cuR, h.csA, h.dA, h.dd⟩
theorem Chg.of_grown {w w' : World} {row : Option Nat} {K : Nat} (hg : w.grownBy w' row) (hb : Below K w w') : Chg (fun g => row = some g) w w' :=
 ⟨hb.os, hb.tape, hb.output, hb.size, fun k hk hd => hg.block k hk (fun e => hd e.symm)⟩
def CodP (H p : Nat) (Y : Lay) (l : LatX) (r : List (List zH) × List (List Int) × Int) (w : World) (e : Ending) (w' : World) : Prop :=
 ∃ v dD', e = .returned (.tuple #[v, .int .i64 r.2.2]) /\ LatW w' H p { Y with dD := dD' } { l with ds := r.1 } /\ (r.2.2 = 0 -> RowZ w' w.heap.size (fun g => ¬ LatO p { Y with dD := dD' } l.ds.length g) v r.2.1) /\
  Chg (LatA p Y l.ds.length) w w' /\ ∀ i, i < l.ds.length -> ∀ g, dD' i g -> Y.dD i g \/ w.heap.size <= g
def zqd (H p : Nat) (Y : Lay) (l : LatX) (ps : List (List ByteArray)) (w W : World) (out i : Value) (wr : World) : Prop :=
 ∃ (k : Nat) (dD' : Nat -> Nat -> Prop), k <= ps.length /\ i = .int .i64 k /\ (zM l.s l.ds ps k).2.2 = 0 /\ LatW wr H p { Y with dD := dD' } { l with ds := (zM l.s l.ds ps k).1 } /\
  RowZ wr W.heap.size (fun g => ¬ LatO p { Y with dD := dD' } l.ds.length g) out (zM l.s l.ds ps k).2.1 /\ Chg (LatA p Y l.ds.length) W wr /\ ∀ i, i < l.ds.length -> ∀ g, dD' i g -> Y.dD i g \/ W.heap.size <= g
theorem zbp (s : ze) (ds : List (List zH)) (ps : List (List ByteArray)) (k : Nat) : (zM s ds ps k).1.length = ds.length /\ ((zM s ds ps k).2.2 = 0 -> (zM s ds ps k).2.1.length = k) := by
 induction k with
 | zero => exact ⟨rfl, fun _ => rfl⟩
 | succ k ih =>
   unfold zM
   simp only
   by_cases h : (zM s ds ps k).2.2 = 0
   ·rw [if_neg (by simpa using h)]
    exact ⟨by rw [List.length_set]; exact ih.1, fun _ => by rw [List.length_append, ih.2 h]; rfl⟩
   ·rw [if_pos h]; exact ⟨ih.1, fun e => absurd e h⟩
theorem zcS (s : ze) (ds : List (List zH)) (ps : List (List ByteArray)) (k : Nat) (h : ∀ ns ∈ ds, DOk ns) : ∀ ns ∈ (zM s ds ps k).1, DOk ns := by
 induction k with
 | zero => exact h
 | succ k ih =>
   unfold zM
   simp only
   by_cases h0 : (zM s ds ps k).2.2 = 0
   ·rw [if_neg (by simpa using h0)]
    intro ns hns
    rcases List.mem_or_eq_of_mem_set hns with hns | rfl
    ·exact ih ns hns
    ·refine (zg6 ?_ _ _).2
     by_cases hk : k < (zM s ds ps k).1.length
     ·rw [List.getD_eq_getElem?_getD, List.getElem?_eq_getElem hk]
      exact ih _ (List.getElem_mem hk)
     ·rw [List.getD_eq_getElem?_getD, List.getElem?_eq_none (by omega)]
      exact zmE
   ·rw [if_pos h0]; exact ih
theorem zd6 {s : ze} {ds : List (List zH)} {ps : List (List ByteArray)} {k n : Nat} (h : (zM s ds ps k).2.2 ≠ 0) (hk : k <= n) : zM s ds ps n = zM s ds ps k := by
 induction n with
 | zero => obtain rfl : k = 0 := by omega
           rfl
 | succ n ih =>
   rcases Nat.lt_or_ge n k with h1 | h1
   ·obtain rfl : k = n + 1 := by omega
    rfl
   ·have e := ih h1
    show (if (zM s ds ps n).2.2 ≠ 0 then zM s ds ps n else _) = _
    rw [e, if_pos h]
theorem zdv {s : ze} {ds : List (List zH)} {ps : List (List ByteArray)} {k : Nat} (h : (zM s ds ps k).2.2 = 0) :
  zM s ds ps (k + 1) = ((zM s ds ps k).1.set k (zbS ((zM s ds ps k).1.getD k []) (dimL s k) (ps.getD k [])).1, (zM s ds ps k).2.1 ++ [zcD (zbS ((zM s ds ps k).1.getD k []) (dimL s k) (ps.getD k [])).2.1], (zbS ((zM s ds ps k).1.getD k []) (dimL s k) (ps.getD k [])).2.2) := by
 show (if (zM s ds ps k).2.2 ≠ 0 then zM s ds ps k else _) = _
 rw [if_neg (by simpa using h)]
set_option maxRecDepth 100000 in
set_option maxHeartbeats 1600000 in
theorem zkU (H p : Nat) (Y : Lay) (l : LatX) (AP AV : Option Addr) (cP nV cV : Nat) (ps : List (List ByteArray)) (E : Nat -> Prop) (w : World) (h : LatW w H p Y l) (hok : ∀ ns ∈ l.ds, DOk ns) (hp : zfC w E AP cP ps)
  (hE : ∀ g, E g -> g < w.heap.size /\ ¬ LatA p Y l.ds.length g) (hlen : ps.length <= l.ds.length) (hp9 : ∀ q ∈ ps, q.length <= 1000) (hps : ps.length <= 1000) (hds : l.ds.length <= 1000) :
  Calls Tryz.prog 47 #[.pointer (some ⟨p, 0, none⟩), .agg #[.slice AP ps.length cP, .slice AV nV cV]] w (CodP H p Y l (zM l.s l.ds ps ps.length) w) := by
 obtain ⟨i1, hi', hz0', hz1', hz2'⟩ := info_parts zcN
 obtain ⟨W1, hW1⟩ : ∃ W, W = w.alloc (.cells #[.slice AP ps.length cP, .slice AV nV cV] 60) := ⟨_, rfl⟩
 have g1 : Below w.heap.size w W1 := by rw [hW1]; exact bl1 _ _
 have z1 : W1.heap.size = w.heap.size + 1 := by rw [hW1]; simp
 have q0 : W1.cell? ⟨w.heap.size, 0, none⟩ = some (.slice AP ps.length cP) := by rw [hW1]; simp [go_sem]
 have hl := h.on g1
 have hpe : zfC W1 E AP cP ps := hp.kept (fun g hg => g1.block g (hE g hg).1)
 have hpc := hp.1; have hpm := hp.2.1
 unfold maxLen at hpm
 have HL := hid hl; have HPE := hid hpe; have HE := hid hE; have HOK := hid hok; have HW1 := hid hW1; have G1 := hid g1; have HP9 := hid hp9
 clear hl hpe hE hok hW1 hp h hp9
 go_enter Tryz.func47, Tryz.ntmps47
 go_wp2
 rw [<- HW1.out]
 go_loopw [6, 14] (fun out i wr => zqd H p Y l ps w W1 out i wr) (fun _ i _ => ps.length - (intOf i).toNat)
 case atStart => exact ⟨0, Y.dD, by omega, rfl, rfl, HL.out, RowZ.nil_ _ _ _, Chg.refl _ _, fun i hi g hg => .inl hg⟩
 case round =>
  obtain ⟨k, dD', hk, rfl, he0, hlat, hrow, hchg, hdd⟩ := hrel
  obtain ⟨us0, -, ur0, -⟩ := id hrow
  rw [(zbp l.s l.ds ps k).2 he0] at ur0
  obtain ⟨Ao, co, rfl⟩ := zu ur0
  clear ur0 us0
  have hs := hchg.size
  have HC := hid hchg; have HDD := hid hdd; have HRW := hid hrow
  by_cases hlt : k < ps.length
  ·have hst := zdv he0
   have hlen1 := (zbp l.s l.ds ps k).1
   have hrl := (zbp l.s l.ds ps k).2 he0
   have hdok := zcS l.s l.ds ps k HOK.out
   have herr := fun h => zd6 (s := l.s) (ds := l.ds) (ps := ps) (k := k + 1) (n := ps.length) h hlt
   obtain ⟨rr, hrr⟩ : ∃ rr, rr = zM l.s l.ds ps k := ⟨_, rfl⟩
   rw [<- hrr] at hst hlen1 hrl hdok hlat hrow
   have HRW := hid hrow
   have HRR := hid hrr
   clear hrr he0
   obtain ⟨ds1, M, er⟩ := rr
   simp only at hst hlen1 hrl hdok hlat hrow
   have hkd : k < ds1.length := by omega
   have HLA := hid hlat
   obtain ⟨gD, cD, hDS, hDc, hDm, hgD, hgs, hcell, -⟩ := hlat.dsAt (v := k) hkd
   have c4 := hlat.c4
   simp only at hDS hcell c4 hDc
   rw [hDS] at c4
   have kE : Kept E W1 wr := HC.out.kept (fun g hg => ⟨by have := (HE.out g hg).1; omega, (HE.out g hg).2⟩)
   obtain ⟨b, off, Aj, cj, rfl, hEb, qk, hsl, hso⟩ := (HPE.out.kept kE).2.2 k hlt
   have hgd : ps.getD k [] = ps[k] := by rw [List.getD_eq_getElem?_getD, List.getElem?_eq_getElem hlt]; rfl
   have hpl9 := HP9.out _ (List.getElem_mem hlt)
   have hdk : DOk (ds1.getD k []) := by rw [List.getD_eq_getElem?_getD, List.getElem?_eq_getElem hkd]; exact hdok _ (List.getElem_mem hkd)
   rw [hgd] at hst
   have HAD := hid (zpu (dD' k) (Y.dp k) (dimL l.s k) (ds1.getD k []) (.slice Aj ps[k].length cj) ps[k] wr (hlat.dict k hkd) hdk.inv hdk.len (hsl.mono (fun g hg hd => by
    obtain ⟨e1, e2⟩ := HE.out g hg
    rcases HDD.out k (by omega) g hd with h1 | h1
    ·exact e2 (.inr (.inr ⟨k, by omega, h1⟩))
    ·omega)) hso (by omega))
   have hlen2 : l.ds.length = ds1.length := hlen1.symm
   generalize zbS (ds1.getD k []) (dimL l.s k) ps[k] = res at *
   generalize ps[k] = q at *
   obtain ⟨ns, cd, er2⟩ := res
   simp only at hst HAD
   have HST := hid hst; have HLE := hid hlen2; have HRL := hid hrl; have HER := hid herr
   clear hlat hdk hsl hso hgd hrow hst herr hrl hlen2 hchg hdd hdok hDS
   go_wp2_with fail
   (with_reducible refine HAD.out.mono ?_)
   rintro e w2 ⟨v, D', rfl, hov, hvD, hgr, hdw, hc2⟩
   obtain ⟨Av, cv, rfl⟩ := zu hov
   have hl2 := HLA.out.dictSet hkd hc2 hgr hdw
   have HL2 := hid hl2
   have hs2 := hc2.size
   have HC2 := hid (show Chg (LatA p Y l.ds.length) W1 w2 from HC.out.trans hc2 (fun g hg => by
    rcases HDD.out k (by have := HLE.out; omega) g hg with h1 | h1
    ·exact .inl (.inr (.inr ⟨k, by have := HLE.out; omega, h1⟩))
    ·exact .inr h1))
   have HDD2 := hid (show ∀ i, i < l.ds.length -> ∀ g, (fun j => if j = k then D' else dD' j) i g -> Y.dD i g \/ W1.heap.size <= g from fun i hi g hg => by
    by_cases e : i = k
    ·subst e
     simp only [if_pos] at hg
     rcases hgr.2 g hg with h1 | h1
     ·exact HDD.out _ hi g h1
     ·exact .inr (by omega)
    ·simp only [if_neg e] at hg
     exact HDD.out i hi g hg)
   have hDlt : ∀ g, D' g -> g < w2.heap.size := hdw.2.1
   have hnew : ∀ g, g < wr.heap.size -> ¬ LatO p { Y with dD := dD' } l.ds.length g -> ¬ LatO p { Y with dD := fun j => if j = k then D' else dD' j } l.ds.length g := fun g hlt hn hO => by
    rcases hO with hO | hO | hO | hO | ⟨i, hi, hO⟩
    ·exact hn (.inl hO)
    ·exact hn (.inr (.inl hO))
    ·exact hn (.inr (.inr (.inl hO)))
    ·exact hn (.inr (.inr (.inr (.inl hO))))
    ·refine hn (.inr (.inr (.inr (.inr ⟨i, hi, ?_⟩))))
     by_cases e : i = k
     ·subst e
      simp only [if_pos] at hO
      rcases hgr.2 g hO with h1 | h1
      ·exact h1
      ·omega
     ·simp only [if_neg e] at hO
      exact hO
   have hrow2 : RowZ w2 W1.heap.size (fun g => ¬ LatO p { Y with dD := fun j => if j = k then D' else dD' j } l.ds.length g) (.slice Ao k co) M := HRW.out.kept (fun g hz _ hlt => hc2.block g hlt (fun hd => hz (.inr (.inr (.inr (.inr ⟨k, by have := HLE.out; omega, hd⟩)))))) (fun g hz _ hlt => hnew g hlt hz)
   have hvO : ∀ g, (Value.slice Av cd.length cv).ownBlock = some g -> ¬ LatO p { Y with dD := fun j => if j = k then D' else dD' j } l.ds.length g := fun g hg hO => by
    have hge := (hov.lt g hg).1
    have HLAo := HLA.out
    rcases hO with hO | hO | hO | hO | ⟨i, hi, hO⟩
    ·have := (HLAo.rl g hO).1; omega
    ·have := (HLAo.ds.lt g hO).2; omega
    ·have := HLAo.pl; omega
    ·have := (HLAo.cs.lt g hO).2; omega
    ·by_cases e : i = k
     ·subst e
      simp only [if_pos] at hO
      exact hvD g hg hO
     ·simp only [if_neg e] at hO
      have := (HLAo.dict i (show i < ds1.length by have := HLE.out; omega)).2.1 g hO; omega
   have HR2 := hid hrow2; have HVO := hid hvO; have HOV := hid hov
   clear hov hvD hgr hdw hc2 hl2 hnew hrow2 hvO hDlt hcell c4 qk
   by_cases hz : er2 = 0
   ·subst hz
    obtain ⟨vs, u1, u2, u4, u3⟩ := HR2.out
    have hrl := HRL.out
    rw [hrl] at u2
    have U3 := hid u3; have U4 := hid u4
    clear u3 u4
    go_wp2_with (at_builtin; refine zr ?_)
    refine zar ?_
    refine zN (.tmp 34) (.tmp 36) 24 24 rfl rfl W1.heap.size 27 i1 (.slice none 0 0) 1 24 Tryz.underlying24 hi' hz0' hz1' hz2' rfl (by decide) _ k vs rfl (u2.alloc _) (.slice (some ⟨w2.heap.size, 0, none⟩) 1 1) 1 [_] rfl (Src.ofSlice _ Tryz.underlying24 _ 1 1 _ rfl (zG _ _ _ rfl) (by simp; exact zgR _ HOV.out)) (by simp only [maxLen]; omega) (by omega) (by rw [World.size_alloc]; omega) ?_
    intro v' w3 ho' hg' hb3 hat'
    have b3 := ((Below.refl w2.heap.size w2).alloc (Nat.le_refl _) (.cells #[.slice Av cd.length cv] 27))
    have hc3 : Chg (fun g => (Value.slice Ao k co).ownBlock = some g) w2 w3 := (Chg.of_below b3).trans (Chg.of_grown hg' hb3) (fun g hg => .inl hg)
    have hZo : ∀ g, (Value.slice Ao k co).ownBlock = some g -> ¬ LatO p { Y with dD := fun j => if j = k then D' else dD' j } l.ds.length g := fun g hg => U4.out g hg
    have hlen3 : (ds1.set k ns).length = l.ds.length := by rw [List.length_set]; exact HLE.out.symm
    have hl3 := HL2.out.chg hc3 (fun g hg => by show ¬ LatO p _ (ds1.set k ns).length g; rw [hlen3]; exact hZo g hg)
    have hvz : ∀ g, v'.ownBlock = some g -> ¬ LatO p { Y with dD := fun j => if j = k then D' else dD' j } l.ds.length g := fun g hg hO => by
     rcases hat' with e | e
     ·exact hZo g (e.symm.trans hg) hO
     ·rw [e] at hg
      injection hg with hg
      rw [World.size_alloc] at hg
      have h2 := zct HL2.out (g := g) (by show LatO p _ (ds1.set k ns).length g; rw [hlen3]; exact hO)
      omega
    have hrow3 : RowZ w3 W1.heap.size (fun g => ¬ LatO p { Y with dD := fun j => if j = k then D' else dD' j } l.ds.length g) v' (M ++ [zcD cd]) :=
     RowZ.app hrl.symm u1 (u2.alloc (.cells #[.slice Av cd.length cv] 27)) (fun j hj => ⟨(U3.out j hj).1.alloc _, (U3.out j hj).2⟩) (u := .slice Av cd.length cv) (by rw [ziJ, <- zkX]; exact (zw HOV.out (by omega)).alloc _) HVO.out ho' hvz hg'
    have hC3 : Chg (LatA p Y l.ds.length) W1 w3 := ⟨hc3.os.trans HC2.out.os, hc3.tape.trans HC2.out.tape, hc3.output.trans HC2.out.output, Nat.le_trans HC2.out.size hc3.size, fun g hg hA => by
     refine (hc3.block g (Nat.lt_of_lt_of_le hg HC2.out.size) (fun e => ?_)).trans (HC2.out.block g hg hA)
     have := (u2.lt g e).1
     omega⟩
    have HN5 := hid (show zqd H p Y l ps w W1 v' (.int .i64 ((k : Int) + 1)) w3 from ⟨k + 1, _, by omega, by go_num, by rw [HST.out], by rw [HST.out]; exact hl3, by rw [HST.out]; exact hrow3, hC3, HDD2.out⟩)
    clear ho' hg' hb3 hat' hc3 hZo hl3 hvz hrow3 hC3 b3 u2
    go_wp2
    go_roundw
    case rel => exact HN5.out
    case measure => simp [intOf]; omega
   ·have hz' : (er2 != 0) = true := by simpa using hz
    go_wp2
    go_ret2
    rw [HER.out (by rw [HST.out]; exact hz), HST.out]
    exact ⟨_, _, rfl, HL2.out, fun h => absurd h hz, (Chg.of_below G1.out).trans HC2.out (fun g hg => .inl hg), fun i hi g hg => (HDD2.out i hi g hg).imp id (fun h => by omega)⟩
  ·obtain rfl : k = ps.length := by omega
   have HRW2 := hid hrow; have HLA := hid hlat
   clear hlat hrow hchg hdd
   go_wp2
   go_ret2
   exact ⟨.slice Ao ps.length co, dD', by rw [he0]; rfl, HLA.out, fun _ => HRW2.out.less (by omega), (Chg.of_below G1.out).trans HC.out (fun g hg => .inl hg), fun i hi g hg => (HDD.out i hi g hg).imp id (fun h => by omega)⟩
end Go.Proofs.YtgoapnkdcfcjgaaGreat
namespace Go.Proofs.YtgoapnkdcfcjgaaGreat
theorem zeN (l : List zp) (i : Nat) : (sCol l i).length = l.length := by simp [sCol]
theorem zf2 {l : List zp} {i j : Nat} (hj : j < l.length) : (sCol l i).take (j + 1) = (sCol l i).take j ++ [(l.getD j nilC).s.getD i 0] := by
 rw [List.take_succ_eq_append_getElem (by rw [zeN]; exact hj)]
 congr 2
 simp [sCol, List.getD_eq_getElem?_getD, List.getElem?_eq_getElem hj]
end Go.Proofs.YtgoapnkdcfcjgaaGreat
namespace Go.Proofs.YtgoapnkdcfcjgaaGreat
open Go.ChangeShapes Go.WideShapes Go.ChangeAt Go.RowKit
abbrev E4 := Int × Value × Value × Value
def e4 (x : E4) : List Value := [.int .i64 x.1, x.2.1, x.2.2.1, x.2.2.2]
def z4 : E4 := (0, .slice none 0 0, .slice none 0 0, .slice none 0 0)
def At4 (w : World) (b off k : Nat) (x : E4) : Prop :=
 w.cell? ⟨b, off + k * 4, none⟩ = some (.int .i64 x.1) /\ w.cell? ⟨b, off + k * 4 + 1, none⟩ = some x.2.1 /\ w.cell? ⟨b, off + k * 4 + 2, none⟩ = some x.2.2.1 /\ w.cell? ⟨b, off + k * 4 + 3, none⟩ = some x.2.2.2
theorem At4.of_block {w w' : World} {b off k : Nat} {x : E4} (h : At4 w b off k x) (hb : w'.heap[b]? = w.heap[b]?) : At4 w' b off k x :=
 ⟨(World.cell?_of_block (a := ⟨b, off + k * 4, none⟩) hb).trans h.1, (World.cell?_of_block (a := ⟨b, off + k * 4 + 1, none⟩) hb).trans h.2.1, (World.cell?_of_block (a := ⟨b, off + k * 4 + 2, none⟩) hb).trans h.2.2.1, (World.cell?_of_block (a := ⟨b, off + k * 4 + 3, none⟩) hb).trans h.2.2.2⟩
def RowC (w : World) (B : Nat) (v : Value) (L : List zp) : Prop :=
 ∃ (A : Option Addr) (c : Nat) (es : List E4), v = .slice A L.length c /\ es.length = L.length /\ L.length <= c /\ c <= maxLen /\
  (0 < L.length -> ∃ b off, A = some ⟨b, off, none⟩ /\ b < B /\ ∀ k, k < L.length -> At4 w b off k (es.getD k z4)) /\
  ∀ k, k < L.length -> zaZ w B (.agg #[.int .i64 (es.getD k z4).1, (es.getD k z4).2.1, (es.getD k z4).2.2.1, (es.getD k z4).2.2.2]) (L.getD k nilC)
theorem RowC.below {w w' : World} {B : Nat} {v : Value} {L : List zp} (h : RowC w B v L) (hb : Below B w w') : RowC w' B v L := by
 obtain ⟨A, c, es, h1, h2, h3, h4, h5, h6⟩ := h
 refine ⟨A, c, es, h1, h2, h3, h4, fun h0 => ?_, fun k hk => (h6 k hk).below hb⟩
 obtain ⟨b, off, e, hlt, hc⟩ := h5 h0
 exact ⟨b, off, e, hlt, fun k hk => (hc k hk).of_block (hb.block b hlt)⟩
def zb0 (es : List E4) : List Value := es.flatMap e4
theorem zfz (es : List E4) : (zb0 es).length = es.length * 4 := by
 unfold zb0
 induction es with
 | nil => rfl
 | cons x es ih => rw [List.flatMap_cons, List.length_append, ih]; simp [e4]; omega
theorem zkp : ∀ {es : List E4} {k j : Nat}, k < es.length -> j < 4 -> (zb0 es)[k * 4 + j]? = (e4 (es.getD k z4))[j]? := by
 intro es
 induction es with
 | nil => intro k j hk; simp at hk
 | cons x es ih =>
   intro k j hk hj
   unfold zb0
   rw [List.flatMap_cons]
   cases k with
   | zero => rw [List.getElem?_append_left (by simp [e4]; omega)]; simp
   | succ k =>
     rw [List.getElem?_append_right (by simp [e4]; omega), show (k + 1) * 4 + j - (e4 x).length = k * 4 + j by simp [e4]; omega]
     have := ih (k := k) (j := j) (by simpa using hk) hj
     unfold zb0 at this
     rw [this]
     simp
theorem At4.val {w : World} {b off k : Nat} {x : E4} (h : At4 w b off k x) {j : Nat} {u : Value} (hu : (e4 x)[j]? = some u) : w.cell? ⟨b, off + k * 4 + j, none⟩ = some u := by
 have hj : j < 4 := (List.getElem?_eq_some_iff.1 hu).1
 rcases j with _ | _ | _ | _ | j
 ·simp [e4] at hu; subst hu; exact h.1
 ·simp [e4] at hu; subst hu; exact h.2.1
 ·simp [e4] at hu; subst hu; exact h.2.2.1
 ·simp [e4] at hu; subst hu; exact h.2.2.2
 ·omega
theorem zjy {w : World} {b off : Nat} {es : List E4} (h : ∀ k, k < es.length -> At4 w b off k (es.getD k z4)) : ∀ j u, (zb0 es)[j]? = some u -> w.cell? ⟨b, off + j, none⟩ = some u := by
 intro j u hu
 have hj := (List.getElem?_eq_some_iff.1 hu).1
 rw [zfz] at hj
 have e : j = j / 4 * 4 + j % 4 := by omega
 rw [e] at hu
 rw [zkp (by omega) (by omega)] at hu
 have := (h (j / 4) (by omega)).val hu
 rw [e, <- Nat.add_assoc]
 exact this
theorem zgC {w : World} {b off : Nat} {es : List E4} (h : ∀ j, j < es.length * 4 -> w.cell? ⟨b, off + j, none⟩ = (zb0 es)[j]?) : ∀ k, k < es.length -> At4 w b off k (es.getD k z4) := by
 intro k hk
 have q : ∀ j, j < 4 -> w.cell? ⟨b, off + k * 4 + j, none⟩ = (e4 (es.getD k z4))[j]? := fun j hj => by
  rw [<- zkp hk hj, Nat.add_assoc]
  exact h _ (by omega)
 exact ⟨q 0 (by omega), q 1 (by omega), q 2 (by omega), q 3 (by omega)⟩
end Go.Proofs.YtgoapnkdcfcjgaaGreat
