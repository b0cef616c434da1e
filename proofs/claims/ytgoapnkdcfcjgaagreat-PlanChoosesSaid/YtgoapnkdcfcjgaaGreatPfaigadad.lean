/- 5 texts of this claim, in build order. -/
import Derived.Test.YtgoapnkdcfcjgaaGreatPjdonnbib
import Derived.Test.YtgoapnkdcfcjgaaGreatPpojdkadl
import Derived.Test.YtgoapnkdcfcjgaaGreatPbdfgmcpj
import Derived.Test.YtgoapnkdcfcjgaaGreatPkkdpconn
set_option linter.unusedVariables false
set_option linter.unusedSimpArgs false
namespace Go.Proofs.YtgoapnkdcfcjgaaGreat
open Go.ChangeShapes Go.WideShapes Go.ChangeAt Go.RowKit Go.Maps
theorem zim (ns : List zH) (up : Nat) (p q : List ByteArray) : zbf ns up (p ++ q) = (zbf ns up p).bind fun u => zbf ns u q := by
 induction p generalizing up with
 | nil => rfl
 | cons s p ih =>
   simp only [List.cons_append, zbf]
   split
   ·rfl
   ·exact ih _
theorem zeZ (ns : List zH) (p : List ByteArray) (k u : Nat) (hk : k < p.length) (h : zbf ns 0 (p.take k) = some u) :
  zbf ns 0 (p.take (k + 1)) = if code ns (u, p[k]) = 0 then none else some (code ns (u, p[k])) := by
 rw [List.take_succ_eq_append_getElem hk, zim, h]
 simp only [Option.bind_some, zbf]
theorem zbj.map {w : World} {D : Nat -> Prop} {d : Nat} {L : Int} {ns : List zH} (h : zbj w D d L ns) : ∃ m, w.cell? ⟨d, 2, none⟩ = some (.map (some m)) /\ m < w.heap.size /\ MapC w m ns := by
 obtain ⟨h1, h2, h3, h4, v, m, h5, h6, h7, h8, h9, h10, h11, h12⟩ := h
 exact ⟨m, h6, h2 m h7, h12⟩
theorem znY {p : List ByteArray} (h : mayB p = true) : p.length <= 3 /\ ∀ s ∈ p, 1 <= s.size /\ s.size <= 12 := by
 unfold mayB at h
 rw [Bool.and_eq_true, decide_eq_true_eq, List.all_eq_true] at h
 refine ⟨h.1, fun s hs => ?_⟩
 have := h.2 s hs
 unfold zaq at this
 rw [decide_eq_true_eq] at this
 exact ⟨this.1, this.2.1⟩
theorem zjX (ns : List zH) (up : Nat) (r : List ByteArray) (s : ByteArray) :
  zah ns up (r ++ [s]) = ((zah ns up r).1 ++ [(if r = [] then up else (zah ns up r).1.length, s)], (zah ns up r).2 ++ [(zah ns up r).1.length + 1]) := by
 induction r generalizing ns up with
 | nil => simp [zah]
 | cons t r ih =>
   simp only [List.cons_append, zah]
   rw [ih]
   by_cases hr : r = []
   ·subst hr; simp [zah]
   ·simp [hr]
def zbS (ns : List zH) (L : Int) (p : List ByteArray) : List zH × List Nat × Int :=
 if mayB p = false \/ (p.length : Int) ≠ L then (ns, [], 10) else if 40 < ns.length + (p.length - (zay ns 0 p).1.length) then (ns, [], 15) else ((addD ns p).1, (addD ns p).2, 0)
def zg4 (D : Nat -> Prop) (d : Nat) (L : Int) (res : List zH × List Nat × Int) (w : World) (e : Ending) (w' : World) : Prop :=
 ∃ v D', e = .returned (.tuple #[v, .int .i64 res.2.2]) /\ w'.ownsRow w.heap.size 3 1 v res.2.1.length (zc5 res.2.1) /\ (∀ g, v.ownBlock = some g -> ¬ D' g) /\ Grow w D D' /\ zbj w' D' d L res.1 /\ Chg D w w'
theorem zgn (l : List Nat) (n : Nat) : zc5 (l ++ [n]) = zc5 l ++ [.int .i64 (n : Int)] := by simp [zc5]
def zp3 (ns : List zH) (p : List ByteArray) (w : World) (kn up out i : Value) (wr : World) : Prop :=
 ∃ k u : Nat, kn = .int .i64 k /\ i = .int .i64 k /\ up = .int .i64 (u : Int) /\ k <= (zay ns 0 p).1.length /\ zbf ns 0 (p.take k) = some u /\ u <= ns.length /\ wr.ownsRow w.heap.size 3 1 out k (zc5 ((zay ns 0 p).1.take k)) /\ Below w.heap.size w wr
def zqS (D : Nat -> Prop) (d : Nat) (L : Int) (ns : List zH) (cs : List Nat) (u : Nat) (rest : List ByteArray) (w : World) (up out i : Value) (wr : World) : Prop :=
 ∃ (j : Nat) (D' : Nat -> Prop), i = .int .i64 j /\ j <= rest.length /\ up = .int .i64 ((if j = 0 then u else (zah ns u (rest.take j)).1.length : Nat) : Int) /\ Grow w D D' /\ zbj wr D' d L (zah ns u (rest.take j)).1 /\ Chg D w wr /\
  wr.ownsRow w.heap.size 3 1 out (cs.length + j) (zc5 (cs ++ (zah ns u (rest.take j)).2)) /\ ∀ g, out.ownBlock = some g -> ¬ D' g
theorem zk4 (ns : List zH) (p : List ByteArray) (k u : Nat) (hk : k < (zay ns 0 p).1.length) (hkp : k < p.length) (hw : zbf ns 0 (p.take k) = some u) :
  code ns (u, p[k]) ≠ 0 /\ (zay ns 0 p).1.take (k + 1) = (zay ns 0 p).1.take k ++ [code ns (u, p[k])] /\ zbf ns 0 (p.take (k + 1)) = some (code ns (u, p[k])) := by
 obtain ⟨_, h2, _⟩ := zcR ns 0 p
 have h3 := h2 k hk
 have h4 := zeZ ns p k u hkp hw
 rw [h3] at h4
 have hne : code ns (u, p[k]) ≠ 0 := by
  intro h; rw [if_pos h] at h4; cases h4
 rw [if_neg hne] at h4
 injection h4 with h4
 refine ⟨hne, ?_, by rw [h3, h4]⟩
 rw [List.take_succ_eq_append_getElem hk, <- h4, List.getD_eq_getElem?_getD, List.getElem?_eq_getElem hk]; rfl
theorem zlD (ns : List zH) (p : List ByteArray) (u : Nat) (hkp : (zay ns 0 p).1.length < p.length) (hw : zbf ns 0 (p.take (zay ns 0 p).1.length) = some u) : code ns (u, p[(zay ns 0 p).1.length]) = 0 /\ u = (zay ns 0 p).2 := by
 obtain ⟨h1, _, h3⟩ := zcR ns 0 p
 rw [h1] at hw
 injection hw with hw
 exact ⟨hw ▸ h3 _ (List.getElem?_eq_getElem hkp), hw.symm⟩
theorem zpj (ns : List zH) (p : List ByteArray) (u : Nat) (hw : zbf ns 0 (p.take (zay ns 0 p).1.length) = some u) : u = (zay ns 0 p).2 := by
 obtain ⟨h1, _, h3⟩ := zcR ns 0 p
 rw [h1] at hw
 injection hw with hw
 exact hw.symm
theorem zmg (ns : List zH) (u : Nat) (r : List ByteArray) : (zah ns u r).2.length = r.length := by
 induction r generalizing ns u with
 | nil => rfl
 | cons s r ih => simp [zah, ih]
theorem zk7 {ns : List zH} (hi : DInv ns) (u : Nat) (hu : u <= ns.length) (r : List ByteArray) (hnew : ∀ s, r[0]? = some s -> (u, s) ∉ ns) (j : Nat) (hj : j < r.length) (nsj : List zH) (csj : List Nat)
  (hP : zah ns u (r.take j) = (nsj, csj)) : nsj.length = ns.length + j /\ (∀ s, r[j]? = some s -> ((if j = 0 then u else nsj.length), s) ∉ nsj /\ zah ns u (r.take (j + 1)) = (nsj ++ [(if j = 0 then u else nsj.length, s)], csj ++ [nsj.length + 1])) := by
 obtain ⟨h1, h2, h3, h4, h5⟩ := ze6 hi (zaL ns u) (r.take j) u hu rfl (fun s hs => hnew s (by
  rw [List.getElem?_take] at hs; split at hs
  ·exact hs
  ·cases hs))
 rw [hP] at h1 h3
 refine ⟨by rw [h3, List.length_take]; omega, fun s hs => ⟨?_, ?_⟩⟩
 ·by_cases h0 : j = 0
  ·subst h0
   rw [if_pos rfl]
   rw [List.take_zero, zah] at hP
   obtain ⟨rfl, rfl⟩ := Prod.mk.inj hP
   exact hnew s hs
  ·rw [if_neg h0]; exact zh6 h1 s _ (Nat.le_refl _)
 ·rw [List.take_add_one, hs, Option.toList_some, zjX, hP]
  have : (r.take j = []) ↔ j = 0 := by
   constructor
   ·intro h; have := congrArg List.length h; rw [List.length_take, List.length_nil] at this; omega
   ·rintro rfl; rfl
  simp only [this]
theorem znG {w wr w4 w5 : World} {D D' D2 : Nat -> Prop} {d : Nat} {L : Int} {nsx : List zH} {out out' : Value} {o : Obj} (hg : Grow w D D') (hchg : Chg D w wr) (hg2 : Grow wr D' D2) (hd4 : zbj w4 D2 d L nsx) (hchg4 : Chg D' wr w4)
  (hout : ∀ g, out.ownBlock = some g -> ¬ D' g) (hlt : ∀ g, out.ownBlock = some g -> w.heap.size <= g /\ g < wr.heap.size) (hg5 : (w4.alloc o).grownBy w5 out.ownBlock) (hat : out'.ownBlock = out.ownBlock \/ out'.ownBlock = some (w4.alloc o).heap.size) :
  Grow w D D2 /\ zbj w5 D2 d L nsx /\ Chg D w w5 /\ ∀ g, out'.ownBlock = some g -> ¬ D2 g := by
 have hs := hchg.size
 have hs4 := hchg4.size
 have hs5 := hg5.size
 simp only [World.size_alloc] at hs5 hat
 have hn2 : ∀ g, out.ownBlock = some g -> ¬ D2 g := fun g hg' h2 => by
  rcases hg2.2 g h2 with h | h
  ·exact hout g hg' h
  ·have := (hlt g hg').2; omega
 have hal : ∀ k, k < w4.heap.size -> (w4.alloc o).heap[k]? = w4.heap[k]? := fun k hk => ((Below.refl w4.heap.size w4).alloc (Nat.le_refl _) o).block k hk
 have hkeep : ∀ k, k < w4.heap.size -> out.ownBlock ≠ some k -> w5.heap[k]? = w4.heap[k]? := fun k hk hn => (hg5.block k (by simp; omega) (fun e => hn e.symm)).trans (hal k hk)
 refine ⟨hg.trans hg2 hs, hd4.kept (fun k hk => hkeep k (hd4.2.1 k hk) (fun e => hn2 k e hk)) (by omega), ?_, fun g hg' h2 => ?_⟩
 ·have c4 : Chg D w w4 := hchg.trans hchg4 hg.2
  refine ⟨hg5.os.trans c4.os, hg5.tape.trans c4.tape, hg5.output.trans c4.output, by omega, fun k hk hn => ?_⟩
  exact (hkeep k (by omega) (fun e => by have := (hlt k e).1; omega)).trans (c4.block k hk hn)
 ·rcases hat with e | e
  ·exact hn2 g (e ▸ hg') h2
  ·rw [e] at hg'; injection hg' with hg'
   have := hd4.2.1 g h2
   omega
set_option maxRecDepth 100000 in
set_option maxHeartbeats 1600000 in
theorem zqv (D : Nat -> Prop) (d : Nat) (L : Int) (ns : List zH) (v : Value) (p : List ByteArray) (w : World) (h : zbj w D d L ns) (hv : Sl w w.heap.size v (zL p)) (hs : zi6 p) (hpl : p.length <= 9223372036854775807) (hno : mayB p = false \/ (p.length : Int) ≠ L) :
  Calls Tryz.prog 68 #[.pointer (some ⟨d, 0, none⟩), v] w (zg4 D d L (zbS ns L p) w) := by
 have hr : zbS ns L p = (ns, [], 10) := if_pos hno
 rw [hr]; clear hr
 have HM := hid (zeL v p w hv hs hpl)
 obtain ⟨A, c, rfl, hc1, hc2⟩ := hv.formS
 have hcL := h.2.2.2.1
 have hd := h.2.1 d h.1
 have HH := hid h; clear h hv hs
 by_cases hL : (p.length : Int) = L
 ·have hmb : mayB p = false := by
   rcases hno with h | h
   ·exact h
   ·exact absurd hL h
  have hm := HM.out
  rw [hmb] at hm
  have HM2 := hid hm; clear hm hmb hno
  have t0 : ((p.length : Int) != L) = false := by rw [bne_eq_false_iff_eq]; exact hL
  clear hL HM
  go_enter Tryz.func68, Tryz.ntmps68
  go_wp2_with fail
  refine HM2.out.mono ?_
  rintro e w1 ⟨rfl, hb1⟩
  go_wp2
  go_ret2
  exact ⟨_, D, rfl, World.ownsRow_nil _ _ _ _, fun g hg => by simp [Value.ownBlock] at hg, Grow.refl _ _, HH.out.below hb1, Chg.of_below hb1⟩
 ·have t0 : ((p.length : Int) != L) = true := by rw [bne_iff_ne]; exact hL
  clear hno hL HM
  go_enter Tryz.func68, Tryz.ntmps68
  go_wp2
  go_ret2
  exact ⟨_, D, rfl, World.ownsRow_nil _ _ _ _, fun g hg => by simp [Value.ownBlock] at hg, Grow.refl _ _, HH.out, Chg.refl _ _⟩
set_option maxRecDepth 100000 in
set_option maxHeartbeats 3200000 in
theorem zoZ (D : Nat -> Prop) (d : Nat) (L : Int) (ns : List zH) (v : Value) (p : List ByteArray) (w : World) (h : zbj w D d L ns) (hi : DInv ns) (hl : ns.length <= 40) (hvE : SlE w (fun g => ¬ D g) v (zL p)) (hmb : mayB p = true) (hL : (p.length : Int) = L) :
  Calls Tryz.prog 68 #[.pointer (some ⟨d, 0, none⟩), v] w (zg4 D d L (zbS ns L p) w) := by
 obtain ⟨i2, hi2, hx0, hx1, hx2⟩ := info_parts zaE
 obtain ⟨hp3, hshort⟩ := znY hmb
 have hv := hvE.sl
 have hm := zeL v p w hv (fun s hs => by have := hshort s hs; omega) (by omega)
 rw [hmb] at hm
 have hr : zbS ns L p = if 40 < ns.length + (p.length - (zay ns 0 p).1.length) then (ns, [], 15) else ((addD ns p).1, (addD ns p).2, 0) := if_neg (by rw [hmb]; simp [hL])
 have hkl := zh8 ns 0 p
 obtain ⟨A, c, rfl, hc1, hc2⟩ := hv.formS
 have hcL := h.2.2.2.1
 have hd := h.2.1 d h.1
 have t0 : ((p.length : Int) != L) = false := by rw [bne_eq_false_iff_eq]; exact hL
 have HA := hid (show 0 < (zL p).length -> ∃ b off, A = some ⟨b, off, none⟩ /\ b < w.heap.size /\ ∀ j u, (zL p)[j]? = some u -> w.cell? ⟨b, off + j, none⟩ = some u by
  obtain ⟨A', c', e, _, _, h4⟩ := hv
  injection e with e _ _
  subst e; exact h4)
 have HBD := hid (show ∀ b off, A = some ⟨b, off, none⟩ -> 0 < p.length -> ¬ D b by
  obtain ⟨A', c', e, _, _, h4⟩ := hvE
  injection e with e _ _
  subst e
  intro b off hA h0
  obtain ⟨b', off', e, hE, _⟩ := h4 (by rw [zat]; exact h0)
  rw [hA] at e
  injection e with e; injection e with e1 _ _
  exact e1 ▸ hE)
 have HH := hid h; have HM := hid hm; have HR := hid hr; have HSH := hid hshort; have HI := hid hi
 clear h hm hr hshort hv hvE hi hmb hL
 unfold maxLen at hc2
 go_enter Tryz.func68, Tryz.ntmps68
 go_wp2_with fail
 refine HM.out.mono ?_
 rintro e w1 ⟨rfl, hb1⟩
 have HB1 := hid hb1; clear hb1
 go_wp2
 go_loopw [6, 7, 8, 29] (fun kn up out i wr => zp3 ns p w kn up out i wr) (fun _ _ _ i _ => p.length - (intOf i).toNat)
 case atStart => exact ⟨0, 0, rfl, rfl, rfl, by omega, rfl, by omega, World.ownsRow_nil _ _ _ _, HB1.out⟩
 case round =>
  obtain ⟨k, u, rfl, rfl, rfl, hk, hwk, hu, hown, hb⟩ := hrel
  obtain ⟨m, hmc, hmlt, hmap⟩ := (HH.out.below hb).map
  obtain ⟨n, Dm, how, hn, hC⟩ := hmap
  have HOW := hid hown; have HB := hid hb; have HWK := hid hwk; have HMO := hid how; have HCM := hid hC
  have hsB := hb.size
  clear hown hb hwk how hC
  by_cases hlt : k < (zay ns 0 p).1.length
  ·have hkp : k < p.length := by omega
   obtain ⟨b, off, rfl, hbl, hcell⟩ := Sl.str HA.out hkp
   replace hcell := zc HB.out hbl hcell
   have hss := HSH.out _ (List.getElem_mem hkp)
   obtain ⟨s1, s2, s3⟩ := zk4 ns p k u hlt hkp HWK.out
   generalize p[k] = s at *
   obtain ⟨kl, hkl2⟩ := zg8 (u, s) (by simp; omega) (by simp; omega)
   obtain ⟨hC1, hC2⟩ := HCM.out (u, s) kl hkl2
   have hcl := zen ns (u, s)
   generalize code ns (u, s) = x at *
   have HKL := hid hkl2; have HC1 := hid hC1; have HC2 := hid hC2; have HS1 := hid s1; have HS2 := hid s2; have HS3 := hid s3
   clear hkl2 hC1 hC2 s1 s2 s3 hss
   go_wp2_with (at_lookup; refine zr ?_)
   refine zar ?_
   refine wpList_lookup_own_ok_int _ rfl (.tmp 37) (.tmp 40) 112 rfl 146 3 .i64 zd5 Tryz.underlying112 Tryz.underlying3 (zkv _) m n Dm rfl HMO.out (zf3 (u, s)) kl rfl HKL.out ?_
   intro cc hat hwc
   rw [HC2.out] at hat
   obtain rfl : cc = (x : Int) := by injection hat with hat; injection hat with _ hat; exact hat.symm
   rw [HC1.out, decide_eq_true (by simpa using HS1.out)]
   clear hat hwc
   go_wp2_with (at_builtin; refine zr ?_)
   refine zar ?_
   refine zav (.tmp 49) (.tmp 51) 27 27 rfl rfl w.heap.size 3 i2 (.int .i64 0) 1 8 Tryz.underlying27 hi2 hx0 hx1 hx2 rfl (by omega) _ _ _ rfl (HOW.out.alloc _) (.slice (some ⟨wr.heap.size, 0, none⟩) 1 1) 1 [_] rfl (Src.ofSlice _ Tryz.underlying27 _ 1 1 _ rfl (cell_one_new _ _ _) (by simp; rfl)) (by unfold maxLen; omega) (by omega) (by simp; omega) ?_
   intro v2 w2 ho2 hg2 hb2
   have HO2 := hid ho2; have HB2 := hid ((HB.out.alloc hsB _).trans hb2); clear ho2 hg2 hb2
   go_wp2
   go_roundw
   case rel => exact ⟨k + 1, x, by go_num, by go_num, rfl, by omega, HS3.out, hcl, by rw [HS2.out, zgn]; exact HO2.out, HB2.out⟩
   case measure => simp [intOf]; omega
  ·obtain rfl : k = (zay ns 0 p).1.length := by omega
   have hup := zpj ns p u HWK.out
   by_cases hkp : (zay ns 0 p).1.length < p.length
   ·obtain ⟨b, off, rfl, hbl, hcell⟩ := Sl.str HA.out hkp
    replace hcell := zc HB.out hbl hcell
    have hss := HSH.out _ (List.getElem_mem hkp)
    have hst := (zlD ns p u hkp HWK.out).1
    generalize hgs : p[(zay ns 0 p).1.length] = s at *
    obtain ⟨kl, hkl2⟩ := zg8 (u, s) (by simp; omega) (by simp; omega)
    obtain ⟨hC1, hC2⟩ := HCM.out (u, s) kl hkl2
    rw [hst] at hC1 hC2
    have HKL := hid hkl2; have HC1 := hid hC1; have HC2 := hid hC2; have HUP := hid hup
    have HST := hid (show ∀ x, p[(zay ns 0 p).1.length]? = some x -> code ns (u, x) = 0 from fun x hx => by
     rw [List.getElem?_eq_getElem hkp] at hx
     injection hx with hx
     rw [<- hx, hgs]; exact hst)
    clear hkl2 hC1 hC2 hss hst hup
    obtain ⟨cs, hcs⟩ : ∃ cs, cs = (zay ns 0 p).1 := ⟨_, rfl⟩
    obtain ⟨K, hK⟩ : ∃ K, K = (zay ns 0 p).1.length := ⟨_, rfl⟩
    have hKl : cs.length = K := by rw [hcs, hK]
    have howt := HOW.out
    rw [List.take_length, <- hcs, hKl] at howt
    have hst2 := HST.out; rw [<- hK] at hst2; clear HST; have HST := hid hst2; clear hst2 hgs
    rw [<- hK] at hcell hkp hlt hk hkl ⊢
    have HOW2 := hid howt; have HCS := hid hcs; have HK := hid hK; have HKL2 := hid hKl; clear howt hcs hK hKl HOW
    go_wp2_with (at_lookup; refine zr ?_)
    refine zar ?_
    refine wpList_lookup_own_ok_int _ rfl (.tmp 37) (.tmp 40) 112 rfl 146 3 .i64 zd5 Tryz.underlying112 Tryz.underlying3 (zkv _) m n Dm rfl HMO.out (zf3 (u, s)) kl rfl HKL.out ?_
    intro cc hat hwc
    rw [HC1.out, decide_eq_false (by simp)]
    clear hat hwc
    have hadd : addD ns p = ((zah ns u (p.drop K)).1, cs ++ (zah ns u (p.drop K)).2) := by unfold addD; rw [<- HCS.out, <- HUP.out, HKL2.out]
    have HADD := hid hadd; clear hadd
    have HLN := hid (zkr D d L ns wr (HH.out.below HB.out))
    go_wp2_with fail
    refine HLN.out.mono ?_
    rintro e w3 ⟨rfl, hq3⟩
    have HB3 := hid (HB.out.trans (hq3.below w.heap.size))
    have HOW3 := hid (zo HOW2.out (fun g hg => (hq3.below wr.heap.size).block g (HOW2.out.lt g hg).2)); clear hq3
    by_cases hgt : 40 < ns.length + (p.length - K)
    ·have hr := HR.out
     rw [<- HK.out, if_pos hgt] at hr
     have HR2 := hid hr; clear hr
     have t1 : decide ((40 : Int) < (ns.length : Int) + (p.length : Int) - (K : Int)) = true := by rw [decide_eq_true_eq]; omega
     go_wp2
     go_ret2
     exact ⟨.slice none 0 0, D, by rw [HR2.out]; rfl, by rw [HR2.out]; exact World.ownsRow_nil _ _ _ _, fun g hg => by simp [Value.ownBlock] at hg, Grow.refl _ _, by rw [HR2.out]; exact HH.out.below HB3.out, Chg.of_below HB3.out⟩
    ·have hr := HR.out
     rw [<- HK.out, if_neg hgt, HADD.out] at hr
     have HR2 := hid hr; clear hr
     have t1 : decide ((40 : Int) < (ns.length : Int) + (p.length : Int) - (K : Int)) = false := by rw [decide_eq_false_iff_not]; omega
     have hcK : ¬ c = K := by omega
     have hbD : ¬ D b := HBD.out b off rfl (by omega)
     have HNEW := hid (show ∀ x, (p.drop K)[0]? = some x -> (u, x) ∉ ns from fun x hx => by
      rw [List.getElem?_drop, Nat.add_zero] at hx
      exact zbL.1 (HST.out x hx))
     have HCP := hid (show ∀ j s, p[j]? = some s -> w.cell? ⟨b, off + j, none⟩ = some (.string s) from fun j s hj => by
      obtain ⟨b', off', e, _, h4⟩ := HA.out (by rw [zat]; omega)
      injection e with e; injection e with e1 e2 _
      subst e1; subst e2
      exact h4 j _ (by simp [zL, hj]))
     clear hcell
     go_wp2
     go_loopw [7, 8, 66] (fun up out i wr => zqS D d L ns cs u (p.drop K) w up out i wr) (fun _ _ i _ => p.length - (intOf i).toNat)
     case atStart =>
      refine ⟨0, D, rfl, by omega, by simp, Grow.refl _ _, HH.out.below HB3.out, Chg.of_below HB3.out, by simpa [zah, HKL2.out] using HOW3.out, fun g hg hD => ?_⟩
      have := (HOW3.out.lt g hg).1
      have := HH.out.2.1 g hD
      omega
     case round =>
      obtain ⟨j, D', rfl, hj, rfl, hgr, hdw, hchg, hown, hout⟩ := hrel
      rw [List.length_drop] at hj
      have HGR := hid hgr; have HDW := hid hdw; have HCH := hid hchg; have HOU := hid hout
      clear hgr hdw hchg hout
      by_cases hlt : j < p.length - K
      ·have hKj : K + j < p.length := by omega
       obtain ⟨nsj, csj, hP⟩ : ∃ nsj csj, zah ns u ((p.drop K).take j) = (nsj, csj) := ⟨_, _, rfl⟩
       obtain ⟨f1, f2⟩ := zk7 HI.out u hu (p.drop K) HNEW.out j (by rw [List.length_drop]; exact hlt) nsj csj hP
       have hget : (p.drop K)[j]? = some p[K + j] := by rw [List.getElem?_drop, List.getElem?_eq_getElem hKj]
       obtain ⟨f3, f4⟩ := f2 _ hget
       have hss := HSH.out _ (List.getElem_mem hKj)
       have hcell := (World.cell?_of_block (a := ⟨b, off + (K + j), none⟩) (HCH.out.block b hbl hbD)).trans (HCP.out (K + j) _ (List.getElem?_eq_getElem hKj))
       rw [<- Nat.add_assoc] at hcell
       have hdw := HDW.out
       rw [hP] at hown hdw ⊢
       simp only at hown hdw f3 f4 ⊢
       clear HDW f2 hget
       generalize p[K + j] = s2 at *
       have huj : (if j = 0 then u else nsj.length) <= 1000000 := by split <;> omega
       generalize (if j = 0 then u else nsj.length) = uj at *
       have HPUT := hid (zky D' d L nsj uj s2 wr hdw (by omega) huj (by omega) f3)
       have HDW := hid hdw; have HOW5 := hid hown; have HF4 := hid f4; have hsC := HCH.out.size
       clear hdw hown f3 f4 hP
       go_wp2_with fail
       refine HPUT.out.mono ?_
       rintro e w4 ⟨D2, rfl, hg2, hd4, hc4⟩
       have HO4 := hid (zo HOW5.out (fun g hg => hc4.block g (HOW5.out.lt g hg).2 (HOU.out g hg)))
       have HG2 := hid hg2; have HD4 := hid hd4; have HC4 := hid hc4; have hsD := hc4.size
       clear hg2 hd4 hc4
       go_wp2_with (at_builtin; refine zr ?_)
       refine zar ?_
       refine zN (.tmp 75) (.tmp 77) 27 27 rfl rfl w.heap.size 3 i2 (.int .i64 0) 1 8 Tryz.underlying27 hi2 hx0 hx1 hx2 rfl (by omega) _ _ _ rfl (HO4.out.alloc _) (.slice (some ⟨w4.heap.size, 0, none⟩) 1 1) 1 [_] rfl (Src.ofSlice _ Tryz.underlying27 _ 1 1 _ rfl (cell_one_new _ _ _) (by simp; rfl)) (by unfold maxLen; rw [HKL2.out]; omega) (by rw [HKL2.out]; omega) (by simp; omega) ?_
       intro v2 w5 ho5 hg5 hb5 hat5
       have HO5 := hid ho5
       have HQ := hid (znG HGR.out HCH.out HG2.out HD4.out HC4.out HOU.out (own_lt HOW5.out) hg5 hat5)
       clear ho5 hg5 hb5 hat5
       go_wp2
       go_roundw
       case rel =>
            obtain ⟨q1, q2, q3, q4⟩ := HQ.out
            have ho := HO5.out
            have e1 := HF4.out
            refine ⟨j + 1, D2, by go_num, by rw [List.length_drop]; omega, ?_, q1, ?_, q3, ?_, q4⟩
            ·rw [if_neg (by omega), e1]; simp only [List.length_append, List.length_singleton, f1]; congr 1
            ·rw [e1]; exact q2
            ·rw [e1, <- List.append_assoc, zgn]
             have e2 : ((nsj.length + 1 : Nat) : Int) = (ns.length : Int) + (j : Int) + 1 := by omega
             rw [e2]
             exact ho
       case measure => simp [intOf]; omega
      ·obtain rfl : j = p.length - K := by omega
       have hr := HR2.out
       have hdw := HDW.out
       rw [List.take_of_length_le (by rw [List.length_drop]; omega)] at hown hdw
       have HDW2 := hid hdw; have HOW5 := hid hown
       clear hown hdw HDW
       go_wp2
       go_ret2
       refine ⟨_, D', rfl, ?_, HOU.out, HGR.out, HDW2.out, HCH.out⟩
       have e : (cs ++ (zah ns u (p.drop K)).2).length = cs.length + (p.length - K) := by
            rw [List.length_append, zmg, List.length_drop]
       rw [e]
       exact HOW5.out
   ·have HUP := hid hup
    clear hup
    obtain ⟨cs, hcs⟩ : ∃ cs, cs = (zay ns 0 p).1 := ⟨_, rfl⟩
    obtain ⟨K, hK⟩ : ∃ K, K = (zay ns 0 p).1.length := ⟨_, rfl⟩
    have hKl : cs.length = K := by rw [hcs, hK]
    have howt := HOW.out
    rw [List.take_length, <- hcs, hKl] at howt
    rw [<- hK] at hkp hlt hk hkl ⊢
    have HOW2 := hid howt; have HCS := hid hcs; have HK := hid hK; have HKL2 := hid hKl; clear howt hcs hK hKl HOW
    have hadd : addD ns p = ((zah ns u (p.drop K)).1, cs ++ (zah ns u (p.drop K)).2) := by unfold addD; rw [<- HCS.out, <- HUP.out, HKL2.out]
    have HADD := hid hadd; clear hadd
    have HLN := hid (zkr D d L ns wr (HH.out.below HB.out))
    go_wp2_with fail
    refine HLN.out.mono ?_
    rintro e w3 ⟨rfl, hq3⟩
    have HB3 := hid (HB.out.trans (hq3.below w.heap.size))
    have HOW3 := hid (zo HOW2.out (fun g hg => (hq3.below wr.heap.size).block g (HOW2.out.lt g hg).2)); clear hq3
    by_cases hgt : 40 < ns.length + (p.length - K)
    ·have hr := HR.out
     rw [<- HK.out, if_pos hgt] at hr
     have HR2 := hid hr; clear hr
     have t1 : decide ((40 : Int) < (ns.length : Int) + (p.length : Int) - (K : Int)) = true := by rw [decide_eq_true_eq]; omega
     go_wp2
     go_ret2
     exact ⟨.slice none 0 0, D, by rw [HR2.out]; rfl, by rw [HR2.out]; exact World.ownsRow_nil _ _ _ _, fun g hg => by simp [Value.ownBlock] at hg, Grow.refl _ _, by rw [HR2.out]; exact HH.out.below HB3.out, Chg.of_below HB3.out⟩
    ·have hr := HR.out
     rw [<- HK.out, if_neg hgt, HADD.out] at hr
     have HR2 := hid hr; clear hr
     have t1 : decide ((40 : Int) < (ns.length : Int) + (p.length : Int) - (K : Int)) = false := by rw [decide_eq_false_iff_not]; omega
     have e0 : p.length - K = 0 := by omega
     have hpd : p.drop K = [] := List.drop_eq_nil_of_le (by omega)
     have HPD := hid hpd; clear hpd
     go_wp2
     all_goals go_loop [8, 66] (fun o i => i = .int .i64 0 /\ w3.ownsRow w.heap.size 3 1 o K (zc5 cs)) (fun _ _ => 0)
     all_goals first | (case atStart => exact ⟨rfl, HOW3.out⟩) | skip
     all_goals
      obtain ⟨rfl, how3⟩ := hrel
      have HOW4 := hid how3; clear how3
      go_wp2
      go_ret2
      have hr := HR2.out
      rw [HPD.out] at hr
      simp only [zah, List.append_nil] at hr
      rw [hr]
      refine ⟨_, D, rfl, by rw [HKL2.out]; exact HOW4.out, fun g hg hD => ?_, Grow.refl _ _, HH.out.below HB3.out, Chg.of_below HB3.out⟩
      have := (HOW4.out.lt g hg).1
      have := HH.out.2.1 g hD
      omega
theorem zpu (D : Nat -> Prop) (d : Nat) (L : Int) (ns : List zH) (v : Value) (p : List ByteArray) (w : World) (h : zbj w D d L ns) (hi : DInv ns) (hl : ns.length <= 40) (hvE : SlE w (fun g => ¬ D g) v (zL p)) (hs : zi6 p) (hpl : p.length <= 9223372036854775807) :
  Calls Tryz.prog 68 #[.pointer (some ⟨d, 0, none⟩), v] w (zg4 D d L (zbS ns L p) w) := by
 by_cases hno : mayB p = false \/ (p.length : Int) ≠ L
 ·exact zqv D d L ns v p w h hvE.sl hs hpl hno
 ·refine zoZ D d L ns v p w h hi hl hvE ?_ ?_
  ·cases hm : mayB p with
   | true => rfl
   | false => exact absurd (.inl hm) hno
  ·by_cases hl : (p.length : Int) = L
   ·exact hl
   ·exact absurd (.inr hl) hno
structure DOk (ns : List zH) : Prop where
 inv : DInv ns
 len : ns.length <= 40
 name : ∀ x ∈ ns, zez x.2
theorem zmE : DOk [] := ⟨zpQ, by simp, by simp⟩
theorem DOk.small {ns : List zH} (h : DOk ns) : ∀ x ∈ ns, x.1 <= 1000000 /\ x.2.size <= 12 := by
 intro x hx
 obtain ⟨i, hi, rfl⟩ := List.mem_iff_getElem.1 hx
 have := h.inv.up i _ (List.getElem?_eq_getElem hi)
 have := h.len
 exact ⟨by omega, (h.name _ hx).2.1⟩
theorem zin (ns : List zH) (u : Nat) (r : List ByteArray) (hr : ∀ s ∈ r, zez s) (h : ∀ x ∈ ns, zez x.2) : ∀ x ∈ (zah ns u r).1, zez x.2 := by
 induction r generalizing ns u with
 | nil => exact h
 | cons s r ih =>
   refine ih _ _ (fun t ht => hr t (List.mem_cons_of_mem _ ht)) (fun x hx => ?_)
   rcases List.mem_append.1 hx with hx | hx
   ·exact h x hx
   ·rw [List.mem_singleton] at hx; subst hx; exact hr s List.mem_cons_self
theorem zom {p : List ByteArray} (h : mayB p = true) : ∀ s ∈ p, zez s := by
 unfold mayB at h
 rw [Bool.and_eq_true, List.all_eq_true] at h
 intro s hs
 have := h.2 s hs
 unfold zaq at this
 rwa [decide_eq_true_eq] at this
theorem zg6 {ns : List zH} (h : DOk ns) (L : Int) (p : List ByteArray) : addR (zT ns) L p = (zT (zbS ns L p).1, (zbS ns L p).2.1, (zbS ns L p).2.2) /\ DOk (zbS ns L p).1 := by
 obtain ⟨a1, a2, a3, a4, a5⟩ := zhI h.inv p
 unfold addR zbS
 rw [zbJ, a4]
 by_cases hno : mayB p = false \/ (p.length : Int) ≠ L
 ·rw [if_pos hno, if_pos hno]; exact ⟨rfl, h⟩
 ·rw [if_neg hno, if_neg hno]
  by_cases h40 : 40 < ns.length + (p.length - (zay ns 0 p).1.length)
  ·rw [if_pos h40, if_pos h40]; exact ⟨rfl, h⟩
  ·rw [if_neg h40, if_neg h40]
   refine ⟨?_, a1, by simp only [a5]; omega, ?_⟩
   ·rw [<- a2, a3]
   ·have hm : mayB p = true := by
     cases hm : mayB p with
     | true => rfl
     | false => exact absurd (.inl hm) hno
    exact zin ns _ _ (fun s hs => zom hm s (List.mem_of_mem_drop hs)) h.name
end Go.Proofs.YtgoapnkdcfcjgaaGreat
namespace Go.Proofs.YtgoapnkdcfcjgaaGreat
open Go.ChangeShapes Go.WideShapes Go.ChangeAt Go.RowKit
def ze9 {α : Type} (p : α -> Bool) (l : List α) (w : World) (i : Value) (wr : World) : Prop := ∃ k : Nat, k <= l.length /\ i = .int .i64 k /\ (l.take k).any p = false /\ Below w.heap.size w wr
def IdxG {α : Type} (p : α -> Bool) (l : List α) (w : World) (e : Ending) (w' : World) : Prop := ∃ i : Int, e = .returned (.int .i64 i) /\ decide (0 <= i) = l.any p /\ Below w.heap.size w w'
theorem zbm {α : Type} {p : α -> Bool} {l : List α} {k : Nat} (hk : k < l.length) : (l.take (k + 1)).any p = ((l.take k).any p || p l[k]) := by
 rw [List.take_succ_eq_append_getElem hk, List.any_append]; simp
theorem zcF {α : Type} {p : α -> Bool} {l : List α} {k : Nat} (hk : k < l.length) (h : p l[k] = true) : l.any p = true := List.any_eq_true.2 ⟨_, List.getElem_mem hk, h⟩
def zbg (F : FuncId) : Prop := ∀ args W, Sem.run Tryz.prog (callFunc F args) W = .ok (.enter F args) W
def zhJ {α : Type} (R : Rd α) (F : FuncId) (caps : Array Value) (p : α -> Bool) (l : List α) (w : World) : Prop :=
 ∀ x u W, x ∈ l -> R W W.heap.size [u] x -> Below w.heap.size w W -> Calls Tryz.prog F (#[u] ++ caps) W (zY (.bool (p x)) W)
end Go.Proofs.YtgoapnkdcfcjgaaGreat
