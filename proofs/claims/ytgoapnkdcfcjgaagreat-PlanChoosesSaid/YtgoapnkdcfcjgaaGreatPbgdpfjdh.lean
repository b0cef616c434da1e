/- 1 text of this claim, in build order. -/
import Derived.Test.YtgoapnkdcfcjgaaGreatPpmcefhdi
import Derived.Test.YtgoapnkdcfcjgaaGreatPjkomommp
import Derived.Deep.RegionLaw
import Derived.BigQuiet
set_option linter.unusedVariables false
set_option linter.unusedSimpArgs false
namespace Go.Proofs.YtgoapnkdcfcjgaaGreat
open Go.ChangeShapes Go.WideShapes Go.ChangeAt Go.RowKit Go.Deep
def znU : Value -> Nat
 | .slice _ n _ => n
 | _ => 0
def zqE (N K : Nat) (W0 : World) (o d : Value) (wr : World) : Prop :=
 ∃ (ks : List KeyX) (m : Nat) (xs : List Value), m + ks.length = N /\ zcy wr K d ks /\ (∀ x ∈ ks, ∀ p ∈ x, ∀ s ∈ p, s.size <= maxLen) /\ wr.ownsRow K 137 5 o m xs /\ (∀ g, o.ownBlock = some g -> d.ownBlock ≠ some g) /\ Below K W0 wr
def LsRel (N : Nat) (w0 : World) (l j : Value) (wr : World) : Prop := ∃ i n : Nat, i < N /\ 1 <= n /\ n <= N /\ l = .int .i64 i /\ j = .int .i64 n /\ Qu w0 wr
theorem zkE {α : Type} {l : List α} {i j : Nat} {d : α} (hi : i < l.length) : (l.take i ++ l.drop (i + 1)).getD j d = if j < i then l.getD j d else l.getD (j + 1) d := by
 rw [List.getD_eq_getElem?_getD, List.getD_eq_getElem?_getD, List.getD_eq_getElem?_getD]
 have hl : (l.take i).length = i := by rw [List.length_take]; omega
 by_cases h : j < i
 ·rw [if_pos h, List.getElem?_append_left (by omega), List.getElem?_take, if_pos h]
 ·rw [if_neg h, List.getElem?_append_right (by omega), List.getElem?_drop, hl, show i + 1 + (j - i) = j + 1 by omega]
theorem zcy.cut {w w4 : World} {K n i : Nat} {v' : Value} {ks : List KeyX} {rv : List (List Value)} (hi : i < ks.length) (h1 : rv.length = ks.length)
  (h3 : ∀ j (hj : j < ks.length), zfY (rv.getD j []) ks[j].length /\ RowT w K ((rv.getD j []).getD 0 undef) ks[j]) (hn : n = ks.length - 1) (ho : w4.ownsRow K 137 5 v' n ((rv.take i).flatten ++ (rv.drop (i + 1)).flatten))
  (k1 : zac 23 K w w4) (k2 : zac 9 K w w4) : zcy w4 K v' (ks.take i ++ ks.drop (i + 1)) := by
 have hl : (ks.take i ++ ks.drop (i + 1)).length = n := by rw [List.length_append, List.length_take, List.length_drop]; omega
 have hg : ∀ j (hj : j < (ks.take i ++ ks.drop (i + 1)).length), (ks.take i ++ ks.drop (i + 1))[j] = (ks.take i ++ ks.drop (i + 1)).getD j [] := fun j hj => by rw [List.getD_eq_getElem?_getD, List.getElem?_eq_getElem hj]; rfl
 have hk : ∀ j (hj : j < ks.length), ks.getD j [] = ks[j] := fun j hj => by rw [List.getD_eq_getElem?_getD, List.getElem?_eq_getElem hj]; rfl
 refine ⟨rv.take i ++ rv.drop (i + 1), by rw [List.length_append, List.length_take, List.length_drop, hl]; omega, by rw [hl, List.flatten_append]; exact ho, fun j hj => ?_⟩
 rw [hg j hj, zkE (by omega), zkE hi]
 rw [hl] at hj
 by_cases h : j < i
 ·rw [if_pos h, if_pos h, hk j (by omega)]
  exact ⟨(h3 j (by omega)).1, (h3 j (by omega)).2.keepTR k1 k2⟩
 ·rw [if_neg h, if_neg h, hk (j + 1) (by omega)]
  exact ⟨(h3 (j + 1) (by omega)).1, (h3 (j + 1) (by omega)).2.keepTR k1 k2⟩
theorem zlv {rv : List (List Value)} (h : ∀ x ∈ rv, x.length = 5) (i : Nat) (hi : i <= rv.length) : ∀ (j : Nat) (u : Value), (rv.take i).flatten[j]? = some u -> rv.flatten[j]? = some u := by
 intro j u hu
 have e : rv.flatten = (rv.take i).flatten ++ (rv.drop i).flatten := by rw [<- List.flatten_append, List.take_append_drop]
 have hlt := (List.getElem?_eq_some_iff.1 hu).1
 rw [e, List.getElem?_append_left hlt]; exact hu
theorem zlE {rv : List (List Value)} (h : ∀ x ∈ rv, x.length = 5) (i : Nat) (hi : i <= rv.length) : ∀ (j : Nat) (u : Value), (rv.drop i).flatten[j]? = some u -> rv.flatten[i * 5 + j]? = some u := by
 intro j u hu
 have e : rv.flatten = (rv.take i).flatten ++ (rv.drop i).flatten := by rw [<- List.flatten_append, List.take_append_drop]
 have hl : (rv.take i).flatten.length = i * 5 := by rw [zec (fun x hx => h x (List.mem_of_mem_take hx)), List.length_take, Nat.min_eq_left hi]
 rw [e, List.getElem?_append_right (by omega), hl, show i * 5 + j - i * 5 = j by omega]; exact hu
theorem zhF {M : Int} {fs : List zq} {v : List Int} {k : Nat} : ∀ d ∈ (zan M fs v k).1, ∃ i, i < k /\ d = zae fs v i := by
 induction k with
 | zero => intro d hd; cases hd
 | succ k ih =>
   intro d hd
   unfold zan at hd
   simp only at hd
   split at hd
   ·obtain ⟨i, hi, e⟩ := ih d hd; exact ⟨i, by omega, e⟩
   ·split at hd
    ·obtain ⟨i, hi, e⟩ := ih d hd; exact ⟨i, by omega, e⟩
    ·rcases List.mem_append.1 hd with hd | hd
     ·obtain ⟨i, hi, e⟩ := ih d hd; exact ⟨i, by omega, e⟩
     ·exact ⟨k, by omega, by simpa using hd⟩
theorem zdU {fs : List zq} {v : List Int} (h : ∀ f ∈ fs, ∀ p ∈ f.1, ∀ s ∈ p, s.size <= maxLen) (i : Nat) : ∀ p ∈ zae fs v i, ∀ s ∈ p, s.size <= maxLen := by
 intro p hp s hs
 unfold zae keyR at hp
 obtain ⟨j, -, rfl⟩ := List.mem_map.1 hp
 unfold upS at hs
 have hs := List.mem_of_mem_take hs
 by_cases hi : i < fs.length
 ·rw [show fs.getD i ([], []) = fs[i] by rw [List.getD_eq_getElem?_getD, List.getElem?_eq_getElem hi]; rfl] at hs
  by_cases hj : j < fs[i].1.length
  ·rw [show fs[i].1.getD j [] = fs[i].1[j] by rw [List.getD_eq_getElem?_getD, List.getElem?_eq_getElem hj]; rfl] at hs
   exact h _ (List.getElem_mem hi) _ (List.getElem_mem hj) s hs
  ·rw [List.getD_eq_getElem?_getD, List.getElem?_eq_none (by omega)] at hs; cases hs
 ·rw [show fs.getD i ([], []) = ([], []) by rw [List.getD_eq_getElem?_getD, List.getElem?_eq_none (by omega)]; rfl] at hs
  rw [List.getD_eq_getElem?_getD] at hs
  simp at hs
theorem zls {w : World} {B : Nat} {A : Option Addr} {n c : Nat} {l : List zq} (h : zj 2 za7 w B [.slice A n c] l) : ∀ f ∈ l, ∀ p ∈ f.1, ∀ s ∈ p, s.size <= maxLen := by
 intro f hf p hp s hs
 obtain ⟨i, hi, rfl⟩ := List.mem_iff_getElem.1 hf
 obtain ⟨b, off, AP, cP, AV, cV, -, -, -, -, r0, -⟩ := zbD h hi
 obtain ⟨j, hj, rfl⟩ := List.mem_iff_getElem.1 hp
 obtain ⟨b2, o2, AM, cM, -, -, -, r2⟩ := zbt r0 hj
 obtain ⟨i2, hi2, rfl⟩ := List.mem_iff_getElem.1 hs
 obtain ⟨A3, c3, e, -, -⟩ := r2.open_
 rw [e] at r2
 obtain ⟨b3, o3, -, -, es, -, -, g⟩ := r2.at_ hi2
 exact g.2
theorem ziq (w : World) (x y z u v : Value) (t : TypeId) {N : Nat} (hN : w.heap.size = N) : ∀ j q, [x, y, z, u, v][j]? = some q -> (w.alloc (.cells #[x, y, z, u, v] t)).cell? ((⟨N, 0, none⟩ : Addr).add j) = some q := by
 subst hN
 intro j q hq
 rw [show ((⟨w.heap.size, 0, none⟩ : Addr).add j) = ⟨w.heap.size, j, none⟩ by simp [Addr.add]; exact fun h => h.symm, World.cell?_alloc_at _ _ _ _ rfl]
 rcases j with _ | _ | _ | _ | _ | j <;> simp at hq <;> subst hq <;> rfl
theorem zmr : (Tryz.prog.info? 137).map (fun i => (i.zero, i.size, i.bytes)) = some (some (.agg #[.slice none 0 0, .int .i64 0, .slice none 0 0, .slice none 0 0, .slice none 0 0]), 5, 104) := by kernel_rfl
theorem zlZ : (Tryz.prog.info? 27).map (fun i => (i.zero, i.size, i.bytes)) = some (some (.slice none 0 0), 1, 24) := by kernel_rfl
def RowsP (r : List KeyX × Int) (w : World) (e : Ending) (w' : World) : Prop :=
 ∃ out, e = .returned (.tuple #[out, .int .i64 r.2]) /\ (r.2 = 0 -> ∃ A c, out = .slice A r.1.length c) /\ Below w.heap.size w w'
def RwRel (M : Int) (fs : List zq) (v : List Int) (W0 : World) (d i : Value) (wr : World) : Prop :=
 ∃ k : Nat, k <= fs.length /\ i = .int .i64 k /\ (zan M fs v k).2 = 0 /\ zcy wr W0.heap.size d (zan M fs v k).1 /\ Below W0.heap.size W0 wr
def zqD (fs : List zq) (v : List Int) (key : KeyX) (k : Nat) (W0 w2 : World) (s j : Value) (wr : World) : Prop :=
 ∃ n : Nat, k <= n /\ n <= fs.length /\ j = .int .i64 n /\ ValO wr w2.heap.size W0.heap.size s (zbx fs v key k n) /\ Below w2.heap.size w2 wr
set_option maxRecDepth 100000 in
set_option maxHeartbeats 3200000 in
theorem zeY (A1 A2 A3 : Option Addr) (n1 n2 n3 c1 c2 c3 : Nat) (xf xv : Value) (fs : List zq) (v : List Int) (w : World) (hf : zj 2 za7 w w.heap.size [xf] fs) (hv : zC w w.heap.size [xv] v)
  (hl : ∀ f ∈ fs, v.length <= f.1.length /\ ∀ p ∈ f.1, p.length <= 1000) (hvl : v.length <= 1000) (hfl : fs.length <= 1000) (hm : n2 <= 1000) :
  Calls Tryz.prog 51 #[.agg #[.slice A1 n1 c1, .slice A2 n2 c2, .slice A3 n3 c3], xf, xv] w (RowsP (zan n2 fs v fs.length) w) := by
 obtain ⟨i0, hi0, hz0, hy0, hx0⟩ := info_parts zmr
 obtain ⟨i1, hi1, hz1, hy1, hx1⟩ := info_parts zlZ
 obtain ⟨AF, cF, e, hcF, hmF⟩ := hf.open_
 simp only [List.cons.injEq, and_true] at e
 subst e
 obtain ⟨AV, cV, e, hcV, hmV⟩ := hv.open_
 simp only [List.cons.injEq, and_true] at e
 subst e
 obtain ⟨W0, hW0⟩ : ∃ W, W = w.alloc (.cells #[.slice A1 n1 c1, .slice A2 n2 c2, .slice A3 n3 c3] 26) := ⟨_, rfl⟩
 have g0 : Below w.heap.size w W0 := by rw [hW0]; exact bl1 _ _
 have z0 : W0.heap.size = w.heap.size + 1 := by rw [hW0]; simp
 have y1 : W0.cell? ⟨w.heap.size, 1, none⟩ = some (.slice A2 n2 c2) := by rw [hW0]; simp [go_sem]
 have HW0 := hid hW0; have G0 := hid g0
 have HF := hid (zab.on hf g0); have HV := hid (zm.on hv g0); have HL := hid hl; have HSZ := hid (zls hf)
 clear hW0 g0 hf hv hl
 go_enter Tryz.func51, Tryz.ntmps51
 go_wp2
 rw [<- HW0.out]
 go_loopw [9, 10] (fun d i wr => RwRel n2 fs v W0 d i wr) (fun _ i _ => fs.length - (intOf i).toNat)
 case atStart => exact ⟨0, by omega, rfl, rfl, zcy.nil_ _ _, Below.refl _ _⟩
 case round =>
  obtain ⟨k, hk, rfl, he0, hdone, hb⟩ := hrel
  have hs := hb.size
  have hrl := zm0 n2 fs v k
  have HB := hid hb; have HD := hid hdone
  obtain ⟨rv0, -, ho0, -⟩ := id hdone
  obtain ⟨Ad, cd, rfl⟩ := zu ho0
  clear ho0 rv0 hb hdone
  by_cases hlt : k < fs.length
  ·obtain ⟨b, off, AP, cP, AW, cW, rfl, hbl, x0, x1, r0, r1⟩ := zbD HF.out hlt
   have hst : zan n2 fs v (k + 1) = if (zan n2 fs v k).2 ≠ 0 \/ hadR (zan n2 fs v k).1 (zae fs v k) (zan n2 fs v k).1.length = true then zan n2 fs v k else if (zaQ n2 (zbx fs v (zae fs v k) k fs.length)).2 ≠ 0 then ((zan n2 fs v k).1, (zaQ n2 (zbx fs v (zae fs v k) k fs.length)).2) else ((zan n2 fs v k).1 ++ [zae fs v k], 0) := rfl
   have herr := fun h => znQ (M := n2) (fs := fs) (v := v) (k := k + 1) (n := fs.length) h hlt
   have hkat : zae fs v k = keyR fs[k].1 v v.length := by unfold zae; rw [List.getD_eq_getElem?_getD, List.getElem?_eq_getElem hlt]; rfl
   obtain ⟨hl1, hl2⟩ := HL.out _ (List.getElem_mem hlt)
   have g0' := zc HB.out hbl x0
   have g1' := zc HB.out hbl x1
   have HKY := hid (zgi AP AW cP fs[k].2.length cW fs[k].1 (.slice AV v.length cV) v wr (zB.on r0 HB.out) (zm.on HV.out HB.out) hl1 hvl hl2)
   rw [<- hkat] at HKY
   have hkl : (zae fs v k).length = v.length := by rw [hkat, zks]
   generalize fs[k].1.length = pl at *
   generalize fs[k].2.length = wl at *
   generalize hkey : zae fs v k = key at *
   generalize hrr : zan n2 fs v k = rr at *
   obtain ⟨ds, er⟩ := rr
   obtain rfl : er = 0 := he0
   simp only [ne_eq, not_true_eq_false, false_or] at hst
   simp only at hrl HD
   have HST := hid hst; have HER := hid herr; have HRR := hid hrr; have HKK := hid hkey; have HKLN := hid hkl
   clear hkl x0 x1 r0 r1 hst herr hkat hrr hkey
   go_wp2_with fail
   (with_reducible refine HKY.out.mono ?_)
   rintro e w2 ⟨u, rfl, hu, hb2⟩
   have hs2 := hb2.size
   have hu := RowT.ofL hu
   obtain ⟨us0, -, uo, -⟩ := id hu
   obtain ⟨Au, cu, rfl⟩ := zu uo
   have HU := hid hu; have HB2 := hid hb2
   have HD2 := hid (HD.out.on hb2)
   have HBW := hid (HB.out.trans (hb2.mono hs))
   clear hu hb2 uo us0 g0' g1' HD
   have HKS := hid (fun (d : KeyX) (hd : d ∈ ds) (W : World) (A : Option Addr) (c : Nat) (hr : RowT W W0.heap.size (.slice A d.length c) d) => hr.toL.rows (by
    have hd' : d ∈ (zan n2 fs v k).1 := by rw [HRR.out]; exact hd
    obtain ⟨i, -, e⟩ := zhF d hd'
    rw [e]; exact zdU HSZ.out i))
   have HKZ := hid (fun (W : World) (A : Option Addr) (n c : Nat) (hr : RowT W W0.heap.size (.slice A n c) key) => hr.toL.rows (by rw [<- HKK.out]; exact zdU HSZ.out k))
   have HU0 := hid (HU.out.less hs)
   go_wp2
   go_loopw [12, 13] (fun hd j wr => ∃ n : Nat, n <= ds.length /\ j = .int .i64 n /\ hd = .bool (hadR ds key n) /\ Qu w2 wr) (fun _ j _ => ds.length - (intOf j).toNat)
   case atStart => exact ⟨0, by omega, rfl, rfl, Qu.refl _⟩
   case round =>
    obtain ⟨wo, rfl⟩ : ∃ wo : World, wo = wr := ⟨_, rfl⟩
    obtain ⟨n, hn, rfl, rfl, hq⟩ := hrel
    by_cases hlt2 : n < ds.length
    ·obtain ⟨g, cp, A, c, m, B1, m1, d1, B2, m2, d2, B3, m3, d3, eD, hcp, hcpm, hgK, hgs, x0, -, -, -, -, hrt⟩ := HD2.out.at_ hlt2
     injection eD with eD1 _ eD3
     subst eD1; subst eD3
     have x0' := (hq.cell ⟨g, n * 5, none⟩).trans x0
     have hst2 := zoq (k := key) hlt2
     have HCM := hid (zei (.slice A ds[n].length c) (.slice Au key.length cu) ds[n] key wo (HKS.out _ (List.getElem_mem hlt2) wo A c (hrt.on (hq.below _))) (HKZ.out wo Au key.length cu (HU0.out.on (hq.below _))))
     generalize hadR ds key n = bn at *
     generalize ds[n].length = dl at *
     generalize zbT ds[n] key = cm at *
     have HS2 := hid hst2
     clear x0 hst2 hrt
     cases bn
     ·go_wp2_with fail
      (with_reducible refine HCM.out.mono ?_)
      rintro e w3 ⟨rfl, hq3⟩
      have HQ3 := hid (hq.trans hq3)
      clear hq3 x0'
      by_cases hcm : cm = 0
      ·subst hcm
       go_wp2
       go_roundw
       case rel => exact ⟨n + 1, by omega, by go_num, by rw [HS2.out]; simp, HQ3.out⟩
       case measure => simp [intOf]; omega
      ·have hcm' : (cm == 0) = false := by simpa using hcm
       go_wp2
       go_roundw
       case rel => exact ⟨n + 1, by omega, by go_num, by rw [HS2.out]; simp [hcm], HQ3.out⟩
       case measure => simp [intOf]; omega
     ·go_wp2
      go_roundw
      case rel => exact ⟨n + 1, by omega, by go_num, by rw [HS2.out]; simp, hq⟩
      case measure => simp [intOf]; omega
    ·obtain rfl : n = ds.length := by omega
     have hst := HST.out
     have HDo := hid (HD2.out.on (hq.below _))
     have HBo := hid (HBW.out.trans (hq.below _))
     cases hhad : hadR ds key ds.length
     case true =>
      rw [if_pos hhad] at hst
      have HS3 := hid hst
      clear hst hhad
      go_wp2
      go_roundw
      case rel => exact ⟨k + 1, by omega, by go_num, by rw [HS3.out], by rw [HS3.out]; exact HDo.out, HBo.out⟩
      case measure => simp [intOf]; omega
     case false =>
      rw [if_neg (by rw [hhad]; simp)] at hst
      have HS3 := hid hst
      have HUo := hid (HU0.out.on (hq.below _))
      clear hst hhad
      have hso : W0.heap.size <= wo.heap.size := HBo.out.size
      go_wp2
      go_loopw [14, 15] (fun s j wr => zqD fs v key k W0 wo s j wr) (fun _ j _ => fs.length - (intOf j).toNat)
      case atStart => exact ⟨k, by omega, by omega, rfl, by rw [zjQ _ _ _ _ _ (Nat.le_refl _)]; exact ValO.nil_ _ _ _, Below.refl _ _⟩
      case round =>
           obtain ⟨wv, rfl⟩ : ∃ wv : World, wv = wr := ⟨_, rfl⟩
           obtain ⟨n, hkn, hn, rfl, hval, hbv⟩ := hrel
           have HVA := hid hval
           have HBV := hid (HBo.out.trans (hbv.mono hso)); have HBV0 := hid hbv
           have hsv := hbv.size
           obtain ⟨us0, -, uo, -⟩ := id hval
           obtain ⟨As, cs, rfl⟩ := zu uo
           have hvll := zn6 fs v key k n
           clear uo us0 hval hbv
           by_cases hlt3 : n < fs.length
           ·obtain ⟨b3, off3, AP3, cP3, AW3, cW3, eA, hbl3, x3, x4, r3, r4⟩ := zbD HF.out hlt3
            injection eA with eA
            injection eA with eA1 eA2 _
            subst eA1; subst eA2
            obtain ⟨hl3, hl4⟩ := HL.out _ (List.getElem_mem hlt3)
            have g3' := zc HBV.out hbl3 x3
            have g4' := zc HBV.out hbl3 x4
            have hk3 : zae fs v n = keyR fs[n].1 v v.length := by unfold zae; rw [List.getD_eq_getElem?_getD, List.getElem?_eq_getElem hlt3]; rfl
            have HK3 := hid (zgi AP3 AW3 cP3 fs[n].2.length cW3 fs[n].1 (.slice AV v.length cV) v wv (zB.on r3 HBV.out) (zm.on HV.out HBV.out) hl3 hvl hl4)
            rw [<- hk3] at HK3
            have hva : zbx fs v key k (n + 1) = if k <= n /\ zbT (zae fs v n) key = 0 then zbx fs v key k n ++ [fs[n].2] else zbx fs v key k n := by
             show (if k <= n /\ zbT (zae fs v n) key = 0 then zbx fs v key k n ++ [(fs.getD n ([], [])).2] else zbx fs v key k n) = _
             rw [show fs.getD n ([], []) = fs[n] by rw [List.getD_eq_getElem?_getD, List.getElem?_eq_getElem hlt3]; rfl]
            have HSL := hid (show Sl W0 W0.heap.size (.slice AW3 fs[n].2.length cW3) (zk fs[n].2) from zj.sl (Value.int .i64) (fun es x hx => hx.1) r4)
            have HKZ3 := hid (fun (W : World) (A : Option Addr) (m c : Nat) (hr : RowT W W0.heap.size (.slice A m c) (zae fs v n)) => hr.toL.rows (zdU HSZ.out n))
            generalize fs[n].1.length = pl3 at *
            generalize fs[n].2.length = wl3 at *
            generalize fs[n].2 = val3 at *
            generalize zae fs v n = key3 at *
            generalize zbx fs v key k n = vl at *
            have HVA2 := hid hva
            clear x3 x4 r3 r4 hk3 hva
            go_wp2_with fail
            (with_reducible refine HK3.out.mono ?_)
            rintro e w3 ⟨u3, rfl, hu3, hb3⟩
            have hu3 := RowT.ofL hu3
            obtain ⟨us3, -, uo3, -⟩ := id hu3
            obtain ⟨Au3, cu3, rfl⟩ := zu uo3
            have hs3 := hb3.size
            have HU3 := hid hu3; have HB3 := hid hb3
            have HBW3 := hid (HBV.out.trans (hb3.mono HBV.out.size))
            have HCM3 := hid (zei (.slice Au3 key3.length cu3) (.slice Au key.length cu) key3 key w3 (HKZ3.out w3 Au3 key3.length cu3 (HU3.out.less HBV.out.size)) (HKZ.out w3 Au key.length cu ((HUo.out.on HBV0.out).on HB3.out)))
            generalize zbT key3 key = cm at *
            generalize key3.length = kl3 at *
            clear hu3 hb3 uo3 us3 g3'
            go_wp2_with fail
            (with_reducible refine HCM3.out.mono ?_)
            rintro e w4 ⟨rfl, hq4⟩
            have HB4 := hid (HBW3.out.trans (hq4.below _))
            have HBv4 := hid (HB3.out.trans (hq4.below w3.heap.size |>.mono HB3.out.size))
            have g4w := (hq4.cell ⟨b, off + n * 2 + 1, none⟩).trans (zc HB3.out (by omega) g4')
            have HQ4 := hid hq4
            have hs4 := HBv4.out.size
            clear hq4 g4'
            by_cases hcm : cm = 0
            ·subst hcm
             have hva := HVA2.out
             rw [if_pos ⟨hkn, rfl⟩] at hva
             have HVA3 := hid hva
             clear hva
             obtain ⟨us, u1, u2, u3⟩ := HVA.out.on HBv4.out (by omega)
             have U3 := hid u3
             clear u3
             go_wp2_with (at_builtin; refine zr ?_)
             refine zar ?_
             refine zN (.tmp 69) (.tmp 75) 24 24 rfl rfl wo.heap.size 27 i1 (.slice none 0 0) 1 24 Tryz.underlying24 hi1 hz1 hy1 hx1 rfl (by decide) _ vl.length us rfl (u2.alloc _) (.slice (some ⟨w4.heap.size, 0, none⟩) 1 1) 1 [_] rfl (Src.ofSlice _ Tryz.underlying24 _ 1 1 _ rfl (zG _ _ _ rfl) (by simp; rfl)) (by simp only [maxLen]; omega) (by omega) (by rw [World.size_alloc]; omega) ?_
             intro v' w5 ho5 hg5 hb5 hat5
             have hb45 : Below wo.heap.size w4 w5 := (((Below.refl wo.heap.size w4).alloc (by omega) _)).trans hb5
             have hvo : ValO w5 wo.heap.size W0.heap.size v' (vl ++ [val3]) := ValO.app (u := .slice AW3 wl3 cW3) rfl u1 (fun j hj => (U3.out j hj).below ((Below.refl W0.heap.size w4).alloc (by omega) _)) (((HSL.out.below (HB4.out)).below ((Below.refl W0.heap.size w4).alloc (by omega) _))) ho5 (hb5.mono hso)
             have HN5 := hid (show zqD fs v key k W0 wo v' (.int .i64 ((n : Int) + 1)) w5 from ⟨n + 1, by omega, by omega, by go_num, by rw [HVA3.out]; exact hvo, (HBV0.out.trans (HBv4.out.mono hsv)).trans hb45⟩)
             clear ho5 hg5 hb5 hat5 hb45 hvo u2
             go_wp2
             go_roundw
             case rel => exact HN5.out
             case measure => simp [intOf]; omega
            ·have hva := HVA2.out
             rw [if_neg (fun h => hcm h.2)] at hva
             have hcm' : (cm == 0) = false := by simpa using hcm
             have HN5 := hid (show zqD fs v key k W0 wo (.slice As vl.length cs) (.int .i64 ((n : Int) + 1)) w4 from ⟨n + 1, by omega, by omega, by go_num, by rw [hva]; exact HVA.out.on HBv4.out (by omega), HBV0.out.trans (HBv4.out.mono hsv)⟩)
             clear hva hcm
             go_wp2
             go_roundw
             case rel => exact HN5.out
             case measure => simp [intOf]; omega
           ·obtain rfl : n = fs.length := by omega
            have hy1 := zc HBV.out (by omega) y1
            have HFO := hid (ziY n2 (.slice As (zbx fs v key k fs.length).length cs) (zbx fs v key k fs.length) wv (HVA.out.rows (by have := HBV.out.size; omega)) (by omega))
            generalize zaQ n2 (zbx fs v key k fs.length) = res at *
            obtain ⟨cell, er⟩ := res
            simp only at HS3
            generalize (zbx fs v key k fs.length).length = vll at *
            unfold zfA at HFO
            simp only at HFO
            go_wp2_with fail
            (with_reducible refine HFO.out.mono ?_)
            rintro e w3 ⟨vc, rfl, hcr, hb3⟩
            obtain ⟨v1, v2, v3, rfl, q1, q2, q3⟩ := hcr
            obtain ⟨B1, d1, rfl, -⟩ := q1
            obtain ⟨B2, d2, rfl, -⟩ := q2
            obtain ⟨B3, d3, rfl, -⟩ := q3
            have hs3 := hb3.size
            have HB3 := hid hb3
            clear hb3 hy1
            generalize (zk cell.s).length = l1 at *
            generalize (zk cell.lo).length = l2 at *
            generalize (zk cell.hi).length = l3 at *
            generalize cell.n = cn at *
            obtain ⟨W5, hW5⟩ : ∃ W, W = w3.alloc (.cells #[.int .i64 cn, .slice B1 l1 d1, .slice B2 l2 d2, .slice B3 l3 d3] 125) := ⟨_, rfl⟩
            have b5 : Below w3.heap.size w3 W5 := by rw [hW5]; exact bl1 _ _
            have z5 : W5.heap.size = w3.heap.size + 1 := by rw [hW5]; simp
            have t0 : W5.cell? ⟨w3.heap.size, 0, none⟩ = some (.int .i64 cn) := by rw [hW5]; simp [go_sem]
            have t1 : W5.cell? ⟨w3.heap.size, 1, none⟩ = some (.slice B1 l1 d1) := by rw [hW5]; simp [go_sem]
            have t2 : W5.cell? ⟨w3.heap.size, 2, none⟩ = some (.slice B2 l2 d2) := by rw [hW5]; simp [go_sem]
            have t3 : W5.cell? ⟨w3.heap.size, 3, none⟩ = some (.slice B3 l3 d3) := by rw [hW5]; simp [go_sem]
            have HBo5 := hid (HB3.out.trans (b5.mono hs3))
            have HB05 := hid (HBV.out.trans (HBo5.out.mono HBV.out.size))
            have HW5 := hid hW5
            clear hW5 b5
            go_upto_region 21 with (fail)
            rw [<- HW5.out]
            by_cases her : er = 0
            ·subst her
             have hst9 := HS3.out
             rw [if_neg (by simp)] at hst9
             have HS9 := hid hst9
             clear hst9
             have hd5 := ((HDo.out.on HBV0.out).on HBo5.out)
             obtain ⟨rv, u1, u2, u3⟩ := hd5
             have HUR := hid ((HUo.out.on HBV0.out).on HBo5.out)
             have U1 := hid u1; have U3 := hid u3
             clear u1 u3
             have hs5 := HB05.out.size
             go_wp2_with (at_builtin; refine zr ?_)
             refine zar ?_
             refine zN (.tmp 88) (.tmp 92) 72 72 rfl rfl W0.heap.size 137 i0 (.agg #[.slice none 0 0, .int .i64 0, .slice none 0 0, .slice none 0 0, .slice none 0 0]) 5 104 Tryz.underlying72 hi0 hz0 hy0 hx0 rfl (by decide) _ ds.length rv.flatten rfl (u2.alloc _) (.slice (some ⟨w3.heap.size + 1, 0, none⟩) 1 1) 1 [.slice Au key.length cu, .int .i64 cn, .slice B1 l1 d1, .slice B2 l2 d2, .slice B3 l3 d3] rfl (Src.ofSlice _ Tryz.underlying72 _ 1 1 _ rfl (ziq _ _ _ _ _ _ _ z5) (by simp; exact ⟨rfl, rfl, rfl, rfl, rfl⟩)) (by simp only [maxLen]; omega) (by omega) (by rw [World.size_alloc]; omega) ?_
             intro v' w6 ho6 hg6 hb6 hat6
             have hd6 : zcy w6 W0.heap.size v' (ds ++ [key]) := zcy.app (x := [.slice Au key.length cu, .int .i64 cn, .slice B1 l1 d1, .slice B2 l2 d2, .slice B3 l3 d3]) rfl U1.out (u2.alloc _) (fun j hj => ⟨(U3.out j hj).1, (U3.out j hj).2.on (bl1 _ _)⟩) ⟨_, _, _, _, _, _, _, _, _, _, _, _, rfl⟩ (HUR.out.on (bl1 _ _)) ho6 hg6
             have HN6 := hid (show RwRel n2 fs v W0 v' (.int .i64 ((k : Int) + 1)) w6 from ⟨k + 1, by omega, by go_num, by rw [HS9.out], by rw [HS9.out]; exact hd6, (HB05.out.alloc hs5 _).trans hb6⟩)
             clear ho6 hg6 hb6 hat6 hd6 u2
             go_wp2
             go_roundw
             case rel => exact HN6.out
             case measure => simp [intOf]; omega
            ·have hst9 := HS3.out
             rw [if_pos her] at hst9
             have her' : (er != 0) = true := by simpa using her
             have HS9 := hid hst9; have HNE := hid her
             clear hst9 her
             go_wp2
             go_ret2
             have hfin := HER.out (by rw [HS9.out]; exact HNE.out)
             rw [hfin, HS9.out]
             exact ⟨_, rfl, fun h => absurd h HNE.out, G0.out.trans (HB05.out.mono (by omega))⟩
  ·obtain rfl : k = fs.length := by omega
   have hmem : ∀ x ∈ (zan n2 fs v fs.length).1, ∀ p ∈ x, ∀ s ∈ p, s.size <= maxLen := fun x hx => by
    obtain ⟨i, -, e⟩ := zhF x hx
    rw [e]; exact zdU HSZ.out i
   generalize zan n2 fs v fs.length = rr at *
   obtain ⟨ks0, er⟩ := rr
   obtain rfl : er = 0 := he0
   have hdone : zcy wr W0.heap.size (.slice Ad ks0.length cd) ks0 := HD.out
   have hks : ks0.length <= 1000 := by have : ks0.length <= fs.length := hrl; omega
   obtain ⟨wr0, rfl⟩ : ∃ wr0 : World, wr0 = wr := ⟨_, rfl⟩
   have HR0 := hid (show zqE ks0.length W0.heap.size W0 (.slice none 0 0) (.slice Ad ks0.length cd) wr0 from ⟨ks0, 0, [], by omega, hdone, hmem, World.ownsRow_nil _ _ _ _, fun g hg => by simp [Value.ownBlock] at hg, HB.out⟩)
   clear hdone hmem HD hrl
   go_wp2
   go_loopw [8, 9] (fun o d wr => zqE ks0.length W0.heap.size W0 o d wr) (fun _ d _ => znU d)
   case atStart => exact HR0.out
   case round =>
    obtain ⟨wo, rfl⟩ : ∃ wo : World, wo = wr := ⟨_, rfl⟩
    obtain ⟨ks, m, xs, hsum, hdone, hsz, hout, hne, hbo⟩ := hrel
    obtain ⟨rv, h1, h2, h3⟩ := id hdone
    obtain ⟨Ad2, cd2, rfl⟩ := zu h2
    obtain ⟨Ao2, co2, rfl⟩ := zu hout
    have hso := hbo.size
    have HD2 := hid hdone; have HZ2 := hid hsz; have HOU := hid hout; have HNE := hid hne; have HBo := hid hbo; have H1 := hid h1; have H3 := hid h3; have H2 := hid h2
    clear hdone hsz hout hne hbo h1 h2 h3
    by_cases hpos : 0 < ks.length
    ·go_wp2
     go_loopw [19, 20] (fun l j wr => LsRel ks.length wo l j wr) (fun _ j _ => ks.length - (intOf j).toNat)
     case atStart => exact ⟨0, 1, hpos, by omega, by omega, rfl, rfl, Qu.refl _⟩
     case round =>
      obtain ⟨wi, rfl⟩ : ∃ wi : World, wi = wr := ⟨_, rfl⟩
      obtain ⟨i, n, hi, hn1, hn, rfl, rfl, hq⟩ := hrel
      by_cases hlt2 : n < ks.length
      ·obtain ⟨g, cp, A, c, mm, B1, m1, d1, B2, m2, d2, B3, m3, d3, eD, hcp, hcpm, hgK, hgs, x0, -, -, -, -, hrt⟩ := HD2.out.at_ hlt2
       obtain ⟨g', cp', A', c', mm', B1', m1', d1', B2', m2', d2', B3', m3', d3', eD', -, -, -, -, x0', -, -, -, -, hrt'⟩ := HD2.out.at_ hi
       injection eD with eD1 _ eD3
       subst eD1; subst eD3
       injection eD' with eD1 _ eD4
       subst eD4
       injection eD1 with eD1
       injection eD1 with eD1 _ _
       subst eD1
       have y0 := (hq.cell ⟨g, n * 5, none⟩).trans x0
       have y0' := (hq.cell ⟨g, i * 5, none⟩).trans x0'
       have HCM := hid (fun W (hqq : Qu wi W) => by
        have h4 := hq.trans hqq
        exact zei (.slice A ks[n].length c) (.slice A' ks[i].length c') ks[n] ks[i] W ((hrt.on (h4.below _)).toL.rows (HZ2.out _ (List.getElem_mem hlt2))) ((hrt'.on (h4.below _)).toL.rows (HZ2.out _ (List.getElem_mem hi))))
       generalize ks[n].length = q1 at *
       generalize ks[i].length = q2 at *
       generalize zbT ks[n] ks[i] = cm at *
       clear x0 x0' hrt hrt'
       go_wp2
       go_quiet (first | (go_at_call 78; exact Calls.quiet_of (HCM.out _ ⟨_, rfl⟩)))
       clear y0 y0'
       by_cases hcm : cm < 0
       ·go_wp2
        go_roundw
        case rel => exact ⟨n, n + 1, by omega, by omega, by omega, rfl, by go_num, hq.drewN _⟩
        case measure => simp [intOf]; omega
       ·go_wp2
        go_roundw
        case rel => exact ⟨i, n + 1, by omega, by omega, by omega, rfl, by go_num, hq.drewN _⟩
        case measure => simp [intOf]; omega
      ·obtain rfl : n = ks.length := by omega
       obtain ⟨g, cp, A, c, mm, B1, m1, d1, B2, m2, d2, B3, m3, d3, eD, hcp, hcpm, hgK, hgs, x0, x1, x2, x3, x4, hrt⟩ := HD2.out.at_ hi
       injection eD with eD1 _ eD3
       subst eD1; subst eD3
       have y0 := (hq.cell ⟨g, i * 5, none⟩).trans x0
       have y1 := (hq.cell ⟨g, i * 5 + 1, none⟩).trans x1
       have y2 := (hq.cell ⟨g, i * 5 + 2, none⟩).trans x2
       have y3 := (hq.cell ⟨g, i * 5 + 3, none⟩).trans x3
       have y4 := (hq.cell ⟨g, i * 5 + 4, none⟩).trans x4
       have ho2 := zx HOU.out (hq.below _)
       have hsi : wi.heap.size = wo.heap.size := hq.size
       generalize ks[i].length = q1 at *
       clear x0 x1 x2 x3 x4 hrt
       go_wp2_with (at_builtin; refine zr ?_)
       refine zar ?_
       refine zN (.tmp 116) (.tmp 121) 72 72 rfl rfl W0.heap.size 137 i0 (.agg #[.slice none 0 0, .int .i64 0, .slice none 0 0, .slice none 0 0, .slice none 0 0]) 5 104 Tryz.underlying72 hi0 hz0 hy0 hx0 rfl (by decide) _ m xs rfl (ho2.alloc _) (.slice (some ⟨wo.heap.size, 0, none⟩) 1 1) 1 [.slice A q1 c, .int .i64 mm, .slice B1 m1 d1, .slice B2 m2 d2, .slice B3 m3 d3] rfl (Src.ofSlice _ Tryz.underlying72 _ 1 1 _ rfl (ziq _ _ _ _ _ _ _ hsi) (by simp; exact ⟨rfl, rfl, rfl, rfl, rfl⟩)) (by simp only [maxLen]; omega) (by omega) (by rw [World.size_alloc]; omega) ?_
       intro v' w6 ho6 hg6 hb6 hat6
       have hb06 : Below W0.heap.size wo w6 := ((hq.below _).trans ((Below.refl W0.heap.size wi).alloc (by omega) _)).trans hb6
       have hs6 : wo.heap.size + 1 <= w6.heap.size := by have := hg6.size; rw [World.size_alloc] at this; omega
       have hfar : ∀ b, b < wo.heap.size -> (Value.slice Ao2 m co2).ownBlock ≠ some b -> w6.heap[b]? = wo.heap[b]? := fun b hb hn =>
        (hg6.block b (by rw [World.size_alloc]; omega) (fun e => hn e.symm)).trans (((bl1 wi _).block b (by omega)).trans ((hq.below wo.heap.size).block b hb))
       have hgo : (Value.slice Ao2 m co2).ownBlock ≠ some g := fun e => HNE.out g e rfl
       have hd6 : w6.ownsRow W0.heap.size 137 5 (.slice (some ⟨g, 0, none⟩) ks.length cd2) ks.length rv.flatten := zo H2.out (fun b hb => by injection hb with hb; rw [<- hb]; exact hfar g hgs hgo)
       have hv'lt : ∀ b, v'.ownBlock = some b -> b < w6.heap.size := fun b hb => (ho6.lt b hb).2
       have k61 : zac 23 W0.heap.size wo w6 := ((zac.of_below (hq.below wo.heap.size)).trans (zac.of_below (bl1 wi _))).trans (zac.of_grown hg6 (ho2.alloc _) (by decide))
       have k62 : zac 9 W0.heap.size wo w6 := ((zac.of_below (hq.below wo.heap.size)).trans (zac.of_below (bl1 wi _))).trans (zac.of_grown hg6 (ho2.alloc _) (by decide))
       have h5 := rows5 H1.out (fun j hj => (H3.out j hj).1)
       have h5o := zpo H1.out (fun j hj => (H3.out j hj).1)
       have hc6 := fun j (hj : j < ks.length * 5) => hd6.cellAt (g := g) j hj
       have HO6 := hid ho6; have HB06 := hid hb06; have HD6 := hid hd6; have HV6 := hid hv'lt; have K61 := hid k61; have K62 := hid k62; have H5 := hid h5; have H5O := hid h5o; have HC6 := hid hc6; have HRL := hid H1.out
       have hcd5 : cd2 <= 9223372036854775807 := by unfold maxLen at hcpm; exact hcpm
       clear ho6 hg6 hb6 hat6 hb06 hfar hd6 hv'lt k61 k62 h5 h5o hc6 y0 y1 y2 y3 y4 ho2
       have hrvl := HRL.out
       have hsrc1 : Src Tryz.prog 5 72 (.slice (some ⟨g, 0, none⟩) i cd2) i (rv.take i).flatten w6 := by
        have hl : (rv.take i).flatten.length = i * 5 := by rw [zec (fun x hx => H5.out x (List.mem_of_mem_take hx)), List.length_take, Nat.min_eq_left (by omega)]
        refine Src.ofSlice _ Tryz.underlying72 ⟨g, 0, none⟩ i cd2 _ hl ?_ (fun u hu => ?_)
        ·intro j u hu
         have hjl := (List.getElem?_eq_some_iff.1 hu).1
         rw [show (⟨g, 0, none⟩ : Addr).add j = ⟨g, j, none⟩ by unfold Addr.add; split <;> simp_all, HC6.out j (by omega)]
         exact zlv H5.out i (by omega) j u hu
        ·obtain ⟨x, hx, hu⟩ := List.mem_flatten.1 hu
         exact H5O.out x (List.mem_of_mem_take hx) u hu
       have HS1 := hid hsrc1
       clear hsrc1
       go_wp2_with (at_builtin; refine zr ?_)
       refine zar ?_
       refine zN (.tmp 123) (.tmp 126) 72 72 rfl rfl W0.heap.size 137 i0 (.agg #[.slice none 0 0, .int .i64 0, .slice none 0 0, .slice none 0 0, .slice none 0 0]) 5 104 Tryz.underlying72 hi0 hz0 hy0 hx0 rfl (by decide) (.slice none 0 0) 0 [] rfl (World.ownsRow_nil _ _ _ _) (.slice (some ⟨g, 0, none⟩) i cd2) i (rv.take i).flatten rfl HS1.out (by simp only [maxLen]; omega) (by omega) (by have := HB06.out.size; omega) ?_
       intro v7 w7 ho7 hg7 hb7 hat7
       simp only [Nat.zero_add, List.nil_append] at ho7
       obtain ⟨A7, c7, rfl⟩ := zu ho7
       have hs7 := hg7.size
       have hC7 : ∀ b, b < w6.heap.size -> w7.heap[b]? = w6.heap[b]? := fun b hb => hg7.block b hb (fun e => by simp [Value.ownBlock] at e)
       have hn7 : ∀ b, b < w6.heap.size -> (Value.slice A7 i c7).ownBlock ≠ some b := fun b hb e => by
        rcases hat7 with h | h
        ·rw [h] at e; simp [Value.ownBlock] at e
        ·rw [h] at e; injection e with e; omega
       have hgs6 : g < w6.heap.size := by omega
       have HSR : Hid (∀ (o : Nat) (c : Nat), (i + 1 < ks.length -> o = (i + 1) * 5) -> Src Tryz.prog 5 72 (.slice (some ⟨g, o, none⟩) (ks.length - (i + 1)) c) (ks.length - (i + 1)) (rv.drop (i + 1)).flatten w7) := hid (fun o c ho => by
        have hl : (rv.drop (i + 1)).flatten.length = (ks.length - (i + 1)) * 5 := by rw [zec (fun x hx => H5.out x (List.mem_of_mem_drop hx)), List.length_drop, hrvl]
        refine Src.ofSlice _ Tryz.underlying72 ⟨g, o, none⟩ _ c _ hl ?_ (fun u hu => ?_)
        ·intro j u hu
         have hjl := (List.getElem?_eq_some_iff.1 hu).1
         rw [hl] at hjl
         have ho := ho (by omega)
         subst ho
         have hc := (World.cell?_of_block (a := ⟨g, (i + 1) * 5 + j, none⟩) (hC7 g hgs6)).trans (HC6.out ((i + 1) * 5 + j) (by omega))
         rw [show (⟨g, (i + 1) * 5, none⟩ : Addr).add j = ⟨g, (i + 1) * 5 + j, none⟩ by unfold Addr.add; split <;> simp_all, hc]
         exact zlE H5.out (i + 1) (by omega) j u hu
        ·obtain ⟨x, hx, hu⟩ := List.mem_flatten.1 hu
         exact H5O.out x (List.mem_of_mem_drop hx) u hu)
       have HO7 := hid ho7; have HC7 := hid hC7; have HN7 := hid hn7
       have HB07 := hid (HBo.out.trans (HB06.out.trans hb7))
       have K71 := hid (K61.out.trans (zac.of_below (show Below w6.heap.size w6 w7 from (Below.refl _ _).grown hg7 (Nat.le_refl _) (fun j hj => by simp [Value.ownBlock] at hj))))
       have K72 := hid (K62.out.trans (zac.of_below (show Below w6.heap.size w6 w7 from (Below.refl _ _).grown hg7 (Nat.le_refl _) (fun j hj => by simp [Value.ownBlock] at hj))))
       have hW07 : W0.heap.size <= w7.heap.size := HB07.out.size
       clear ho7 hC7 hn7 hg7 hb7 hat7
       have HEND : Hid (∀ v8 w8, w8.ownsRow W0.heap.size 137 5 v8 (i + (ks.length - (i + 1))) ((rv.take i).flatten ++ (rv.drop (i + 1)).flatten) -> w7.grownBy w8 (Value.slice A7 i c7).ownBlock -> Below W0.heap.size w7 w8 -> (v8.ownBlock = (Value.slice A7 i c7).ownBlock \/ v8.ownBlock = some w7.heap.size) -> zqE ks0.length W0.heap.size W0 v' v8 w8 /\ ∃ A8 c8, v8 = .slice A8 (i + (ks.length - (i + 1))) c8) := hid (fun v8 w8 ho8 hg8 hb8 hat8 => by
        have k1 : zac 23 W0.heap.size w7 w8 := zac.of_grown hg8 HO7.out (by decide)
        have k2 : zac 9 W0.heap.size w7 w8 := zac.of_grown hg8 HO7.out (by decide)
        refine ⟨⟨ks.take i ++ ks.drop (i + 1), m + 1, _, ?_, zcy.cut hi HRL.out H3.out (by omega) ho8 (K71.out.trans k1) (K72.out.trans k2), fun x hx => ?_, zo HO6.out (fun b hb => ?_), fun b hb e => ?_, HB07.out.trans hb8⟩, zu ho8⟩
        ·rw [List.length_append, List.length_take, List.length_drop]; omega
        ·rcases List.mem_append.1 hx with hx | hx
         ·exact HZ2.out x (List.mem_of_mem_take hx)
         ·exact HZ2.out x (List.mem_of_mem_drop hx)
        ·have hlt := HV6.out b hb
         exact (hg8.block b (by omega) (fun e => HN7.out b hlt e.symm)).trans (HC7.out b hlt)
        ·have hlt := HV6.out b hb
         rcases hat8 with h | h
         ·exact HN7.out b hlt (h ▸ e)
         ·rw [h] at e; injection e with e; omega)
       have hin1 : (i : Int) + 1 <= (ks.length : Int) := by omega
       have hcp' : (ks.length : Int) <= (cd2 : Int) := by omega
       have hi1w : IntKind.i64.wrap ((i : Int) + 1) = (i : Int) + 1 := IntWalk.i64_in _ (by omega)
       have htn : ((i : Int) + 1).toNat = i + 1 := by omega
       by_cases hce : cd2 = i + 1
       ·go_wp2_with (at_builtin; refine zr ?_)
        refine zar ?_
        refine zN (.tmp 128) (.tmp 132) 72 72 rfl rfl W0.heap.size 137 i0 (.agg #[.slice none 0 0, .int .i64 0, .slice none 0 0, .slice none 0 0, .slice none 0 0]) 5 104 Tryz.underlying72 hi0 hz0 hy0 hx0 rfl (by decide) (.slice A7 i c7) i (rv.take i).flatten rfl HO7.out (.slice (some ⟨g, 0, none⟩) (ks.length - (i + 1)) 0) (ks.length - (i + 1)) (rv.drop (i + 1)).flatten rfl (HSR.out 0 0 (fun h => by omega)) (by simp only [maxLen]; omega) (by omega) hW07 ?_
        intro v8 w8 ho8 hg8 hb8 hat8
        obtain ⟨hrel8, A8, c8, rfl⟩ := HEND.out v8 w8 ho8 hg8 hb8 hat8
        have HREL := hid hrel8
        clear hrel8 ho8 hg8 hb8 hat8
        go_wp2
        go_roundw
        case rel => exact HREL.out
        case measure => simp [znU]; omega
       ·go_wp2_with (at_builtin; refine zr ?_)
        refine zar ?_
        refine zN (.tmp 128) (.tmp 132) 72 72 rfl rfl W0.heap.size 137 i0 (.agg #[.slice none 0 0, .int .i64 0, .slice none 0 0, .slice none 0 0, .slice none 0 0]) 5 104 Tryz.underlying72 hi0 hz0 hy0 hx0 rfl (by decide) (.slice A7 i c7) i (rv.take i).flatten rfl HO7.out (.slice (some ⟨g, (i + 1) * 5, none⟩) (ks.length - (i + 1)) (cd2 - (i + 1))) (ks.length - (i + 1)) (rv.drop (i + 1)).flatten rfl (HSR.out ((i + 1) * 5) (cd2 - (i + 1)) (fun h => rfl)) (by simp only [maxLen]; omega) (by omega) hW07 ?_
        intro v8 w8 ho8 hg8 hb8 hat8
        obtain ⟨hrel8, A8, c8, rfl⟩ := HEND.out v8 w8 ho8 hg8 hb8 hat8
        have HREL := hid hrel8
        clear hrel8 ho8 hg8 hb8 hat8
        go_wp2
        go_roundw
        case rel => exact HREL.out
        case measure => simp [znU]; omega
    ·obtain rfl : ks = [] := List.eq_nil_of_length_eq_zero (by omega)
     have hm0 : m = ks0.length := by simpa using hsum
     subst hm0
     go_wp2
     go_ret2
     exact ⟨_, rfl, fun _ => ⟨Ao2, co2, rfl⟩, G0.out.trans (HBo.out.mono (by omega))⟩
end Go.Proofs.YtgoapnkdcfcjgaaGreat
