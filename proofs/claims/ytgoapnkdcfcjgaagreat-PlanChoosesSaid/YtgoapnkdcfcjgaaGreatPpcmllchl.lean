/- 1 text of this claim, in build order. -/
import Derived.Test.YtgoapnkdcfcjgaaGreatPhflhfepe
import Derived.Deep.RegionLaw
set_option linter.unusedVariables false
set_option linter.unusedSimpArgs false
namespace Go.Proofs.YtgoapnkdcfcjgaaGreat
open Go.ChangeShapes Go.WideShapes Go.ChangeAt Go.RowKit Go.Deep
abbrev zgX : Rd (List (List (List Int))) := zj 1 (zj 1 zC)
theorem zgk : Good zgX := zas zaw
theorem zob {w : World} {B : Nat} {A : Option Addr} {n c : Nat} {l : List (List (List Int))} (h : zgX w B [.slice A n c] l) {k : Nat} (hk : k < l.length) :
  ∃ b off Ak ck, A = some ⟨b, off, none⟩ /\ b < B /\ w.cell? ⟨b, off + k, none⟩ = some (.slice Ak l[k].length ck) /\ zj 1 zC w B [.slice Ak l[k].length ck] l[k] := by
 obtain ⟨b, off, rfl, hb, es, hel, hcell, hr⟩ := h.at_ hk
 obtain ⟨Ak, ck, e, -, -⟩ := hr.open_
 subst e
 have := hcell 0 _ rfl
 rw [Nat.mul_one, Nat.add_zero] at this
 exact ⟨b, off, Ak, ck, rfl, hb, this, hr⟩
theorem zm5 (n : Nat) : (madeCells #[Value.bool false] n).toList = zeF (List.replicate n false) := by
 unfold madeCells zeF
 rw [Array.toList_map, Array.toList_range, List.map_replicate]
 refine List.ext_getElem (by simp) (fun i h1 h2 => ?_)
 simp [Nat.mod_one]
def NewCx (W M K0 : Nat) (w : World) (s9 : Value) (wx : World) : Prop := ∃ q m D, s9 = .pointer (some ⟨q, 0, none⟩) /\ CubW wx D q m W M [] /\ (∀ k, D k -> K0 <= k) /\ Below K0 w wx
def zkz (W M : Nat) (L0 : List KC) (ks vs : List (List Int)) (n K0 q m gd : Nat) (w : World) (i : Value) (wr : World) : Prop :=
 ∃ (k : Nat) (D : Nat -> Prop) (dn : List Bool), k <= n /\ i = .int .i64 k /\ (zaG W M L0 ks vs k).2 = 0 /\ CubW wr D q m W M (zaG W M L0 ks vs k).1 /\ (∀ g, D g -> K0 <= g /\ g ≠ gd) /\
  wr.ownsRow K0 4 1 (.slice (some ⟨gd, 0, none⟩) n n) n (zeF dn) /\ zda dn ks k n /\ Below K0 w wr
theorem zkl (W M : Nat) (L0 : List KC) (ks vs : List (List Int)) (k : Nat) : OkL W M (zaG W M L0 ks vs k).1 /\ (zaG W M L0 ks vs k).1.length <= k := by
 induction k with
 | zero => exact ⟨OkL.nil_ _ _, Nat.le_refl _⟩
 | succ k ih =>
   unfold zaG
   simp only
   split
   ·exact ⟨ih.1, by omega⟩
   ·split
    ·exact ⟨ih.1, Nat.le_succ_of_le ih.2⟩
    ·exact ⟨znn ih.1 _ _, Nat.le_trans (zke ih.1 (ks.getD k []) (sumC (allJ M L0 ks vs k ks.length)).1) (Nat.succ_le_succ ih.2)⟩
theorem Own3.less {w : World} {K K' : Nat} {x : E4} {c : zp} (h : Own3 w K x c) (hk : K' <= K) : Own3 w K' x c := ⟨h.1, zw h.2.1 hk, zw h.2.2.1 hk, zw h.2.2.2 hk⟩
def zpy (M : Nat) (L0 : List KC) (ks vs : List (List Int)) (n K0 K1 gd k : Nat) (WB : World) (s13 s16 : Value) (wr : World) : Prop :=
 ∃ (j : Nat) (dn : List Bool), k <= j /\ j <= n /\ s16 = .int .i64 j /\ CelO wr K1 s13 (allJ M L0 ks vs k j) /\ wr.ownsRow K0 4 1 (.slice (some ⟨gd, 0, none⟩) n n) n (zeF dn) /\ zdd dn ks k j n /\ Upd gd WB wr
def FoB (fx : zp) (K2 : Nat) (w6 : World) (s17 : Value) (wx : World) : Prop :=
 ∃ N A1 c1 A2 c2 A3 c3, s17 = .pointer (some ⟨N, 0, none⟩) /\ wx.cell? ⟨N, 0, none⟩ = some (.int .i64 fx.n) /\ wx.cell? ⟨N, 1, none⟩ = some (.slice A1 fx.s.length c1) /\ wx.cell? ⟨N, 2, none⟩ = some (.slice A2 fx.lo.length c2) /\ wx.cell? ⟨N, 3, none⟩ = some (.slice A3 fx.hi.length c3) /\
  Own3 wx K2 (fx.n, .slice A1 fx.s.length c1, .slice A2 fx.lo.length c2, .slice A3 fx.hi.length c3) fx /\ Below K2 w6 wx /\ K2 <= wx.heap.size
theorem zn7 {W M : Nat} {L : List KC} {k : List Int} {c : zp} {x : KC} (hx : x ∈ (addK W M L k c).1) : x.1 = k \/ x ∈ L := by
 have hs : ∀ d, x ∈ setK k d L -> x.1 = k \/ x ∈ L := fun d h => by
  rcases zeK h with rfl | h
  ·exact .inl rfl
  ·exact .inr h
 rcases zkj W M L k c with ⟨e, -⟩ | ⟨-, -, -, -, ⟨-, e⟩ | ⟨y, -, ⟨-, e⟩ | ⟨-, e⟩⟩⟩
 ·rw [e] at hx; exact .inr hx
 ·rw [e] at hx; exact hs _ hx
 ·rw [e] at hx; exact hs _ hx
 ·rw [e] at hx; exact .inr hx
theorem zlU (W M : Nat) (L0 : List KC) (ks vs : List (List Int)) (k : Nat) : ∀ x ∈ (zaG W M L0 ks vs k).1, ∃ j, j < k /\ ks.getD j [] = x.1 := by
 induction k with
 | zero => exact fun x hx => by cases hx
 | succ k ih =>
   have e : zaG W M L0 ks vs (k + 1) = if (zaG W M L0 ks vs k).2 ≠ 0 \/ hadJ ks k = true then zaG W M L0 ks vs k else
    if (sumC (allJ M L0 ks vs k ks.length)).2 ≠ 0 then ((zaG W M L0 ks vs k).1, (sumC (allJ M L0 ks vs k ks.length)).2) else ((addK W M (zaG W M L0 ks vs k).1 (ks.getD k []) (sumC (allJ M L0 ks vs k ks.length)).1).1, 0) := rfl
   have hup : ∀ x ∈ (zaG W M L0 ks vs k).1, ∃ j, j < k + 1 /\ ks.getD j [] = x.1 := fun x hx => by
    obtain ⟨j, hj, e⟩ := ih x hx
    exact ⟨j, by omega, e⟩
   rw [e]
   split
   ·exact hup
   ·split
    ·exact hup
    ·intro x hx
     rcases zn7 hx with h | h
     ·exact ⟨k, by omega, h.symm⟩
     ·exact hup x h
theorem zi4 {W M : Nat} {L0 : List KC} {ks vs : List (List Int)} {k : Nat} (h : zdW ks k k = false) : getK (zaG W M L0 ks vs k).1 (ks.getD k []) = none := by
 refine zbH.2 (fun x hx e => ?_)
 obtain ⟨j, hj, ej⟩ := zlU W M L0 ks vs k x hx
 unfold zdW at h
 rw [List.any_eq_false] at h
 exact h j (List.mem_range.2 hj) (decide_eq_true (ej.trans e))
theorem znw {W M : Nat} {L0 : List KC} {ks vs : List (List Int)} {k n : Nat} (h : (zaG W M L0 ks vs k).2 ≠ 0) (hk : k <= n) : zaG W M L0 ks vs n = zaG W M L0 ks vs k := by
 induction n with
 | zero => obtain rfl : k = 0 := by omega
           rfl
 | succ n ih =>
   rcases Nat.lt_or_ge n k with h1 | h1
   ·obtain rfl : k = n + 1 := by omega
    rfl
   ·have e := ih h1
    show (if (zaG W M L0 ks vs n).2 ≠ 0 \/ hadJ ks n = true then zaG W M L0 ks vs n else _) = _
    rw [e, if_pos (.inl h)]
theorem zku {W M : Nat} {L0 c : List KC} (h : OkL W M c) (j : Nat) : OkL W M (zbA W M L0 c j) /\ (zbA W M L0 c j).length <= c.length + j := by
 induction j with
 | zero => exact ⟨h, Nat.le_refl _⟩
 | succ j ih =>
   unfold zbA
   simp only
   split
   ·exact ⟨ih.1, Nat.le_succ_of_le ih.2⟩
   ·exact ⟨znn ih.1 _ _, Nat.le_trans (zke ih.1 _ _) (Nat.succ_le_succ ih.2)⟩
theorem zpt (L : List KC) (j : Nat) : (L.map Prod.fst).getD j [] = (L.getD j ([], nilC)).1 := by
 rw [List.getD_eq_getElem?_getD, List.getD_eq_getElem?_getD, List.getElem?_map]
 cases L[j]? <;> rfl
def zo8 (W M : Nat) (L0 c : List KC) (K0 q m : Nat) (w3 : World) (i : Value) (wr : World) : Prop :=
 ∃ (j : Nat) (D : Nat -> Prop), j <= L0.length /\ i = .int .i64 j /\ CubW wr D q m W M (zbA W M L0 c j) /\ (∀ g, D g -> K0 <= g) /\ Upd m w3 wr
def FilP (H p : Nat) (Y : Lay) (l : LatX) (v : Nat) (r : List KC × Int) (w : World) (e : Ending) (w' : World) : Prop :=
 ∃ Y', e = .returned (.int .i64 r.2) /\ LatW w' H p Y' { l with cs := if r.2 = 0 then l.cs.set v r.1 else l.cs } /\ Y'.CS = Y.CS /\ Y'.dD = Y.dD /\ (∀ g, Y'.R g -> Y.R g \/ w.heap.size <= g) /\ Chg (fun g => Y.CS.ownBlock = some g) w w'
set_option maxRecDepth 100000 in
set_option maxHeartbeats 3200000 in
theorem zm7 (H p : Nat) (Y : Lay) (l : LatX) (v : Nat) (xc xf : Value) (CC : List (List (List Int))) (fs : List zq) (w : World) (h : LatW w H p Y l) (ok : zfi l) (hv : v < l.cs.length)
  (hxc : zgX w w.heap.size [xc] CC) (hxf : zj 2 za7 w w.heap.size [xf] fs) (hlen : CC.length = fs.length) (hn8 : fs.length <= 100)
  (hko : ∀ j (hj : j < CC.length), zl7 ((zh l.s).getD v []) CC[j]) (hL : (l.cs.getD v []).length <= 60000) :
  Calls Tryz.prog 48 #[.pointer (some ⟨p, 0, none⟩), .int .i64 (v : Int), xc, xf] w (FilP H p Y l v (zb6 l.s.1.length l.s.2.1.length (l.cs.getD v []) (CC.map (keyF ((zh l.s).getD v []))) (fs.map Prod.snd)) w) := by
 obtain ⟨i0, hi, hz0, hz1, hz2⟩ := info_parts zln
 obtain ⟨i1, hi', hz0', hz1', hz2'⟩ := info_parts zk1
 have hm := ok.may
 obtain ⟨⟨hd1, hd3⟩, ⟨hm1, hm2⟩, hdl⟩ := zaz hm
 obtain ⟨hv6, hvl⟩ := zaj hm
 obtain ⟨A1, c1, A2, c2, A3, c3, e, -, -, -⟩ := h.sch.rd h.sin
 injection e with e
 have e1 : Y.S1 = .slice A1 l.s.1.length c1 := by have := congrArg (fun a : Array Value => a[0]?) e; simpa using this
 have e2 : Y.S2 = .slice A2 l.s.2.1.length c2 := by have := congrArg (fun a : Array Value => a[1]?) e; simpa using this
 obtain ⟨K0, hK⟩ : ∃ K, K = w.heap.size := ⟨_, rfl⟩
 have hpK : p < K0 := by rw [hK]; exact h.pl
 have q0 := h.c0; have q1 := h.c1; have q5 := h.c5
 rw [e1] at q0; rw [e2] at q1
 obtain ⟨AC, cC, exc, hcC, hmC⟩ := hxc.open_
 obtain ⟨AF, cF, exf, hcF, hmF⟩ := hxf.open_
 simp only [List.cons.injEq, and_true] at exc exf
 subst exc; subst exf
 obtain ⟨gC, cS, hCS, hcS, hmS, hHg, hgK, hcell, hfro⟩ := h.csAt hv
 rw [hCS] at q5
 rw [<- hK] at hxc hxf hgK
 have hvv : v < (zh l.s).length := by rw [<- ok.clen]; exact hv
 have hvsz : ((zh l.s).getD v []).length <= 1000 := by
  have hmem : (zh l.s).getD v [] ∈ zh l.s := by rw [List.getD_eq_getElem?_getD, List.getElem?_eq_getElem hvv]; exact List.getElem_mem hvv
  rcases List.mem_cons.1 hmem with h1 | h1
  ·rw [h1]; simp [zV]; omega
  ·rw [hvl _ h1]; omega
 have hv9 : v <= 1000 := by have := ok.clen; unfold zh at this; rw [List.length_cons] at this; omega
 have hokL : OkL l.s.1.length l.s.2.1.length (l.cs.getD v []) := by rw [List.getD_eq_getElem?_getD, List.getElem?_eq_getElem hv]; exact ok.cok _ (List.getElem_mem hv)
 have HLW := hid (fun (W : World) (hb : Below K0 w W) => h.on (by rw [<- hK]; exact hb))
 have HKEY := hid (fun (W : World) (hb : Below K0 w W) (x : Value) (cc : List (List Int)) (hx : zj 1 zC W W.heap.size [x] cc) (hkk : zl7 ((zh l.s).getD v []) cc) => zo5 H p Y l v x cc W (h.on (by rw [<- hK]; exact hb)) hvv hx hkk hvsz hv9)
 have HGET := hid (fun (W : World) (hb : Below K0 w W) (x : Value) (k : List Int) (hx : Sl W W.heap.size x (zk k)) => zhT (Y.cD v) (Y.cq v) (Y.cm v) l.s.1.length l.s.2.1.length (l.cs.getD v []) x k W ((h.cub v hv).below (by rw [<- hK]; exact hb)) hokL hx hd1 hd3 hm2)
 have HKYS := hid (fun (W : World) (hb : Below K0 w W) => zoA (Y.cD v) (Y.cq v) (Y.cm v) l.s.1.length l.s.2.1.length (l.cs.getD v []) W ((h.cub v hv).below (by rw [<- hK]; exact hb)) hokL hd3 (by omega))
 have HNC := hid (fun W => zgT l.s.1.length l.s.2.1.length W hd1 hd3 hm1 hm2)
 have HXC := hid hxc; have HXF := hid hxf; have HKO := hid hko; have HK := hid hK; have HLAT := hid h; have HOK := hid hokL; have HCS := hid hCS; have HFRO := hid hfro; have HLL := hid hL
 clear hxc hxf hko h hokL hCS hfro e e1 e2 hdl hvl hm ok hK hL
 generalize hview : (zh l.s).getD v [] = view at *
 obtain ⟨ks, hks⟩ : ∃ ks, ks = CC.map (keyF view) := ⟨_, rfl⟩
 obtain ⟨vs, hvs⟩ : ∃ vs, vs = fs.map Prod.snd := ⟨_, rfl⟩
 rw [<- hks, <- hvs]
 have hkl : ks.length = fs.length := by rw [hks, List.length_map, hlen]
 have HKS := hid (fun j (hj : j < CC.length) => show ks.getD j [] = keyF view CC[j] by rw [hks, List.getD_eq_getElem?_getD, List.getElem?_map, List.getElem?_eq_getElem hj]; rfl)
 have HVS := hid (fun j (hj : j < fs.length) => show vs.getD j [] = fs[j].2 by rw [hvs, List.getD_eq_getElem?_getD, List.getElem?_map, List.getElem?_eq_getElem hj]; rfl)
 have HCL := hid hlen
 have HKL := hid hkl
 generalize l.cs.getD v [] = L0 at *
 rw [hlen] at hcC ⊢
 clear hks hvs hview hkl hlen
 go_enter Tryz.func48, Tryz.ntmps48
 go_upto_region 1 with (fail)
 go_cut [9] from 27 to 39 (fun s9 wx => NewCx l.s.1.length l.s.2.1.length K0 w s9 wx)
 case first =>
  go_wp2
  go_region_law (first
   | (go_simp; go_at_call 43; refine (HNC.out _).mono ?_; rintro e w5 ⟨q, m, D, rfl, hd5, hD5, hb5⟩; have HD5 := hid hd5; have HDN := hid hD5; have B5 := hid (show Below K0 w w5 by rw [HK.out]; exact (Below.refl w.heap.size w).drew.trans hb5); clear hd5 hD5 hb5))
  all_goals
   go_wp2
   go_meet
   case rel => exact ⟨q, m, D, rfl, HD5.out, fun k hk => by rw [HK.out]; exact HDN.out k hk, B5.out⟩
 case rest =>
  obtain ⟨q, m, D0, rfl, hd0, hD0, hb0⟩ := hcut
  obtain ⟨wA, rfl⟩ : ∃ W', W' = wc := ⟨_, rfl⟩
  have hzA : K0 <= wA.heap.size := by have := hb0.size; rw [<- HK.out] at this; exact this
  obtain ⟨w2, hrun, hown, hgr⟩ := run_makeSlice_full (P := Tryz.prog) (w := wA) K0 121 4 i0 (.bool false) 1 Tryz.underlying121 hi hz0 hz1 .i64 .i64 fs.length (by omega) (by rw [hz2]; omega) (by simp only [maxLen]; omega) hzA
  rw [Nat.mul_one, show (Value.bool false).cells = #[Value.bool false] from rfl, zm5] at hown
  have hb2 : Below wA.heap.size wA w2 := (Below.refl _ _).grown hgr (Nat.le_refl _) (fun j hj => by cases hj)
  obtain ⟨gd, hgd⟩ : ∃ gd, gd = wA.heap.size := ⟨_, rfl⟩
  rw [<- hgd] at hown hrun
  have hgdA : ∀ k, D0 k -> k < gd := fun k hk => by rw [hgd]; exact hd0.2.2.2.1 k hk
  have HR0 := hid (show zkz l.s.1.length l.s.2.1.length L0 ks vs fs.length K0 q m gd w (.int .i64 0) w2 from ⟨0, D0, List.replicate fs.length false, by omega, rfl, rfl, hd0.below hb2, fun g hg => ⟨hD0 g hg, by have := hgdA g hg; omega⟩, hown, zda.start ks fs.length, hb0.trans (hb2.mono hzA)⟩)
  have HMG := hid (hgdA m hd0.2.1)
  have HGK := hid (show K0 <= gd by omega)
  clear hd0 hD0 hb0 hown hgr hb2 hgdA hgd hzA
  go_upto_region 3 with (fail)
  clear hrun
  go_wp2
  go_loopw [45] (fun i wr => zkz l.s.1.length l.s.2.1.length L0 ks vs fs.length K0 q m gd w i wr) (fun i _ => fs.length - (intOf i).toNat)
  case atStart => exact HR0.out
  case round =>
   obtain ⟨k, D, dn, hk, rfl, he0, hcub, hDg, hdn, hdone, hb⟩ := hrel
   have HB := hid hb; have HCU := hid hcub; have HDG := hid hDg; have HDN := hid hdn
   have hs0 : K0 <= wr.heap.size := by have := hb.size; rw [<- HK.out] at this; exact this
   have hfok := zkl l.s.1.length l.s.2.1.length L0 ks vs k
   by_cases hlt : k < fs.length
   ·have hdk : wr.cell? ⟨gd, k, none⟩ = some (.bool (zdW ks k k)) := by
     have := hdn.cellAt (g := gd) k (by omega)
     rw [this, zkm (by rw [hdone.1]; exact hlt), hdone.2 k (Nat.le_refl _) hlt]
    have hgds := (hdn.lt gd rfl).2
    have hst : zaG l.s.1.length l.s.2.1.length L0 ks vs (k + 1) = if (zaG l.s.1.length l.s.2.1.length L0 ks vs k).2 ≠ 0 \/ zdW ks k k = true then zaG l.s.1.length l.s.2.1.length L0 ks vs k else if (sumC (allJ l.s.2.1.length L0 ks vs k ks.length)).2 ≠ 0 then ((zaG l.s.1.length l.s.2.1.length L0 ks vs k).1, (sumC (allJ l.s.2.1.length L0 ks vs k ks.length)).2) else ((addK l.s.1.length l.s.2.1.length (zaG l.s.1.length l.s.2.1.length L0 ks vs k).1 (ks.getD k []) (sumC (allJ l.s.2.1.length L0 ks vs k ks.length)).1).1, 0) := rfl
    have HDO := hid hdone
    cases hhad : zdW ks k k
    ·have hfn := zi4 (W := l.s.1.length) (M := l.s.2.1.length) (L0 := L0) (vs := vs) hhad
     rw [hhad] at hdk
     rw [hhad, if_neg (by rw [he0]; simp)] at hst
     have hkC : k < CC.length := by rw [HCL.out]; exact hlt
     obtain ⟨b, off, Ak, ck, rfl, hbl, qk, rk⟩ := zob (zgk.stays HXC.out HB.out) hkC
     have hkk := HKS.out k hkC
     have HKY1 := hid (HKEY.out wr HB.out _ CC[k] (zaw.more rk hs0) (HKO.out k hkC))
     rw [<- hkk] at HKY1
     generalize CC[k].length = ckl at *
     generalize hkey : ks.getD k [] = key at *
     have HST := hid hst; have HFO := hid hfok; have HE0 := hid he0; have HKE := hid hkey; have HFN := hid hfn
     clear hdone hst hfok he0 hb hcub hDg hdn rk hkk hkey hfn
     go_wp2_with fail
     (with_reducible refine HKY1.out.mono ?_)
     rintro e w3 ⟨rr, rfl, hrr, hb3⟩
     obtain ⟨Ar, cr, rfl, hrc, hrm, -⟩ := zl hrr
     have HRR := hid hrr; have B3 := hid (HB.out.trans (hb3.mono hs0)); have H3 := hid hb3
     have hs3 := hb3.size
     clear hrr hb3
     have HG := hid (HGET.out w3 B3.out (.slice Ar key.length cr) key (Sl.of_own HRR.out))
     have hcv := zc B3.out hgK hcell
     have hq5 := zc B3.out hpK q5
     go_wp2_with fail
     (with_reducible refine HG.out.mono ?_)
     rintro e w4 ⟨vx, rfl, hvx, hb4⟩
     have hax := zlo l.s.2.1.length L0 ks vs k
     rw [HKE.out] at hax
     have HAX := hid hax
     obtain ⟨K1, hK1⟩ : ∃ K1, K1 = w3.heap.size := ⟨_, rfl⟩
     rw [<- hK1] at hvx
     have hgx : getC L0 key = (getK L0 key).getD nilC := rfl
     rw [hgx] at hvx
     generalize (getK L0 key) = gk at *
     generalize hcx : gk.getD nilC = cx at *
     obtain ⟨A6, c6, A7, c7, A8, c8, rfl, hx4⟩ := Own3.lit hvx (Nat.le_refl K1)
     obtain ⟨w5, hw5⟩ : ∃ W, W = w4.alloc (.cells #[.int .i64 cx.n, .slice A6 cx.s.length c6, .slice A7 cx.lo.length c7, .slice A8 cx.hi.length c8] 125) := ⟨_, rfl⟩
     have hz4 : K1 <= w4.heap.size := by rw [hK1]; exact hb4.size
     have b45 : Below w4.heap.size w4 w5 := by rw [hw5]; exact bl1 _ _
     have y0 : w5.cell? ⟨w4.heap.size, 0, none⟩ = some (.int .i64 cx.n) := by rw [hw5]; simp [go_sem]
     have y1 : w5.cell? ⟨w4.heap.size, 1, none⟩ = some (.slice A6 cx.s.length c6) := by rw [hw5]; simp [go_sem]
     have y2 : w5.cell? ⟨w4.heap.size, 2, none⟩ = some (.slice A7 cx.lo.length c7) := by rw [hw5]; simp [go_sem]
     have y3 : w5.cell? ⟨w4.heap.size, 3, none⟩ = some (.slice A8 cx.hi.length c8) := by rw [hw5]; simp [go_sem]
     have HW5 := hid hw5; have HX4 := hid (hx4.on b45); have HCX := hid hcx; have HK1 := hid hK1
     have B35 := hid (show Below K1 w3 w5 by rw [hK1]; exact hb4.trans (b45.mono (by rw [<- hK1]; exact hz4)))
     have hz5 : K1 <= w5.heap.size := by rw [hw5]; simp; omega
     clear hvx hx4 hw5 hcx hK1 b45 hb4 hax hgx hcv hq5
     go_upto_if 71 with (fail)
     rw [<- HW5.out]
     go_cut [13] (fun s13 wx => CelO wx K1 s13 (allJ l.s.2.1.length L0 ks vs k k) /\ Below K1 w3 wx)
     case first =>
      cases gk with
      | none =>
        go_wp2
        go_meet
        case rel => exact ⟨by rw [HAX.out]; exact CelO.nil_ _ _, B35.out⟩
      | some gc =>
        have hce : gc = cx := HCX.out
        subst hce
        go_wp2_with (at_builtin; refine zr ?_)
        refine zar ?_
        refine zav (.tmp 72) (.tmp 74) 123 123 rfl rfl K1 125 i1 (.agg #[.int .i64 0, .slice none 0 0, .slice none 0 0, .slice none 0 0]) 4 80 Tryz.underlying123 hi' hz0' hz1' hz2' rfl (by omega) _ 0 [] rfl (World.ownsRow_nil _ _ _ _) (.slice (some ⟨w5.heap.size, 0, none⟩) 1 1) 1 (e4 (gc.n, .slice A6 gc.s.length c6, .slice A7 gc.lo.length c7, .slice A8 gc.hi.length c8)) rfl (Src.ofSlice _ Tryz.underlying123 _ 1 1 _ rfl (zcl _ _ _ rfl) (by simp [e4]; exact ⟨rfl, rfl, rfl, rfl⟩)) (by simp only [maxLen]; omega) (by omega) (by rw [World.size_alloc]; omega) ?_
        intro v' w6 ho6 hg6 hb6
        have hce := CelO.first (HX4.out.on (bl1 w5 (.cells #[.int .i64 gc.n, .slice A6 gc.s.length c6, .slice A7 gc.lo.length c7, .slice A8 gc.hi.length c8] 125))) (by simpa using ho6) hg6
        have HC6 := hid hce
        have B36 := hid (B35.out.trans ((((Below.refl K1 w5).alloc hz5 _)).trans hb6))
        clear ho6 hg6 hb6 hce
        go_wp2
        go_meet
        case rel => exact ⟨by rw [HAX.out]; exact HC6.out, B36.out⟩
     case rest =>
      obtain ⟨hcel, hbx⟩ := hcut
      obtain ⟨WB, rfl⟩ : ∃ W', W' = wc := ⟨_, rfl⟩
      obtain ⟨wo, rfl⟩ : ∃ wo : World, wo = wr := ⟨_, rfl⟩
      have hgr0 : gd < wo.heap.size := hgds
      have hU3 : Upd gd wo w3 := (Upd.refl gd wo).new H3.out
      have hUB : Upd gd wo WB := hU3.new (hbx.mono (by rw [HK1.out]; exact hs3))
      have BB := hid (B3.out.trans (hbx.mono (by rw [HK1.out]; exact Nat.le_trans hs0 hs3)))
      have HRB := hid (zo HRR.out (fun g hg => hbx.block g (by rw [HK1.out]; exact (HRR.out.lt g hg).2)))
      have HUB := hid hUB
      have hdnB : WB.ownsRow K0 4 1 (.slice (some ⟨gd, 0, none⟩) fs.length fs.length) fs.length (zeF dn) := zo HDN.out (fun g hg => (hbx.block g (by rw [HK1.out]; exact Nat.lt_of_lt_of_le (HDN.out.lt g hg).2 hs3)).trans (H3.out.block g (HDN.out.lt g hg).2))
      have HI0 := hid (show zpy l.s.2.1.length L0 ks vs fs.length K0 K1 gd k w3 _ (.int .i64 (k : Int)) WB from ⟨k, dn, Nat.le_refl _, by omega, rfl, hcel, hdnB, HDO.out.into, (Upd.refl gd w3).new (by rw [<- HK1.out]; exact hbx)⟩)
      have hgB : gd < WB.heap.size := Nat.lt_of_lt_of_le hgr0 hUB.size
      have hgK1 : gd < K1 := by rw [HK1.out]; exact Nat.lt_of_lt_of_le hgr0 hs3
      have hK1B : K1 <= WB.heap.size := by rw [HK1.out]; exact hbx.size
      clear hcel hbx hU3 hUB hdnB y0 y1 y2 y3 hz4 hz5 hdk
      go_wp2
      go_loopw [13, 16] (fun s13 s16 wr => zpy l.s.2.1.length L0 ks vs fs.length K0 K1 gd k w3 s13 s16 wr) (fun _ i _ => fs.length - (intOf i).toNat)
      case atStart => exact HI0.out
      case round =>
       obtain ⟨j, dn', hkj, hj, rfl, hcel, hdn', hdin, hupd⟩ := hrel
       obtain ⟨Al, cl, rfl⟩ := hcel.form
       have hsB := hupd.size
       have HUP := hid hupd; have HCE := hid hcel; have HDN2 := hid hdn'; have HDI := hid hdin
       have hg3 : gd < w3.heap.size := by rw [<- HK1.out]; exact hgK1
       have hB : Below K0 w wr := B3.out.trans (hupd.below HGK.out hg3)
       have HBW := hid hB
       have hK1r : K1 <= wr.heap.size := by rw [HK1.out]; exact hsB
       have hs1 : K0 <= wr.heap.size := by have := HGK.out; omega
       clear hcel hdn' hdin
       by_cases hlj : j < fs.length
       ·have hjC : j < CC.length := by rw [HCL.out]; exact hlj
        obtain ⟨b2, off2, Aj, cj, e2, hbl2, qj, rj⟩ := zob (zgk.stays HXC.out hB) hjC
        injection e2 with e2
        injection e2 with e2 e3 _
        subst e2; subst e3
        have hkj2 := HKS.out j hjC
        have HKY2 := hid (HKEY.out wr hB _ CC[j] (zaw.more rj hs1) (HKO.out j hjC))
        rw [<- hkj2] at HKY2
        generalize CC[j].length = cjl at *
        have HAS := hid (znc l.s.2.1.length L0 ks vs k j)
        have HKJ := hid hkj
        have halen := zj9 l.s.2.1.length L0 ks vs k j
        generalize hkj3 : ks.getD j [] = kj at *
        have HK3 := hid hkj3
        clear rj hkj2 hB hupd hkj3
        go_wp2_with fail
        (with_reducible refine HKY2.out.mono ?_)
        rintro e w6 ⟨r2, rfl, hr2, hb6⟩
        obtain ⟨A2r, c2r, rfl, -, -, -⟩ := zl hr2
        have hs6 := hb6.size
        have hur : Upd gd w3 w6 := HUP.out.new (hb6.mono hsB)
        have hkr : w6.ownsRow wo.heap.size 3 1 (.slice Ar key.length cr) key.length (zk key) := zo HRR.out (fun g hg => hur.block g (HRR.out.lt g hg).2 (fun e => by injection e with e; have := (HRR.out.lt g hg).1; omega))
        have HEQ := hid (zgz (.slice A2r kj.length c2r) (.slice Ar key.length cr) kj key w6 w6.heap.size (Sl.of_own hr2) (Sl.of_own hkr))
        have HC6 := hid (HCE.out.on hb6)
        have HD6 := hid (zx HDN2.out hb6)
        have HU6 := hid hur
        have HB6 := hid (HBW.out.trans (hb6.mono hs1))
        clear hr2 hkr hb6 hur
        go_wp2_with fail
        (with_reducible refine HEQ.out.mono ?_)
        rintro e w7 ⟨rfl, hq7⟩
        have hb7 := hq7.below w6.heap.size
        have HC7 := hid (HC6.out.on hb7)
        have HD7 := hid (zx HD6.out hb7)
        have HU7 := hid (HU6.out.new (hb7.mono (Nat.le_trans hsB hs6)))
        have HB7 := hid (HB6.out.trans (hb7.mono (by omega)))
        have hs7 := hb7.size
        clear hb7 hq7
        by_cases hke : kj = key
        ·rw [decide_eq_true hke]
         have has := HAS.out
         rw [if_pos ⟨HKJ.out, by rw [HKE.out]; exact hke⟩] at has
         have q1j := zc HB7.out hpK q1
         obtain ⟨b3, off3, AP, cP, AV, cV, e3, hb3l, p0, p1, r0, r1⟩ := zbD (zab.stays HXF.out HB7.out) hlj
         rw [HVS.out j hlj] at has
         generalize fs[j] = fj at *
         obtain ⟨fps, fvs⟩ := fj
         simp only at p0 p1 r1 has
         subst e3
         have hsl := zkt r1
         have hrow7 : zjY (w7.alloc (.cells #[.slice AV fvs.length cV] 27)) (w7.heap.size + 1) (.slice (some ⟨w7.heap.size, 0, none⟩) 1 1) [fvs] := ⟨_, 1, rfl, Nat.le_refl _, by simp [maxLen], fun i hi => by
          obtain rfl : i = 0 := by simp at hi; omega
          exact ⟨w7.heap.size, 0, .slice AV fvs.length cV, rfl, by omega, by simp [go_sem], (hsl.below ((Below.refl K0 w7).alloc (by omega) _)).more (by omega)⟩⟩
         have HFO := hid (fun (Wq : World) (hq : Qu (w7.alloc (.cells #[.slice AV fvs.length cV] 27)) Wq) => zkf (l.s.2.1.length : Int) (.slice (some ⟨w7.heap.size, 0, none⟩) 1 1) [fvs] Wq (by rw [show Wq.heap.size = w7.heap.size + 1 by have hz := hq.size; rw [World.size_alloc] at hz; omega]; exact hrow7.below (hq.below _)) (by simp))
         have HFG := hid (fun (Wq : World) (P : Nat) (hb : Below w7.heap.size w7 Wq) (hc : Wq.cell? ⟨P, 0, none⟩ = some (.slice AV fvs.length cV)) => zkf (l.s.2.1.length : Int) (.slice (some ⟨P, 0, none⟩) 1 1) [fvs] Wq ⟨_, 1, rfl, Nat.le_refl _, by simp [maxLen], fun i hi => by
          obtain rfl : i = 0 := by simp at hi; omega
          exact ⟨P, 0, .slice AV fvs.length cV, rfl, World.block_lt_of_cell? Wq _ hc, hc, (hsl.below (hb.mono (by omega))).more (by have := hb.size; omega)⟩⟩ (by simp))
         have HF1 := hid (HFG.out (w7.alloc (.cells #[.slice AV fvs.length cV] 27)).drew w7.heap.size ((Below.refl w7.heap.size w7).alloc (Nat.le_refl _) _).drew (by simp [go_sem]))
         have HF2 := hid (HFG.out ((w7.alloc (.cells #[.slice AV fvs.length cV] 27)).alloc (.cells #[.int .i64 0, .slice none 0 0, .slice none 0 0, .slice none 0 0] 125)).drew w7.heap.size (((Below.refl w7.heap.size w7).alloc (Nat.le_refl _) _).alloc (by simp) _).drew (by simp [go_sem]))
         have HF3 := hid (HFG.out ((w7.alloc (.cells #[.int .i64 0, .slice none 0 0, .slice none 0 0, .slice none 0 0] 125)).alloc (.cells #[.slice AV fvs.length cV] 27)).drew (w7.heap.size + 1) (((Below.refl w7.heap.size w7).alloc (Nat.le_refl _) _).alloc (by simp) _).drew (by simp [go_sem]))
         have hK7 : K0 <= w7.heap.size := by omega
         have hp7 : p < w7.heap.size := by omega
         have hb37 : b3 < w7.heap.size := by omega
         have p1z := zv (o := (.cells #[.int .i64 0, .slice none 0 0, .slice none 0 0, .slice none 0 0] 125)) hb37 p1
         have q1z := zv (o := (.cells #[.int .i64 0, .slice none 0 0, .slice none 0 0, .slice none 0 0] 125)) hp7 q1j
         have q1s := zv (o := (.cells #[.slice AV fvs.length cV] 27)) hp7 q1j
         have q1zs := zv (o := (.cells #[.slice AV fvs.length cV] 27)) (show p < (w7.alloc (.cells #[.int .i64 0, .slice none 0 0, .slice none 0 0, .slice none 0 0] 125)).heap.size by rw [World.size_alloc]; omega) q1z
         have q1sz := zv (o := (.cells #[.int .i64 0, .slice none 0 0, .slice none 0 0, .slice none 0 0] 125)) (show p < (w7.alloc (.cells #[.slice AV fvs.length cV] 27)).heap.size by rw [World.size_alloc]; omega) q1s
         have HAS2 := hid has
         generalize hfc : zaQ (l.s.2.1.length : Int) [fvs] = fcr at *
         obtain ⟨fx, fe⟩ := fcr
         simp only at has
         have HAS3 := hid has
         clear has r0 r1 hsl hfc HAS2 p0 hrow7
         go_upto_region 16 with (fail)
         go_cut [17, 18] from 93 to 107 (fun s17 s18 wx => FoB fx w7.heap.size w7 s17 wx)
         case first =>
          go_wp2
          go_region_law (first
           | (go_simp; go_at_call 71; (with_reducible refine HF1.out.mono ?_); rintro e w8 ⟨vx, rfl, hvx, hb8⟩; obtain ⟨F6, f6, F7, f7, F8, f8, rfl, hx8⟩ := Own3.lit hvx (Nat.le_refl _); have HX8 := hid hx8; have B78 := hid (show Below w7.heap.size w7 w8 from (((Below.refl w7.heap.size w7).alloc (Nat.le_refl _) _).drew).trans (hb8.mono (show w7.heap.size <= (w7.alloc (.cells #[.slice AV fvs.length cV] 27)).heap.size by simp))); have hM1 := True.intro; clear hvx hb8 hx8)
           | (go_simp; go_at_call 71; (with_reducible refine HF2.out.mono ?_); rintro e w8 ⟨vx, rfl, hvx, hb8⟩; obtain ⟨F6, f6, F7, f7, F8, f8, rfl, hx8⟩ := Own3.lit hvx (Nat.le_refl _); have HX8 := hid hx8; have B78 := hid (show Below w7.heap.size w7 w8 from ((((Below.refl w7.heap.size w7).alloc (Nat.le_refl _) _).alloc (by simp) _).drew).trans (hb8.mono (show w7.heap.size <= ((w7.alloc (.cells #[.slice AV fvs.length cV] 27)).alloc (.cells #[.int .i64 0, .slice none 0 0, .slice none 0 0, .slice none 0 0] 125)).heap.size by simp; omega))); have k0 := zc hb8 (show w7.heap.size + 1 < ((w7.alloc (.cells #[.slice AV fvs.length cV] 27)).alloc (.cells #[.int .i64 0, .slice none 0 0, .slice none 0 0, .slice none 0 0] 125)).heap.size by rw [World.size_alloc, World.size_alloc]; omega) (show ((w7.alloc (.cells #[.slice AV fvs.length cV] 27)).alloc (.cells #[.int .i64 0, .slice none 0 0, .slice none 0 0, .slice none 0 0] 125)).drew.cell? ⟨w7.heap.size + 1, 0, none⟩ = some (.int .i64 0) by simp [go_sem]); have o0 := zy hb8 (show w7.heap.size + 1 < ((w7.alloc (.cells #[.slice AV fvs.length cV] 27)).alloc (.cells #[.int .i64 0, .slice none 0 0, .slice none 0 0, .slice none 0 0] 125)).heap.size by rw [World.size_alloc, World.size_alloc]; omega) (show ((w7.alloc (.cells #[.slice AV fvs.length cV] 27)).alloc (.cells #[.int .i64 0, .slice none 0 0, .slice none 0 0, .slice none 0 0] 125)).drew.frozen? ⟨w7.heap.size + 1, 0, none⟩ = false by simp [go_sem]); have k1 := zc hb8 (show w7.heap.size + 1 < ((w7.alloc (.cells #[.slice AV fvs.length cV] 27)).alloc (.cells #[.int .i64 0, .slice none 0 0, .slice none 0 0, .slice none 0 0] 125)).heap.size by rw [World.size_alloc, World.size_alloc]; omega) (show ((w7.alloc (.cells #[.slice AV fvs.length cV] 27)).alloc (.cells #[.int .i64 0, .slice none 0 0, .slice none 0 0, .slice none 0 0] 125)).drew.cell? ⟨w7.heap.size + 1, 1, none⟩ = some (.slice none 0 0) by simp [go_sem]); have o1 := zy hb8 (show w7.heap.size + 1 < ((w7.alloc (.cells #[.slice AV fvs.length cV] 27)).alloc (.cells #[.int .i64 0, .slice none 0 0, .slice none 0 0, .slice none 0 0] 125)).heap.size by rw [World.size_alloc, World.size_alloc]; omega) (show ((w7.alloc (.cells #[.slice AV fvs.length cV] 27)).alloc (.cells #[.int .i64 0, .slice none 0 0, .slice none 0 0, .slice none 0 0] 125)).drew.frozen? ⟨w7.heap.size + 1, 1, none⟩ = false by simp [go_sem]); have k2 := zc hb8 (show w7.heap.size + 1 < ((w7.alloc (.cells #[.slice AV fvs.length cV] 27)).alloc (.cells #[.int .i64 0, .slice none 0 0, .slice none 0 0, .slice none 0 0] 125)).heap.size by rw [World.size_alloc, World.size_alloc]; omega) (show ((w7.alloc (.cells #[.slice AV fvs.length cV] 27)).alloc (.cells #[.int .i64 0, .slice none 0 0, .slice none 0 0, .slice none 0 0] 125)).drew.cell? ⟨w7.heap.size + 1, 2, none⟩ = some (.slice none 0 0) by simp [go_sem]); have o2 := zy hb8 (show w7.heap.size + 1 < ((w7.alloc (.cells #[.slice AV fvs.length cV] 27)).alloc (.cells #[.int .i64 0, .slice none 0 0, .slice none 0 0, .slice none 0 0] 125)).heap.size by rw [World.size_alloc, World.size_alloc]; omega) (show ((w7.alloc (.cells #[.slice AV fvs.length cV] 27)).alloc (.cells #[.int .i64 0, .slice none 0 0, .slice none 0 0, .slice none 0 0] 125)).drew.frozen? ⟨w7.heap.size + 1, 2, none⟩ = false by simp [go_sem]); have k3 := zc hb8 (show w7.heap.size + 1 < ((w7.alloc (.cells #[.slice AV fvs.length cV] 27)).alloc (.cells #[.int .i64 0, .slice none 0 0, .slice none 0 0, .slice none 0 0] 125)).heap.size by rw [World.size_alloc, World.size_alloc]; omega) (show ((w7.alloc (.cells #[.slice AV fvs.length cV] 27)).alloc (.cells #[.int .i64 0, .slice none 0 0, .slice none 0 0, .slice none 0 0] 125)).drew.cell? ⟨w7.heap.size + 1, 3, none⟩ = some (.slice none 0 0) by simp [go_sem]); have o3 := zy hb8 (show w7.heap.size + 1 < ((w7.alloc (.cells #[.slice AV fvs.length cV] 27)).alloc (.cells #[.int .i64 0, .slice none 0 0, .slice none 0 0, .slice none 0 0] 125)).heap.size by rw [World.size_alloc, World.size_alloc]; omega) (show ((w7.alloc (.cells #[.slice AV fvs.length cV] 27)).alloc (.cells #[.int .i64 0, .slice none 0 0, .slice none 0 0, .slice none 0 0] 125)).drew.frozen? ⟨w7.heap.size + 1, 3, none⟩ = false by simp [go_sem]); have hM2 := True.intro; clear hvx hb8 hx8)
           | (go_simp; go_at_call 71; (with_reducible refine HF3.out.mono ?_); rintro e w8 ⟨vx, rfl, hvx, hb8⟩; obtain ⟨F6, f6, F7, f7, F8, f8, rfl, hx8⟩ := Own3.lit hvx (Nat.le_refl _); have HX8 := hid hx8; have B78 := hid (show Below w7.heap.size w7 w8 from ((((Below.refl w7.heap.size w7).alloc (Nat.le_refl _) _).alloc (by simp) _).drew).trans (hb8.mono (show w7.heap.size <= ((w7.alloc (.cells #[.int .i64 0, .slice none 0 0, .slice none 0 0, .slice none 0 0] 125)).alloc (.cells #[.slice AV fvs.length cV] 27)).heap.size by simp; omega))); have k0 := zc hb8 (show w7.heap.size < ((w7.alloc (.cells #[.int .i64 0, .slice none 0 0, .slice none 0 0, .slice none 0 0] 125)).alloc (.cells #[.slice AV fvs.length cV] 27)).heap.size by rw [World.size_alloc, World.size_alloc]; omega) (show ((w7.alloc (.cells #[.int .i64 0, .slice none 0 0, .slice none 0 0, .slice none 0 0] 125)).alloc (.cells #[.slice AV fvs.length cV] 27)).drew.cell? ⟨w7.heap.size, 0, none⟩ = some (.int .i64 0) by simp [go_sem]); have o0 := zy hb8 (show w7.heap.size < ((w7.alloc (.cells #[.int .i64 0, .slice none 0 0, .slice none 0 0, .slice none 0 0] 125)).alloc (.cells #[.slice AV fvs.length cV] 27)).heap.size by rw [World.size_alloc, World.size_alloc]; omega) (show ((w7.alloc (.cells #[.int .i64 0, .slice none 0 0, .slice none 0 0, .slice none 0 0] 125)).alloc (.cells #[.slice AV fvs.length cV] 27)).drew.frozen? ⟨w7.heap.size, 0, none⟩ = false by simp [go_sem]); have k1 := zc hb8 (show w7.heap.size < ((w7.alloc (.cells #[.int .i64 0, .slice none 0 0, .slice none 0 0, .slice none 0 0] 125)).alloc (.cells #[.slice AV fvs.length cV] 27)).heap.size by rw [World.size_alloc, World.size_alloc]; omega) (show ((w7.alloc (.cells #[.int .i64 0, .slice none 0 0, .slice none 0 0, .slice none 0 0] 125)).alloc (.cells #[.slice AV fvs.length cV] 27)).drew.cell? ⟨w7.heap.size, 1, none⟩ = some (.slice none 0 0) by simp [go_sem]); have o1 := zy hb8 (show w7.heap.size < ((w7.alloc (.cells #[.int .i64 0, .slice none 0 0, .slice none 0 0, .slice none 0 0] 125)).alloc (.cells #[.slice AV fvs.length cV] 27)).heap.size by rw [World.size_alloc, World.size_alloc]; omega) (show ((w7.alloc (.cells #[.int .i64 0, .slice none 0 0, .slice none 0 0, .slice none 0 0] 125)).alloc (.cells #[.slice AV fvs.length cV] 27)).drew.frozen? ⟨w7.heap.size, 1, none⟩ = false by simp [go_sem]); have k2 := zc hb8 (show w7.heap.size < ((w7.alloc (.cells #[.int .i64 0, .slice none 0 0, .slice none 0 0, .slice none 0 0] 125)).alloc (.cells #[.slice AV fvs.length cV] 27)).heap.size by rw [World.size_alloc, World.size_alloc]; omega) (show ((w7.alloc (.cells #[.int .i64 0, .slice none 0 0, .slice none 0 0, .slice none 0 0] 125)).alloc (.cells #[.slice AV fvs.length cV] 27)).drew.cell? ⟨w7.heap.size, 2, none⟩ = some (.slice none 0 0) by simp [go_sem]); have o2 := zy hb8 (show w7.heap.size < ((w7.alloc (.cells #[.int .i64 0, .slice none 0 0, .slice none 0 0, .slice none 0 0] 125)).alloc (.cells #[.slice AV fvs.length cV] 27)).heap.size by rw [World.size_alloc, World.size_alloc]; omega) (show ((w7.alloc (.cells #[.int .i64 0, .slice none 0 0, .slice none 0 0, .slice none 0 0] 125)).alloc (.cells #[.slice AV fvs.length cV] 27)).drew.frozen? ⟨w7.heap.size, 2, none⟩ = false by simp [go_sem]); have k3 := zc hb8 (show w7.heap.size < ((w7.alloc (.cells #[.int .i64 0, .slice none 0 0, .slice none 0 0, .slice none 0 0] 125)).alloc (.cells #[.slice AV fvs.length cV] 27)).heap.size by rw [World.size_alloc, World.size_alloc]; omega) (show ((w7.alloc (.cells #[.int .i64 0, .slice none 0 0, .slice none 0 0, .slice none 0 0] 125)).alloc (.cells #[.slice AV fvs.length cV] 27)).drew.cell? ⟨w7.heap.size, 3, none⟩ = some (.slice none 0 0) by simp [go_sem]); have o3 := zy hb8 (show w7.heap.size < ((w7.alloc (.cells #[.int .i64 0, .slice none 0 0, .slice none 0 0, .slice none 0 0] 125)).alloc (.cells #[.slice AV fvs.length cV] 27)).heap.size by rw [World.size_alloc, World.size_alloc]; omega) (show ((w7.alloc (.cells #[.int .i64 0, .slice none 0 0, .slice none 0 0, .slice none 0 0] 125)).alloc (.cells #[.slice AV fvs.length cV] 27)).drew.frozen? ⟨w7.heap.size, 3, none⟩ = false by simp [go_sem]); have hM3 := True.intro; clear hvx hb8 hx8))
          all_goals
           have z78 := B78.out.size
           go_wp2
           go_meet
           case rel =>
            first
             | (have hMM := hM1; exact ⟨w8.heap.size, F6, f6, F7, f7, F8, f8, rfl, by simp [go_sem], by simp [go_sem], by simp [go_sem], by simp [go_sem], Own3.less (HX8.out.on (bl1 _ _)) (by show _ <= (w7.alloc _).heap.size; rw [World.size_alloc]; omega), B78.out.alloc z78 _, by simp; omega⟩)
             | (have hMM := hM2; exact ⟨w7.heap.size + 1, F6, f6, F7, f7, F8, f8, rfl, zb (by omega) (zb (by omega) (zb (by omega) (zt k0))), zb (by omega) (zb (by omega) (zt (zb (by omega) k1))), zb (by omega) (zt (zb (by omega) (zb (by omega) k2))), zt (zb (by omega) (zb (by omega) (zb (by omega) k3))),
               Own3.less ((((HX8.out.keepT (zR (by show _ < ((w7.alloc _).alloc _).heap.size; rw [World.size_alloc, World.size_alloc]; omega))).keepT (zR (by show _ < ((w7.alloc _).alloc _).heap.size; rw [World.size_alloc, World.size_alloc]; omega))).keepT (zR (by show _ < ((w7.alloc _).alloc _).heap.size; rw [World.size_alloc, World.size_alloc]; omega))).keepT (zR (by show _ < ((w7.alloc _).alloc _).heap.size; rw [World.size_alloc, World.size_alloc]; omega))) (by show _ <= ((w7.alloc _).alloc _).heap.size; rw [World.size_alloc, World.size_alloc]; omega), (((B78.out.setCell (show w7.heap.size <= w7.heap.size + 1 by omega) _).setCell (show w7.heap.size <= w7.heap.size + 1 by omega) _).setCell (show w7.heap.size <= w7.heap.size + 1 by omega) _).setCell (show w7.heap.size <= w7.heap.size + 1 by omega) _, by simp [World.setCell]; omega⟩)
             | (have hMM := hM3; exact ⟨w7.heap.size, F6, f6, F7, f7, F8, f8, rfl, zb (by omega) (zb (by omega) (zb (by omega) (zt k0))), zb (by omega) (zb (by omega) (zt (zb (by omega) k1))), zb (by omega) (zt (zb (by omega) (zb (by omega) k2))), zt (zb (by omega) (zb (by omega) (zb (by omega) k3))),
               Own3.less ((((HX8.out.keepT (zR (by show _ < ((w7.alloc _).alloc _).heap.size; rw [World.size_alloc, World.size_alloc]; omega))).keepT (zR (by show _ < ((w7.alloc _).alloc _).heap.size; rw [World.size_alloc, World.size_alloc]; omega))).keepT (zR (by show _ < ((w7.alloc _).alloc _).heap.size; rw [World.size_alloc, World.size_alloc]; omega))).keepT (zR (by show _ < ((w7.alloc _).alloc _).heap.size; rw [World.size_alloc, World.size_alloc]; omega))) (by show _ <= ((w7.alloc _).alloc _).heap.size; rw [World.size_alloc, World.size_alloc]; omega), (((B78.out.setCell (show w7.heap.size <= w7.heap.size by omega) _).setCell (show w7.heap.size <= w7.heap.size by omega) _).setCell (show w7.heap.size <= w7.heap.size by omega) _).setCell (show w7.heap.size <= w7.heap.size by omega) _, by simp [World.setCell]; omega⟩)
         case rest =>
          obtain ⟨N7, F6, f6, F7, f7, F8, f8, rfl, z0, z1, z2, z3, hox, hb9, hz9⟩ := hcut
          obtain ⟨w9, rfl⟩ : ∃ W', W' = wc := ⟨_, rfl⟩
          obtain ⟨es, u1, u2, u3⟩ := HC7.out.on hb9
          have hd9 := zx HD7.out hb9
          have hc9 := hd9.cellAt (g := gd) j (by omega)
          have hf9 := hd9.frozenAt (g := gd) j
          rw [zkm (by rw [HDI.out.1]; exact hlj)] at hc9
          have hg9 := (hd9.lt gd rfl).2
          have HU9 := hid (HU7.out.new (hb9.mono (by omega)))
          have HD9 := hid hd9; have U3 := hid u3; have HOX := hid hox; have HB9 := hid hb9; have U1 := hid u1
          clear hd9 u3 hox hb9 u1
          go_wp2_with (at_builtin; refine zr ?_)
          refine zar ?_
          refine zav (.tmp 110) (.tmp 112) 123 123 rfl rfl K1 125 i1 (.agg #[.int .i64 0, .slice none 0 0, .slice none 0 0, .slice none 0 0]) 4 80 Tryz.underlying123 hi' hz0' hz1' hz2' rfl (by omega) _ _ (zb0 es) rfl (u2.alloc _) (.slice (some ⟨w9.heap.size, 0, none⟩) 1 1) 1 (e4 (fx.n, .slice F6 fx.s.length f6, .slice F7 fx.lo.length f7, .slice F8 fx.hi.length f8)) rfl (Src.ofSlice _ Tryz.underlying123 _ 1 1 _ rfl (zcl _ _ _ rfl) (by simp [e4]; exact ⟨rfl, rfl, rfl, rfl⟩)) (by simp only [maxLen]; omega) (by omega) (by rw [World.size_alloc]; omega) ?_
          intro v' w10 ho hg hb10
          have hne : (Value.slice Al (allJ l.s.2.1.length L0 ks vs k j).length cl).ownBlock ≠ some gd := fun e => by have := (u2.lt gd e).1; omega
          have m3 := (World.grownBy.cell_far hg ⟨gd, j, none⟩ (by simp; omega) (fun e => hne e.symm)).trans (zv (by omega) hc9)
          have m5 := (World.grownBy.frozen_far hg ⟨gd, j, none⟩ (by simp; omega) (fun e => hne e.symm)).trans (zal (by omega) hf9)
          have hcel := CelO.app rfl U1.out (u2.alloc (.cells #[.int .i64 fx.n, .slice F6 fx.s.length f6, .slice F7 fx.lo.length f7, .slice F8 fx.hi.length f8] 125)) (fun b hb => (U3.out b hb).on (bl1 _ _)) ((show Own3 w9 K1 _ fx from ⟨HOX.out.1, zw HOX.out.2.1 (by omega), zw HOX.out.2.2.1 (by omega), zw HOX.out.2.2.2 (by omega)⟩).on (bl1 w9 (.cells #[.int .i64 fx.n, .slice F6 fx.s.length f6, .slice F7 fx.lo.length f7, .slice F8 fx.hi.length f8] 125))) ho hg
          have hdn10 : w10.ownsRow K0 4 1 (.slice (some ⟨gd, 0, none⟩) fs.length fs.length) fs.length (zeF dn') := zo HD9.out (fun g hgb => by
           injection hgb with hgb
           subst hgb
           exact (hg.block gd (by rw [World.size_alloc]; omega) (fun e => hne e.symm)).trans (((Below.refl w9.heap.size w9).alloc (Nat.le_refl _) _).block gd hg9))
          have hst10 := (hdn10.stored j (.bool true)).1
          rw [znP] at hst10
          have hup10 : Upd gd w3 (w10.setCell ⟨gd, j, none⟩ (.bool true)) := (HU9.out.new (show Below w3.heap.size w9 w10 by rw [<- HK1.out]; exact ((Below.refl K1 w9).alloc (by omega) _).trans hb10)).trans (Upd.setCell gd j w10 (.bool true))
          have HN := hid (show zpy l.s.2.1.length L0 ks vs fs.length K0 K1 gd k w3 v' (.int .i64 ((j : Int) + 1)) (w10.setCell ⟨gd, j, none⟩ (.bool true)) from ⟨j + 1, dn'.set j true, by omega, by omega, by go_num, by rw [HAS3.out]; exact hcel.keepT (zR hgK1) (zR hgK1), hst10, HDI.out.yes HKJ.out hlj (by rw [HK3.out, HKE.out]; exact hke), hup10⟩)
          clear ho hg hb10 hcel hdn10 hst10 hup10 u2 hc9 hf9
          go_wp2
          go_roundw
          case rel => exact HN.out
          case measure => simp [intOf]; omega
        ·rw [decide_eq_false hke]
         have has := HAS.out
         rw [if_neg (fun h => hke (by rw [<- HKE.out]; exact h.2))] at has
         have HN := hid (show zpy l.s.2.1.length L0 ks vs fs.length K0 K1 gd k w3 (.slice Al (allJ l.s.2.1.length L0 ks vs k j).length cl) (.int .i64 ((j : Int) + 1)) w7 from ⟨j + 1, dn', by omega, by omega, by go_num, by rw [has]; exact HC7.out, HD7.out, HDI.out.no (by rw [HK3.out, HKE.out]; exact hke), HU7.out⟩)
         clear has
         go_wp2
         go_roundw
         case rel => exact HN.out
         case measure => simp [intOf]; omega
       ·obtain rfl : j = fs.length := by omega
        have halen := zj9 l.s.2.1.length L0 ks vs k fs.length
        have hsm := zqV _ (allJ l.s.2.1.length L0 ks vs k fs.length) wr HCE.out.row (by omega)
        have hst := HST.out
        rw [HKL.out] at hst
        have hu : Upd gd wo wr := ((Upd.refl gd wo).new H3.out).trans HUP.out
        have hcub := HCU.out.kept (w' := wr) (fun g hg => hu.block g (HCU.out.2.2.2.1 g hg) (fun e => by injection e with e; exact (HDG.out g hg).2 e)) hu.size
        have hkr : wr.ownsRow wo.heap.size 3 1 (.slice Ar key.length cr) key.length (zk key) := zo HRR.out (fun g hg => HUP.out.block g (HRR.out.lt g hg).2 (fun e => by injection e with e; have := (HRR.out.lt g hg).1; omega))
        have herrN := fun h => znw (W := l.s.1.length) (M := l.s.2.1.length) (L0 := L0) (ks := ks) (vs := vs) (k := k + 1) (n := fs.length) h (by omega)
        have hKm : K0 <= m /\ m ≠ gd := HDG.out m HCU.out.2.1
        generalize sumC (allJ l.s.2.1.length L0 ks vs k fs.length) = sr at *
        obtain ⟨sc, se⟩ := sr
        simp only at hst
        have HSM := hid hsm; have HST2 := hid hst; have HCB := hid hcub; have HKR := hid hkr; have HEN := hid herrN
        clear hsm hst hcub hkr herrN hupd hB hu
        go_wp2_with fail
        (with_reducible refine HSM.out.mono ?_)
        rintro e w8 ⟨vx, rfl, hvx, hb8⟩
        obtain ⟨G6, g6, G7, g7, G8, g8, rfl, hx8⟩ := Own3.lit hvx (Nat.le_refl _)
        have hs8 := hb8.size
        obtain ⟨w9, hw9⟩ : ∃ W, W = w8.alloc (.cells #[.int .i64 sc.n, .slice G6 sc.s.length g6, .slice G7 sc.lo.length g7, .slice G8 sc.hi.length g8] 125) := ⟨_, rfl⟩
        have b89 : Below w8.heap.size w8 w9 := by rw [hw9]; exact bl1 _ _
        have b9 : Below wr.heap.size wr w9 := hb8.trans (b89.mono hs8)
        have y0 : w9.cell? ⟨w8.heap.size, 0, none⟩ = some (.int .i64 sc.n) := by rw [hw9]; simp [go_sem]
        have y1 : w9.cell? ⟨w8.heap.size, 1, none⟩ = some (.slice G6 sc.s.length g6) := by rw [hw9]; simp [go_sem]
        have y2 : w9.cell? ⟨w8.heap.size, 2, none⟩ = some (.slice G7 sc.lo.length g7) := by rw [hw9]; simp [go_sem]
        have y3 : w9.cell? ⟨w8.heap.size, 3, none⟩ = some (.slice G8 sc.hi.length g8) := by rw [hw9]; simp [go_sem]
        have HX8 := hid (hx8.on b89); have B9 := hid b9; have HW9 := hid hw9
        have HB9 := hid (HBW.out.trans (b9.mono hs1))
        have hs9 := b9.size
        clear hvx hb8 hx8 b89 b9 hw9
        go_upto_region 19 with (fail)
        rw [<- HW9.out]
        by_cases hse : se = 0
        ·subst hse
         have hst := HST2.out
         rw [if_neg (by simp)] at hst
         have HADD := hid (zka D q m l.s.1.length l.s.2.1.length (zaG l.s.1.length l.s.2.1.length L0 ks vs k).1 (.slice Ar key.length cr) (.agg #[.int .i64 sc.n, .slice G6 sc.s.length g6, .slice G7 sc.lo.length g7, .slice G8 sc.hi.length g8]) key sc w9 (HCB.out.below B9.out) HFO.out.1 hd1 hd3 hm2 (by have := HFO.out.2; omega) (Sl.of_own (zx HKR.out B9.out)) HX8.out.read HFN.out)
         have HST3 := hid hst
         clear hst
         go_wp2_with fail
         (with_reducible refine HADD.out.mono ?_)
         rintro e w10 ⟨D', rfl, hcub10, hgrow, hupd10⟩
         have hdn10 : w10.ownsRow K0 4 1 (.slice (some ⟨gd, 0, none⟩) fs.length fs.length) fs.length (zeF dn') := zo (zx HDN2.out B9.out) (fun g hgb => by
          injection hgb with hgb
          subst hgb
          have hlt9 := (HDN2.out.lt gd rfl).2
          exact hupd10.block gd (by omega) (fun e => by injection e with e; exact hKm.2 e.symm))
         have hb10 : Below K0 w w10 := HB9.out.trans (hupd10.below hKm.1 (by have := HCU.out.2.2.2.1 m HCU.out.2.1; have := HUP.out.size; omega))
         have HN := hid (show zkz l.s.1.length l.s.2.1.length L0 ks vs fs.length K0 q m gd w (.int .i64 ((k : Int) + 1)) w10 from ⟨k + 1, D', dn', by omega, by go_num, by rw [HST3.out], by rw [HST3.out]; exact hcub10, fun g hg => by
          rcases hgrow.2 g hg with h1 | h1
          ·exact HDG.out g h1
          ·have hlt9 := (HDN2.out.lt gd rfl).2
           exact ⟨by omega, by omega⟩, hdn10, HDI.out.out, hb10⟩)
         clear hcub10 hgrow hupd10 hdn10 hb10
         go_wp2
         go_roundw
         case rel => exact HN.out
         case measure => simp [intOf]; omega
        ·have hst := HST2.out
         rw [if_pos hse] at hst
         have hen := HEN.out (by rw [hst]; exact hse)
         have hff : zb6 l.s.1.length l.s.2.1.length L0 ks vs = (L0, se) := by
          unfold zb6
          rw [HKL.out, hen, hst]
          exact if_pos hse
         have hne : (se != 0) = true := by simpa using hse
         have hlf := (HLW.out w9 HB9.out)
         have HFF := hid hff; have HLF := hid hlf
         clear hst hen hff hlf
         go_wp2
         go_ret
         unfold FilP
         rw [HFF.out]
         refine ⟨Y, rfl, ?_, rfl, rfl, fun g hg => .inl hg, Chg.of_below (by rw [<- HK.out]; exact HB9.out)⟩
         first
          | (show LatW w9 H p Y { l with cs := if se = 0 then l.cs.set v L0 else l.cs }; rw [if_neg hse]; exact HLF.out)
    ·rw [hhad] at hdk
     rw [hhad, if_pos (.inr rfl)] at hst
     have HN := hid (show zkz l.s.1.length l.s.2.1.length L0 ks vs fs.length K0 q m gd w (.int .i64 ((k : Int) + 1)) wr from ⟨k + 1, D, dn, by omega, by go_num, by rw [hst]; exact he0, by rw [hst]; exact HCU.out, HDG.out, HDN.out, HDO.out.skip hhad, HB.out⟩)
     clear hdone hst hfok he0 hb hcub hDg hdn
     go_wp2
     go_roundw
     case rel => exact HN.out
     case measure => simp [intOf]; omega
   ·obtain rfl : k = fs.length := by omega
    have hff : zb6 l.s.1.length l.s.2.1.length L0 ks vs = (zbA l.s.1.length l.s.2.1.length L0 (zaG l.s.1.length l.s.2.1.length L0 ks vs fs.length).1 L0.length, 0) := by
     unfold zb6
     rw [HKL.out]
     exact if_neg (by rw [he0]; simp)
    generalize (zaG l.s.1.length l.s.2.1.length L0 ks vs fs.length).1 = cn at *
    have HFF := hid hff; have HFO := hid hfok
    have HKY := hid (HKYS.out wr HB.out)
    have hmlt : m < wr.heap.size := hcub.2.2.2.1 m hcub.2.1
    have hKm : K0 <= m := (hDg m hcub.2.1).1
    have q5r := zc hb hpK q5
    have hcr := zc hb hgK hcell
    clear hff hfok he0 hb hcub hDg hdn hdone
    go_wp2_with fail
    (with_reducible refine HKY.out.mono ?_)
    rintro e w3 ⟨vk, us, rfl, hov, hru, hb3⟩
    rw [List.length_map] at hov
    obtain ⟨Ak, ck, rfl, -, -, hce⟩ := zaa hov
    have hs3 := hb3.size
    have HOV := hid hov; have HRU := hid hru.2.1; have HUL := hid hru.1
    have B3 := hid (HB.out.trans (hb3.mono hs0))
    have HR0 := hid (show zo8 l.s.1.length l.s.2.1.length L0 cn K0 q m w3 (.int .i64 0) w3 from ⟨0, D, by omega, rfl, HCU.out.below hb3, fun g hg => (HDG.out g hg).1, Upd.refl _ _⟩)
    have HCE := hid hce
    clear hov hru hb3 hce q5r hcr
    obtain ⟨wr0, rfl⟩ : ∃ wr0 : World, wr0 = wr := ⟨_, rfl⟩
    go_wp2
    go_loopw [137] (fun i wr => zo8 l.s.1.length l.s.2.1.length L0 cn K0 q m w3 i wr) (fun i _ => L0.length - (intOf i).toNat)
    case atStart => exact HR0.out
    case round =>
     obtain ⟨wo, rfl⟩ : ∃ wo : World, wo = wr := ⟨_, rfl⟩
     obtain ⟨j, D2, hj, rfl, hcub, hDg, hupd⟩ := hrel
     have hsz := hupd.size
     have hB : Below K0 w wo := B3.out.trans (hupd.below hKm (by omega))
     have HBW := hid hB
     have hs1 : K0 <= wo.heap.size := by omega
     have hrok := zku (L0 := L0) HFO.out.1 j
     have HDG2 := hid hDg
     have hll := HLL.out
     by_cases hlj : j < L0.length
     ·obtain ⟨g, rfl, hge, hgs, -, hcells⟩ := HCE.out (by omega)
      have hcj := hcells j (by omega)
      have hrow := HRU.out j (by rw [List.length_map]; exact hlj)
      rw [zpt] at hrow
      have hstep : zbA l.s.1.length l.s.2.1.length L0 cn (j + 1) = if (getK (zbA l.s.1.length l.s.2.1.length L0 cn j) (L0.getD j ([], nilC)).1).isSome then zbA l.s.1.length l.s.2.1.length L0 cn j else (addK l.s.1.length l.s.2.1.length (zbA l.s.1.length l.s.2.1.length L0 cn j) (L0.getD j ([], nilC)).1 (getC L0 (L0.getD j ([], nilC)).1)).1 := rfl
      generalize (L0.getD j ([], nilC)).1 = key at *
      obtain ⟨Au, cu, hue⟩ := zu hrow
      have hul : us.length = L0.length := by have := HUL.out; rwa [List.length_map] at this
      have hcj2 : w3.cell? ⟨g, j, none⟩ = some (.slice Au key.length cu) := by
       rw [hcj, <- hue, List.getD_eq_getElem?_getD, List.getElem?_eq_getElem (by rw [hul]; exact hlj)]; rfl
      rw [hue] at hrow
      have qj := hupd.cellAt hgs (by omega) hcj2
      have hroww : wo.ownsRow wr0.heap.size 3 1 (.slice Au key.length cu) key.length (zk key) := zo hrow (fun b hb => hupd.block b (hrow.lt b hb).2 (fun e => by injection e with e; have := (hrow.lt b hb).1; omega))
      have HG := hid (zhT D2 q m l.s.1.length l.s.2.1.length (zbA l.s.1.length l.s.2.1.length L0 cn j) (.slice Au key.length cu) key wo hcub hrok.1 (Sl.of_own hroww) hd1 hd3 hm2)
      have HCB := hid hcub; have HRW := hid hroww; have HST := hid hstep; have HRK := hid hrok; have HUP := hid hupd
      have hlen7 : (zbA l.s.1.length l.s.2.1.length L0 cn j).length <= 70000 := by have := hrok.2; have := HFO.out.2; have := HLL.out; omega
      clear hrow hroww hcub hstep hrok hcj hcj2 hue hcells hDg hupd hB
      go_wp2_with fail
      (with_reducible refine HG.out.mono ?_)
      rintro e w5 ⟨vx, rfl, hvx, hb5⟩
      obtain ⟨G6, g6, G7, g7, G8, g8, rfl, hx5⟩ := Own3.lit hvx (Nat.le_refl _)
      generalize hgk : getK (zbA l.s.1.length l.s.2.1.length L0 cn j) key = gk at *
      generalize getC (zbA l.s.1.length l.s.2.1.length L0 cn j) key = cx at *
      have hs5 := hb5.size
      have b56 : Below w5.heap.size w5 (w5.alloc (.cells #[.int .i64 cx.n, .slice G6 cx.s.length g6, .slice G7 cx.lo.length g7, .slice G8 cx.hi.length g8] 125)) := bl1 _ _
      obtain ⟨w6, hw6⟩ : ∃ W, W = w5.alloc (.cells #[.int .i64 cx.n, .slice G6 cx.s.length g6, .slice G7 cx.lo.length g7, .slice G8 cx.hi.length g8] 125) := ⟨_, rfl⟩
      rw [<- hw6] at b56
      have b6 : Below wo.heap.size wo w6 := hb5.trans (b56.mono hs5)
      have B6 := hid b6; have HW6 := hid hw6
      have HB6 := hid (HBW.out.trans (b6.mono hs1))
      have hs6 := b6.size
      have hst := HST.out
      clear hvx hb5 hx5 b56 b6 hw6 qj
      go_upto_region 27 with (fail)
      rw [<- HW6.out]
      cases gk with
      | some gv =>
        rw [if_pos (show (some gv).isSome = true from rfl)] at hst
        have HN := hid (show zo8 l.s.1.length l.s.2.1.length L0 cn K0 q m w3 (.int .i64 ((j : Int) + 1)) w6 from ⟨j + 1, D2, by omega, by go_num, by rw [hst]; exact HCB.out.below B6.out, HDG2.out, HUP.out.new (B6.out.mono hsz)⟩)
        clear hst
        go_wp2
        go_roundw
        case rel => exact HN.out
        case measure => simp [intOf]; omega
      | none =>
        have HGK := hid hgk
        rw [if_neg (by simp)] at hst
        have hr6 := zx HRW.out B6.out
        have HG2 := hid (HGET.out w6 HB6.out (.slice Au key.length cu) key (Sl.of_own hr6))
        have HR6 := hid hr6
        have q5w := zc HB6.out hpK q5
        have hcw := zc HB6.out hgK hcell
        clear hr6
        go_wp2_with fail
        (with_reducible refine HG2.out.mono ?_)
        rintro e w7 ⟨vx, rfl, hvx, hb7⟩
        obtain ⟨I6, i6, I7, i7, I8, i8, rfl, hx7⟩ := Own3.lit hvx (Nat.le_refl _)
        generalize getC L0 key = cy at *
        have hs7 := hb7.size
        obtain ⟨w8, hw8⟩ : ∃ W, W = w7.alloc (.cells #[.int .i64 cy.n, .slice I6 cy.s.length i6, .slice I7 cy.lo.length i7, .slice I8 cy.hi.length i8] 125) := ⟨_, rfl⟩
        have b78 : Below w7.heap.size w7 w8 := by rw [hw8]; exact bl1 _ _
        have y0 : w8.cell? ⟨w7.heap.size, 0, none⟩ = some (.int .i64 cy.n) := by rw [hw8]; simp [go_sem]
        have y1 : w8.cell? ⟨w7.heap.size, 1, none⟩ = some (.slice I6 cy.s.length i6) := by rw [hw8]; simp [go_sem]
        have y2 : w8.cell? ⟨w7.heap.size, 2, none⟩ = some (.slice I7 cy.lo.length i7) := by rw [hw8]; simp [go_sem]
        have y3 : w8.cell? ⟨w7.heap.size, 3, none⟩ = some (.slice I8 cy.hi.length i8) := by rw [hw8]; simp [go_sem]
        have b8 : Below wo.heap.size wo w8 := B6.out.trans ((hb7.trans (b78.mono hs7)).mono hs6)
        have HX8 := hid (hx7.on b78); have B8 := hid b8; have HW8 := hid hw8
        have HB8 := hid (HBW.out.trans (b8.mono hs1))
        have hs8 := b8.size
        have HADD := hid (zka D2 q m l.s.1.length l.s.2.1.length (zbA l.s.1.length l.s.2.1.length L0 cn j) (.slice Au key.length cu) (.agg #[.int .i64 cy.n, .slice I6 cy.s.length i6, .slice I7 cy.lo.length i7, .slice I8 cy.hi.length i8]) key cy w8 (HCB.out.below B8.out) HRK.out.1 hd1 hd3 hm2 hlen7 (Sl.of_own (zx HRW.out B8.out)) HX8.out.read HGK.out)
        have HST3 := hid hst
        clear hvx hb7 hx7 b78 b8 hw8 hst q5w hcw
        go_upto_region 29 with (fail)
        rw [<- HW8.out]
        go_wp2_with fail
        (with_reducible refine HADD.out.mono ?_)
        rintro e w9 ⟨D', rfl, hcub9, hgrow, hupd9⟩
        have HN := hid (show zo8 l.s.1.length l.s.2.1.length L0 cn K0 q m w3 (.int .i64 ((j : Int) + 1)) w9 from ⟨j + 1, D', by omega, by go_num, by rw [HST3.out]; exact hcub9, fun b hb => by
         rcases hgrow.2 b hb with h1 | h1
         ·exact HDG2.out b h1
         ·omega, (HUP.out.new (B8.out.mono hsz)).trans hupd9⟩)
        clear hcub9 hgrow hupd9
        go_wp2
        go_roundw
        case rel => exact HN.out
        case measure => simp [intOf]; omega
     ·obtain rfl : j = L0.length := by omega
      have hlw := HLW.out wo HBW.out
      have hLO : ∀ g, D2 g -> ¬ LatO p Y l.ds.length g := fun g hg hO => by
       have h1 := zct HLAT.out hO
       have h2 := HDG2.out g hg
       rw [HK.out] at h2
       omega
      have hset := hlw.cubSet hv HCS.out hcub hLO
      have q5w := zc HBW.out hpK q5
      have hcw := zc HBW.out hgK hcell
      have hfw := zy HBW.out hgK HFRO.out
      have HSET := hid hset
      have HCH := hid (show Chg (fun g => Y.CS.ownBlock = some g) w (wo.setCell ⟨gC, v, none⟩ (.pointer (some ⟨q, 0, none⟩))) from (Chg.of_below (by rw [<- HK.out]; exact HBW.out)).same (Chg.upd (Upd.setCell gC v wo _) (by rw [HCS.out]; rfl)))
      clear hlw hLO hset hcub hDg hupd hB hrok
      go_wp2
      go_ret
      have hrr : ∀ g, (Y.R g \/ D2 g) -> Y.R g \/ K0 <= g := fun g hg => hg.elim .inl (fun h => .inr (HDG2.out g h))
      unfold FilP
      rw [HFF.out, <- HK.out]
      refine ⟨{ Y with R := fun k => Y.R k \/ D2 k, cq := fun j => if j = v then q else Y.cq j, cm := fun j => if j = v then m else Y.cm j, cD := fun j => if j = v then D2 else Y.cD j }, rfl, ?_, rfl, rfl, hrr, HCH.out⟩
      first
       | exact HSET.out
end Go.Proofs.YtgoapnkdcfcjgaaGreat
