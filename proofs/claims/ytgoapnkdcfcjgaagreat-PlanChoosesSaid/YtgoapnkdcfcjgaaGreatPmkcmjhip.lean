/- 1 text of this claim, in build order. -/
import Derived.Test.YtgoapnkdcfcjgaaGreatPbngnclea
set_option linter.unusedVariables false
set_option linter.unusedSimpArgs false
namespace Go.Proofs.YtgoapnkdcfcjgaaGreat
open Go.ChangeShapes Go.WideShapes Go.ChangeAt Go.RowKit Go.Deep
theorem zos {l : LatX} {fs : List zq} (h : zbe l.s fs ≠ 0) : zao l fs = (l, zbe l.s fs) := by
 unfold zao; rw [if_pos h]
theorem zng {l : LatX} {fs : List zq} (h1 : zbe l.s fs = 0) (h : (zE l.s l.ds fs fs.length).2.2 ≠ 0) : zao l fs = (l, (zE l.s l.ds fs fs.length).2.2) := by
 unfold zao; rw [if_neg (by simpa using h1)]; simp only; rw [if_pos h]
theorem znE {l : LatX} {fs : List zq} (h1 : zbe l.s fs = 0) (h2 : (zE l.s l.ds fs fs.length).2.2 = 0) (h : NUM < l.n + fs.length) : zao l fs = (l, 14) := by
 unfold zao; rw [if_neg (by simpa using h1)]; simp only; rw [if_neg (by simpa using h2), if_pos h]
theorem zn5 {l : LatX} {fs : List zq} (h1 : zbe l.s fs = 0) (h2 : (zE l.s l.ds fs fs.length).2.2 = 0) (h3 : ¬ NUM < l.n + fs.length) (h : (zU l.s l.cs (zE l.s l.ds fs fs.length).2.1 (fs.map Prod.snd) (zh l.s).length).2 ≠ 0) :
  zao l fs = (l, (zU l.s l.cs (zE l.s l.ds fs fs.length).2.1 (fs.map Prod.snd) (zh l.s).length).2) := by
 unfold zao; rw [if_neg (by simpa using h1)]; simp only; rw [if_neg (by simpa using h2), if_neg h3, if_pos h]
theorem zmw {l : LatX} {fs : List zq} (h1 : zbe l.s fs = 0) (h2 : (zE l.s l.ds fs fs.length).2.2 = 0) (h3 : ¬ NUM < l.n + fs.length) (h : (zU l.s l.cs (zE l.s l.ds fs fs.length).2.1 (fs.map Prod.snd) (zh l.s).length).2 = 0) :
  zao l fs = (⟨l.s, (zE l.s l.ds fs fs.length).1, (zU l.s l.cs (zE l.s l.ds fs fs.length).2.1 (fs.map Prod.snd) (zh l.s).length).1, l.n + fs.length⟩, 0) := by
 unfold zao; rw [if_neg (by simpa using h1)]; simp only; rw [if_neg (by simpa using h2), if_neg h3, if_neg (by simpa using h)]
theorem zpV {w : World} {H p : Nat} {Y : Lay} {l : LatX} (h : LatW w H p Y l) (hR : ∀ g, Y.R g -> H <= g) {g : Nat} (hg : LatO p Y l.ds.length g) : H <= g := by
 rcases hg with hg | hg | hg
 ·exact hR g hg
 ·exact (h.ds.lt g hg).1
 ·exact (zcj h hg).1
theorem backE (H p K2 p2 O : Nat) (Y Y2 : Lay) (l : LatX) (w W3 wo : World) (er : Int) (hz : er ≠ 0) (hl : LatW w H p Y l) (hb3 : Below w.heap.size w W3) (h2 : LatW W3 K2 p2 Y2 l) (hR2 : ∀ g, Y2.R g -> K2 <= g)
  (hK : w.heap.size + 1 < K2) (hO : w.heap.size + 1 < O) (hO3 : O < W3.heap.size)
  (m0 : W3.cell? ⟨w.heap.size, 0, none⟩ = some (.pointer (some ⟨p, 0, none⟩))) (m1 : ∃ x, W3.cell? ⟨w.heap.size + 1, 0, none⟩ = some x)
  (o0 : W3.cell? ⟨O, 0, none⟩ = some Y2.S1) (o1 : W3.cell? ⟨O, 1, none⟩ = some Y2.S2) (o2 : W3.cell? ⟨O, 2, none⟩ = some Y2.S3) (o3 : W3.cell? ⟨O, 3, none⟩ = some Y2.V) (o4 : W3.cell? ⟨O, 4, none⟩ = some Y2.DS) (o5 : W3.cell? ⟨O, 5, none⟩ = some Y2.CS) (o6 : W3.cell? ⟨O, 6, none⟩ = some (.int .i64 l.n))
  (hchg : Chg (LatA p Y l.ds.length) W3 wo) (hc : ∀ i, i < 7 -> ∃ u, wo.cell? ⟨p, i, none⟩ = some u) (fz : ∀ i, i < 7 -> wo.frozen? ⟨p, i, none⟩ = false) :
  CallsD Tryz.prog 46 #[.pointer (some ⟨w.heap.size + 1, 0, none⟩), .pointer (some ⟨O, 0, none⟩), .pointer (some ⟨w.heap.size, 0, none⟩)] .returning (wo.setCell ⟨w.heap.size + 1, 0, none⟩ (.int .i64 er))
   fun e u' w' => u' = .returning /\ (e = .returned (.tuple #[]) /\ w'.cell? ⟨w.heap.size + 1, 0, none⟩ = some (.int .i64 er) /\ ApyP H p Y l (l, er) w (.returned (.int .i64 er)) w') := by
 obtain ⟨C1, k1, C2, k2, C3, k3, e, -, -, -⟩ := h2.sch.rd h2.sin
 injection e with e
 have e1 : Y2.S1 = .slice C1 l.s.1.length k1 := by have := congrArg (fun a : Array Value => a[0]?) e; simpa using this
 have e2 : Y2.S2 = .slice C2 l.s.2.1.length k2 := by have := congrArg (fun a : Array Value => a[1]?) e; simpa using this
 have e3 : Y2.S3 = .slice C3 l.s.2.2.length k3 := by have := congrArg (fun a : Array Value => a[2]?) e; simpa using this
 obtain ⟨CV, kV, e4, -, -⟩ := h2.views.open_
 simp only [List.cons.injEq, and_true] at e4
 obtain ⟨CD, kD, e5⟩ := zu h2.ds
 obtain ⟨CC0, kC, e6⟩ := zu h2.cs
 have hpl := hl.pl
 have hs := hchg.size; have hs3 := hb3.size
 have kB : Kept (fun g => w.heap.size <= g /\ g < W3.heap.size) W3 wo := hchg.kept (fun g hg => ⟨hg.2, fun hA => by have := (zcj hl hA).2; have := hg.1; omega⟩)
 have hset : Chg (fun g => g = w.heap.size + 1) wo (wo.setCell ⟨w.heap.size + 1, 0, none⟩ (.int .i64 er)) := Chg.upd (Upd.setCell (w.heap.size + 1) 0 wo _) rfl
 have hbox : ∀ i u, W3.cell? ⟨O, i, none⟩ = some u -> (wo.setCell ⟨w.heap.size + 1, 0, none⟩ (.int .i64 er)).cell? ⟨O, i, none⟩ = some u := fun i u hu => cell_far (by omega) (kB.cell (by constructor <;> omega) hu)
 have hge : ∀ g, LatO p2 Y2 l.ds.length g -> K2 <= g := fun g hg => zpV h2 hR2 hg
 have h2a : LatW wo K2 p2 Y2 l := h2.chg hchg (fun g hg hO => by have := (zcj hl hg).2; have := hge g hO; omega)
 have h2b : LatW (wo.setCell ⟨w.heap.size + 1, 0, none⟩ (.int .i64 er)) K2 p2 Y2 l := h2a.chg hset (fun g hg hO => by have := hge g hO; omega)
 obtain ⟨x1, m1⟩ := m1
 have n1 : (wo.setCell ⟨w.heap.size + 1, 0, none⟩ (.int .i64 er)).cell? ⟨w.heap.size + 1, 0, none⟩ = some (.int .i64 er) := zt (kB.cell (by constructor <;> omega) m1)
 have n0 : (wo.setCell ⟨w.heap.size + 1, 0, none⟩ (.int .i64 er)).cell? ⟨w.heap.size, 0, none⟩ = some (.pointer (some ⟨p, 0, none⟩)) := cell_far (by omega) (kB.cell (by constructor <;> omega) m0)
 have hcE : ∀ i, i < 7 -> ∃ u, (wo.setCell ⟨w.heap.size + 1, 0, none⟩ (.int .i64 er)).cell? ⟨p, i, none⟩ = some u := fun i hi => by obtain ⟨u, hu⟩ := hc i hi; exact ⟨u, cell_far (by omega) hu⟩
 have fzE : ∀ i, i < 7 -> (wo.setCell ⟨w.heap.size + 1, 0, none⟩ (.int .i64 er)).frozen? ⟨p, i, none⟩ = false := fun i hi => frozen_far (fz i hi)
 have hsz : (wo.setCell ⟨w.heap.size + 1, 0, none⟩ (.int .i64 er)).heap.size = wo.heap.size := by simp [World.setCell]
 refine (zmC (w.heap.size + 1) O w.heap.size p .returning _ er l.n _ _ _ _ _ _ _ _ _ _ _ _ _ _ _ _ _ _ n1 hz n0 (hbox 0 _ (e1 ▸ o0)) (hbox 1 _ (e2 ▸ o1)) (hbox 2 _ (e3 ▸ o2)) (hbox 3 _ (e4 ▸ o3)) (hbox 4 _ (e5 ▸ o4)) (hbox 5 _ (e6 ▸ o5)) (hbox 6 _ o6) fzE hcE).mono ?_
 rintro e u' w' ⟨rfl, rfl, rfl⟩
 have hov := h2b.over (H := H) hl.hp (show p < K2 by omega) (by rw [hsz]; omega) fzE hR2 hcE
 rw [e1, e2, e3, e4, e5, e6] at hov
 refine ⟨rfl, rfl, (World.cell?_of_block (a := ⟨w.heap.size + 1, 0, none⟩) (ze4 (show w.heap.size + 1 ≠ p by omega))).trans n1, Y2, rfl, hov, ?_, fun g hg => ?_⟩
 ·have hp0 : LatO p Y l.ds.length p := .inr (.inr (.inl rfl))
  exact ((((Chg.of_below hb3).same (hchg.mono (fun g hg => .inr (.inr hg)))).trans hset (fun g hg => .inr (by omega))).same ((znM _ p _ _ _ _ _ _ _).mono (fun g hg => by rw [hg]; exact hp0)))
 ·by_cases hgp : g = p
  ·rw [hgp]; exact .inl (.inr (.inr (.inl rfl)))
  ·have : LatO p2 Y2 l.ds.length g := by
    rcases hg with hg | hg | hg | hg
    ·exact .inl hg
    ·exact .inr (.inl hg)
    ·exact absurd hg hgp
    ·exact .inr (.inr (.inr hg))
   have := hge g this
   exact .inr (by omega)
theorem LatW.cells {w : World} {H p : Nat} {Y : Lay} {l : LatX} (h : LatW w H p Y l) : ∀ i, i < 7 -> ∃ u, w.cell? ⟨p, i, none⟩ = some u := fun i hi => by
 have : i = 0 \/ i = 1 \/ i = 2 \/ i = 3 \/ i = 4 \/ i = 5 \/ i = 6 := by omega
 rcases this with rfl | rfl | rfl | rfl | rfl | rfl | rfl
 ·exact ⟨_, h.c0⟩
 ·exact ⟨_, h.c1⟩
 ·exact ⟨_, h.c2⟩
 ·exact ⟨_, h.c3⟩
 ·exact ⟨_, h.c4⟩
 ·exact ⟨_, h.c5⟩
 ·exact ⟨_, h.c6⟩
set_option maxRecDepth 100000 in
set_option maxHeartbeats 3200000 in
theorem zj1 (H p : Nat) (Y : Lay) (l : LatX) (xf : Value) (fs : List zq) (E : Nat -> Prop) (w : World) (h : LatW w H p Y l) (ok : zfi l) (hn : ∀ v, (l.cs.getD v []).length <= 500)
  (hf : zde w E xf fs) (hE : ∀ g, E g -> g < w.heap.size /\ ¬ LatO p Y l.ds.length g) (hz1 : zbe l.s fs = 0) :
  Calls Tryz.prog 25 #[.pointer (some ⟨p, 0, none⟩), xf] w (ApyP H p Y l (zao l fs) w) := by
 obtain ⟨i1, hi', hz0', hz1', hz2'⟩ := info_parts zlA
 have HV2 := hid (fun h => zng (l := l) (fs := fs) hz1 h)
 have HV3 := hid (fun h2 h => znE (l := l) (fs := fs) hz1 h2 h)
 have HV4 := hid (fun h2 h3 h => zn5 (l := l) (fs := fs) hz1 h2 h3 h)
 have HV5 := hid (fun h2 h3 h => zmw (l := l) (fs := fs) hz1 h2 h3 h)
 obtain ⟨RV, hRV⟩ : ∃ RV, RV = zao l fs := ⟨_, rfl⟩
 rw [<- hRV] at HV2 HV3 HV4 HV5 ⊢
 clear hRV
 have hmf : ∀ (fn : Fn) (first cap : Array Value) (w : World), (Instr.makeFunc fn first cap).run Tryz.prog w = .ok (.func fn first cap) w := fun _ _ _ _ => rfl
 obtain ⟨A, c, exf, hcc, hcm⟩ := (hf w (zbE.refl E w)).1.open_
 simp only [List.cons.injEq, and_true] at exf
 subst exf
 obtain ⟨hm, hl1, hl8, hfit⟩ := zeo hz1
 obtain ⟨⟨hd1, hd3⟩, ⟨hm1, hm2⟩, hdl⟩ := zaz hm
 obtain ⟨hv6, hvl⟩ := zaj hm
 have hn0 := ok.n0; have HDN := hid ok.dlen; have HCN := hid ok.clen
 have hvx : (zh l.s).length <= 7 := by unfold zh; rw [List.length_cons]; omega
 have hnum : l.n <= 1099511627776 := ok.n1
 obtain ⟨A1, c1, A2, c2, A3, c3, e, -, -, -⟩ := h.sch.rd h.sin
 injection e with e
 have e1 : Y.S1 = .slice A1 l.s.1.length c1 := by have := congrArg (fun a : Array Value => a[0]?) e; simpa using this
 have e2 : Y.S2 = .slice A2 l.s.2.1.length c2 := by have := congrArg (fun a : Array Value => a[1]?) e; simpa using this
 have e3 : Y.S3 = .slice A3 l.s.2.2.length c3 := by have := congrArg (fun a : Array Value => a[2]?) e; simpa using this
 obtain ⟨W0, hW0⟩ : ∃ W, W = (w.alloc (.cells #[.pointer (some ⟨p, 0, none⟩)] 40)).alloc (.cells #[.int .i64 0] 33) := ⟨_, rfl⟩
 have b0 : Below w.heap.size w W0 := by rw [hW0]; exact zI
 have z0 : W0.heap.size = w.heap.size + 2 := by rw [hW0]; simp
 have h0 := h.on b0
 have k0 : zbE E w W0 := zbE.of_below b0 (fun g hg => (hE g hg).1)
 have hf0 := hf.on k0
 have n0 : W0.cell? ⟨w.heap.size, 0, none⟩ = some (.pointer (some ⟨p, 0, none⟩)) := by rw [hW0]; simp [go_sem]
 have n1 : W0.cell? ⟨w.heap.size + 1, 0, none⟩ = some (.int .i64 0) := by rw [hW0]; simp [go_sem]
 have nf : W0.frozen? ⟨w.heap.size + 1, 0, none⟩ = false := by rw [hW0]; simp [go_sem]
 have q0 := h0.c0; have q1 := h0.c1; have q2 := h0.c2
 have hsv := h0.sch.rd h0.sin
 rw [e1] at q0; rw [e2] at q1; rw [e3] at q2
 rw [e1, e2, e3] at hsv
 have hmay := ziw (.agg #[.slice A1 l.s.1.length c1, .slice A2 l.s.2.1.length c2, .slice A3 l.s.2.2.length c3]) (.slice A fs.length c) l.s fs W0 hsv (by omega) (hf0 W0 (zbE.refl _ _)).1
 rw [hz1] at hmay
 have HMAY := hid hmay
 have HW0 := hid hW0; have HL0 := hid h0; have HF0 := hid hf0; have HE := hid hE; have HOK := hid ok; have HN := hid hn; have HLW := hid h; have B0 := hid b0
 have HFIT := hid hfit; have HM := hid hm; have HDL := hid hdl; have HVL := hid hvl
 clear hW0 h0 hf0 hf hE ok hn h b0 k0 hsv e e1 e2 e3 hmay hz1 hfit hm hdl hvl
 go_enter_defers Tryz.func25, Tryz.ntmps25
 go_upto_region 1 with (fail)
 rw [<- HW0.out]
 go_wp2_with fail
 (with_reducible refine HMAY.out.mono ?_)
 rintro e w1 ⟨rfl, hb1⟩
 have s1 := hb1.size
 have n0a := zc hb1 (by omega) n0
 have n1a := zc hb1 (by omega) n1
 have nfa := zy hb1 (by omega) nf
 have B1 := hid (B0.out.trans (hb1.mono (by omega)))
 have hb01 := hid hb1
 have HCPY := hid (zm6 H p Y l w1 (HLW.out.on B1.out) HOK.out (fun v => by have := HN.out v; omega))
 clear n0 n1 nf hb1 q0 q1 q2
 go_wp2_with fail
 (with_reducible refine HCPY.out.mono ?_)
 rintro e w2 ⟨p2, Y2, rfl, hl2, hR2, hb2⟩
 have s2 := hb2.size
 have n0b := zc hb2 (by omega) n0a
 have n1b := zc hb2 (by omega) n1a
 have nfb := zy hb2 (by omega) nfa
 have B2 := hid (B1.out.trans (hb2.mono (by omega)))
 obtain ⟨C1, k1, C2, k2, C3, k3, e, -, -, -⟩ := hl2.sch.rd hl2.sin
 injection e with e
 have e1 : Y2.S1 = .slice C1 l.s.1.length k1 := by have := congrArg (fun a : Array Value => a[0]?) e; simpa using this
 have e2 : Y2.S2 = .slice C2 l.s.2.1.length k2 := by have := congrArg (fun a : Array Value => a[1]?) e; simpa using this
 have e3 : Y2.S3 = .slice C3 l.s.2.2.length k3 := by have := congrArg (fun a : Array Value => a[2]?) e; simpa using this
 obtain ⟨CV, kV, e4, -, -⟩ := hl2.views.open_
 simp only [List.cons.injEq, and_true] at e4
 obtain ⟨CD, kD, e5⟩ := zu hl2.ds
 obtain ⟨CC0, kC, e6⟩ := zu hl2.cs
 have x0 := hl2.c0; have x1 := hl2.c1; have x2 := hl2.c2; have x3 := hl2.c3; have x4 := hl2.c4; have x5 := hl2.c5; have x6 := hl2.c6
 rw [e1] at x0; rw [e2] at x1; rw [e3] at x2; rw [e4] at x3; rw [e5] at x4; rw [e6] at x5
 obtain ⟨W3, hW3⟩ : ∃ W, W = w2.alloc (.cells #[.slice C1 l.s.1.length k1, .slice C2 l.s.2.1.length k2, .slice C3 l.s.2.2.length k3, .slice CV (zh l.s).length kV, .slice CD l.ds.length kD, .slice CC0 l.cs.length kC, .int .i64 l.n] 78) := ⟨_, rfl⟩
 have b3 : Below w2.heap.size w2 W3 := by rw [hW3]; exact bl1 _ _
 have s3 := b3.size
 have z3 : W3.heap.size = w2.heap.size + 1 := by rw [hW3]; simp
 have m0 := zc b3 (by omega) n0b
 have m1 := zc b3 (by omega) n1b
 have mf := zy b3 (by omega) nfb
 have B3 := hid (B2.out.trans (b3.mono (by omega)))
 have HL3 := hid (HLW.out.on B3.out)
 have HW3 := hid hW3
 have B03 := hid (show Below W0.heap.size W0 W3 from hb01.out.trans (((hb2.mono (by omega)).trans (b3.mono (by omega)))))
 have HF3 := hid (HF0.out.on (zbE.of_below B03.out (fun g hg => by have := (HE.out g hg).1; omega)))
 have hz03 : w.heap.size + 2 < W3.heap.size := by omega
 have hl23 := hl2.on b3
 have p0 : W3.cell? ⟨w2.heap.size, 0, none⟩ = some Y2.S1 := by rw [hW3, e1]; simp [go_sem]
 have p1 : W3.cell? ⟨w2.heap.size, 1, none⟩ = some Y2.S2 := by rw [hW3, e2]; simp [go_sem]
 have p2' : W3.cell? ⟨w2.heap.size, 2, none⟩ = some Y2.S3 := by rw [hW3, e3]; simp [go_sem]
 have p3 : W3.cell? ⟨w2.heap.size, 3, none⟩ = some Y2.V := by rw [hW3, e4]; simp [go_sem]
 have p4 : W3.cell? ⟨w2.heap.size, 4, none⟩ = some Y2.DS := by rw [hW3, e5]; simp [go_sem]
 have p5 : W3.cell? ⟨w2.heap.size, 5, none⟩ = some Y2.CS := by rw [hW3, e6]; simp [go_sem]
 have p6 : W3.cell? ⟨w2.heap.size, 6, none⟩ = some (.int .i64 l.n) := by rw [hW3]; simp [go_sem]
 have HBK := hid (fun (wo : World) (er : Int) (hz : er ≠ 0) (hchg : Chg (LatA p Y l.ds.length) W3 wo) (hc : ∀ i, i < 7 -> ∃ u, wo.cell? ⟨p, i, none⟩ = some u) (fz : ∀ i, i < 7 -> wo.frozen? ⟨p, i, none⟩ = false) =>
  backE H p w1.heap.size p2 w2.heap.size Y Y2 l w W3 wo er hz HLW.out B3.out hl23 hR2 (by omega) (by omega) (by omega) m0 ⟨_, m1⟩ p0 p1 p2' p3 p4 p5 p6 hchg hc fz)
 clear hl23 p0 p1 p2' p3 p4 p5 p6
 have hpN : p < w.heap.size := HLW.out.pl
 have HFP := hid (fun f (hf : f ∈ fs) => zjZ (HFIT.out f hf) (fun d hd => by have := HDL.out d hd; omega))
 have HC3 := hid (show Chg (LatO p Y l.ds.length) w W3 from Chg.of_below B3.out)
 clear hl2 hR2 hb2 b3 e e1 e2 e3 e4 e5 e6 n0a n1a nfa n0b n1b nfb hW3
 go_upto_region 5 with (fail)
 rw [<- HW3.out]
 clear x0 x1 x2 x3 x4 x5 x6
 go_wp2
 go_loopw [7, 30] (fun out i wr => zqh H p Y l fs W3 out i wr) (fun _ i _ => fs.length - (intOf i).toNat)
 case atStart => exact ⟨0, Y.dD, by omega, rfl, rfl, HL3.out, zc4.nil_ _ _ _, Chg.refl _ _, fun i hi g hg => .inl hg⟩
 case round =>
  obtain ⟨k, dD', hk, rfl, he0, hlat, hrow, hchg, hdd⟩ := hrel
  have hfo := zdN l.s l.ds fs k HOK.out.dok
  have hrl := hfo.2.2 he0
  obtain ⟨us0, -, ur0, -, -⟩ := id hrow
  rw [hrl] at ur0
  obtain ⟨Ao, co, rfl⟩ := zu ur0
  clear ur0 us0
  have hs := hchg.size
  have kE : zbE E W3 wr := zbE.of_chg hchg (fun g hg => ⟨by have := (HE.out g hg).1; omega, fun hA => (HE.out g hg).2 (.inr (.inr hA))⟩)
  have hfk := HF3.out.on kE
  have kB : Kept (fun g => w.heap.size <= g /\ g < W3.heap.size) W3 wr := hchg.kept (fun g hg => ⟨hg.2, fun hA => by have := (zcj HLW.out hA).2; have := hg.1; omega⟩)
  have r0 := kB.cell (by constructor <;> omega) m0
  have r1 := kB.cell (by constructor <;> omega) m1
  have rf := kB.frozen (by constructor <;> omega) mf
  have HA1 := hid (show ∀ g, LatA p { Y with dD := dD' } l.ds.length g -> LatA p Y l.ds.length g \/ W3.heap.size <= g from fun g hg => by
   rcases hg with hg | hg | ⟨i, hi, hg⟩
   ·exact .inl (.inl hg)
   ·exact .inl (.inr (.inl hg))
   ·rcases hdd i hi g hg with h1 | h1
    ·exact .inl (.inr (.inr ⟨i, hi, h1⟩))
    ·exact .inr h1)
  have HC := hid hchg; have HDD := hid hdd; have HRW := hid hrow; have HLA := hid hlat; have HFK := hid hfk
  clear kE kB hfk hchg hdd hrow hlat
  by_cases hlt : k < fs.length
  ·obtain ⟨b, off, c', AP, cP, AV, cV, hxe, hEb, q0, q1, hpe⟩ := (HFK.out wr (zbE.refl _ _)).2 k hlt
   injection hxe with hxe _ hxc
   subst hxe
   subst hxc
   have hst := zcr he0
   have hgd : fs.getD k ([], []) = fs[k] := by rw [List.getD_eq_getElem?_getD, List.getElem?_eq_getElem hlt]; rfl
   rw [hgd] at hst
   have hfl := zcK (HFIT.out _ (List.getElem_mem hlt))
   have hfp := HFP.out _ (List.getElem_mem hlt)
   have herr := fun h => zcU (s := l.s) (ds := l.ds) (fs := fs) (k := k + 1) (n := fs.length) h hlt
   have hlat := HLA.out; have hrow := HRW.out
   clear HLA HRW hgd
   obtain ⟨rr, hrr⟩ : ∃ rr, rr = zE l.s l.ds fs k := ⟨_, rfl⟩
   rw [<- hrr] at hst hfo hlat hrow hrl
   have HRR := hid hrr
   clear hrr he0
   obtain ⟨ds1, CC, er⟩ := rr
   simp only at hst hfo hlat hrow hrl
   have hpl := HFP.out _ (List.getElem_mem hlt)
   generalize fs[k] = f at *
   obtain ⟨ps, vals⟩ := f
   simp only at hst hfl hpl q0 q1 hpe hfp
   obtain ⟨W4, hW4⟩ : ∃ W, W = wr.alloc (.cells #[.slice AP ps.length cP, .slice AV vals.length cV] 60) := ⟨_, rfl⟩
   have b4 : Below wr.heap.size wr W4 := by rw [hW4]; exact bl1 _ _
   have z4 : W4.heap.size = wr.heap.size + 1 := by rw [hW4]; simp
   have t0 : W4.cell? ⟨wr.heap.size, 0, none⟩ = some (.slice AP ps.length cP) := by rw [hW4]; simp [go_sem]
   have t1 : W4.cell? ⟨wr.heap.size, 1, none⟩ = some (.slice AV vals.length cV) := by rw [hW4]; simp [go_sem]
   have r0' := zc b4 (by omega) r0
   have hlen1 : ds1.length = l.ds.length := hfo.1
   have hcl := (zbp l.s ds1 ps ps.length).1
   have HCOD := hid (zkU H p { Y with dD := dD' } { l with ds := ds1 } AP AV cP vals.length cV ps E W4 (hlat.on b4) hfo.2.1 (hpe.kept (fun g hg => b4.block g (by have := (HE.out g hg).1; omega)))
    (fun g hg => ⟨by have := (HE.out g hg).1; omega, fun hA => by
     have hA' : LatA p { Y with dD := dD' } l.ds.length g := by rw [<- hlen1]; exact hA
     rcases HA1.out g hA' with h1 | h1
     ·exact (HE.out g hg).2 (.inr (.inr h1))
     ·have := (HE.out g hg).1; omega⟩) (by show ps.length <= ds1.length; have := HDN.out; omega) hpl (by omega) (by show ds1.length <= 1000; have := HDN.out; omega))
   generalize zM l.s ds1 ps ps.length = res at *
   obtain ⟨ds2, M, er2⟩ := res
   simp only at hst HCOD hcl
   have HST := hid hst; have HER := hid herr; have HW4 := hid hW4; have B4 := hid b4; have HLT := hid hlat; have HRO := hid hrow
   clear hst herr hpe hfo hfl hfp hpl b4 hW4 hEb hlat hrow
   go_upto_region 10 with (fail)
   rw [<- HW4.out]
   go_wp2_with fail
   (with_reducible refine HCOD.out.mono ?_)
   rintro e w5 ⟨v, dD2, rfl, hl5, hrz, hc5, hd5⟩
   have hc5 : Chg (LatA p { Y with dD := dD' } l.ds.length) W4 w5 := by
    rw [show ({ l with ds := ds1 } : LatX).ds.length = l.ds.length from hlen1] at hc5
    exact hc5
   have hd5 : ∀ i, i < l.ds.length -> ∀ g, dD2 i g -> dD' i g \/ W4.heap.size <= g := fun i hi g hg => hd5 i (by show i < ds1.length; omega) g hg
   have hs5 := hc5.size
   have hC5 : Chg (LatA p Y l.ds.length) W3 w5 := (HC.out.same (Chg.of_below B4.out)).trans hc5 (fun g hg => HA1.out g hg)
   by_cases hz5 : er2 = 0
   case neg =>
    have kB5 : Kept (fun g => w.heap.size <= g /\ g < W3.heap.size) W3 w5 := hC5.kept (fun g hg => ⟨hg.2, fun hA => by have := (zcj HLW.out hA).2; have := hg.1; omega⟩)
    have r1' := kB5.cell (by constructor <;> omega) m1
    have rf' := kB5.frozen (by constructor <;> omega) mf
    have HDO := hid (HBK.out w5 er2 hz5 hC5 hl5.cells hl5.fz)
    have hz' : (er2 != 0) = true := by simpa using hz5
    have HZ5 := hid hz5
    clear hl5 hrz hc5 hd5 hC5 kB5 hz5 t0 t1 r0' q0 q1 r0 r1 rf
    go_wp2
    refine leaves_cons (f := 46) (args := #[.pointer (some ⟨w.heap.size + 1, 0, none⟩), .pointer (some ⟨w2.heap.size, 0, none⟩), .pointer (some ⟨w.heap.size, 0, none⟩)]) (by simp) (by simp [go_sem]) ?_
    refine HDO.out.mono ?_
    rintro e u' w'' ⟨rfl, rfl, hc9, hap⟩
    have HAP := hid hap
    clear hap
    simp [Leaves, settle, results, Tryz.results25, go_sem, hc9]
    have hval := HV2.out (by rw [HER.out (by rw [HST.out]; exact HZ5.out), HST.out]; exact HZ5.out)
    rw [HER.out (by rw [HST.out]; exact HZ5.out), HST.out] at hval
    rw [hval]
    exact HAP.out
   subst hz5
   have hrz : RowZ w5 W4.heap.size (fun g => ¬ LatO p { Y with dD := dD2 } l.ds.length g) v M := by
    have := hrz rfl
    rw [show ({ l with ds := ds1 } : LatX).ds.length = l.ds.length from hlen1] at this
    exact this
   obtain ⟨us1, -, ur1, -⟩ := id hrz
   obtain ⟨Av, cv, rfl⟩ := zu ur1
   have hnew : ∀ g, g < W4.heap.size -> ¬ LatO p { Y with dD := dD' } l.ds.length g -> ¬ LatO p { Y with dD := dD2 } l.ds.length g := fun g hlt hn hO => by
    rcases hO with hO | hO | hO | hO | ⟨i, hi, hO⟩
    ·exact hn (.inl hO)
    ·exact hn (.inr (.inl hO))
    ·exact hn (.inr (.inr (.inl hO)))
    ·exact hn (.inr (.inr (.inr (.inl hO))))
    ·rcases hd5 i hi g hO with h1 | h1
     ·exact hn (.inr (.inr (.inr (.inr ⟨i, hi, h1⟩))))
     ·omega
   have hrow5 : zc4 w5 W3.heap.size (fun g => ¬ LatO p { Y with dD := dD2 } l.ds.length g) (.slice Ao k co) CC :=
    HRO.out.kept (fun g hz _ hlt => (hc5.block g (by omega) (fun hA => hz (.inr (.inr hA)))).trans (B4.out.block g hlt)) (fun g hz _ hlt => hnew g (by omega) hz)
   have HDD2 := hid (show ∀ i, i < l.ds.length -> ∀ g, dD2 i g -> Y.dD i g \/ W3.heap.size <= g from fun i hi g hg => by
    rcases hd5 i hi g hg with h1 | h1
    ·exact HDD.out i hi g h1
    ·exact .inr (by omega))
   obtain ⟨vs, u1, u2, u4, u3⟩ := hrow5
   rw [hrl] at u2
   have HL5 := hid hl5; have HRZ := hid hrz; have HC5 := hid hC5; have U3 := hid u3; have U4 := hid u4; have UR1 := hid ur1
   clear hl5 hrz hc5 hd5 hnew hC5 u3 u4 ur1 t0 t1 r0' q0 q1
   go_wp2_with (at_builtin; refine zr ?_)
   refine zar ?_
   refine zN (.tmp 43) (.tmp 45) 93 93 rfl rfl W3.heap.size 24 i1 (.slice none 0 0) 1 24 Tryz.underlying93 hi' hz0' hz1' hz2' rfl (by decide) _ k vs rfl (u2.alloc _) (.slice (some ⟨w5.heap.size, 0, none⟩) 1 1) 1 [_] rfl (Src.ofSlice _ Tryz.underlying93 _ 1 1 _ rfl (zG _ _ _ rfl) (by simp; exact zgR _ UR1.out)) (by simp only [maxLen]; omega) (by omega) (by rw [World.size_alloc]; omega) ?_
   intro v' w6 ho' hg' hb6 hat'
   have b6 := ((Below.refl w5.heap.size w5).alloc (Nat.le_refl _) (.cells #[.slice Av M.length cv] 24))
   have hc6 : Chg (fun g => (Value.slice Ao k co).ownBlock = some g) w5 w6 := (Chg.of_below b6).trans (Chg.of_grown hg' hb6) (fun g hg => .inl hg)
   have hZo : ∀ g, (Value.slice Ao k co).ownBlock = some g -> ¬ LatO p { Y with dD := dD2 } l.ds.length g := fun g hg => U4.out g hg
   have hlen3 : ds2.length = l.ds.length := hcl.trans hlen1
   have hl6 := HL5.out.chg hc6 (fun g hg => by show ¬ LatO p _ ds2.length g; rw [hlen3]; exact hZo g hg)
   have hvz : ∀ g, v'.ownBlock = some g -> ¬ LatO p { Y with dD := dD2 } l.ds.length g := fun g hg hO => by
    rcases hat' with e | e
    ·exact hZo g (e.symm.trans hg) hO
    ·rw [e] at hg
     injection hg with hg
     rw [World.size_alloc] at hg
     have h2 := zct HL5.out (g := g) (by show LatO p _ ds2.length g; rw [hlen3]; exact hO)
     omega
   have hrow6 : zc4 w6 W3.heap.size (fun g => ¬ LatO p { Y with dD := dD2 } l.ds.length g) v' (CC ++ [M]) :=
    zc4.app hrl.symm u1 (u2.alloc (.cells #[.slice Av M.length cv] 24)) (fun j hj => (U3.out j hj).on (bl1 _ _)) (u := .slice Av M.length cv) ((HRZ.out.less (by omega)).on (bl1 _ _)) ho' hvz hg'
   have hC6 : Chg (LatA p Y l.ds.length) W3 w6 := HC5.out.trans hc6 (fun g hg => .inr (u2.lt g hg).1)
   have HN5 := hid (show zqh H p Y l fs W3 v' (.int .i64 ((k : Int) + 1)) w6 from ⟨k + 1, dD2, by omega, by go_num, by rw [HST.out], by rw [HST.out]; exact hl6, by rw [HST.out]; exact hrow6, hC6, HDD2.out⟩)
   clear ho' hg' hb6 hat' hc6 hZo hl6 hvz hrow6 hC6 b6 u2
   go_wp2
   go_roundw
   case rel => exact HN5.out
   case measure => simp [intOf]; omega
  ·obtain rfl : k = fs.length := by omega
   obtain ⟨wr0, rfl⟩ : ∃ wr0 : World, wr0 = wr := ⟨_, rfl⟩
   have hlens : ∀ j, (fs.getD j ([], [])).1.length <= l.ds.length := fun j => by
    by_cases hj : j < fs.length
    ·rw [List.getD_eq_getElem?_getD, List.getElem?_eq_getElem hj]
     have := zcK (HFIT.out _ (List.getElem_mem hj)); have := HDN.out
     simp only [Option.getD_some]; omega
    ·rw [List.getD_eq_getElem?_getD, List.getElem?_eq_none (by omega)]; exact Nat.zero_le _
   have HZ2 := hid he0
   have hcok := zmc l.s l.ds fs fs.length HOK.out.dok hlens HZ2.out
   have HKO := hid (show ∀ v, v < (zh l.s).length -> ∀ j (hj : j < (zE l.s l.ds fs fs.length).2.1.length), zl7 ((zh l.s).getD v []) ((zE l.s l.ds fs fs.length).2.1[j]) from fun v hv j hj => by
    have hj' : j < fs.length := by rw [hrl] at hj; exact hj
    have h1 := hcok j hj'
    have hgd : fs.getD j ([], []) = fs[j] := by rw [List.getD_eq_getElem?_getD, List.getElem?_eq_getElem hj']; rfl
    rw [hgd] at h1
    have := zpU HM.out (HFIT.out _ (List.getElem_mem hj')) h1 hv
    rwa [show (zE l.s l.ds fs fs.length).2.1.getD j [] = (zE l.s l.ds fs fs.length).2.1[j] by rw [List.getD_eq_getElem?_getD, List.getElem?_eq_getElem hj]; rfl] at this)
   have HIN := hid (show ∀ M ∈ (zE l.s l.ds fs fs.length).2.1, ∀ x ∈ M, ∀ n ∈ x, za4 n from fun M hM x hx n hn => by
    obtain ⟨j, hj, rfl⟩ := List.mem_iff_getElem.1 hM
    have h1 := hcok j (by rw [hrl] at hj; exact hj)
    rw [show (zE l.s l.ds fs fs.length).2.1.getD j [] = (zE l.s l.ds fs fs.length).2.1[j] by rw [List.getD_eq_getElem?_getD, List.getElem?_eq_getElem hj]; rfl] at h1
    have := h1.2.2 x hx n hn
    unfold za4; omega)
   clear hcok hlens he0
   generalize zE l.s l.ds fs fs.length = rr at *
   obtain ⟨dsF, CC, eF⟩ := rr
   obtain rfl : eF = 0 := HZ2.out
   simp only at HV3 HV4 HV5
   have HKO : Hid (∀ v, v < (zh l.s).length -> ∀ j (hj : j < CC.length), zl7 ((zh l.s).getD v []) CC[j]) := HKO
   have HIN : Hid (∀ M ∈ CC, ∀ x ∈ M, ∀ n ∈ x, za4 n) := HIN
   have hrl : CC.length = fs.length := hrl
   have HFO := hid (show dsF.length = l.ds.length /\ (∀ ns ∈ dsF, DOk ns) from ⟨hfo.1, hfo.2.1⟩)
   have hlat : LatW wr0 H p { Y with dD := dD' } { l with ds := dsF } := HLA.out
   have HRW : Hid (zc4 wr0 W3.heap.size (fun g => ¬ LatO p { Y with dD := dD' } l.ds.length g) (.slice Ao fs.length co) CC) := HRW
   clear HLA hfo
   obtain ⟨AC, cC, eCS, -, hcm5⟩ := hlat.views.open_
   simp only [List.cons.injEq, and_true] at eCS
   have hc5 : wr0.cell? ⟨p, 3, none⟩ = some (.slice AC (zh l.s).length cC) := by have : wr0.cell? ⟨p, 3, none⟩ = some Y.V := hlat.c3; rwa [eCS] at this
   have hc6 : wr0.cell? ⟨p, 6, none⟩ = some (.int .i64 l.n) := hlat.c6
   have hf6 := hlat.fz 6 (by omega)
   obtain ⟨W5, hW5⟩ : ∃ W, W = wr0.setCell ⟨p, 6, none⟩ (.int .i64 (l.n + (fs.length : Int))) := ⟨_, rfl⟩
   have hl5 := hlat.num (l.n + (fs.length : Int))
   rw [<- hW5] at hl5
   have z5 : W5.heap.size = wr0.heap.size := by rw [hW5]; simp [World.setCell]
   have hfar5 : ∀ b, b ≠ p -> W5.heap[b]? = wr0.heap[b]? := fun b hb => by rw [hW5]; exact Below.heap_setCell _ _ _ b (by simp; omega)
   have r0' := (World.cell?_of_block (a := ⟨w.heap.size, 0, none⟩) (hfar5 w.heap.size (by omega))).trans r0
   have r1' := (World.cell?_of_block (a := ⟨w.heap.size + 1, 0, none⟩) (hfar5 (w.heap.size + 1) (by omega))).trans r1
   have rf' := (World.frozen?_of_block (a := ⟨w.heap.size + 1, 0, none⟩) (hfar5 (w.heap.size + 1) (by omega))).trans rf
   have c6n : W5.cell? ⟨p, 6, none⟩ = some (.int .i64 (l.n + (fs.length : Int))) := hl5.c6
   have c5n : W5.cell? ⟨p, 3, none⟩ = some (.slice AC (zh l.s).length cC) := by have : W5.cell? ⟨p, 3, none⟩ = some Y.V := hl5.c3; rwa [eCS] at this
   have hC5 : Chg (LatA p Y l.ds.length) W3 W5 := HC.out.same (by rw [hW5]; exact Chg.upd (Upd.setCell p 6 wr0 _) (.inl rfl))
   have HL5 := hid hl5; have HW5 := hid hW5; have HFAR := hid hfar5; have HC5 := hid hC5; have ECS := hid eCS
   clear hl5 hW5 hfar5 hC5 hlat eCS
   go_upto_region 16 with (fail)
   rw [<- HW5.out]
   clear hc5 hc6 hf6 r0 r1 rf
   by_cases hz3 : NUM < l.n + (fs.length : Int)
   case pos =>
    have hz3' : (1099511627776 : Int) < l.n + (fs.length : Int) := by unfold NUM at hz3; exact hz3
    have HDO := hid (HBK.out W5 14 (by omega) HC5.out HL5.out.cells HL5.out.fz)
    have HZ3 := hid hz3
    clear hz3
    go_wp2
    refine leaves_cons (f := 46) (args := #[.pointer (some ⟨w.heap.size + 1, 0, none⟩), .pointer (some ⟨w2.heap.size, 0, none⟩), .pointer (some ⟨w.heap.size, 0, none⟩)]) (by simp) (by simp [go_sem]) ?_
    refine HDO.out.mono ?_
    rintro e u' w'' ⟨rfl, rfl, hc9, hap⟩
    have HAP := hid hap
    clear hap
    simp [Leaves, settle, results, Tryz.results25, go_sem, hc9]
    rw [HV3.out trivial HZ3.out]
    exact HAP.out
   have hz3' : ¬ (1099511627776 : Int) < l.n + (fs.length : Int) := by unfold NUM at hz3; exact hz3
   have hnum' : l.n + (fs.length : Int) <= 1099511627776 := by omega
   have HZ3 := hid hz3
   clear hz3
   go_wp2
   go_loopw [67] (fun i wr => zqg H p { Y with dD := dD' } l.s dsF l.cs (l.n + (fs.length : Int)) CC (fs.map Prod.snd) W5 i wr) (fun i _ => (zh l.s).length - (intOf i).toNat)
   case atStart => exact ⟨0, _, by omega, rfl, rfl, HL5.out, rfl, rfl, fun g hg => .inl hg, rfl, Chg.refl _ _⟩
   case round =>
    obtain ⟨wo, rfl⟩ : ∃ wo : World, wo = wr := ⟨_, rfl⟩
    obtain ⟨v, Y2, hv, rfl, hev, hlat2, hCS2, hdD2, hR2, hDS2, hchg2⟩ := hrel
    have sz2 := hchg2.size
    have kB2 : Kept (fun g => w.heap.size <= g /\ g < W3.heap.size) W5 wo := hchg2.kept (fun g hg => ⟨by have := hg.2; omega, fun hd => by have := (HLW.out.cs.lt g hd).2; have := hg.1; omega⟩)
    have r0 := kB2.cell (by constructor <;> omega) r0'
    have r1 := kB2.cell (by constructor <;> omega) r1'
    have rf := kB2.frozen (by constructor <;> omega) rf'
    have hvok := zdZ l.s l.cs CC (fs.map Prod.snd) v HOK.out.cok
    have hC7 : Chg (LatA p Y l.ds.length) W3 wo := HC5.out.same (hchg2.mono (fun g hg => .inr (.inl hg)))
    have HC7 := hid hC7; have HL2 := hid hlat2; have HCH2 := hid hchg2; have HR2 := hid hR2; have HDS2 := hid hDS2; have HCS2 := hid hCS2; have HDD2 := hid hdD2
    clear kB2 hchg2 hR2 hC7
    by_cases hlt : v < (zh l.s).length
    ·have hst := zdq hev
     have hev4 := hvok.2.2.2 v (Nat.le_refl _)
     have hrow2 : zc4 wo W3.heap.size (fun g => ¬ LatO p { Y with dD := dD' } l.ds.length g) (.slice Ao fs.length co) CC :=
      HRW.out.kept (fun g hz _ hlt => (HCH2.out.block g (by omega) (fun hd => hz (.inr (.inr (.inr (.inl hd)))))).trans (HFAR.out g (fun e => hz (.inr (.inr (.inl e)))))) (fun g hz _ _ => hz)
     have hxf := (HF3.out wo (zbE.of_chg HC7.out (fun g hg => ⟨by have := (HE.out g hg).1; omega, fun hA => (HE.out g hg).2 (.inr (.inr hA))⟩))).1
     have hfil := zm7 H p Y2 ⟨l.s, dsF, (zU l.s l.cs CC (fs.map Prod.snd) v).1, l.n + (fs.length : Int)⟩ v (.slice Ao fs.length co) _ CC fs wo hlat2
      ⟨HM.out, HFO.out.1.trans HDN.out, HFO.out.2, hvok.1.trans HCN.out, hvok.2.1, by show 0 <= l.n + (fs.length : Int); omega, by show l.n + (fs.length : Int) <= NUM; unfold NUM; omega⟩
      (by show v < (zU l.s l.cs CC (fs.map Prod.snd) v).1.length; rw [hvok.1, HCN.out]; exact hlt) (hrow2.rd HIN.out) hxf hrl (by omega) (HKO.out v hlt) (by show ((zU l.s l.cs CC (fs.map Prod.snd) v).1.getD v []).length <= 60000; rw [hev4]; have := HN.out v; omega)
     simp only at hfil
     have herr := fun h => zes (s := l.s) (cs := l.cs) (codes := CC) (vs := fs.map Prod.snd) (k := v + 1) (n := (zh l.s).length) h (by omega)
     generalize zb6 l.s.1.length l.s.2.1.length ((zU l.s l.cs CC (fs.map Prod.snd) v).1.getD v []) (CC.map (keyF ((zh l.s).getD v []))) (fs.map Prod.snd) = res at *
     obtain ⟨L9, e9⟩ := res
     simp only at hst
     have HFIL := hid hfil; have HST := hid hst; have HER := hid herr
     clear hfil hst hrow2 hxf herr hev4 hlat2 hCS2 hdD2 hDS2 hev
     go_wp2_with fail
     (with_reducible refine HFIL.out.mono ?_)
     rintro e w6 ⟨Y3, rfl, hl6, hCS3, hdD3, hR3, hc6⟩
     by_cases hz9 : e9 = 0
     case neg =>
      have hz' : (e9 != 0) = true := by simpa using hz9
      have hC6 : Chg (LatA p Y l.ds.length) W3 w6 := HC7.out.same (hc6.mono (fun g hg => by rw [HCS2.out] at hg; exact .inr (.inl hg)))
      have kB6 : Kept (fun g => w.heap.size <= g /\ g < W3.heap.size) W3 w6 := hC6.kept (fun g hg => ⟨hg.2, fun hA => by have := (zcj HLW.out hA).2; have := hg.1; omega⟩)
      have r1'' := kB6.cell (by constructor <;> omega) m1
      have rf'' := kB6.frozen (by constructor <;> omega) mf
      have HDO := hid (HBK.out w6 e9 hz9 hC6 hl6.cells hl6.fz)
      have HZ9 := hid hz9
      have hst9 := HST.out
      rw [if_pos hz9] at hst9
      have HST9 := hid hst9
      clear hl6 hCS3 hdD3 hR3 hc6 hC6 kB6 hz9 hst9
      go_wp2
      refine leaves_cons (f := 46) (args := #[.pointer (some ⟨w.heap.size + 1, 0, none⟩), .pointer (some ⟨w2.heap.size, 0, none⟩), .pointer (some ⟨w.heap.size, 0, none⟩)]) (by simp) (by simp [go_sem]) ?_
      refine HDO.out.mono ?_
      rintro e u' w'' ⟨rfl, rfl, hc9, hap⟩
      have HAP := hid hap
      clear hap
      simp [Leaves, settle, results, Tryz.results25, go_sem, hc9]
      have hval := HV4.out trivial HZ3.out (by rw [HER.out (by rw [HST9.out]; exact HZ9.out), HST9.out]; exact HZ9.out)
      rw [HER.out (by rw [HST9.out]; exact HZ9.out), HST9.out] at hval
      rw [hval]
      exact HAP.out
     subst hz9
     have hst9 := HST.out
     rw [if_neg (by simp)] at hst9
     have HST := hid hst9
     clear hst9
     have h1 := hl6.c4
     have h2 := (hc6.kept (E := fun g => g = p) (fun g hg => by subst hg; exact ⟨HL2.out.pl, fun hd => (HL2.out.csA _ hd).1 rfl⟩)).cell rfl HL2.out.c4
     rw [h1] at h2
     have hDS3 : Y3.DS = Y2.DS := by injection h2
     have HN6 := hid (show zqg H p { Y with dD := dD' } l.s dsF l.cs (l.n + (fs.length : Int)) CC (fs.map Prod.snd) W5 (.int .i64 ((v : Int) + 1)) w6 from
      ⟨v + 1, Y3, by omega, by go_num, by rw [HST.out], by rw [HST.out]; simpa using hl6, hCS3.trans HCS2.out, hdD3.trans HDD2.out, fun g hg => by
       rcases hR3 g hg with h | h
       ·exact HR2.out g h
       ·exact .inr (by omega), hDS3.trans HDS2.out, HCH2.out.same (hc6.mono (fun g hg => by rw [HCS2.out] at hg; exact hg))⟩)
     clear h1 h2 hl6 hCS3 hdD3 hR3 hc6 hDS3
     go_wp2
     go_roundw
     case rel => exact HN6.out
     case measure => simp [intOf]; omega
    ·obtain rfl : v = (zh l.s).length := by omega
     have HEV := hid hev
     clear hlat2 hCS2 hdD2 hDS2 hev hvok
     go_wp2
     refine leaves_cons (f := 46) (args := #[.pointer (some ⟨w.heap.size + 1, 0, none⟩), .pointer (some ⟨w2.heap.size, 0, none⟩), .pointer (some ⟨w.heap.size, 0, none⟩)]) (by simp) (by simp [go_sem]) ?_
     refine (zpq (w.heap.size + 1) w2.heap.size w.heap.size .returning _ (zt r1)).mono ?_
     rintro e u' w'' ⟨rfl, rfl, rfl⟩
     have c9 : (wo.setCell ⟨w.heap.size + 1, 0, none⟩ (.int .i64 0)).cell? ⟨w.heap.size + 1, 0, none⟩ = some (.int .i64 0) := zt r1
     have hLO : ∀ g, LatO p Y2 dsF.length g -> LatO p Y l.ds.length g \/ W3.heap.size <= g := fun g hg => by
      rcases hg with hg | hg | hg | hg | ⟨i, hi, hg⟩
      ·exact (HR2.out g hg).imp (fun h => .inl h) (fun h => by omega)
      ·rw [HDS2.out] at hg; exact .inl (.inr (.inl hg))
      ·exact .inl (.inr (.inr (.inl hg)))
      ·rw [HCS2.out] at hg; exact .inl (.inr (.inr (.inr (.inl hg))))
      ·rw [HDD2.out] at hg
       have hi' : i < l.ds.length := by rw [<- HFO.out.1]; exact hi
       exact (HDD.out i hi' g hg).imp (fun h => .inr (.inr (.inr (.inr ⟨i, hi', h⟩)))) id
     have hset : Chg (fun g => g = w.heap.size + 1) wo (wo.setCell ⟨w.heap.size + 1, 0, none⟩ (.int .i64 0)) := Chg.upd (Upd.setCell (w.heap.size + 1) 0 wo _) rfl
     have hfin : ApyP H p Y l (⟨l.s, dsF, (zU l.s l.cs CC (fs.map Prod.snd) (zh l.s).length).1, l.n + (fs.length : Int)⟩, 0) w (.returned (.int .i64 0)) (wo.setCell ⟨w.heap.size + 1, 0, none⟩ (.int .i64 0)) := by
      refine ⟨Y2, rfl, HL2.out.chg hset (fun g hg hO => ?_), (HC3.out.same (HC7.out.mono (fun g hg => .inr (.inr hg)))).trans hset (fun g hg => .inr (by omega)), fun g hg => (hLO g (by rw [HFO.out.1]; exact hg)).imp id (fun h => by omega)⟩
      rcases hLO g hO with h | h
      ·have := zct HLW.out h; omega
      ·omega
     have HFIN := hid hfin
     clear hfin hset hLO
     simp [Leaves, settle, results, Tryz.results25, go_sem, c9]
     rw [HV5.out trivial HZ3.out HEV.out]
     exact HFIN.out
set_option maxRecDepth 100000 in
set_option maxHeartbeats 1600000 in
theorem zj2 (H p : Nat) (Y : Lay) (l : LatX) (xf : Value) (fs : List zq) (E : Nat -> Prop) (w : World) (h : LatW w H p Y l) (ok : zfi l)
  (hf : zde w E xf fs) (hE : ∀ g, E g -> g < w.heap.size /\ ¬ LatO p Y l.ds.length g) (hz1 : zbe l.s fs ≠ 0) :
  Calls Tryz.prog 25 #[.pointer (some ⟨p, 0, none⟩), xf] w (ApyP H p Y l (zao l fs) w) := by
 rw [zos hz1]
 obtain ⟨A, c, exf, hcc, hcm⟩ := (hf w (zbE.refl E w)).1.open_
 simp only [List.cons.injEq, and_true] at exf
 subst exf
 obtain ⟨⟨hd1, hd3⟩, ⟨hm1, hm2⟩, hdl⟩ := zaz ok.may
 obtain ⟨A1, c1, A2, c2, A3, c3, e, -, -, -⟩ := h.sch.rd h.sin
 injection e with e
 have e1 : Y.S1 = .slice A1 l.s.1.length c1 := by have := congrArg (fun a : Array Value => a[0]?) e; simpa using this
 have e2 : Y.S2 = .slice A2 l.s.2.1.length c2 := by have := congrArg (fun a : Array Value => a[1]?) e; simpa using this
 have e3 : Y.S3 = .slice A3 l.s.2.2.length c3 := by have := congrArg (fun a : Array Value => a[2]?) e; simpa using this
 obtain ⟨W0, hW0⟩ : ∃ W, W = (w.alloc (.cells #[.pointer (some ⟨p, 0, none⟩)] 40)).alloc (.cells #[.int .i64 0] 33) := ⟨_, rfl⟩
 have b0 : Below w.heap.size w W0 := by rw [hW0]; exact zI
 have z0 : W0.heap.size = w.heap.size + 2 := by rw [hW0]; simp
 have h0 := h.on b0
 have hf0 := hf.on (zbE.of_below b0 (fun g hg => (hE g hg).1))
 have n0 : W0.cell? ⟨w.heap.size, 0, none⟩ = some (.pointer (some ⟨p, 0, none⟩)) := by rw [hW0]; simp [go_sem]
 have n1 : W0.cell? ⟨w.heap.size + 1, 0, none⟩ = some (.int .i64 0) := by rw [hW0]; simp [go_sem]
 have nf : W0.frozen? ⟨w.heap.size + 1, 0, none⟩ = false := by rw [hW0]; simp [go_sem]
 have q0 := h0.c0; have q1 := h0.c1; have q2 := h0.c2
 have hsv := h0.sch.rd h0.sin
 rw [e1] at q0; rw [e2] at q1; rw [e3] at q2
 rw [e1, e2, e3] at hsv
 have HMAY := hid (ziw (.agg #[.slice A1 l.s.1.length c1, .slice A2 l.s.2.1.length c2, .slice A3 l.s.2.2.length c3]) (.slice A fs.length c) l.s fs W0 hsv (by omega) (hf0 W0 (zbE.refl _ _)).1)
 have HW0 := hid hW0; have HLW := hid h; have B0 := hid b0
 have hz' : (zbe l.s fs != 0) = true := by simpa using hz1
 clear hW0 h0 hf0 hf hE ok h b0 hsv e e1 e2 e3 hz1 hdl
 generalize zbe l.s fs = er at *
 go_enter_defers Tryz.func25, Tryz.ntmps25
 go_upto_region 1 with (fail)
 rw [<- HW0.out]
 go_wp2_with fail
 (with_reducible refine HMAY.out.mono ?_)
 rintro e w1 ⟨rfl, hb1⟩
 have s1 := hb1.size
 have n1a := zc hb1 (by omega) n1
 have nfa := zy hb1 (by omega) nf
 have B1 := hid (B0.out.trans (hb1.mono (by omega)))
 clear n0 n1 nf hb1 q0 q1 q2
 go_wp2
 have c9 : (w1.setCell ⟨w.heap.size + 1, 0, none⟩ (.int .i64 er)).cell? ⟨w.heap.size + 1, 0, none⟩ = some (.int .i64 er) := zt n1a
 have hset : Chg (fun g => g = w.heap.size + 1) w1 (w1.setCell ⟨w.heap.size + 1, 0, none⟩ (.int .i64 er)) := Chg.upd (Upd.setCell (w.heap.size + 1) 0 w1 _) rfl
 have hfin : ApyP H p Y l (l, er) w (.returned (.int .i64 er)) (w1.setCell ⟨w.heap.size + 1, 0, none⟩ (.int .i64 er)) := by
  refine ⟨Y, rfl, (HLW.out.on B1.out).chg hset (fun g hg hO => ?_), (Chg.of_below B1.out).trans hset (fun g hg => .inr (by omega)), fun g hg => .inl hg⟩
  have := zct HLW.out hO; omega
 have HFIN := hid hfin
 clear hfin hset
 simp [bodyPostD, Leaves, settle, results, Tryz.results25, go_sem, c9]
 exact HFIN.out
theorem zgj (H p : Nat) (Y : Lay) (l : LatX) (xf : Value) (fs : List zq) (E : Nat -> Prop) (w : World) (h : LatW w H p Y l) (ok : zfi l) (hn : ∀ v, (l.cs.getD v []).length <= 500)
  (hf : zde w E xf fs) (hE : ∀ g, E g -> g < w.heap.size /\ ¬ LatO p Y l.ds.length g) :
  Calls Tryz.prog 25 #[.pointer (some ⟨p, 0, none⟩), xf] w (ApyP H p Y l (zao l fs) w) := by
 by_cases hz : zbe l.s fs = 0
 ·exact zj1 H p Y l xf fs E w h ok hn hf hE hz
 ·exact zj2 H p Y l xf fs E w h ok hf hE hz
end Go.Proofs.YtgoapnkdcfcjgaaGreat
