/- 2 texts of this claim, in build order. -/
import Derived.Test.YtclhnnidbhchnaaPbbgockda
import Derived.Test.YtclhnnidbhchnaaPeccdcknl
import Derived.Deep.Cut
import Derived.Deep.DeepCutAuto
import Derived.StillTailTactics
import Derived.Test.YtclhnnidbhchnaaPhphilaoe
import Derived.Test.YtclhnnidbhchnaaPkodjlmmg
import Derived.Test.YtclhnnidbhchnaaPlknfmgpc
import Derived.Laws.OwnMore
/- The program's Put. -/
namespace Go.Proofs.Ytclhnnidbhchnaa
open Go.ChangeShapes Go.WideShapes Go.ChangeAt Go.RowKit Go.Maps
set_option linter.unusedVariables false
set_option linter.unusedSimpArgs false

def PoRel (hd : List UInt8) (L : List KC) (H : Nat) (w3 : World) (b i : Value) (wr : World) : Prop :=
  ∃ k : Nat, k ≤ L.length ∧ i = .int .i64 k ∧ Own8 wr H b (hd ++ (L.take k).flatMap putKC) ∧ Below w3.heap.size w3 wr
/-- The box of a cell that was looked up. -/
def LkP (w3 : World) (E : Nat → Prop) (cc : CellM) (s9 : Value) (wx : World) : Prop :=
  ∃ (wy : World) (N : Nat) (A1 : Option Addr) (c1 : Nat) (A2 : Option Addr) (c2 : Nat) (A3 : Option Addr) (c3 : Nat), wy = wx ∧ s9 = .pointer (some ⟨N, 0, none⟩) ∧ w3.heap.size ≤ N ∧ N < wy.heap.size ∧ Blk wy N (.int .i64 cc.n) (.slice A1 cc.s.length c1) (.slice A2 cc.lo.length c2) (.slice A3 cc.hi.length c3) ∧
    CellE wy E (.agg #[.int .i64 cc.n, .slice A1 cc.s.length c1, .slice A2 cc.lo.length c2, .slice A3 cc.hi.length c3]) cc ∧ Below w3.heap.size w3 wy
theorem Sl.cellInt {w : World} {B b o n c : Nat} {l : List Int} (h : Sl w B (.slice (some ⟨b, o, none⟩) n c) (ivals l)) {j : Nat} (hj : j < l.length) : b < B ∧ w.cell? ⟨b, o + j, none⟩ = some (.int .i64 (l.getD j 0)) := by
  obtain ⟨A, c', e, -, -, h4⟩ := h
  obtain ⟨b', o', e2, hb, hc⟩ := h4 (by rw [ivals_len]; omega)
  injection e with e1 _ _
  rw [e2] at e1
  injection e1 with e1
  injection e1 with e1 e3 _
  subst e1; subst e3
  refine ⟨hb, hc j _ ?_⟩
  simp [ivals, List.getD_eq_getElem?_getD, hj]
theorem cellR_parts {w : World} {B : Nat} {x v1 v2 v3 : Value} {c : CellM} (h : CellR w B (.agg #[x, v1, v2, v3]) c) : Sl w B v1 (ivals c.s) ∧ Sl w B v2 (ivals c.lo) ∧ Sl w B v3 (ivals c.hi) := by
  obtain ⟨u1, u2, u3, e, h1, h2, h3⟩ := h
  injection e with e
  have g1 := congrArg (fun a : Array Value => a[1]?) e
  have g2 := congrArg (fun a : Array Value => a[2]?) e
  have g3 := congrArg (fun a : Array Value => a[3]?) e
  simp at g1 g2 g3
  subst g1 g2 g3
  exact ⟨h1, h2, h3⟩
set_option maxRecDepth 100000 in
set_option maxHeartbeats 6400000 in
theorem putC_any (D : Nat → Prop) (p m W M : Nat) (L : List KC) (w : World) (hc : CubW w D p m W M L) (hs : OkL W M L) (hW : W ≤ 3) (hM : M ≤ 2) (hL : L.length ≤ 600) :
    Calls Try.prog 20 #[.pointer (some ⟨p, 0, none⟩), .slice none 0 0] w (Put8 (putCub L) w) := by
  have hpl := hc.2.2.2.1 p hc.1
  have y0 := hc.2.2.2.2.1
  have y2 := hc.2.2.2.2.2.2.1
  have HLN := hid (len_any D p m W M L w hc)
  have HO := hid (fun W' (h : Below w.heap.size w W') => order_any D p m W M L W' (hc.below h) hs hW (by omega))
  have HS := hid hs
  have HC := hid hc
  have HP0 := hid (fun W' => putI8 (.slice none 0 0) [] (L.length : Int) W' Sl.nil_ (by simp) (by unfold InI64; omega))
  have hpc : putCub L = putInt (L.length : Int) ++ L.flatMap putKC := rfl
  have hhd := putInt_le (L.length : Int)
  simp only [List.nil_append] at HP0
  generalize putInt (L.length : Int) = hd at *
  have HPC := hid hpc
  clear hc hs hpc
  go_enter Try.func20, Try.ntmps20
  go_wp2_with fail
  refine HLN.out.mono ?_
  rintro e w1 ⟨rfl, hq1⟩
  have HB1 := hid (hq1.below w.heap.size)
  have hz1 := (hq1.below w.heap.size).size
  clear hq1
  go_wp2_with fail
  refine (HP0.out _).mono ?_
  rintro e w2 ⟨b2, rfl, ho2, hb2⟩
  have HB2 := hid (HB1.out.trans (hb2.mono hz1))
  have hz2 := hb2.size
  have HW2 := hid (ho2.less hz1)
  clear ho2 hb2
  go_wp2_with fail
  refine (HO.out _ HB2.out).mono ?_
  rintro e w3 ⟨v, rfl, ⟨A, cap, rfl, h1, h2, h3⟩, hb3⟩
  have HB3 := hid (HB2.out.trans (hb3.mono (by omega)))
  have HW3 := hid (HW2.out.on hb3)
  have hz3 := hb3.size
  have H3 := hid h3
  unfold maxLen at h2
  clear hb3 h3
  go_wp2
  go_loopw [1, 18] (fun b i wr => PoRel hd L w.heap.size w3 b i wr) (fun _ i _ => L.length - (intOf i).toNat)
  case atStart => exact ⟨0, by omega, rfl, by rw [List.take_zero, List.flatMap_nil, List.append_nil]; exact HW3.out, Below.refl _ _⟩
  case round =>
    obtain ⟨k, hk, rfl, hown, hb⟩ := hrel
    have hsb := hb.size
    have HOW := hid hown; have HB := hid hb
    clear hown
    by_cases hlt : k < L.length
    · obtain ⟨g, rfl, hg, hcells⟩ := H3.out (by omega)
      obtain ⟨q0, q1, q2⟩ := hcells k hlt
      have q0 := cellK hb hg q0
      have q1 := cellK hb hg q1
      have q2 := cellK hb hg q2
      have HBW := hid (HB3.out.trans (hb.mono (by omega)))
      have y0 := cellK HBW.out hpl y0
      have y2 := cellK HBW.out hpl y2
      have hmem := getD_memK hlt
      have hkk := HS.out.key _ hmem
      have hkl := hkk.1
      have hmay := HS.out.may _ hmem
      have hful := HS.out.full _ hmem
      have hln := HS.out.len _ hmem
      have hgc := getC_mem HS.out hmem
      have hft := flat_takeK hlt
      have hpk : putKC (L.getD k zK) = (L.getD k zK).1.flatMap putInt ++ (putInt (L.getD k zK).2.n ++ (List.range (L.getD k zK).2.s.length).flatMap (putI3 (L.getD k zK).2)) := rfl
      have hpl1 := putKC_len hkl hW hln hM
      have htl : ((L.take k).flatMap putKC).length ≤ 60000 := by
        have := putKCs_len (HS.out.take k) hW hM
        rw [List.length_take] at this
        omega
      have hi64 := cell_i64 hmay hful
      have hki : ∀ x ∈ (L.getD k zK).1, InI64 x := fun x hx => by have := hkk.2 x hx; unfold InI64; omega
      generalize (L.getD k zK).2 = c at *
      generalize (L.getD k zK).1 = key at *
      generalize putKC (L.getD k zK) = pk at *
      generalize (L.take k).flatMap putKC = tk at *
      have hsl := sl_key (w := wr) hkl hW
      have hpw : p < wr.heap.size := by omega
      have HLK := hid (fun W' (h : Below w.heap.size w W') => (HC.out.below h).2.2.2.2.2.2.2.look1 hkk)
      unfold keyT keyV at HLK
      generalize key.getD 0 0 = x0 at *
      generalize key.getD 1 0 = x1 at *
      generalize key.getD 2 0 = x2 at *
      have hslk := slice_key wr.heap.size W hW
      obtain ⟨W0, hW0⟩ : ∃ W', W' = wr.alloc (.cells #[.int .i64 x0, .int .i64 x1, .int .i64 x2] 99) := ⟨_, rfl⟩
      rw [← hW0] at hsl
      have hz0 : W0.heap.size = wr.heap.size + 1 := by rw [hW0]; simp
      have hb0 : Below wr.heap.size wr W0 := by rw [hW0]; exact bl1 _ _
      have k0 : W0.cell? ⟨wr.heap.size, 0, none⟩ = some (.int .i64 x0) := by rw [hW0]; simp [go_sem]
      have k1 : W0.cell? ⟨wr.heap.size, 1, none⟩ = some (.int .i64 x1) := by rw [hW0]; simp [go_sem]
      have k2 : W0.cell? ⟨wr.heap.size, 2, none⟩ = some (.int .i64 x2) := by rw [hW0]; simp [go_sem]
      have hacc : (hd ++ tk).length ≤ 60100 := by rw [List.length_append]; omega
      have HO0 := hid (HOW.out.on hb0)
      generalize hT1 : (hd ++ tk) ++ key.flatMap putInt = T1 at *
      have hT1l : T1.length ≤ 60200 := by
        rw [← hT1, List.length_append]
        have := congrArg List.length hpk
        rw [List.length_append] at this
        omega
      have HW0 := hid hW0; have HB0 := hid hb0; have SL := hid hsl; have HT1 := hid hT1; have HK0 := hid k0; have HK1 := hid k1; have HK2 := hid k2; have HPK := hid hpk; have HFT := hid hft; have HI := hid hi64; have HKI := hid hki; have HGC := hid hgc; have HLN2 := hid hln; have HKL := hid hkl
      have HMY := hid hmay
      clear hW0 hb0 hsl hT1 hpk hft hi64 hki hgc hln hcells hb k0 k1 k2 hmem hkk hful hmay hkl
      obtain ⟨wo, rfl⟩ : ∃ wo : World, wo = wr := ⟨_, rfl⟩
      go_upto_region 6 with (fail)
      rw [← HW0.out]
      go_loopw [1, 28] (fun b i wq => PqH w.heap.size W0 T1 key putInt b i wq) (fun _ i _ => key.length - (intOf i).toNat)
      case atStart => exact ⟨0, by omega, rfl, _, HO0.out, by rw [List.drop_zero]; exact HT1.out, Below.refl _ _⟩
      case round =>
        obtain ⟨j, hj, rfl, acc, hown, heq, hb⟩ := hrel
        have hsq := hb.size
        have HOQ := hid hown; have HBQ := hid hb
        have hal := pqh_len heq hT1l
        have hkl := HKL.out
        by_cases hjl : j < key.length
        · obtain ⟨hbk, hck⟩ := SL.out.cellInt hjl
          rw [Nat.zero_add] at hck
          have hck := cellK hb (by omega) hck
          have heq2 := pqh_step hjl heq
          have hx64 := HKI.out _ (List.getElem_mem hjl)
          have e0 : key[j] = key.getD j 0 := by simp [List.getD_eq_getElem?_getD, hjl]
          rw [e0] at heq2 hx64
          generalize key.getD j 0 = x at *
          have HE2 := hid heq2
          have HP := hid (putI8 u1 acc x wr hown.sl (by omega) hx64)
          have hjW : j < W := by omega
          have HKL2 := hid hkl
          clear heq heq2 hown hb e0 hkl
          go_wp2_with fail
          refine HP.out.mono ?_
          rintro e w4 ⟨b4, rfl, ho4, hb4⟩
          have HB4 := hid (HBQ.out.trans (hb4.mono hsq))
          have HO4 := hid (ho4.less (base' := w.heap.size) (by omega))
          clear ho4 hb4
          go_wp2
          go_roundw
          case rel => exact ⟨j + 1, by have := HKL2.out; omega, by go_num, _, HO4.out, HE2.out, HB4.out⟩
          case measure => have := HKL2.out; simp [intOf]; omega
        · obtain rfl : j = key.length := by omega
          have hae := pqh_end heq
          subst hae
          rw [hkl]
          have hkw : wo.heap.size < wr.heap.size := by omega
          have hpw2 : p < wr.heap.size := by omega
          have k0 := cellK hb (by omega) HK0.out
          have k1 := cellK hb (by omega) HK1.out
          have k2 := cellK hb (by omega) HK2.out
          have hBW0 := HBW.out.trans (HB0.out.mono (by omega))
          have hBWr := hBW0.trans (hb.mono (by omega))
          have y2 := cellK (HB0.out.trans (hb.mono (by omega))) hpw y2
          obtain ⟨u, hrun, hce⟩ := HLK.out wr.drew hBWr.drew
          obtain ⟨u', hrun', hce'⟩ := HLK.out ((wr.alloc (.cells #[.int .i64 0, .slice none 0 0, .slice none 0 0, .slice none 0 0] 25)).drew) ((hBWr.alloc hBWr.size _).drew)
          rw [HGC.out] at hce hce'
          obtain ⟨D1, d1, D2, d2, D3, d3, rfl⟩ := hce.lit
          obtain ⟨E1, e1, E2, e2, E3, e3, rfl⟩ := hce'.lit
          have hE := fun i (hi : D i ∧ i ≠ m) => HC.out.2.2.2.1 i hi.1
          have hzw := hBWr.size
          have HCE := hid (hce.kept (w' := (wr.alloc (.cells #[.int .i64 c.n, .slice D1 c.s.length d1, .slice D2 c.lo.length d2, .slice D3 c.hi.length d3] 25)).drew) (fun i hi => (bl1 wr _).block i (by have := hE i hi; omega)))
          have HCE' := hid (hce'.kept (w' := (wr.alloc (.cells #[.int .i64 c.n, .slice E1 c.s.length e1, .slice E2 c.lo.length e2, .slice E3 c.hi.length e3] 25)).drew) (fun i hi => ((bl1 wr _).block i (by have := hE i hi; omega)).trans ((bl1 wr (.cells #[.int .i64 0, .slice none 0 0, .slice none 0 0, .slice none 0 0] 25)).block i (by have := hE i hi; omega)).symm))
          have HBWR := hid hBWr
          clear hce hce' hb hown hBWr hBW0 heq hal
          go_upto_region 10 with (fail)
          go_cut [9] from 36 to 41 (fun s9 wx => LkP wr (fun i => D i ∧ i ≠ m) c s9 wx)
          case first =>
            go_wp2
            go_region
            all_goals go_wp2
            all_goals go_meet
            all_goals
              case rel =>
                first
                  | exact ⟨_, wr.heap.size, D1, d1, D2, d2, D3, d3, rfl, rfl, Nat.le_refl _, (by show wr.heap.size < (wr.alloc _).heap.size; simp), (Blk.new wr _ _ _ _ _).qu ⟨1, rfl⟩, HCE.out, (bl1 wr _).drew⟩
                  | exact ⟨_, wr.heap.size, E1, e1, E2, e2, E3, e3, rfl, rfl, Nat.le_refl _, (by show wr.heap.size < (wr.alloc _).heap.size; simp), (Blk.new wr _ _ _ _ _).qu ⟨1, rfl⟩, HCE'.out, (bl1 wr _).drew⟩
          case rest =>
          obtain ⟨wx, N, F1, f1, F2, f2, F3, f3, rfl, rfl, hN1, hN2, hbk, hcy, hbx⟩ := hcut
          have hsx := hbx.size
          have HOX := hid (HOQ.out.on hbx)
          have HBX := hid (HBWR.out.trans (hbx.mono (by omega)))
          have HB3X := hid (((HB.out.trans (HB0.out.mono (by omega))).trans (HBQ.out.mono (by omega))).trans (hbx.mono (by omega)))
          have HPN := hid (putI8 _ acc c.n wx HOX.out.sl (by omega) HI.out.1)
          obtain ⟨p0, p1, p2, p3, g0, g1, g2, g3⟩ := hbk
          have hcr := cellR_parts hcy.read
          have hsh := HMY.out.1
          have HS1 := hid hcr.1; have HS2 := hid hcr.2.1; have HS3 := hid hcr.2.2
          have hsl1 : c.s.length ≤ 2 := hsh.1
          have hsl2 : c.lo.length = c.s.length := hsh.2.1
          have hsl3 : c.hi.length = c.s.length := hsh.2.2
          have hT2l : ((acc ++ putInt c.n) ++ (List.range c.s.length).flatMap (putI3 c)).length ≤ 60400 := by
            have := congrArg List.length HPK.out
            rw [List.length_append, List.length_append] at this
            rw [List.length_append, List.length_append]
            omega
          have hT2 : hd ++ (tk ++ pk) = (acc ++ putInt c.n) ++ (List.range c.s.length).flatMap (putI3 c) := by rw [HPK.out, ← HT1.out]; simp only [List.append_assoc]
          have HT2 := hid hT2
          clear hcy hcr hT2 hsh hrun hrun' HCE HCE' hbx k0 k1 k2 y2 g0 g1 g2 g3
          go_wp2_with fail
          refine HPN.out.mono ?_
          rintro e w5 ⟨b5, rfl, ho5, hb5⟩
          have hs5 := hb5.size
          have p1 := cellK hb5 hN2 p1
          have p2 := cellK hb5 hN2 p2
          have p3 := cellK hb5 hN2 p3
          have HB5 := hid (HBX.out.trans (hb5.mono (by omega)))
          have HO5 := hid (ho5.less (base' := w.heap.size) (by omega))
          have HB35 := hid (HB3X.out.trans (hb5.mono (by omega)))
          have HS1 := hid (HS1.out.below hb5); have HS2 := hid (HS2.out.below hb5); have HS3 := hid (HS3.out.below hb5)
          have hNN : N < w5.heap.size := by omega
          generalize hT2g : (acc ++ putInt c.n) ++ (List.range c.s.length).flatMap (putI3 c) = T2 at *
          have HT2G := hid hT2g
          clear ho5 hb5 p0 hT2g
          go_wp2
          go_loopw [1, 49] (fun b i wq => PqH w.heap.size w5 T2 (List.range c.s.length) (putI3 c) b i wq) (fun _ i _ => c.s.length - (intOf i).toNat)
          case atStart => exact ⟨0, by omega, rfl, _, HO5.out, by rw [List.drop_zero]; exact HT2G.out, Below.refl _ _⟩
          case round =>
            obtain ⟨j, hj, rfl, acc2, hown2, heq2, hb2⟩ := hrel
            rw [List.length_range] at hj
            have hs2 := hb2.size
            have HOW2 := hid hown2; have HB2' := hid hb2
            have hal2 := pqh_len heq2 hT2l
            have p1 := cellK hb2 hNN p1
            have p2 := cellK hb2 hNN p2
            have p3 := cellK hb2 hNN p3
            by_cases hjl : j < c.s.length
            · obtain ⟨b1, o1, rfl, hb1, hx1⟩ := HS1.out.int hjl
              have jl2 : j < c.lo.length := by omega
              have jl3 : j < c.hi.length := by omega
              obtain ⟨b2', o2, rfl, hb2', hx2⟩ := HS2.out.int jl2
              obtain ⟨b3', o3, rfl, hb3', hx3⟩ := HS3.out.int jl3
              have hx1 := cellK hb2 (by omega) hx1
              have hx2 := cellK hb2 (by omega) hx2
              have hx3 := cellK hb2 (by omega) hx3
              have heq3 := pqh_step (by rw [List.length_range]; exact hjl) heq2
              rw [List.getElem_range] at heq3
              obtain ⟨i1, i2, i3⟩ := HI.out.2 j hjl
              have hp3 : putI3 c j = putInt (c.s.getD j 0) ++ (putInt (c.lo.getD j 0) ++ putInt (c.hi.getD j 0)) := rfl
              rw [hp3] at heq3
              generalize c.s.getD j 0 = xs at *
              generalize c.lo.getD j 0 = xl at *
              generalize c.hi.getD j 0 = xh at *
              have l1 := putInt_le xs; have l2 := putInt_le xl
              have HE3 := hid heq3
              have HI2 := hid i2; have HI3 := hid i3
              have HP1 := hid (fun W' (h : Below wr.heap.size wr W') => putI8 u1 acc2 xs W' (HOW2.out.on h).sl (by omega) i1)
              have hlb1 : b1 < wr.heap.size := by omega
              have hlb2 : b2' < wr.heap.size := by omega
              have hlb3 : b3' < wr.heap.size := by omega
              have hlN : N < wr.heap.size := by omega
              clear heq2 heq3 hown2 hb2 hp3 i1 i2 i3
              go_upto_region 15 with (fail)
              have hwz : w.heap.size ≤ wr.heap.size := by omega
              go_region_held3 (fun w' => w'.cell? ⟨N, 1, none⟩ = some (.slice (some ⟨b1, o1, none⟩) c.s.length f1) ∧ w'.cell? ⟨N, 2, none⟩ = some (.slice (some ⟨b2', o2, none⟩) c.lo.length f2) ∧ w'.cell? ⟨N, 3, none⟩ = some (.slice (some ⟨b3', o3, none⟩) c.hi.length f3) ∧ w'.cell? ⟨b1, o1 + j, none⟩ = some (.int .i64 xs) ∧ w'.cell? ⟨b2', o2 + j, none⟩ = some (.int .i64 xl) ∧ w'.cell? ⟨b3', o3 + j, none⟩ = some (.int .i64 xh)) (go_keep)
                (first | ((with_reducible refine (HP1.out _ (Below.refl _ _).drew).mono ?_); rintro e w6 ⟨v6, rfl, ho6, hb6⟩; have hb6 : Below wr.heap.size wr w6 := (Below.refl _ _).drew.trans hb6; have hz6 := hb6.size; have p1 := cellK hb6 (by omega) p1; have p2 := cellK hb6 (by omega) p2; have p3 := cellK hb6 (by omega) p3; have hx1 := cellK hb6 (by omega) hx1; have hx2 := cellK hb6 (by omega) hx2; have hx3 := cellK hb6 (by omega) hx3; have HQ6 := hid hb6; have HP2 := hid (putI8 v6 (acc2 ++ putInt xs) xl w6 ho6.sl (by rw [List.length_append]; omega) HI2.out); clear ho6 hb6) | ((with_reducible refine HP2.out.mono ?_); rintro e w7 ⟨v7, rfl, ho7, hb7⟩; have hz7 := hb7.size; have p1 := cellK hb7 (by omega) p1; have p2 := cellK hb7 (by omega) p2; have p3 := cellK hb7 (by omega) p3; have hx1 := cellK hb7 (by omega) hx1; have hx2 := cellK hb7 (by omega) hx2; have hx3 := cellK hb7 (by omega) hx3; have HQ7 := hid (HQ6.out.trans (hb7.mono hz6)); have HP3 := hid (putI8 v7 ((acc2 ++ putInt xs) ++ putInt xl) xh w7 ho7.sl (by rw [List.length_append, List.length_append]; omega) HI3.out); clear ho7 hb7) | ((with_reducible refine HP3.out.mono ?_); rintro e w8 ⟨v8, rfl, ho8, hb8⟩; have hz8 := hb8.size; have p1 := cellK hb8 (by omega) p1; have p2 := cellK hb8 (by omega) p2; have p3 := cellK hb8 (by omega) p3; have hx1 := cellK hb8 (by omega) hx1; have hx2 := cellK hb8 (by omega) hx2; have hx3 := cellK hb8 (by omega) hx3; have HQ8 := hid (HQ7.out.trans (hb8.mono (by omega))); have HO8 := hid (ho8.less (base' := w.heap.size) (by omega)); clear ho8 hb8))
              rw [List.append_assoc, List.append_assoc] at HO8
              go_wp2
              go_roundw
              case rel => exact ⟨j + 1, by rw [List.length_range]; omega, by go_num, _, HO8.out, by first | (rw [← HE3.out]; done) | (rw [← HE3.out]; simp only [List.append_assoc]), HB2'.out.trans (HQ8.out.mono hs2)⟩
              case measure => simp [intOf]; omega
            · obtain rfl : j = c.s.length := by omega
              rw [show List.drop c.s.length (List.range c.s.length) = [] by simp, List.flatMap_nil, List.append_nil] at heq2
              subst heq2
              go_wp2
              go_roundw
              case rel => exact ⟨k + 1, by omega, by go_num, by rw [HFT.out, HT2.out]; exact HOW2.out, HB35.out.trans (HB2'.out.mono (by omega))⟩
              case measure => simp [intOf]; omega
    · obtain rfl : k = L.length := by omega
      rw [List.take_length] at HOW
      have HBE := hid (HB3.out.trans (hb.mono (by omega)))
      have HOE := hid (show Own8 wr w.heap.size u1 (putCub L) by rw [HPC.out]; exact HOW.out)
      clear hb HOW HB
      go_wp2
      go_ret
      exact ⟨_, rfl, HOE.out, HBE.out⟩
end Go.Proofs.Ytclhnnidbhchnaa
/- The laws' helpers of layer 10: one, pick. -/
namespace Go.Proofs.Ytclhnnidbhchnaa
open Go.ChangeShapes Go.WideShapes Go.ChangeAt Go.RowKit Go.Maps
set_option linter.unusedVariables false
set_option linter.unusedSimpArgs false

def pickN (c n : Int) : Int := (if c < 0 then -(c + 1) else c) % n
theorem pickN_in (c n : Int) (hn : 0 < n) : 0 ≤ pickN c n ∧ pickN c n < n := ⟨Int.emod_nonneg _ (by omega), Int.emod_lt_of_pos _ hn⟩
theorem pick_any (c n : Int) (w : World) (hc : InI64 c) (hn : 0 < n) (hn2 : n ≤ 9223372036854775807) : Calls Try.prog 23 #[.int .i64 c, .int .i64 n] w (Stays (.int .i64 (pickN c n)) w) := by
  obtain ⟨hc1, hc2⟩ := hc
  have hp : pickN c n = (if c < 0 then -(c + 1) else c) % n := rfl
  by_cases h0 : c < 0
  · rw [if_pos h0] at hp
    rw [hp]; clear hp
    have h1 := Int.tmod_eq_emod_of_nonneg (a := -(c + 1)) (b := n) (by omega)
    have h2 := Int.emod_nonneg (-(c + 1)) (show n ≠ 0 by omega)
    have h3 := Int.emod_lt_of_pos (-(c + 1)) hn
    go_enter Try.func23, Try.ntmps23
    go_wp2
    go_ret
    exact ⟨rfl, Qu.refl _⟩
  · rw [if_neg h0] at hp
    rw [hp]; clear hp
    have h1 := Int.tmod_eq_emod_of_nonneg (a := c) (b := n) (by omega)
    have h2 := Int.emod_nonneg c (show n ≠ 0 by omega)
    have h3 := Int.emod_lt_of_pos c hn
    go_enter Try.func23, Try.ntmps23
    go_wp2
    go_ret
    exact ⟨rfl, Qu.refl _⟩
def oneC (n : Int) : CellM := ⟨1, [n], [n], [n]⟩
theorem own_lit1 (w : World) (n : Int) {base N : Nat} (hN : w.heap.size = N) (hb : base ≤ N) : (w.alloc (.cells #[.int .i64 n] 3)).ownsRow base 3 1 (.slice (some ⟨N, 0, none⟩) 1 1) 1 (ivals [n]) := by
  subst hN
  exact World.ownsRow_lit w #[.int .i64 n] 1 hb (by simp [maxLen]) rfl
theorem own_after {w : World} {base n : Nat} {v : Value} {xs : List Value} (h : w.ownsRow base 3 1 v n xs) (o : Obj) : (w.alloc o).ownsRow base 3 1 v n xs := h.alloc o
set_option maxRecDepth 100000 in
theorem one_any (n : Int) (w : World) : Calls Try.prog 24 #[.int .i64 n] w (OwnPost (oneC n) w) := by
  go_enter Try.func24, Try.ntmps24
  go_wp2
  refine bodyPost_ret (v := .agg #[.int .i64 1, .slice (some ⟨w.heap.size + 1, 0, none⟩) 1 1, .slice (some ⟨w.heap.size + 1 + 1, 0, none⟩) 1 1, .slice (some ⟨w.heap.size + 1 + 1 + 1, 0, none⟩) 1 1]) (by simp [results, Try.results24, go_sem]; done) rfl ⟨_, rfl, ⟨_, _, _, rfl, ?_, ?_, ?_, ?_, ?_⟩, (by repeat' first | with_reducible exact Below.refl _ _ | assumption | (with_reducible refine Below.alloc ?_ ?_ _) | (with_reducible refine Below.setCell ?_ ?_ _) | (with_reducible refine Below.drew ?_) | (with_reducible refine below_drewN ?_ _) | (with_reducible refine Below.trans ?_ (Below.mono ‹_› ?_)) | omega | (with_reducible refine le_alloc ?_) | (with_reducible refine le_setCell ?_) | (with_reducible refine le_drew ?_) | (with_reducible refine le_drewN ?_) | (with_reducible refine Nat.le_trans ?_ (Below.size ‹_›)) | (simp <;> omega))⟩
  · exact own_after (own_after (own_lit1 _ n (by simp) (by omega)) _) _
  · exact own_after (own_lit1 _ n (by simp) (by omega)) _
  · exact own_lit1 _ n (by simp) (by omega)
  · intro g hg; simp [Value.ownBlock] at hg ⊢; omega
  · intro g hg; simp [Value.ownBlock] at hg ⊢; omega
end Go.Proofs.Ytclhnnidbhchnaa
