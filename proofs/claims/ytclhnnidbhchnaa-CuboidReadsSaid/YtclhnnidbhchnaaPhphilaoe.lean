/- 1 text of this claim, in build order. -/
import Derived.Test.YtclhnnidbhchnaaPnkobkehe
import Derived.Test.YtclhnnidbhchnaaPkbnfocpb
import Derived.Test.YtclhnnidbhchnaaPlknfmgpc
import Derived.Test.YtclhnnidbhchnaaPacjegkcp
import Derived.Deep.RegionLaw
import Derived.Deep.AppendLies
/- The program's Roll. -/
namespace Go.Proofs.Ytclhnnidbhchnaa
open Go.ChangeShapes Go.WideShapes Go.ChangeAt Go.RowKit Go.Maps
set_option linter.unusedVariables false
set_option linter.unusedSimpArgs false

theorem info_cell4 : (Try.prog.info? 25).map (fun i => (i.zero, i.size, i.bytes)) = some (some (.agg #[.int .i64 0, .slice none 0 0, .slice none 0 0, .slice none 0 0]), 4, 80) := by kernel_rfl
def RollNP (n : Int) (w : World) (e : Ending) (w' : World) : Prop := e = .returned (.tuple #[.pointer none, .int .i64 n]) ∧ Below w.heap.size w w'
def RollYP (W M : Nat) (Q : List KC) (w : World) (e : Ending) (w' : World) : Prop :=
  ∃ p' m' D', e = .returned (.tuple #[.pointer (some ⟨p', 0, none⟩), .int .i64 0]) ∧ CubW w' D' p' m' W M Q ∧ (∀ k, D' k → w.heap.size ≤ k) ∧ Below w.heap.size w w'
def RollP (W M : Nat) (ups : List (List Int)) (L : List KC) (w : World) (e : Ending) (w' : World) : Prop :=
  (rollE W ups L ≠ 0 ∧ RollNP (rollE W ups L) w e w') ∨ (rollE W ups L = 0 ∧ RollYP W M (rollL (rollP ups L)) w e w')
def RlRel (D : Nat → Prop) (m W mg : Nat) (ups : List (List Int)) (L : List KC) (w3 : World) (i : Value) (wr : World) : Prop :=
  ∃ j : Nat, j ≤ L.length ∧ i = .int .i64 j ∧ (∀ x ∈ L.take j, upAll ups x.1 = true) ∧ MapG wr (fun i => D i ∧ i ≠ m) w3.heap.size mg W (rollP ups (L.take j)) ∧ Upd mg w3 wr
theorem e4_one {n : Int} {A1 A2 A3 : Option Addr} {n1 c1 n2 c2 n3 c3 : Nat} : ∀ u ∈ e4 (n, .slice A1 n1 c1, .slice A2 n2 c2, .slice A3 n3 c3), u.oneCell' = true := by
  intro u hu
  simp [e4] at hu
  rcases hu with rfl | rfl | rfl | rfl <;> rfl
theorem cell_ne_map {w : World} {g o mg : Nat} {v : Value} {es : Array MapEntry} {c : Nat} (h : w.cell? ⟨g, o, none⟩ = some v) (hm : w.heap[mg]? = some (.map es c)) : g ≠ mg := by
  rintro rfl
  simp [World.cell?, hm] at h
theorem OwnC.onB {w w' : World} {H : Nat} {v : Value} {c : CellM} (h : OwnC w H v c) (hb : Below w.heap.size w w') : OwnC w' H v c := by
  obtain ⟨v1, v2, v3, e, h1, h2, h3, h4, h5⟩ := h
  exact ⟨v1, v2, v3, e, own_kept h1 (fun g hg => hb.block g (h1.lt g hg).2), own_kept h2 (fun g hg => hb.block g (h2.lt g hg).2), own_kept h3 (fun g hg => hb.block g (h3.lt g hg).2), h4, h5⟩
/-- A group's row is read as a list of cells. -/
theorem GRow.rowC {w : World} {E : Nat → Prop} {H : Nat} {v : Value} {cs : List CellM} (h : GRow w E H v cs) : RowC w w.heap.size v cs := by
  obtain ⟨es, hown, hl, hre⟩ := h
  have hown' := hown
  obtain ⟨a, b⟩ := hown
  rcases b with ⟨rfl, h0⟩ | ⟨g, cap, cur, rfl, hbg, hg, hnc, hcm, hcs, htk⟩
  · exact ⟨none, 0, es, by rw [h0], hl, by omega, by simp [maxLen], fun h => by omega, fun k hk => (hre k hk).read⟩
  · refine ⟨_, cap, es, rfl, hl, hnc, hcm, fun h0 => ⟨g, 0, rfl, (hown'.lt g rfl).2, fun k hk => ?_⟩, fun k hk => (hre k hk).read⟩
    exact flat4_back (fun j hj => by rw [Nat.zero_add]; exact hown'.cellAt j (by omega)) k (by omega)
def RgRel (P : List KC) (Dm : DataW Value) (mg r n W M pd md : Nat) (wL : World) (wr : World) : Prop :=
  ∃ (V : List (List Int)) (left : Lit → Bool) (cnt : Nat) (Dd : Nat → Prop) (Q : List KC), wr.ranges Try.prog 99 heldR mg r n Dm left cnt ∧ (∀ g ∈ V, ∃ x ∈ P, x.1 = g) ∧ (∀ x ∈ P, left (keyLk x.1) = !decide (x.1 ∈ V)) ∧
    (∀ kl, left kl = true → ∃ x ∈ P, kl = keyLk x.1) ∧ (∀ g ∈ V, (sumC (gcells P g)).2 = 0) ∧ CubW wr Dd pd md W M Q ∧ OkL W M Q ∧ (∀ g, getK Q g = if g ∈ V then some (sumC (gcells P g)).1 else none) ∧ Q.length ≤ V.length ∧ V.length + cnt ≤ P.length ∧
    (∀ k, Dd k → wL.heap.size ≤ k ∧ k ≠ r) ∧ Below wL.heap.size wL wr
set_option maxRecDepth 100000 in
set_option maxHeartbeats 6400000 in
theorem roll_any (D : Nat → Prop) (p m W M : Nat) (L : List KC) (v : Value) (ups : List (List Int)) (w : World) (hc : CubW w D p m W M L) (hs : OkL W M L) (h1W : 1 ≤ W) (hW : W ≤ 3) (h1M : 1 ≤ M) (hM : M ≤ 2) (hL : L.length ≤ 600) (hu : RowsI w w.heap.size v ups) :
    Calls Try.prog 17 #[.pointer (some ⟨p, 0, none⟩), v] w (RollP W M ups L w) := by
  obtain ⟨i0, hi, hz0, hz1, hz2⟩ := info_parts info_cell4
  have hpl := hc.2.2.2.1 p hc.1
  have y0 := hc.2.2.2.2.1
  have y1 := hc.2.2.2.2.2.1
  have y2 := hc.2.2.2.2.2.2.1
  have hu' := hu
  obtain ⟨A, c, rfl, hcl, hcm, hrow⟩ := hu
  unfold maxLen at hcm
  have HU := hid hu'; have HC := hid hc; have HS := hid hs
  have HO := hid (fun W' (h : Below w.heap.size w W') => order_any D p m W M L W' (hc.below h) hs hW (by omega))
  have hre : rollE W ups L = if ups.length ≠ W then 1 else if L.all (fun x => upAll ups x.1) = false then 1 else if (rollP ups L).all (fun x => decide ((sumC (gcells (rollP ups L) x.1)).2 = 0)) = false then 14 else 0 := rfl
  have HRE := hid hre
  clear hu' hc hs hrow hre
  go_enter Try.func17, Try.ntmps17
  by_cases hlen : ups.length = W
  · have t0 : ((ups.length : Int) != (W : Int)) = false := by simp [hlen]
    have hre := HRE.out
    rw [if_neg (by simpa using hlen)] at hre
    have HRE := hid hre
    have HLEN := hid hlen
    have hup3 : ups.length ≤ 3 := by omega
    clear hre hlen
    have hmm := @run_makeMap Try.prog
    obtain ⟨W1, hW1⟩ : ∃ W', W' = w.alloc (.map #[] 0) := ⟨_, rfl⟩
    have hb1 : Below w.heap.size w W1 := by rw [hW1]; exact bl1 _ _
    have hs1 : W1.heap.size = w.heap.size + 1 := by rw [hW1]; simp
    have hg1 : ∀ H, MapG W1 (fun i => D i ∧ i ≠ m) H w.heap.size W [] := fun H => by rw [hW1]; exact MapG.new _ _ _ _
    have HB1 := hid hb1; have HW1 := hid hW1; have HG1 := hid hg1
    clear hb1 hW1 hg1
    go_wp2_with fail
    rw [← HW1.out]
    refine (HO.out _ HB1.out).mono ?_
    rintro e w3 ⟨ov, rfl, ⟨Ao, co, rfl, k1, k2, k3⟩, hb3⟩
    have hs3 := hb3.size
    have HB3 := hid (HB1.out.trans (hb3.mono (by omega)))
    have hDl := fun i (hi : D i ∧ i ≠ m) => HC.out.2.2.2.1 i hi.1
    have hG3 := (HG1.out w3.heap.size).kept (fun i hi => by have := hDl i hi; omega) hb3
    obtain ⟨mes, mck, hmb⟩ : ∃ es c, w3.heap[w.heap.size]? = some (.map es c) := by
      obtain ⟨Dm, ⟨es, clock, hb, -⟩, -⟩ := hG3
      exact ⟨es, clock, hb⟩
    have HG3 := hid hG3; have HMB := hid hmb; have K3 := hid k3
    unfold maxLen at k2
    clear hb3 hG3 hmb k3 hmm
    go_wp2
    go_loopw [29] (fun i wr => RlRel D m W w.heap.size ups L w3 i wr) (fun i _ => L.length - (intOf i).toNat)
    case atStart => exact ⟨0, by omega, rfl, (fun x hx => by cases hx), HG3.out, Upd.refl _ _⟩
    case round =>
      obtain ⟨j, hj, rfl, hall, hG, hU⟩ := hrel
      have hsu := hU.size
      have hbw := HB3.out.trans (hU.below (Nat.le_refl _) (by omega))
      have HALL := hid hall; have HG := hid hG; have HU2 := hid hU; have HBW := hid hbw
      clear hall hG
      by_cases hlt : j < L.length
      · obtain ⟨g, rfl, hg, hcells⟩ := K3.out (by omega)
        obtain ⟨q0, q1, q2⟩ := hcells j hlt
        have hgm := cell_ne_map q0 HMB.out
        have q0 := hU.cellAt hg hgm q0
        have q1 := hU.cellAt hg hgm q1
        have q2 := hU.cellAt hg hgm q2
        have hmem := getD_memK hlt
        have hkk := HS.out.key _ hmem
        have hcod := fun i => code_at hkk i
        have hgc : getC L (L.getD j zK).1 = (L.getD j zK).2 := by unfold getC; rw [getK_of_mem HS.out.sort hmem]; rfl
        have htk := take_succ_zK hlt
        have hupf : upAll ups (L.getD j zK).1 = false → L.all (fun x => upAll ups x.1) = false := fun h => by
          rw [List.all_eq_false]
          exact ⟨_, hmem, by rw [h]; decide⟩
        generalize hxe : L.getD j zK = xe at *
        obtain ⟨key, cc⟩ := xe
        simp only at hkk hcod hgc hupf
        have HUF := hid hupf; have HTK := hid htk; have HGC := hid hgc; have HKK := hid hkk; have HCO := hid hcod
        clear hupf htk hgc hmem hxe hcod hcells hU
        obtain ⟨WA, hWA⟩ : ∃ W', W' = wr.alloc (.cells #[.int .i64 (key.getD 0 0), .int .i64 (key.getD 1 0), .int .i64 (key.getD 2 0)] 99) := ⟨_, rfl⟩
        have hbA : Below wr.heap.size wr WA := by rw [hWA]; exact bl1 _ _
        have hsA : WA.heap.size = wr.heap.size + 1 := by rw [hWA]; simp
        have a0 : WA.cell? ⟨wr.heap.size, 0, none⟩ = some (.int .i64 (key.getD 0 0)) := by rw [hWA]; simp [go_sem]
        have a1 : WA.cell? ⟨wr.heap.size, 1, none⟩ = some (.int .i64 (key.getD 1 0)) := by rw [hWA]; simp [go_sem]
        have a2 : WA.cell? ⟨wr.heap.size, 2, none⟩ = some (.int .i64 (key.getD 2 0)) := by rw [hWA]; simp [go_sem]
        have hBA := HBW.out.trans (hbA.mono (by omega))
        have HUP := hid (up_any p (.slice A ups.length c) ups key WA ((HU.out.below hBA).more hBA.size) hup3 HCO.out)
        have HLK := hid (fun W' (h : Below w.heap.size w W') => (HC.out.below h).2.2.2.2.2.2.2.look2 hkk)
        unfold keyT keyV at HUP HLK
        generalize key.getD 0 0 = x0 at *
        generalize key.getD 1 0 = x1 at *
        generalize key.getD 2 0 = x2 at *
        have HWA := hid hWA; have HBA := hid hBA; have HBA1 := hid hbA
        have HA0 := hid a0; have HA1 := hid a1; have HA2 := hid a2
        clear hWA hBA hbA a0 a1 a2 hkk
        go_wp2_with fail
        rw [← HWA.out]
        refine HUP.out.mono ?_
        rintro e w4 (⟨hyes, lv, rfl, hlo, hb4⟩ | ⟨hno, rfl, hb4⟩)
        · have hs4 := hb4.size
          have hw4 : wr.heap.size < w4.heap.size := by omega
          have HB4 := hid (HBA.out.trans (hb4.mono HBA.out.size))
          have HBR4 := hid (HBA1.out.trans (hb4.mono (by omega)))
          have HBA4 := hid hb4
          have hokg := upL_ok hyes HLEN.out
          have hky := keyC_yes D p m W M L lv (upL ups key) w4 (HC.out.below HB4.out) (Sl.of_own hlo) h1W hW (decide_eq_true hokg)
          obtain ⟨Lv, lc, rfl, -, -, -⟩ := own_cells hlo
          have HYES := hid hyes; have HOKG := hid hokg; have HKY := hid hky
          clear hyes hlo hb4 hokg hky
          unfold keyT keyV at HKY
          generalize (upL ups key).length = ul at *
          go_wp2_with fail
          refine HKY.out.mono ?_
          rintro e w5 ⟨rfl, hb5⟩
          have hs5 := hb5.size
          have HB5 := hid (HB4.out.trans (hb5.mono (by omega)))
          have HBR5 := hid (HBR4.out.trans (hb5.mono (by omega)))
          have HBA5 := hid (HBA4.out.trans (hb5.mono (by omega)))
          clear hb5
          generalize hz0' : (upL ups key).getD 0 0 = z0 at *
          generalize hz1' : (upL ups key).getD 1 0 = z1 at *
          generalize hz2' : (upL ups key).getD 2 0 = z2 at *
          have HZ0 := hid hz0'; have HZ1 := hid hz1'; have HZ2 := hid hz2'
          clear hz0' hz1' hz2'
          obtain ⟨W6, hW6⟩ : ∃ W', W' = w5.alloc (.cells #[.int .i64 z0, .int .i64 z1, .int .i64 z2] 99) := ⟨_, rfl⟩
          have hb6 : Below w5.heap.size w5 W6 := by rw [hW6]; exact bl1 _ _
          have hs6 : W6.heap.size = w5.heap.size + 1 := by rw [hW6]; simp
          have n0 : W6.cell? ⟨w5.heap.size, 0, none⟩ = some (.int .i64 z0) := by rw [hW6]; simp [go_sem]
          have n1 : W6.cell? ⟨w5.heap.size, 1, none⟩ = some (.int .i64 z1) := by rw [hW6]; simp [go_sem]
          have n2 : W6.cell? ⟨w5.heap.size, 2, none⟩ = some (.int .i64 z2) := by rw [hW6]; simp [go_sem]
          have hbA6 := HBA5.out.trans (hb6.mono (by omega))
          have m0 := cellK hbA6 (by omega) HA0.out
          have m1 := cellK hbA6 (by omega) HA1.out
          have m2 := cellK hbA6 (by omega) HA2.out
          have hbR6 := HBR5.out.trans (hb6.mono (by omega))
          have hb6w := HB5.out.trans (hb6.mono (by omega))
          have y2 := cellK hb6w hpl y2
          obtain ⟨u, hce, hlook⟩ := HLK.out W6 hb6w
          rw [HGC.out] at hce
          obtain ⟨D1, d1, D2, d2, D3, d3, rfl⟩ := hce.lit
          have hGd := HG.out.kept (w' := W6.drew) (fun i hi => by have := hDl i hi; omega) hbR6.drew
          obtain ⟨WC, hWC⟩ : ∃ W', W' = (W6.alloc (.cells #[.int .i64 cc.n, .slice D1 cc.s.length d1, .slice D2 cc.lo.length d2, .slice D3 cc.hi.length d3] 25)).drew := ⟨_, rfl⟩
          have hGc := HG.out.kept (w' := WC) (fun i hi => by have := hDl i hi; omega) (by rw [hWC]; exact (hbR6.alloc hbR6.size _).drew)
          have hPl : (rollP ups (L.take j)).length ≤ 600 := by unfold rollP; rw [List.length_map, List.length_take]; omega
          have hPk : ∀ x ∈ rollP ups (L.take j), okK W x.1 := rollP_key HLEN.out HALL.out
          have hmm2 : m ≠ w.heap.size := by have := HC.out.2.2.2.1 m HC.out.2.1; omega
          have hEE : ∀ i, D i ∧ i ≠ m → i < w3.heap.size ∧ i ≠ w.heap.size := fun i hi => by have := hDl i hi; omega
          obtain ⟨v0, st, w7, es, hent, hu7, hz7, hlink⟩ := hGd.link hPk HOKG.out hW (by omega) (by omega) (by show w3.heap.size ≤ W6.heap.size; omega) hEE
          have hzC : WC.heap.size = W6.heap.size + 1 := by rw [hWC]; show (W6.alloc _).heap.size = _; simp
          obtain ⟨v0', st', w7', es', hent', hu7', hz7', hlink'⟩ := hGc.link hPk HOKG.out hW (by omega) (by omega) (by omega) hEE
          have hrp : rollP ups (L.take (j + 1)) = rollP ups (L.take j) ++ [(upL ups key, cc)] := by rw [HTK.out]; simp [rollP]
          have HRP := hid hrp
          unfold keyT keyV at hent hent'
          rw [HZ0.out, HZ1.out, HZ2.out] at hent hent'
          have hgn := gcells_len (rollP ups (L.take j)) (upL ups key)
          clear hGd hGc hrp hPk
          generalize (gcells (rollP ups (L.take j)) (upL ups key)).length = gn at *
          have u7 : ∀ b o x, b < W6.heap.size → b ≠ w.heap.size → W6.cell? ⟨b, o, none⟩ = some x → w7.cell? ⟨b, o, none⟩ = some x := fun b o x hb hne h => hu7.cellAt hb hne h
          have r0 := u7 _ _ _ (by omega) (by omega) m0
          have r1 := u7 _ _ _ (by omega) (by omega) m1
          have r2 := u7 _ _ _ (by omega) (by omega) m2
          have t2 := u7 _ _ _ (by omega) (by omega) y2
          have hlookD := hlook W6.drew rfl
          have hlookB := hlook w7 (hu7.block m (by have := HC.out.2.2.2.1 m HC.out.2.1; show m < W6.heap.size; omega) (fun e => hmm2 (by injection e)))
          have hz7s : w7.heap.size = W6.heap.size := hz7
          have HLBx := hlink (w7.alloc (.cells #[.int .i64 cc.n, .slice D1 cc.s.length d1, .slice D2 cc.lo.length d2, .slice D3 cc.hi.length d3] 25)) (hu7.new ((bl1 w7 _).mono (by omega))) ((bl1 w7 _).block _ (by omega))
          have HRB := hid HLBx.1; have HLB := hid HLBx.2
          have HLAx := hlink' w7' hu7' rfl
          have HRA := hid HLAx.1; have HLA := hid HLAx.2
          have HNB := hid (cells_new_at w7 #[.int .i64 cc.n, .slice D1 cc.s.length d1, .slice D2 cc.lo.length d2, .slice D3 cc.hi.length d3] 25 hz7s)
          have HNA := hid (fun (j : Nat) (u : Value) (h : (e4 (cc.n, .slice D1 cc.s.length d1, .slice D2 cc.lo.length d2, .slice D3 cc.hi.length d3))[j]? = some u) => (show w7'.cell? ((⟨W6.heap.size, 0, none⟩ : Addr).add j) = some u by
            have h2 := cells_new_at W6 #[.int .i64 cc.n, .slice D1 cc.s.length d1, .slice D2 cc.lo.length d2, .slice D3 cc.hi.length d3] 25 rfl j u h
            rw [add_eq] at h2 ⊢
            rw [World.cell?_of_block (hu7'.block W6.heap.size (by omega) (fun e => by injection e with e; omega)), hWC]
            exact h2))
          have HCB := hid (show CellE W6.drew (fun i => D i ∧ i ≠ m) _ cc from hce)
          have HCA := hid (hce.kept (w' := WC) (fun i hi => by rw [hWC]; exact (bl1 W6 _).block i (by have := hDl i hi; omega)))
          have HZB := hid (show (w7.alloc (.cells #[.int .i64 cc.n, .slice D1 cc.s.length d1, .slice D2 cc.lo.length d2, .slice D3 cc.hi.length d3] 25)).heap.size = W6.heap.size + 1 by simp [hz7s])
          have HZA := hid (show w7'.heap.size = W6.heap.size + 1 by omega)
          have HUB := hid (show Upd w.heap.size w3 W6.drew from HU2.out.new (hbR6.drew.mono (by omega)))
          have HUA := hid (show Upd w.heap.size w3 WC by rw [hWC]; exact HU2.out.new (((hbR6.alloc hbR6.size _).drew).mono (by omega)))
          have hm6 : wr.heap.size < W6.heap.size := by omega
          have hn6 : w5.heap.size < W6.heap.size := by omega
          have hp6 : p < W6.heap.size := by omega
          have hw36 : w3.heap.size ≤ W6.heap.size := by omega
          have hz7a : w7'.heap.size = W6.heap.size + 1 := HZA.out
          have HS6 := hid hs6
          clear hs6
          rw [hWC] at hent'
          have HW6 := hid hW6
          clear u7 hlook hlink hlink' HLBx HLAx hu7 hu7' hz7 hz7' hce hW6 hWC hEE hzC hbA6 hbR6 hb6w hb6
          go_upto_region 11 with (fail)
          rw [← HW6.out]
          go_region_law (first | (refine step_append_lies _ (by rfl) (.tmp 50) (.tmp 57) 22 (by rfl) w3.heap.size 25 i0 (.agg #[.int .i64 0, .slice none 0 0, .slice none 0 0, .slice none 0 0]) 4 80 Try.underlying22 hi hz0 hz1 hz2 rfl (by omega) _ gn _ (by rfl) HRA.out ⟨W6.heap.size, 0, none⟩ 1 1 (e4 (cc.n, .slice D1 cc.s.length d1, .slice D2 cc.lo.length d2, .slice D3 cc.hi.length d3)) (by rfl) rfl HNA.out e4_one (by omega) (by unfold maxLen; omega) (by omega) (by first | omega | (simp; omega)) (W6.heap.size + 1) HZA.out ?_; intro g' cap w' ho' hg' hat' hlt'; obtain ⟨w8, hst8, hG8, hz8, hU8⟩ := HLA.out (cc.n, .slice D1 cc.s.length d1, .slice D2 cc.lo.length d2, .slice D3 cc.hi.length d3) cc g' cap w' HCA.out ho' hg' (hat'.imp id (fun e => e.trans (Eq.symm HZA.out))); have HG8 := hid hG8; have HU8 := hid (hU8 w3 HUA.out rfl); clear hG8 hU8 ho' hg' hat' hlt' hz8) | (refine step_append_lies _ (by rfl) (.tmp 50) (.tmp 57) 22 (by rfl) w3.heap.size 25 i0 (.agg #[.int .i64 0, .slice none 0 0, .slice none 0 0, .slice none 0 0]) 4 80 Try.underlying22 hi hz0 hz1 hz2 rfl (by omega) _ gn _ (by rfl) HRB.out ⟨W6.heap.size, 0, none⟩ 1 1 (e4 (cc.n, .slice D1 cc.s.length d1, .slice D2 cc.lo.length d2, .slice D3 cc.hi.length d3)) (by rfl) rfl HNB.out e4_one (by omega) (by unfold maxLen; omega) (by omega) (by first | omega | (simp; omega)) (W6.heap.size + 1) HZB.out ?_; intro g' cap w' ho' hg' hat' hlt'; obtain ⟨w8, hst8, hG8, hz8, hU8⟩ := HLB.out (cc.n, .slice D1 cc.s.length d1, .slice D2 cc.lo.length d2, .slice D3 cc.hi.length d3) cc g' cap w' HCB.out ho' hg' (hat'.imp id (fun e => e.trans (Eq.symm HZB.out))); have HG8 := hid hG8; have HU8 := hid (hU8 w3 HUB.out rfl); clear hG8 hU8 ho' hg' hat' hlt' hz8))
          all_goals
            go_wp2
            go_roundw
            case rel =>
              refine ⟨j + 1, by omega, by go_num, fun x hx => ?_, by rw [HRP.out]; exact HG8.out, HU8.out⟩
              rw [HTK.out, List.mem_append] at hx
              rcases hx with hx | hx
              · exact HALL.out x hx
              · rw [List.mem_singleton.1 hx]; exact HYES.out
            case measure => simp [intOf]; omega
        · have HB4 := hid (HBA.out.trans (hb4.mono HBA.out.size))
          have hre := HRE.out
          rw [if_pos (HUF.out hno)] at hre
          have HRE := hid hre
          clear hb4 hno hre
          go_wp2
          go_ret2
          exact .inl ⟨by rw [HRE.out]; decide, by rw [HRE.out]; rfl, HB4.out⟩
      · obtain rfl : j = L.length := by omega
        have hgl := HG.out
        have hal := HALL.out
        rw [List.take_length] at hgl hal
        have hw36 : w.heap.size < wr.heap.size := by omega
        have hpr : p < wr.heap.size := by omega
        have y0 := cellK hbw hpl y0
        have y1 := cellK hbw hpl y1
        have hre := HRE.out
        rw [if_neg (by rw [Bool.not_eq_false, List.all_eq_true]; exact fun x hx => hal x hx)] at hre
        have HRE := hid hre
        have hPk : ∀ x ∈ rollP ups L, okK W x.1 := rollP_key HLEN.out hal
        have hPm : ∀ x ∈ rollP ups L, MayP x.2 := rollP_all (q := fun c => MayP c) HS.out.may
        have hPf : ∀ x ∈ rollP ups L, x.2.n ≠ 0 := rollP_all (q := fun c => c.n ≠ 0) HS.out.full
        have hPn : ∀ x ∈ rollP ups L, x.2.s.length = M := rollP_all (q := fun c => c.s.length = M) HS.out.len
        have hPl : (rollP ups L).length ≤ 600 := by unfold rollP; rw [List.length_map]; omega
        generalize hPe : rollP ups L = P at *
        have HPE := hid hPe
        clear hPe
        have HPK := hid hPk; have HPM := hid hPm; have HPF := hid hPf; have HPN := hid hPn; have HGL := hid hgl; have HRE := hid hre
        clear hgl hal hre hPk hPm hPf hPn hU
        go_upto_region 13 with (fail)
        have HNW := hid (newC_yes W M wr.drew h1W hW h1M hM)
        go_region_held3 (fun w' => w'.cell? ⟨p, 0, none⟩ = some (.int .i64 W) ∧ w'.cell? ⟨p, 1, none⟩ = some (.int .i64 M)) (go_keep)
          (((with_reducible refine HNW.out.mono ?_); rintro e w5 ⟨pd, md, Dd, rfl, hcd, hDd, hb5⟩; have hb5 : Below wr.heap.size wr w5 := (Below.refl _ _).drew.trans hb5; have y0 := cellK hb5 hpr y0; have y1 := cellK hb5 hpr y1; have HCD := hid hcd; have HDD := hid hDd; have HB5 := hid hb5; clear hcd hDd hb5))
        have hs5 := HB5.out.size
        have HG5 := hid (HGL.out.kept (fun i hi => by have := hDl i hi; omega) HB5.out)
        obtain ⟨Dm, g1, g2, g3, g4, g5, -⟩ := HGL.out
        obtain ⟨mes5, mck5, hbm, hrest⟩ := g1
        have g1' : w5.ownsMap Try.prog 99 heldR w.heap.size (Maps.size Dm) Dm := ⟨mes5, mck5, (HB5.out.block _ (by omega)).trans hbm, hrest⟩
        have HG3' := hid g3; have HG4' := hid g4; have HG5' := hid g5
        clear g3 g4 g5 hbm hrest
        go_wp2_with (first
          | (at_range; refine wpList_range_own _ rfl _ 95 rfl 99 22 key_law Try.underlying95 _ w.heap.size (Maps.size Dm) Dm rfl g1' ?_; intro w6 hrg6 hgr6 hs6)
          | go_in)
        go_frame
        obtain ⟨wL, rfl⟩ : ∃ wL : World, wL = wr := ⟨_, rfl⟩
        go_loopw [] (fun wr => RgRel P Dm w.heap.size w5.heap.size (Maps.size Dm) W M pd md wL wr) (fun wr => wr.rangeLeft w.heap.size w5.heap.size)
        case atStart =>
          have hb56 : Below w5.heap.size w5 w6 := (Below.refl _ _).grown hgr6 (Nat.le_refl _) (fun j hj => by cases hj)
          refine ⟨[], _, _, Dd, [], hrg6, (fun g hg => by cases hg), (fun x hx => by rw [HG3'.out x hx]; rfl), HG4'.out, (fun g hg => by cases hg), HCD.out.below hb56, OkL.nil_ W M, (fun g => by simp [getK_nil]), Nat.le_refl _, by simpa using g2, fun k hk => ?_, HB5.out.trans (hb56.mono hs5)⟩
          have h1 : wL.heap.size ≤ k := HDD.out k hk
          have h2 := HCD.out.2.2.2.1 k hk
          omega
        case round =>
          obtain ⟨V, left, cnt, De, Q, hrg, hin, hlf, hlk, hok, hcq, hokq, hgq, hql, hvc, hdk, hbl⟩ := hrel
          have hsl := hbl.size
          go_wp2_with (first
            | (at_next; refine wpList_next_ranges _ rfl _ rfl 99 key_law heldR (fun x : T3 => keyV x.1 x.2.1 x.2.2) (fun v : Value => v) (fun key kl h => by obtain ⟨a, b, c, e⟩ := key_inv h; exact ⟨(a, b, c), e⟩) (fun v y h => ⟨v, rfl⟩) w.heap.size w5.heap.size (Maps.size Dm) Dm left cnt rfl hrg ?_ ?_)
            | go_in)
          · intro hc0 hl0
            have hall : ∀ x ∈ P, x.1 ∈ V := fun x hx => by
              have := hlf x hx
              rw [hl0] at this
              simpa using this
            have hre := HRE.out
            rw [if_neg (by rw [Bool.not_eq_false, List.all_eq_true]; exact fun x hx => decide_eq_true (hok _ (hall x hx)))] at hre
            have hQ : Q = rollL P := sortK_ext hokq.sort (rollF_sort P P) (fun g => by
              rw [hgq]
              unfold rollL
              rw [rollF_get]
              by_cases hg : g ∈ V
              · obtain ⟨x, hx, rfl⟩ := hin g hg
                rw [if_pos hg, if_pos (List.any_eq_true.2 ⟨x, hx, by simp⟩)]
              · rw [if_neg hg, if_neg (fun h => by
                  obtain ⟨x, hx, e⟩ := List.any_eq_true.1 h
                  have e : x.1 = g := by simpa using e
                  exact hg (e ▸ hall x hx))])
            subst hQ
            have HRE0 := hid hre; have HCQ := hid hcq
            have HBF := hid (HBW.out.trans (hbl.mono (by omega)))
            have hdk' : ∀ k, De k → w.heap.size ≤ k := fun k hk => by have := (hdk k hk).1; omega
            have HDK := hid hdk'
            clear hrg hin hlf hlk hok hcq hokq hgq hdk hbl hall hre hl0 hdk'
            go_wp2
            go_ret2
            exact .inr ⟨HRE0.out, pd, md, De, rfl, by rw [HPE.out]; exact HCQ.out, HDK.out, HBF.out⟩
          · intro x1 x2 x3 c2 kl yd yp w7 cnt1 hkl hlx hRv hat hrg1 hlt hg1 hs7 hen
            obtain ⟨x, hx, rfl⟩ := hlk kl hlx
            have hokx := HPK.out x hx
            have hkv := key_law.inj hkl (key_of_k hokx)
            obtain ⟨v, hv, hr⟩ := HG5'.out x hx
            have hcv : c2 = v := by
              unfold heldR at hRv
              have e1 := congrArg Prod.fst (Option.some.inj hRv)
              have e2 := (hat (.held undef)).symm.trans (hv (.held undef))
              exact DataW.held.inj (e1.trans e2)
            subst hcv
            have hrc := hr.rowC
            have hgl := gcells_len P x.1
            obtain ⟨es4, hown4, -⟩ := hr
            obtain ⟨Ac, cc2, rfl⟩ := own_formN hown4
            have hp7 : (x1, x2, x3) = t3 x.1 := by
              unfold keyT keyV at hkv
              simp only [Value.agg.injEq, Array.mk.injEq, List.cons.injEq, Value.int.injEq, true_and, and_true] at hkv
              exact Prod.ext hkv.1 (Prod.ext hkv.2.1 hkv.2.2)
            have hne0 := gcells_ne hx
            have hq1 : ∀ c ∈ gcells P x.1, MayP c := fun c hc => by obtain ⟨y, hy, -, rfl⟩ := gcells_mem hc; exact HPM.out y hy
            have hq2 : ∀ c ∈ gcells P x.1, c.n ≠ 0 := fun c hc => by obtain ⟨y, hy, -, rfl⟩ := gcells_mem hc; exact HPF.out y hy
            have hq3 : ∀ c ∈ gcells P x.1, c.s.length = M := fun c hc => by obtain ⟨y, hy, -, rfl⟩ := gcells_mem hc; exact HPN.out y hy
            have hsok := sum_okC hne0 hq1 hq2 hq3
            have hbl7 : Below wL.heap.size wL w7 := hbl.grown hg1 hsl (fun j hj => by cases hj; exact hs5)
            obtain ⟨w8, hw8⟩ : ∃ W', W' = w7.alloc (.cells #[.int .i64 x1, .int .i64 x2, .int .i64 x3] 99) := ⟨_, rfl⟩
            have hz8 : w8.heap.size = wr.heap.size + 1 := by rw [hw8]; simp [hs7]
            have hb78 : Below w7.heap.size w7 w8 := by rw [hw8]; exact bl1 _ _
            have hbl8 := hbl7.trans (hb78.mono (by omega))
            have HSM := hid (sum_any (.slice Ac (gcells P x.1).length cc2) (gcells P x.1) w8 ((hrc.below hbl8).more (by omega)) (by omega))
            have e0 : w8.cell? ⟨wr.heap.size, 0, none⟩ = some (.int .i64 x1) := by rw [hw8, ← hs7]; simp [go_sem]
            have e1 : w8.cell? ⟨wr.heap.size, 1, none⟩ = some (.int .i64 x2) := by rw [hw8, ← hs7]; simp [go_sem]
            have e2 : w8.cell? ⟨wr.heap.size, 2, none⟩ = some (.int .i64 x3) := by rw [hw8, ← hs7]; simp [go_sem]
            have hcq7 : CubW w7 De pd md W M Q := hcq.kept (fun k hk => hg1.block k (hcq.2.2.2.1 k hk) (fun e => by injection e with e; exact (hdk k hk).2 e)) (by omega)
            have hpds := hcq.2.2.2.1 pd hcq.1
            have hmds := hcq.2.2.2.1 md hcq.2.1
            have hmdl := hdk md hcq.2.1
            have hpmd : pd ≠ md := hcq.2.2.1
            have hd2 := hcq7.2.2.2.2.2.2.1
            have HRG1 := hid hrg1; have HRG := hid hrg; have HBL8 := hid hbl8; have HCQ7 := hid hcq7; have HB78 := hid hb78; have HW8 := hid hw8; have HSOK := hid hsok
            have HIN := hid hin; have HLF := hid hlf; have HLK2 := hid hlk; have HOK := hid hok; have HOKQ := hid hokq; have HGQ := hid hgq; have HDK := hid hdk
            have HX := hid hx; have HOKX := hid hokx; have HLX := hid hlx; have HP7 := hid hp7
            clear hrg1 hrg hbl hbl7 hbl8 hcq hcq7 hb78 hw8 hsok hin hlf hlk hok hokq hgq hx hokx hlx hrc hown4 hq1 hq2 hq3 hv hat hRv hkl hg1 hkv hp7 hne0 hdk
            unfold keyV at hen
            generalize hsc : sumC (gcells P x.1) = sm at *
            have HSC := hid hsc
            clear hsc
            obtain ⟨sc, se⟩ := sm
            generalize (gcells P x.1).length = gn at *
            go_wp2_with fail
            rw [← HW8.out]
            refine HSM.out.mono ?_
            rintro e w9 ⟨y, rfl, ho9, hb9⟩
            have hs9 := hb9.size
            have e0 := cellK hb9 (by omega) e0
            have e1 := cellK hb9 (by omega) e1
            have e2 := cellK hb9 (by omega) e2
            have hb79 := HB78.out.trans (hb9.mono (by omega))
            have hd2 := cellK hb79 (by omega) hd2
            have HB9 := hid (HBL8.out.trans (hb9.mono (by omega)))
            have HB79 := hid hb79
            have ho9 : OwnC w9 w8.heap.size y sc := ho9
            have hce := CellE.of_own ho9
            obtain ⟨F1, f1, F2, f2, F3, f3, rfl⟩ := hce.lit
            have HO9 := hid ho9
            clear hb9 hb79 ho9 hce
            by_cases hse : se = 0
            · subst hse
              have t1 : ((0 : Int) != 0) = false := rfl
              have hsk : MayP sc ∧ sc.n ≠ 0 ∧ sc.s.length = M := HSOK.out rfl
              obtain ⟨hk1, hk2, hk3⟩ := hsk
              obtain ⟨W9, hW9⟩ : ∃ W', W' = w9.alloc (.cells #[.int .i64 sc.n, .slice F1 sc.s.length f1, .slice F2 sc.lo.length f2, .slice F3 sc.hi.length f3] 25) := ⟨_, rfl⟩
              have hb99 : Below w9.heap.size w9 W9 := by rw [hW9]; exact bl1 _ _
              have hz9 : W9.heap.size = w9.heap.size + 1 := by rw [hW9]; simp
              have bn : Blk W9 w9.heap.size (.int .i64 sc.n) (.slice F1 sc.s.length f1) (.slice F2 sc.lo.length f2) (.slice F3 sc.hi.length f3) := by rw [hW9]; exact Blk.new _ _ _ _ _ _
              obtain ⟨b0, b1, b2, b3, -, -, -, -⟩ := bn
              have e0 := cellK hb99 (by omega) e0
              have e1 := cellK hb99 (by omega) e1
              have e2 := cellK hb99 (by omega) e2
              have hd2 := cellK hb99 (by omega) hd2
              have hb7W := HB79.out.trans (hb99.mono (by omega))
              obtain ⟨w10, hrun, hcq10, hgr10, hu7, hu9⟩ := HCQ7.out.store HOKQ.out hW (by omega) HOKX.out hb7W.drew (HO9.out.onB hb99.drew) (by omega)
              unfold keyT keyV at hrun
              have h33 := HP7.out
              unfold t3 at h33
              simp only [Prod.mk.injEq] at h33
              rw [← h33.1, ← h33.2.1, ← h33.2.2] at hrun
              have hr7 := HRG1.out.lt
              have hrg10 := HRG1.out.kept hu7 (fun e => by injection e with e; omega) (fun e => by injection e with e; exact hmdl.2 e.symm)
              have hHd : w9.heap.size < W9.heap.size := by omega
              have hwrW : wr.heap.size < W9.heap.size := by omega
              have hpdW : pd < W9.heap.size := by omega
              have hblX := ((HB9.out.trans (hb99.mono (by omega))).drew).trans (hu9.below hmdl.1 (by show md < W9.heap.size; omega))
              have HRG10 := hid hrg10; have HCQ10 := hid hcq10; have HBLX := hid hblX; have HK1 := hid hk1; have HK2 := hid hk2; have HK3 := hid hk3; have HW9 := hid hW9
              have hlf' : ∀ y ∈ P, (left (keyLk y.1) && !(keyLk y.1).sameKey (keyLk x.1)) = !decide (y.1 ∈ V ++ [x.1]) := fun y hy => by
                rw [HLF.out y hy]
                by_cases e : y.1 = x.1
                · rw [e, sameKey_self (keyLk_is HOKX.out)]; simp
                · rw [Maps.sameKey_ne (fun h => e (keyLk_inj (HPK.out y hy) HOKX.out hW h))]
                  simp [e]
              have hgq' : ∀ g, getK (setK x.1 sc Q) g = if g ∈ V ++ [x.1] then some (sumC (gcells P g)).1 else none := fun g => by
                rw [getK_set HOKQ.out.sort, HGQ.out]
                by_cases e : x.1 = g
                · subst e
                  rw [if_pos rfl, if_pos (by simp), HSC.out]
                · rw [if_neg e]
                  have : g ∈ V ++ [x.1] ↔ g ∈ V := ⟨fun h => (List.mem_append.1 h).elim id (fun h => absurd (List.mem_singleton.1 h).symm e), List.mem_append_left _⟩
                  by_cases hg : g ∈ V
                  · rw [if_pos hg, if_pos (this.2 hg)]
                  · rw [if_neg hg, if_neg (fun h => hg (this.1 h))]
              have hql' : (setK x.1 sc Q).length ≤ V.length + 1 := by
                rw [setK_len HOKQ.out.sort]
                split <;> omega
              have hdk' : ∀ k, (De k ∨ (w7.heap.size ≤ k ∧ k < W9.drew.heap.size)) → wL.heap.size ≤ k ∧ k ≠ w5.heap.size := fun k hk => by
                rcases hk with hk | hk
                · exact HDK.out k hk
                · have := hk.1
                  omega
              have HLF2 := hid hlf'; have HGQ2 := hid hgq'; have HQL2 := hid hql'; have HDK2 := hid hdk'
              clear hrg10 hcq10 hblX hk1 hk2 hk3 hW9 hlf' hgq' hql' hdk' hgr10 hu7 hu9 hb7W hb99 h33
              go_upto_region 20 with (fail)
              rw [← HW9.out]
              go_region
              all_goals
                go_wp2
                go_roundw
                case rel =>
                  refine ⟨V ++ [x.1], _, cnt1, _, setK x.1 sc Q, HRG10.out, fun g hg => ?_, HLF2.out, fun kl h => HLK2.out kl (by simp at h; exact h.1), fun g hg => ?_, HCQ10.out, HOKQ.out.set HOKX.out HK1.out HK2.out HK3.out, HGQ2.out, ?_, ?_, HDK2.out, HBLX.out⟩
                  · rcases List.mem_append.1 hg with h | h
                    · exact HIN.out g h
                    · exact ⟨x, HX.out, (List.mem_singleton.1 h).symm⟩
                  · rcases List.mem_append.1 hg with h | h
                    · exact HOK.out g h
                    · rw [List.mem_singleton.1 h, HSC.out]
                  · rw [List.length_append, List.length_singleton]; exact HQL2.out
                  · rw [List.length_append, List.length_singleton]; omega
                case measure => rw [HRG10.out.left_eq, HRG.out.left_eq]; exact hlt
            · have t1 : (se != 0) = true := by simpa using hse
              have hre := HRE.out
              rw [if_pos (by
                rw [List.all_eq_false]
                exact ⟨x, HX.out, by rw [HSC.out]; simpa using hse⟩)] at hre
              have HREX := hid hre
              have HBX := hid (HBW.out.trans ((HB9.out.trans ((bl1 w9 (.cells #[.int .i64 sc.n, .slice F1 sc.s.length f1, .slice F2 sc.lo.length f2, .slice F3 sc.hi.length f3] 25)).mono (by omega))).mono (by omega)))
              clear hre
              go_wp2
              go_ret2
              exact .inl ⟨by rw [HREX.out]; decide, by rw [HREX.out]; rfl, HBX.out⟩
  · have t0 : ((ups.length : Int) != (W : Int)) = true := by rw [bne_iff_ne]; omega
    have hre := HRE.out
    rw [if_pos (by simpa using hlen)] at hre
    have HRE := hid hre
    clear hre hlen
    go_wp2
    go_ret2
    exact .inl ⟨by rw [HRE.out]; decide, by rw [HRE.out]; rfl, Below.refl _ _⟩
end Go.Proofs.Ytclhnnidbhchnaa
