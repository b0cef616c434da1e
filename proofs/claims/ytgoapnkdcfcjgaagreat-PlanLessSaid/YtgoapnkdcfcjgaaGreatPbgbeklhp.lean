/- 1 text of this claim, in build order. -/
import Derived.Test.YtgoapnkdcfcjgaaGreatPjpblcmin
import Derived.Test.YtgoapnkdcfcjgaaGreatPoigjcanf
import Derived.Test.YtgoapnkdcfcjgaaGreatPcfkjodbd
/- The program's Copy. -/
namespace Go.Proofs.YtgoapnkdcfcjgaaGreat
open Go.ChangeShapes Go.WideShapes Go.ChangeAt Go.RowKit Go.Maps
set_option linter.unusedVariables false
set_option linter.unusedSimpArgs false

def CopP (W M : Nat) (L : List KC) (w : World) (e : Ending) (w' : World) : Prop :=
  ∃ p' m' D', e = .returned (.pointer (some ⟨p', 0, none⟩)) ∧ CubW w' D' p' m' W M L ∧ (∀ k, D' k → w.heap.size ≤ k) ∧ Below w.heap.size w w'
def CpRel (L : List KC) (Dm : DataW Value) (mg r n W M pd md : Nat) (wL : World) (wr : World) : Prop :=
  ∃ (V : List (List Int)) (left : Lit → Bool) (cnt : Nat) (Dd : Nat → Prop) (Q : List KC), wr.ranges Tryz.prog 149 heldR mg r n Dm left cnt ∧ (∀ g ∈ V, ∃ x ∈ L, x.1 = g) ∧ (∀ x ∈ L, left (keyLk x.1) = !decide (x.1 ∈ V)) ∧
    (∀ kl, left kl = true → ∃ x ∈ L, kl = keyLk x.1) ∧ CubW wr Dd pd md W M Q ∧ OkL W M Q ∧ (∀ g, getK Q g = if g ∈ V then getK L g else none) ∧ Q.length ≤ V.length ∧ V.length + cnt ≤ L.length ∧
    (∀ k, Dd k → wL.heap.size ≤ k ∧ k ≠ r) ∧ Below wL.heap.size wL wr
set_option maxRecDepth 100000 in
set_option maxHeartbeats 6400000 in
theorem copyC_any (D : Nat → Prop) (p m W M : Nat) (L : List KC) (w : World) (hc : CubW w D p m W M L) (hs : OkL W M L) (h1W : 1 ≤ W) (hW : W ≤ 3) (h1M : 1 ≤ M) (hM : M ≤ 2) (hL : L.length ≤ 600) :
    Calls Tryz.prog 67 #[.pointer (some ⟨p, 0, none⟩)] w (CopP W M L w) := by
  have hpl := hc.2.2.2.1 p hc.1
  have hml := hc.2.2.2.1 m hc.2.1
  have y0 := hc.2.2.2.2.1
  have y1 := hc.2.2.2.2.2.1
  have y2 := hc.2.2.2.2.2.2.1
  obtain ⟨Dm, g1, g2, g3, g4, g5⟩ := hc.2.2.2.2.2.2.2
  have HDl := hid hc.2.2.2.1
  have HS := hid hs; have HC := hid hc
  have HNW := hid (newC_yes W M w.drew h1W hW h1M hM)
  have G2 := hid g2; have G3 := hid g3; have G4 := hid g4; have G5 := hid g5
  have g1 := own_tight g1
  obtain ⟨mes5, mck5, hbm, hrest⟩ := g1
  have HBM := hid hbm; have HREST := hid hrest
  clear hc hs g2 g3 g4 g5 hbm hrest
  go_enter Tryz.func67, Tryz.ntmps67
  go_wp2
  go_region_held3 (fun w' => w'.cell? ⟨p, 0, none⟩ = some (.int .i64 W) ∧ w'.cell? ⟨p, 1, none⟩ = some (.int .i64 M) ∧ w'.cell? ⟨p, 2, none⟩ = some (.map (some m))) (go_keep)
    (((with_reducible refine HNW.out.mono ?_); rintro e w5 ⟨pd, md, Dd, rfl, hcd, hDd, hb5⟩; have hb5 : Below w.heap.size w w5 := (Below.refl _ _).drew.trans hb5; have y0 := cellK hb5 hpl y0; have y1 := cellK hb5 hpl y1; have y2 := cellK hb5 hpl y2; have HCD := hid hcd; have HDD := hid hDd; have HB5 := hid hb5; clear hcd hDd hb5))
  have hs5 := HB5.out.size
  have g1' : w5.ownsMap Tryz.prog 149 heldR m (Maps.size Dm) Dm := ⟨mes5, mck5, (HB5.out.block _ (by omega)).trans HBM.out, HREST.out⟩
  go_wp2_with (first
    | (at_range; refine wpList_range_own _ rfl _ 102 rfl 149 125 key_law Tryz.underlying102 _ m (Maps.size Dm) Dm rfl g1' ?_; intro w6 hrg6 hgr6 hs6)
    | go_in)
  go_frame
  have hs56 : w5.heap.size < w6.heap.size := by omega
  go_loopw [] (fun wr => CpRel L Dm m w5.heap.size (Maps.size Dm) W M pd md w wr) (fun wr => wr.rangeLeft m w5.heap.size)
  case atStart =>
    have hb56 : Below w5.heap.size w5 w6 := (Below.refl _ _).grown hgr6 (Nat.le_refl _) (fun j hj => by cases hj)
    refine ⟨[], _, _, Dd, [], hrg6, (fun g hg => by cases hg), (fun x hx => by rw [G3.out x.1 (HS.out.key x hx), getK_of_mem HS.out.sort hx]; rfl), G5.out, HCD.out.below hb56, OkL.nil_ W M, (fun g => by simp [getK_nil]), Nat.le_refl _, by simp [G2.out], fun k hk => ?_, HB5.out.trans (hb56.mono hs5)⟩
    have h1 : w.heap.size ≤ k := HDD.out k hk
    have h2 := HCD.out.2.2.2.1 k hk
    omega
  case round =>
    obtain ⟨V, left, cnt, De, Q, hrg, hin, hlf, hlk, hcq, hokq, hgq, hql, hvc, hdk, hbl⟩ := hrel
    have hsl := hbl.size
    go_wp2_with (first
      | (at_next; refine wpList_next_ranges _ rfl _ rfl 149 key_law heldR (fun x : T3 => keyV x.1 x.2.1 x.2.2) (fun v : Value => v) (fun key kl h => by obtain ⟨a, b, c, e⟩ := key_inv h; exact ⟨(a, b, c), e⟩) (fun v y h => ⟨v, rfl⟩) m w5.heap.size (Maps.size Dm) Dm left cnt rfl hrg ?_ ?_)
      | go_in)
    · intro hc0 hl0
      have hall : ∀ x ∈ L, x.1 ∈ V := fun x hx => by
        have := hlf x hx
        rw [hl0] at this
        simpa using this
      have hQ : Q = L := sortK_ext hokq.sort HS.out.sort (fun g => by
        rw [hgq]
        by_cases hg : g ∈ V
        · rw [if_pos hg]
        · rw [if_neg hg]
          symm
          exact getK_none.2 (fun x hx e => hg (e ▸ hall x hx)))
      subst hQ
      have HCQ := hid hcq
      have HBF := hid hbl
      have hdk' : ∀ k, De k → w.heap.size ≤ k := fun k hk => (hdk k hk).1
      have HDK := hid hdk'
      clear hrg hin hlf hlk hcq hokq hgq hdk hbl hall hl0 hdk'
      go_wp2
      go_ret
      exact ⟨pd, md, De, rfl, HCQ.out, HDK.out, HBF.out⟩
    · intro x1 x2 x3 c2 kl yd yp w7 cnt1 hkl hlx hRv hat hrg1 hlt hg1 hs7 hen
      obtain ⟨x, hx, rfl⟩ := hlk kl hlx
      have hokx := HS.out.key x hx
      have hmay := HS.out.may x hx
      have hfull := HS.out.full x hx
      have hlen := HS.out.len x hx
      have hgx := getK_of_mem HS.out.sort hx
      have hkv := key_law.inj hkl (key_of_k hokx)
      obtain ⟨v, hv, hr⟩ := G4.out x hx
      have hcv : c2 = v := by
        unfold heldR at hRv
        have e1 := congrArg Prod.fst (Option.some.inj hRv)
        have e2 := (hat (.held undef)).symm.trans (hv (.held undef))
        exact DataW.held.inj (e1.trans e2)
      subst hcv
      have hp7 : (x1, x2, x3) = t3 x.1 := by
        unfold keyT keyV at hkv
        simp only [Value.agg.injEq, Array.mk.injEq, List.cons.injEq, Value.int.injEq, true_and, and_true] at hkv
        exact Prod.ext hkv.1 (Prod.ext hkv.2.1 hkv.2.2)
      have hr7 := hrg1.lt
      have hbl7 : Below w.heap.size w w7 := hbl.grown hg1 hsl (fun j hj => by cases hj; exact hs5)
      obtain ⟨A1, c1, A2, c2, A3, c3, rfl⟩ := hr.lit
      unfold keyV at hen
      generalize hxk : x.1 = key at *
      generalize hxc : x.2 = c at *
      obtain ⟨W8, hW8⟩ : ∃ W', W' = (w7.alloc (.cells #[.int .i64 x1, .int .i64 x2, .int .i64 x3] 149)).alloc (.cells #[.int .i64 c.n, .slice A1 c.s.length c1, .slice A2 c.lo.length c2, .slice A3 c.hi.length c3] 125) := ⟨_, rfl⟩
      have hz8 : W8.heap.size = wr.heap.size + 2 := by rw [hW8]; simp [hs7]
      have hb78 : Below w7.heap.size w7 W8 := by rw [hW8]; exact (bl1 _ _).alloc (by simp) _
      have hbl8 := hbl7.trans (hb78.mono (by omega))
      have e0 : W8.cell? ⟨wr.heap.size, 0, none⟩ = some (.int .i64 x1) := by rw [hW8, ← hs7]; simp [go_sem]
      have e1 : W8.cell? ⟨wr.heap.size, 1, none⟩ = some (.int .i64 x2) := by rw [hW8, ← hs7]; simp [go_sem]
      have e2 : W8.cell? ⟨wr.heap.size, 2, none⟩ = some (.int .i64 x3) := by rw [hW8, ← hs7]; simp [go_sem]
      have b0 : W8.cell? ⟨wr.heap.size + 1, 0, none⟩ = some (.int .i64 c.n) := by rw [hW8, ← hs7]; simp [go_sem]
      have b1 : W8.cell? ⟨wr.heap.size + 1, 1, none⟩ = some (.slice A1 c.s.length c1) := by rw [hW8, ← hs7]; simp [go_sem]
      have b2 : W8.cell? ⟨wr.heap.size + 1, 2, none⟩ = some (.slice A2 c.lo.length c2) := by rw [hW8, ← hs7]; simp [go_sem]
      have b3 : W8.cell? ⟨wr.heap.size + 1, 3, none⟩ = some (.slice A3 c.hi.length c3) := by rw [hW8, ← hs7]; simp [go_sem]
      have hcr := (hr.kept (w' := W8) (fun i hi => hbl8.block i (HDl.out i hi.1))).read
      have hcq7 : CubW w7 De pd md W M Q := hcq.kept (fun k hk => hg1.block k (hcq.2.2.2.1 k hk) (fun e => by injection e with e; exact (hdk k hk).2 e)) (by omega)
      have hd2 := cellK hb78 (by have := hcq7.2.2.2.1 pd hcq7.1; omega) hcq7.2.2.2.2.2.2.1
      have hpds := hcq.2.2.2.1 pd hcq.1
      have hmds := hcq.2.2.2.1 md hcq.2.1
      have hmdl := hdk md hcq.2.1
      have hpmd : pd ≠ md := hcq.2.2.1
      have hlen3 : c.s.length ≤ 1073741824 ∧ c.lo.length ≤ 1073741824 ∧ c.hi.length ≤ 1073741824 := by
        have q := hmay.1
        have q1 := q.1; have q2 := q.2.1; have q3 := q.2.2
        omega
      have HCP := hid (fun W' (h : Below W8.heap.size W8 W') => copiedC_any (.agg #[.int .i64 c.n, .slice A1 c.s.length c1, .slice A2 c.lo.length c2, .slice A3 c.hi.length c3]) c W' ((hcr.below h).more h.size) hlen3)
      have hst := hid (fun (W' : World) (u : Value) (H : Nat) (hb : Below w7.heap.size w7 W') (ho : OwnC W' H u c) (hH : w7.heap.size ≤ H) => hcq7.store hokq hW (by omega) hokx hb ho hH)
      unfold keyT keyV at hst
      have h33 := hp7
      unfold t3 at h33
      simp only [Prod.mk.injEq] at h33
      rw [← h33.1, ← h33.2.1, ← h33.2.2] at hst
      have hql' : (setK key c Q).length ≤ V.length + 1 := by
        rw [setK_len hokq.sort]
        split <;> omega
      have hlf' : ∀ y ∈ L, (left (keyLk y.1) && !(keyLk y.1).sameKey (keyLk key)) = !decide (y.1 ∈ V ++ [key]) := fun y hy => by
        rw [hlf y hy]
        by_cases e : y.1 = key
        · rw [e, sameKey_self (keyLk_is hokx)]; simp
        · rw [Maps.sameKey_ne (fun h => e (keyLk_inj (HS.out.key y hy) hokx hW h))]
          simp [e]
      have hgq' : ∀ g, getK (setK key c Q) g = if g ∈ V ++ [key] then getK L g else none := fun g => by
        rw [getK_set hokq.sort, hgq]
        by_cases e : key = g
        · subst e
          rw [if_pos rfl, if_pos (by simp), hgx]
        · rw [if_neg e]
          have : g ∈ V ++ [key] ↔ g ∈ V := ⟨fun h => (List.mem_append.1 h).elim id (fun h => absurd (List.mem_singleton.1 h).symm e), List.mem_append_left _⟩
          by_cases hg : g ∈ V
          · rw [if_pos hg, if_pos (this.2 hg)]
          · rw [if_neg hg, if_neg (fun h => hg (this.1 h))]
      have hrel' : ∀ (w10 : World) (D10 : Nat → Prop), w10.ranges Tryz.prog 149 heldR m w5.heap.size (Maps.size Dm) Dm (fun z => left z && !z.sameKey (keyLk key)) cnt1 → CubW w10 D10 pd md W M (setK key c Q) → (∀ k, D10 k → De k ∨ w7.heap.size ≤ k) → Below w.heap.size w w10 → CpRel L Dm m w5.heap.size (Maps.size Dm) W M pd md w w10 := fun w10 D10 q1 q2 q3 q4 => by
        refine ⟨V ++ [key], _, cnt1, D10, setK key c Q, q1, fun g hg => ?_, hlf', fun kl h => hlk kl (by simp at h; exact h.1), q2, hokq.set hokx hmay hfull hlen, hgq', ?_, ?_, fun k hk => ?_, q4⟩
        · rcases List.mem_append.1 hg with h | h
          · exact hin g h
          · exact ⟨x, hx, by rw [hxk]; exact (List.mem_singleton.1 h).symm⟩
        · rw [List.length_append, List.length_singleton]; exact hql'
        · rw [List.length_append, List.length_singleton]; omega
        · rcases q3 k hk with h | h
          · exact hdk k h
          · omega
      have HREL := hid hrel'; have HRG1 := hid hrg1; have HRG := hid hrg; have HBL8 := hid hbl8; have HB78 := hid hb78; have HW8 := hid hW8
      clear hrel' hgq' hlf' hql' hlen3 hcr hr hrg1 hrg hbl hbl7 hbl8 hb78 hW8 hin hlf hlk hcq hokq hgq hdk hx hokx hmay hfull hlen hgx hkv hkl hlx hRv hat hg1 hv hp7 h33 hxk hxc hcq7
      go_upto_region 5 with (fail)
      rw [← HW8.out]
      go_region_held3 (fun w' => w'.cell? ⟨pd, 2, none⟩ = some (.map (some md)) ∧ w'.cell? ⟨wr.heap.size, 0, none⟩ = some (.int .i64 x1) ∧ w'.cell? ⟨wr.heap.size, 1, none⟩ = some (.int .i64 x2) ∧ w'.cell? ⟨wr.heap.size, 2, none⟩ = some (.int .i64 x3) ∧ w'.cell? ⟨wr.heap.size + 1, 0, none⟩ = some (.int .i64 c.n) ∧ w'.cell? ⟨wr.heap.size + 1, 1, none⟩ = some (.slice A1 c.s.length c1) ∧ w'.cell? ⟨wr.heap.size + 1, 2, none⟩ = some (.slice A2 c.lo.length c2) ∧ w'.cell? ⟨wr.heap.size + 1, 3, none⟩ = some (.slice A3 c.hi.length c3)) (go_keep)
        ((go_at_call 95; (with_reducible refine (HCP.out _ (Below.refl _ _).drew).mono ?_); rintro e w8 ⟨y8, rfl, ho8, hb8⟩; have hb8 : Below W8.heap.size W8 w8 := (Below.refl _ _).drew.trans hb8; have hzz := hb8.size; have hB78 := HB78.out.trans (hb8.mono (by omega)); have hBL := HBL8.out.trans (hb8.mono (by omega)); have d2 := cellK hb8 (by omega) hd2; have e0 := cellK hb8 (by omega) e0; have e1 := cellK hb8 (by omega) e1; have e2 := cellK hb8 (by omega) e2; have b0 := cellK hb8 (by omega) b0; have b1 := cellK hb8 (by omega) b1; have b2 := cellK hb8 (by omega) b2; have b3 := cellK hb8 (by omega) b3; have ho6 := ho8; obtain ⟨g1, g2, g3, rfl, ho1, ho2, ho3, -, -⟩ := ho8; obtain ⟨F1, f1, rfl, -, -, -⟩ := own_cells ho1; obtain ⟨F2, f2, rfl, -, -, -⟩ := own_cells ho2; obtain ⟨F3, f3, rfl, -, -, -⟩ := own_cells ho3; obtain ⟨w10, hrun10, hcw10, hgr10, hu10, hu10'⟩ := hst.out w8 _ _ hB78 ho6 (by show w7.heap.size ≤ W8.heap.size; omega); have HRX := hid (HREL.out w10 _ (HRG1.out.kept hu10 (fun e => by injection e with e; omega) (fun e => by injection e with e; exact hmdl.2 e.symm)) hcw10 (fun k hk => hk.imp id (fun h => h.1)) (hBL.trans (hu10'.below hmdl.1 (by omega)))); have HLT := hid ((HRG1.out.kept hu10 (fun e => by injection e with e; omega) (fun e => by injection e with e; exact hmdl.2 e.symm)).left_eq); have d2' := hu10'.cellAt (by omega) hpmd d2; have e0' := hu10'.cellAt (by omega) (by omega) e0; have e1' := hu10'.cellAt (by omega) (by omega) e1; have e2' := hu10'.cellAt (by omega) (by omega) e2; have b0' := hu10'.cellAt (by omega) (by omega) b0; have b1' := hu10'.cellAt (by omega) (by omega) b1; have b2' := hu10'.cellAt (by omega) (by omega) b2; have b3' := hu10'.cellAt (by omega) (by omega) b3; clear ho1 ho2 ho3 ho6 hcw10 hgr10 hu10 hu10' hb8 hB78 hBL))
      go_wp2
      go_roundw
      case rel => exact HRX.out
      case measure => rw [HLT.out, HRG.out.left_eq]; exact hlt
end Go.Proofs.YtgoapnkdcfcjgaaGreat
