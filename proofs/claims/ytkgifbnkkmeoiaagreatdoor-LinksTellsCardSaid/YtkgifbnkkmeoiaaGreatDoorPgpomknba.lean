/- 4 texts of this claim, in build order. -/
import Derived.Test.YtkgifbnkkmeoiaaGreatDoorPkdfgmfbn
import Derived.Test.YtkgifbnkkmeoiaaGreatDoorPcononjpe
import Derived.Test.YtkgifbnkkmeoiaaGreatDoorPboepncal
import Derived.Test.YtkgifbnkkmeoiaaGreatDoorPpkiibnek
import Derived.WalkLawsBesides
/- Contract of the reference's Same (bytes). -/
namespace Go.Proofs.YtkgifbnkkmeoiaaGreatDoor
open Go.ChangeShapes Go.WideShapes Go.ChangeAt Go.RowKit
set_option linter.unusedVariables false

def SameRelB (l r : List UInt8) (w : World) (i : Value) (wr : World) : Prop := ∃ k : Nat, k ≤ l.length ∧ i = .int .i64 k ∧ l.take k = r.take k ∧ Qu w wr
def SamePostB (l r : List UInt8) (w : World) (e : Ending) (w' : World) : Prop := e = .returned (.bool (decide (l = r))) ∧ Qu w w'
set_option maxRecDepth 100000 in
set_option maxHeartbeats 400000 in
theorem sameB_any (v x : Value) (l r : List UInt8) (w : World) (hl : l.length ≤ 140737488355328) (hr : r.length ≤ 140737488355328) (hv : Sl w w.heap.size v (bvals l)) (hx : Sl w w.heap.size x (bvals r)) :
    Calls Tryz.prog 9 #[v, x] w (SamePostB l r w) := by
  obtain ⟨A, c, rfl, hc1, hc2, hA⟩ := hv
  obtain ⟨A', c', rfl, hc1', hc2', hA'⟩ := hx
  simp only [bvals_len] at hc1 hc1' ⊢
  have HA := hid hA; have HA' := hid hA'
  clear hA hA'
  go_enter Tryz.func9, Tryz.ntmps9
  by_cases hlen : l.length = r.length
  · have t1 : ((l.length : Int) != (r.length : Int)) = false := by simp [hlen]
    have HL := hid hlen; clear hlen
    go_wp2
    go_loopw [5] (fun i wr => SameRelB l r w i wr) (fun i _ => l.length - (intOf i).toNat)
    case atStart => exact ⟨0, by omega, rfl, rfl, Qu.refl _⟩
    case round =>
      obtain ⟨k, hk, rfl, hsame, hq⟩ := hrel
      have HS := hid hsame; clear hsame
      by_cases hlt : k < l.length
      · have hlt' : k < r.length := by have := HL.out; omega
        obtain ⟨b, off, rfl, hbl, hcell⟩ := Sl.byte HA.out hlt
        obtain ⟨b', off', rfl, hbl', hcell'⟩ := Sl.byte HA'.out hlt'
        have g1 : wr.cell? ⟨b, off + k, none⟩ = _ := (hq.cell _).trans hcell
        have g2 : wr.cell? ⟨b', off' + k, none⟩ = _ := (hq.cell _).trans hcell'
        clear hcell hcell'
        have e1 : l.take (k + 1) = l.take k ++ [l[k]] := List.take_succ_eq_append_getElem hlt
        have e2 : r.take (k + 1) = r.take k ++ [r[k]] := List.take_succ_eq_append_getElem hlt'
        by_cases he : l[k] = r[k]
        · have hs' : l.take (k + 1) = r.take (k + 1) := by rw [e1, e2, HS.out, he]
          have t2 : ((l[k].toNat : Int) != (r[k].toNat : Int)) = false := by simp [he]
          have HS' := hid hs'
          clear e1 e2 he hs'
          generalize l[k].toNat = p at *
          generalize r[k].toNat = q at *
          go_wp2
          go_quiet (fail)
          go_wp2
          go_roundw
          case rel => exact ⟨k + 1, by omega, by go_num, HS'.out, hq.drewN _⟩
          case measure => simp [intOf]; omega
        · have hne : decide (l = r) = false := by
            rw [decide_eq_false_iff_not]; intro h; subst h; exact he rfl
          have t2 : ((l[k].toNat : Int) != (r[k].toNat : Int)) = true := by
            simp only [bne_iff_ne, ne_eq]; intro h; exact he (UInt8.toNat_inj.1 (by omega))
          have HN := hid hne
          clear e1 e2 he hne
          generalize l[k].toNat = p at *
          generalize r[k].toNat = q at *
          go_wp2
          go_quiet (fail)
          go_wp2
          go_ret
          exact ⟨by rw [HN.out]; rfl, hq.drewN _⟩
      · have heq : decide (l = r) = true := by
          have hl := HL.out
          have := HS.out
          rw [List.take_of_length_le (by omega), List.take_of_length_le (by omega)] at this
          rw [this]; simp
        have HE := hid heq; clear heq
        go_wp2
        go_ret
        exact ⟨by rw [HE.out]; rfl, hq⟩
  · have t1 : ((l.length : Int) != (r.length : Int)) = true := by simp; omega
    have hne : decide (l = r) = false := by
      rw [decide_eq_false_iff_not]; intro h; exact hlen (by rw [h])
    have HN := hid hne; clear hne
    have HL := hid hlen; clear hlen
    go_wp2
    go_ret
    exact ⟨by rw [HN.out]; rfl, Qu.refl _⟩
end Go.Proofs.YtkgifbnkkmeoiaaGreatDoor
/- The law's same of messages, of what is the same. -/
namespace Go.Proofs.YtkgifbnkkmeoiaaGreatDoor
open Go.ChangeShapes Go.WideShapes Go.ChangeAt Go.RowKit
set_option linter.unusedVariables false
set_option linter.unusedSimpArgs false

set_option maxRecDepth 100000 in
set_option maxHeartbeats 3200000 in
theorem sameM_eq (v x : Value) (m : MsgX) (w : World) (hv : MsgV w w.heap.size v m) (hx : MsgV w w.heap.size x m) (hd : m.data.length ≤ 1000000) : Calls Tryz.prog 11 #[v, x] w (SaysT w) := by
  obtain ⟨A1, c1, A2, c2, rfl, hE, hD, -⟩ := hv
  obtain ⟨B1, e1, B2, e2, rfl, gE, gD, -⟩ := hx
  obtain ⟨kind, src, dst, term, index, logTerm, commit, round, rej, off, total, ents, data⟩ := m
  simp only [msgCs] at *
  obtain ⟨W1, hW1⟩ : ∃ W, W = (w.alloc (.cells #[.int .i64 kind, .int .i64 src, .int .i64 dst, .int .i64 term, .int .i64 index, .int .i64 logTerm, .int .i64 commit, .int .i64 round, .bool rej, .int .i64 off, .int .i64 total, .slice A1 ents.length c1, .slice A2 data.length c2] 25)).alloc (.cells #[.int .i64 kind, .int .i64 src, .int .i64 dst, .int .i64 term, .int .i64 index, .int .i64 logTerm, .int .i64 commit, .int .i64 round, .bool rej, .int .i64 off, .int .i64 total, .slice B1 ents.length e1, .slice B2 data.length e2] 25) := ⟨_, rfl⟩
  have hb1 : Below w.heap.size w W1 := by rw [hW1]; exact two_box _ _
  have hc : ∀ i u, [Value.int .i64 kind, .int .i64 src, .int .i64 dst, .int .i64 term, .int .i64 index, .int .i64 logTerm, .int .i64 commit, .int .i64 round, .bool rej, .int .i64 off, .int .i64 total, .slice A1 ents.length c1, .slice A2 data.length c2][i]? = some u → W1.cell? ⟨w.heap.size, i, none⟩ = some u := fun i u hu => by
    rw [hW1]
    refine cell_alloc (by simp) ?_
    rw [World.cell?_alloc_at _ _ _ _ rfl]; simpa using hu
  have hd' : ∀ i u, [Value.int .i64 kind, .int .i64 src, .int .i64 dst, .int .i64 term, .int .i64 index, .int .i64 logTerm, .int .i64 commit, .int .i64 round, .bool rej, .int .i64 off, .int .i64 total, .slice B1 ents.length e1, .slice B2 data.length e2][i]? = some u → W1.cell? ⟨w.heap.size + 1, i, none⟩ = some u := fun i u hu => by
    rw [hW1, World.cell?_alloc_at _ _ _ _ (by simp)]; simpa using hu
  have hz1 : W1.heap.size = w.heap.size + 2 := by rw [hW1]; simp
  have HSE := hid (refSames_eq (.slice A1 ents.length c1) (.slice B1 ents.length e1) ents W1 (good_ents.on hE hb1) (good_ents.on gE hb1))
  have HD := hid ((hD.below hb1).more hb1.size); have HG := hid ((gD.below hb1).more hb1.size)
  have HW1 := hid hW1; have HB1 := hid hb1; have HZ1 := hid hz1; have HC := hid hc; have HDD := hid hd'
  have c11 := hc 11 _ rfl; have d11 := hd' 11 _ rfl
  obtain ⟨q1, hq1⟩ : ∃ q1, q1 = w.heap.size := ⟨_, rfl⟩
  rw [← hq1] at c11 d11
  have HQ := hid hq1
  clear hW1 hb1 hc hd' hE hD gE gD hq1 hz1
  go_enter Tryz.func11, Tryz.ntmps11
  go_upto_region 1 with (fail)
  rw [← HW1.out, ← HQ.out]
  go_wp2_with fail
  (with_reducible refine HSE.out.mono ?_)
  rintro e w2 ⟨rfl, hb⟩
  have hz2 : W1.heap.size ≤ w2.heap.size := hb.size
  have HSB := hid (sameB_any (.slice A2 data.length c2) (.slice B2 data.length e2) data data w2 (by omega) (by omega) ((HD.out.below hb).more hb.size) ((HG.out.below hb).more hb.size))
  unfold SamePostB at HSB
  rw [decide_eq_true (rfl : data = data)] at HSB
  have hl1 : q1 < W1.heap.size := by have := HZ1.out; have := HQ.out; omega
  have hl2 : q1 + 1 < W1.heap.size := by have := HZ1.out; have := HQ.out; omega
  have hcc : ∀ i u, [Value.int .i64 kind, .int .i64 src, .int .i64 dst, .int .i64 term, .int .i64 index, .int .i64 logTerm, .int .i64 commit, .int .i64 round, .bool rej, .int .i64 off, .int .i64 total, .slice A1 ents.length c1, .slice A2 data.length c2][i]? = some u → w2.cell? ⟨q1, i, none⟩ = some u := fun i u hu => cellK hb hl1 (by rw [HQ.out]; exact HC.out i u hu)
  have hdd : ∀ i u, [Value.int .i64 kind, .int .i64 src, .int .i64 dst, .int .i64 term, .int .i64 index, .int .i64 logTerm, .int .i64 commit, .int .i64 round, .bool rej, .int .i64 off, .int .i64 total, .slice B1 ents.length e1, .slice B2 data.length e2][i]? = some u → w2.cell? ⟨q1 + 1, i, none⟩ = some u := fun i u hu => cellK hb hl2 (by rw [HQ.out]; exact HDD.out i u hu)
  have c12 := hcc 12 _ rfl; have d12 := hdd 12 _ rfl
  have HB2 := hid (HB1.out.trans (hb.mono HB1.out.size))
  have HCC := hid hcc; have HDD2 := hid hdd
  clear hb hl1 hl2 c11 d11 hcc hdd hz2
  go_wp2_with fail
  (with_reducible refine HSB.out.mono ?_)
  rintro e w3 ⟨rfl, hq⟩
  have HB3 := hid (HB2.out.trans (hq.below _))
  have x0 := (hq.cell ⟨q1, 0, none⟩).trans (HCC.out 0 _ rfl); have y0 := (hq.cell ⟨q1 + 1, 0, none⟩).trans (HDD2.out 0 _ rfl); have x1 := (hq.cell ⟨q1, 1, none⟩).trans (HCC.out 1 _ rfl); have y1 := (hq.cell ⟨q1 + 1, 1, none⟩).trans (HDD2.out 1 _ rfl); have x2 := (hq.cell ⟨q1, 2, none⟩).trans (HCC.out 2 _ rfl); have y2 := (hq.cell ⟨q1 + 1, 2, none⟩).trans (HDD2.out 2 _ rfl); have x3 := (hq.cell ⟨q1, 3, none⟩).trans (HCC.out 3 _ rfl); have y3 := (hq.cell ⟨q1 + 1, 3, none⟩).trans (HDD2.out 3 _ rfl); have x4 := (hq.cell ⟨q1, 4, none⟩).trans (HCC.out 4 _ rfl); have y4 := (hq.cell ⟨q1 + 1, 4, none⟩).trans (HDD2.out 4 _ rfl); have x5 := (hq.cell ⟨q1, 5, none⟩).trans (HCC.out 5 _ rfl); have y5 := (hq.cell ⟨q1 + 1, 5, none⟩).trans (HDD2.out 5 _ rfl); have x6 := (hq.cell ⟨q1, 6, none⟩).trans (HCC.out 6 _ rfl); have y6 := (hq.cell ⟨q1 + 1, 6, none⟩).trans (HDD2.out 6 _ rfl); have x7 := (hq.cell ⟨q1, 7, none⟩).trans (HCC.out 7 _ rfl); have y7 := (hq.cell ⟨q1 + 1, 7, none⟩).trans (HDD2.out 7 _ rfl); have x8 := (hq.cell ⟨q1, 8, none⟩).trans (HCC.out 8 _ rfl); have y8 := (hq.cell ⟨q1 + 1, 8, none⟩).trans (HDD2.out 8 _ rfl); have x9 := (hq.cell ⟨q1, 9, none⟩).trans (HCC.out 9 _ rfl); have y9 := (hq.cell ⟨q1 + 1, 9, none⟩).trans (HDD2.out 9 _ rfl); have x10 := (hq.cell ⟨q1, 10, none⟩).trans (HCC.out 10 _ rfl); have y10 := (hq.cell ⟨q1 + 1, 10, none⟩).trans (HDD2.out 10 _ rfl)
  clear hq
  go_wp2
  go_ret
  exact ⟨rfl, HB3.out⟩
end Go.Proofs.YtkgifbnkkmeoiaaGreatDoor
/- The program's Way. -/
namespace Go.Proofs.YtkgifbnkkmeoiaaGreatDoor
open Go.ChangeShapes Go.WideShapes Go.ChangeAt Go.RowKit
set_option linter.unusedVariables false
set_option linter.unusedSimpArgs false

def wayK (L : List PK) (f t : Int) (k : Nat) : List Int := ((List.range k).filter fun i => decide ((L.getD i zP).1 = f ∧ (L.getD i zP).2.1 = t)).map fun (i : Nat) => (i : Int)
def wayN (L : List PK) (f t : Int) : List Int := wayK L f t L.length
theorem wayK_succ (L : List PK) (f t : Int) (k : Nat) : wayK L f t (k + 1) = wayK L f t k ++ (if (L.getD k zP).1 = f ∧ (L.getD k zP).2.1 = t then [(k : Int)] else []) := by
  unfold wayK
  rw [List.range_succ, List.filter_append, List.map_append]
  congr 1
  by_cases h : (L.getD k zP).1 = f ∧ (L.getD k zP).2.1 = t
  · rw [if_pos h, List.filter_cons_of_pos (by exact decide_eq_true h)]; rfl
  · rw [if_neg h, List.filter_cons_of_neg (by rw [decide_eq_false h]; simp)]; rfl
theorem wayK_len (L : List PK) (f t : Int) (k : Nat) : (wayK L f t k).length ≤ k := by
  unfold wayK
  rw [List.length_map]
  exact Nat.le_trans (List.length_filter_le _ _) (by simp)
def IntsP (xs : List Int) (w : World) (e : Ending) (w' : World) : Prop := ∃ v, e = .returned v ∧ w'.ownsRow w.heap.size 3 1 v xs.length (ivals xs) ∧ Below w.heap.size w w'
def WayRel (L : List PK) (f t : Int) (w : World) (out i : Value) (wr : World) : Prop := ∃ k : Nat, k ≤ L.length ∧ i = .int .i64 k ∧ wr.ownsRow w.heap.size 3 1 out (wayK L f t k).length (ivals (wayK L f t k)) ∧ Below w.heap.size w wr
set_option maxRecDepth 100000 in
set_option maxHeartbeats 1600000 in
theorem wayP_any (D : Nat → Prop) (n : Nat) (L : List PK) (f t : Int) (w : World) (h : NetP w D n L) (hL : L.length ≤ 1000) :
    Calls Tryz.prog 35 #[.pointer (some ⟨n, 0, none⟩), .int .i64 f, .int .i64 t] w (IntsP (wayN L f t) w) := by
  obtain ⟨i0, hi, hz0, hz1, hz2⟩ := info_parts info_int
  obtain ⟨h1, h2, h3, v, es, h4, h5, -, h7⟩ := h
  have hnl := h2 n h1
  have HEL := hid (fun k (hk : k < L.length) => pk_elem (RowA.of_own h5) h7 hk)
  obtain ⟨A, c, rfl⟩ := own_formN h5
  clear h2 h5 h7
  go_enter Tryz.func35, Tryz.ntmps35
  go_wp2
  go_loopw [7, 15] (fun out i wr => WayRel L f t w out i wr) (fun _ i _ => L.length - (intOf i).toNat)
  case atStart => exact ⟨0, by omega, rfl, World.ownsRow_nil _ _ _ _, Below.refl _ _⟩
  case round =>
    obtain ⟨k, hk, rfl, ho, hb⟩ := hrel
    have hsb := hb.size
    by_cases hlt : k < L.length
    · obtain ⟨g, off, cap, C, cc, e, -, hg, hlc, hcm, q0, q1, q2, -⟩ := HEL.out k hlt
      injection e with e1 _ e3
      subst e1; subst e3
      have q0 := cellK hb hg q0
      have q1 := cellK hb hg q1
      have q2 := cellK hb hg q2
      have hws := wayK_succ L f t k
      have hwl := wayK_len L f t k
      generalize (L.getD k zP).2.2.length = dl at *
      generalize (L.getD k zP).1 = x1 at *
      generalize (L.getD k zP).2.1 = x2 at *
      have HWS := hid hws; have HO := hid ho; have HB := hid hb
      obtain ⟨W1, hW1⟩ : ∃ W', W' = wr.alloc (.cells #[.int .i64 x1, .int .i64 x2, .slice C dl cc] 101) := ⟨_, rfl⟩
      have y0 : W1.cell? ⟨wr.heap.size, 0, none⟩ = some (.int .i64 x1) := by rw [hW1]; simp [go_sem]
      have y1 : W1.cell? ⟨wr.heap.size, 1, none⟩ = some (.int .i64 x2) := by rw [hW1]; simp [go_sem]
      have hb1 : Below wr.heap.size wr W1 := by rw [hW1]; exact bl1 _ _
      have hz1' : W1.heap.size = wr.heap.size + 1 := by rw [hW1]; simp
      have HB1 := hid (hb.trans (hb1.mono hsb)); have HW1 := hid hW1
      have HO1 := hid (own_kept ho (fun g hg => hb1.block g (ho.lt g hg).2))
      clear hws ho hb hb1 hW1
      unfold maxLen at hcm
      by_cases hm : x1 = f ∧ x2 = t
      · have t1 : (x1 == f) = true := by simp [hm.1]
        have t2 : (x2 == t) = true := by simp [hm.2]
        have hws := HWS.out
        rw [if_pos hm] at hws
        have HWS2 := hid hws
        clear hws hm
        go_upto_region 5 with (fail)
        rw [← HW1.out]
        go_wp2_with (at_builtin; refine stop_here ?_)
        refine go_on ?_
        refine app_own_at (.tmp 30) (.tmp 32) 43 43 rfl rfl w.heap.size 3 i0 (.int .i64 0) 1 8 Tryz.underlying43 hi hz0 hz1 hz2 rfl (by decide) _ _ _ rfl (HO1.out.alloc _) (.slice (some ⟨wr.heap.size + 1, 0, none⟩) 1 1) 1 [.int .i64 k] rfl (Src.ofSlice _ Tryz.underlying43 _ 1 1 _ rfl (cells_new_at _ _ _ hz1') (by simp; rfl)) (by simp only [maxLen]; omega) (by omega) (by rw [World.size_alloc]; omega) ?_
        intro v8 w8 hown8 hg8 hb8 hat8
        have hown9 : w8.ownsRow w.heap.size 3 1 v8 (wayK L f t (k + 1)).length (ivals (wayK L f t (k + 1))) := by
          rw [HWS2.out, List.length_append, show ivals (wayK L f t k ++ [(k : Int)]) = ivals (wayK L f t k) ++ [.int .i64 k] by simp [ivals]]
          exact hown8
        have HO8 := hid hown9
        have HB8 := hid ((HB1.out.alloc (by omega) _).trans hb8)
        clear hown8 hown9 hg8 hb8 hat8
        go_wp2
        go_roundw
        case rel => exact ⟨k + 1, by omega, by go_num, HO8.out, HB8.out⟩
        case measure => simp [intOf]; omega
      · have hws := HWS.out
        rw [if_neg hm, List.append_nil] at hws
        have HWS2 := hid hws
        clear hws
        have hc2 : (x1 ≠ f) ∨ (x1 = f ∧ x2 ≠ t) := by
          by_cases h : x1 = f
          · exact .inr ⟨h, fun h' => hm ⟨h, h'⟩⟩
          · exact .inl h
        clear hm
        rcases hc2 with hc2 | ⟨hc1, hc2⟩
        · have t1 : (x1 == f) = false := by simpa using hc2
          clear hc2
          go_upto_region 5 with (fail)
          rw [← HW1.out]
          go_wp2
          go_roundw
          case rel => exact ⟨k + 1, by omega, by go_num, by rw [HWS2.out]; exact HO1.out, HB1.out⟩
          case measure => simp [intOf]; omega
        · have t1 : (x1 == f) = true := by simp [hc1]
          have t2 : (x2 == t) = false := by simpa using hc2
          clear hc1 hc2
          go_upto_region 5 with (fail)
          rw [← HW1.out]
          go_wp2
          go_roundw
          case rel => exact ⟨k + 1, by omega, by go_num, by rw [HWS2.out]; exact HO1.out, HB1.out⟩
          case measure => simp [intOf]; omega
    · obtain rfl : k = L.length := by omega
      have HO := hid ho; have HB := hid hb
      clear ho hb
      go_wp2
      go_ret
      exact ⟨_, rfl, HO.out, HB.out⟩
end Go.Proofs.YtkgifbnkkmeoiaaGreatDoor
/- The few floats of the net's links: their bits, and what the machine does with them. -/
namespace Go.Proofs.YtkgifbnkkmeoiaaGreatDoor
open Go.ChangeShapes Go.WideShapes Go.ChangeAt Go.RowKit
set_option linter.unusedVariables false
set_option linter.unusedSimpArgs false

/-- The bits of the float of a small number. -/
def FB (n : Nat) : Nat := if n = 1 then 4607182418800017408 else if n = 2 then 4611686018427387904 else if n = 3 then 4613937818241073152 else if n = 4 then 4616189618054758400 else if n = 5 then 4617315517961601024 else if n = 6 then 4618441417868443648 else if n = 7 then 4619567317775286272 else 0
theorem le7 {n : Nat} (h : 1 ≤ n) (h7 : n ≤ 7) : n = 1 ∨ n = 2 ∨ n = 3 ∨ n = 4 ∨ n = 5 ∨ n = 6 ∨ n = 7 := by omega
theorem conv_to {n : Nat} (h : 1 ≤ n) (h7 : n ≤ 7) (w : World) : (convert 3 110 (.int .i64 n)).run Tryz.prog w = .ok (.float .f64 (FB n)) w := by
  rcases le7 h h7 with rfl | rfl | rfl | rfl | rfl | rfl | rfl <;> kernel_rfl
theorem conv_of {n : Nat} (h : 1 ≤ n) (h7 : n ≤ 7) (w : World) : (convert 110 3 (.float .f64 (FB n))).run Tryz.prog w = .ok (.int .i64 n) w := by
  rcases le7 h h7 with rfl | rfl | rfl | rfl | rfl | rfl | rfl <;> kernel_rfl
theorem float_lt {n m : Nat} (h : 1 ≤ n) (h7 : n ≤ 7) (k : 1 ≤ m) (k7 : m ≤ 7) (w : World) : (binOp .lss 110 (.float .f64 (FB n)) (.float .f64 (FB m))).run Tryz.prog w = .ok (.bool (decide (n < m))) w := by
  rcases le7 h h7 with rfl | rfl | rfl | rfl | rfl | rfl | rfl <;> rcases le7 k k7 with rfl | rfl | rfl | rfl | rfl | rfl | rfl <;> kernel_rfl
theorem float_gt {n m : Nat} (h : 1 ≤ n) (h7 : n ≤ 7) (k : 1 ≤ m) (k7 : m ≤ 7) (w : World) : (binOp .gtr 110 (.float .f64 (FB n)) (.float .f64 (FB m))).run Tryz.prog w = .ok (.bool (decide (m < n))) w := by
  rcases le7 h h7 with rfl | rfl | rfl | rfl | rfl | rfl | rfl <;> rcases le7 k k7 with rfl | rfl | rfl | rfl | rfl | rfl | rfl <;> kernel_rfl
theorem float_ne {n : Nat} (h : 1 ≤ n) (h7 : n ≤ 7) (w : World) : (binOp .neq 110 (.float .f64 (FB n)) (.float .f64 (FB n))).run Tryz.prog w = .ok (.bool false) w := by
  rcases le7 h h7 with rfl | rfl | rfl | rfl | rfl | rfl | rfl <;> kernel_rfl
theorem cmake (a b : Nat) (w : World) : (Builtin.complex_ #[110, 110] 105 #[.float .f64 a, .float .f64 b]).run Tryz.prog w = .ok (.complex .f64 a b) w := by
  kernel_rfl
end Go.Proofs.YtkgifbnkkmeoiaaGreatDoor
