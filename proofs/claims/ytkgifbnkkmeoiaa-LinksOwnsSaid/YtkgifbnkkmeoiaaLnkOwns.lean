/- The walk of LinksOwns. -/
import Derived.Test.YtkgifbnkkmeoiaaLnkDeeds
namespace Go.Proofs.Ytkgifbnkkmeoiaa
open Go.ChangeShapes Go.WideShapes Go.ChangeAt Go.RowKit
set_option linter.unusedVariables false
set_option linter.unusedSimpArgs false

theorem BothE.wide {w w' : World} {E E' : Nat → Prop} {n r : Nat} {L K : List PK} (h : BothE w E n r L K) (hb : Below w.heap.size w w') (he : ∀ k, E' k → E k ∨ (w.heap.size ≤ k ∧ k < w'.heap.size)) : BothE w' E' n r L K := by
  obtain ⟨D, R, g1, g2, g3, g4, g5, g6⟩ := h
  refine ⟨D, R, g1.below hb, g2.below hb, g3, fun k hk hd => ?_, fun k hk hd => ?_, fun k hk => ?_⟩
  · rcases he k hk with hk | hk
    · exact g4 k hk hd
    · have := g1.2.1 k hd; omega
  · rcases he k hk with hk | hk
    · exact g5 k hk hd
    · have := g2.2.1 k hd; omega
  · rcases he k hk with hk | hk
    · exact Nat.lt_of_lt_of_le (g6 k hk) hb.size
    · exact hk.2
theorem BothE.over {w w' : World} {E G : Nat → Prop} {n r : Nat} {L K : List PK} (h : BothE w E n r L K) (hc : Chg G w w') (hg : ∀ k, G k → E k) : BothE w' E n r L K := by
  obtain ⟨D, R, g1, g2, g3, g4, g5, g6⟩ := h
  exact ⟨D, R, g1.kept (fun k hk => hc.block k (g1.2.1 k hk) (fun hh => g4 k (hg k hh) hk)) hc.size, g2.kept (fun k hk => hc.block k (g2.2.1 k hk) (fun hh => g5 k (hg k hh) hk)) hc.size, g3, g4, g5, fun k hk => Nat.lt_of_lt_of_le (g6 k hk) hc.size⟩
def OvRel (A : Option Addr) (n : Nat) (w0 : World) (i : Value) (wr : World) : Prop := ∃ k : Nat, k ≤ n ∧ i = .int .i64 k ∧ Over A n w0 wr
set_option maxRecDepth 100000 in
set_option maxHeartbeats 3200000 in
theorem walk_LinksOwns (w : World) (v : Value) (l : List DeedN) (hv : rdSlice 6 rdDeedN w w.heap.size [v] l) : Calls Try.prog 5 #[v] w (Gives (.bool true) w) := by
  obtain ⟨i0, hi, hz0, hz1', hz2⟩ := info_parts info_byte
  obtain ⟨A, c, rfl, hlc, hcm⟩ := hv.form
  have HV := hid (fun (k : Nat) (hk : k < l.length) => deed_at hv hk)
  unfold maxLen at hcm
  clear hv
  go_enter Try.func5, Try.ntmps5
  go_wp2_with fail
  refine (newN_any w).mono ?_
  rintro e w1 ⟨n, rfl, hn1, hge, hb1⟩
  obtain ⟨W2, hW2⟩ : ∃ W2, W2 = w1.alloc (.cells #[.slice none 0 0] 28) := ⟨_, rfl⟩
  have HBE := hid (both_new hn1 hge hb1 hW2)
  have hz1 := hb1.size
  have HB2 := hid (show Below w.heap.size w W2 by rw [hW2]; exact hb1.trans ((bl1 w1 _).mono hz1))
  have HW2 := hid hW2
  obtain ⟨r, hr⟩ : ∃ r, r = w1.heap.size := ⟨_, rfl⟩
  rw [← hr] at HBE
  clear hn1 hge hb1 hW2
  go_upto_region 3 with (fail)
  rw [← HW2.out, ← hr]
  clear hr
  go_wp2
  go_loopw [5] (fun i wr => PyRel l.length n r 40 w i wr) (fun i _ => l.length - (intOf i).toNat)
  case atStart => exact ⟨0, [], by omega, by omega, rfl, OkN.nil_, HBE.out, HB2.out⟩
  case round =>
    clear HBE HB2 HW2
    obtain ⟨k, L, hk, h250, rfl, hok, hbe, hb⟩ := hrel
    by_cases hlt : k < l.length ∧ k < 40
    · obtain ⟨hlt, hlt2⟩ := hlt
      obtain ⟨wo, hwo⟩ : ∃ wo : World, wo = wr := ⟨_, rfl⟩
      subst hwo
      obtain ⟨b, off, kk, f, t, p, s, d, K, kc, rfl, hbl, hki, q0, q1, q2, q3, q4, q5, hsl⟩ := HV.out k hlt
      have q0 := cellK hb hbl q0
      have q1 := cellK hb hbl q1
      have q2 := cellK hb hbl q2
      have q3 := cellK hb hbl q3
      have q4 := cellK hb hbl q4
      have q5 := cellK hb hbl q5
      have hsz := hb.size
      obtain ⟨W3, hW3⟩ : ∃ W', W' = wo.alloc (.cells #[.int .i64 kk, .int .i64 f, .int .i64 t, .int .i64 p, .bool s, .slice K d.length kc] 32) := ⟨_, rfl⟩
      obtain ⟨x, hx⟩ : ∃ x, x = wo.heap.size := ⟨_, rfl⟩
      have hb3 : Below wo.heap.size wo W3 := by rw [hW3]; exact bl1 _ _
      have hz3 : W3.heap.size = x + 1 := by rw [hW3, hx]; simp
      have x0 : W3.cell? ⟨x, 0, none⟩ = some (.int .i64 kk) := by rw [hW3, hx]; simp [go_sem]
      have x1 : W3.cell? ⟨x, 1, none⟩ = some (.int .i64 f) := by rw [hW3, hx]; simp [go_sem]
      have x2 : W3.cell? ⟨x, 2, none⟩ = some (.int .i64 t) := by rw [hW3, hx]; simp [go_sem]
      have x3 : W3.cell? ⟨x, 3, none⟩ = some (.int .i64 p) := by rw [hW3, hx]; simp [go_sem]
      have x4 : W3.cell? ⟨x, 4, none⟩ = some (.bool s) := by rw [hW3, hx]; simp [go_sem]
      have x5 : W3.cell? ⟨x, 5, none⟩ = some (.slice K d.length kc) := by rw [hW3, hx]; simp [go_sem]
      have hsl3 := (hsl.below hb).below (hb3.mono hsz)
      have hkc : d.length ≤ kc ∧ kc ≤ maxLen := by
        obtain ⟨A', c', e, h2, h3, -⟩ := hsl
        injection e with _ _ e3
        subst e3
        rw [bvals_len] at h2
        exact ⟨h2, h3⟩
      have HCUT := hid (cut_any K d kc W3 hkc.1 hkc.2)
      have HSL := hid ((SlE.head hsl3.slE 20).sl)
      have hl20 : (d.take 20).length ≤ 20 := by rw [List.length_take]; omega
      have htt : (d.take 20).take 20 = d.take 20 := by rw [List.take_take]; simp
      generalize d.take 20 = y at *
      have HBE := hid hbe; have HB := hid hb; have HOK := hid hok; have HW3 := hid hW3; have HB3 := hid hb3; have HTT := hid htt
      have hxx := hid hx
      have hx3 : x < W3.heap.size := by omega
      have hwx : w.heap.size ≤ x := by omega
      have HZ3 := hid hz3
      clear hbe hb hok hW3 hb3 hsl hsl3 htt hx hz3
      unfold maxLen at hkc
      go_upto_region 9 with (fail)
      rw [← HW3.out, ← hxx.out]
      go_wp2_with fail
      refine HCUT.out.mono ?_
      rintro e w4 ⟨rfl, rfl⟩
      go_wp2_with (at_builtin; refine stop_here ?_)
      refine go_on ?_
      refine app_own (.tmp 36) (.tmp 39) 30 30 rfl rfl W3.heap.size 5 i0 (.int .u8 0) 1 1 Try.underlying30 hi hz0 hz1' hz2 rfl (by omega) _ 0 [] rfl (World.ownsRow_nil _ _ _ _) (.slice K y.length kc) y.length (bvals y) rfl (by have := src_sl _ Try.underlying30 HSL.out (bvals_one y); rwa [bvals_len] at this) (by unfold maxLen; omega) (by omega) (by omega) ?_
      intro v4 w4 ho4 hg4 hb4
      rw [Nat.zero_add, List.nil_append] at ho4
      have hz4 := hb4.size
      have x0 := cellK hb4 (by omega) x0
      have x1 := cellK hb4 (by omega) x1
      have x2 := cellK hb4 (by omega) x2
      have x3 := cellK hb4 (by omega) x3
      have x4 := cellK hb4 (by omega) x4
      have x5 := cellK hb4 (by omega) x5
      have HO4 := hid ho4
      have HB4 := hid hb4
      obtain ⟨Oa, oc, rfl⟩ := own_formN ho4
      clear ho4 hg4 hb4
      go_upto_region 13 with (fail)
      obtain ⟨W6, hW6⟩ : ∃ W', W' = w4.alloc (.cells #[.int .i64 kk, .int .i64 f, .int .i64 t, .int .i64 p, .bool s, .slice Oa y.length oc] 32) := ⟨_, rfl⟩
      have hb6 : Below w4.heap.size w4 W6 := by rw [hW6]; exact bl1 _ _
      have hz6 := hb6.size
      have y0 : W6.cell? ⟨w4.heap.size, 0, none⟩ = some (.int .i64 kk) := by rw [hW6]; simp [go_sem]
      have y1 : W6.cell? ⟨w4.heap.size, 1, none⟩ = some (.int .i64 f) := by rw [hW6]; simp [go_sem]
      have y2 : W6.cell? ⟨w4.heap.size, 2, none⟩ = some (.int .i64 t) := by rw [hW6]; simp [go_sem]
      have y3 : W6.cell? ⟨w4.heap.size, 3, none⟩ = some (.int .i64 p) := by rw [hW6]; simp [go_sem]
      have y4 : W6.cell? ⟨w4.heap.size, 4, none⟩ = some (.bool s) := by rw [hW6]; simp [go_sem]
      have y5 : W6.cell? ⟨w4.heap.size, 5, none⟩ = some (.slice Oa y.length oc) := by rw [hW6]; simp [go_sem]
      have ho6 := own_kept HO4.out (fun g hg => hb6.block g (HO4.out.lt g hg).2)
      have hwo := HB.out.size
      have hwo3 := HB3.out.size
      have hbo6 : Below wo.heap.size wo W6 := HB3.out.trans ((HB4.out.trans (hb6.mono hz4)).mono hwo3)
      have hbe6 := HBE.out.wide (E' := fun g => g < w.heap.size ∨ (Value.slice Oa y.length oc).ownBlock = some g) hbo6 (fun g hg => by
        rcases hg with hg | hg
        · exact .inl hg
        · have := ho6.lt g hg; exact .inr ⟨by omega, this.2⟩)
      have HDO := hid (does_any _ n r L kk f t p s Oa oc y W6 hbe6 HOK.out hki (SlE.of_own ho6 (fun g hg => .inr hg)))
      have HOK6 := hid (HOK.out.does kk f t p s y)
      generalize doesN L kk f t p s y = L' at *
      rw [← hW6]
      have HO6 := hid ho6; have HBW6 := hid (HB.out.trans (hbo6.mono hwo)); have HW6 := hid hW6
      clear x0 x1 x2 x3 x4 x5 hbe6 hbo6 ho6 hb6 hW6 q1 q2 q3 q4 q5 HBE
      go_wp2_with fail
      refine HDO.out.mono ?_
      rintro e w7 ⟨rfl, hbe7, hf7⟩
      have ho7 := own_kept HO6.out (fun g hg => hf7.block g (HO6.out.lt g hg).2 (fun hn => hn (.inr hg)))
      have HBW7 := hid (HBW6.out.trans (hf7.below HBW6.out.size (fun g hg => by omega)))
      have hwo7 : ∀ g, (Value.slice Oa y.length oc).ownBlock = some g → w.heap.size ≤ g := fun g hg => by have := HO6.out.lt g hg; omega
      obtain ⟨A7, c7, e7, -, -, hov7, hab7⟩ := Over.start ho7
      injection e7 with e7 _ _
      subst e7
      have HBE7 := hid hbe7; have HOV7 := hid hov7; have HAB7 := hid hab7; have HWO7 := hid hwo7
      clear hbe7 hf7 ho7 hov7 hab7 hwo7 y0 y1 y2 y3 y4 y5
      generalize hyl : y.length = m at *
      go_wp2
      go_loopw [10] (fun i wr => OvRel Oa m w7 i wr) (fun i _ => m - (intOf i).toNat)
      case atStart => exact ⟨0, by omega, rfl, HOV7.out⟩
      case round =>
      obtain ⟨j, hj, rfl, hov⟩ := hrel
      by_cases hjl : j < m
      · obtain ⟨g, rfl, hg, hcl⟩ := hov.2 (by omega)
        obtain ⟨⟨u, hu⟩, hfz⟩ := hcl j hjl
        have HV8 := hid (hov.store rfl (.int .u8 7) hjl)
        clear hov hcl
        go_wp2
        go_roundw
        case rel => exact ⟨j + 1, by omega, by go_num, HV8.out⟩
        case measure => simp [intOf]; omega
      · obtain rfl : j = m := by omega
        obtain ⟨wp, hwp⟩ : ∃ wp : World, wp = wr := ⟨_, rfl⟩
        subst hwp
        have hbe8 := HBE7.out.over hov.1 (fun g hg => .inr (HAB7.out g hg))
        have hbw8 := HBW7.out.trans (hov.1.below HBW7.out.size (fun g hg => HWO7.out g (HAB7.out g hg)))
        obtain ⟨D8, R8, hn8, hr8, -⟩ := id hbe8
        have HLO := hid (lookP_any D8 n L' 0 wp hn8 (fun x hx => by have := (HOK6.out.2 x hx).2; omega))
        have hlz : (lookN L' 0).1.2.2.length ≤ 20 := by
          unfold lookN
          by_cases hi0 : inN L' 0 = true
          · rw [if_pos hi0]
            have h0 : 0 < L'.length := by unfold inN at hi0; have := of_decide_eq_true hi0; omega
            have := (HOK6.out.2 _ (List.getElem_mem h0)).2
            simpa [List.getD_eq_getElem?_getD, h0] using this
          · rw [if_neg hi0]; simp [zP]
        have HBE8 := hid (hbe8.less (E' := fun g => g < w.heap.size) (fun g hg => .inl hg)); have HBW8 := hid hbw8
        generalize lookN L' 0 = z at *
        obtain ⟨⟨zf, zt, zb⟩, ze⟩ := z
        simp only at hlz
        clear hbe8 hbw8 hov hn8 hr8
        go_wp2_with fail
        refine HLO.out.mono ?_
        rintro e w9 ⟨vb, rfl, ho9, hb9⟩
        simp only at ho9
        have hwp9 := hb9.size
        have hwwp := HBW8.out.size
        have hbe9 := HBE8.out.wide (E' := fun g => g < w.heap.size ∨ vb.ownBlock = some g) hb9 (fun g hg => by
          rcases hg with hg | hg
          · exact .inl hg
          · exact .inr (ho9.lt g hg))
        have HBW9 := hid (HBW8.out.trans (hb9.mono hwwp))
        have hwb : ∀ g, vb.ownBlock = some g → w.heap.size ≤ g := fun g hg => by have := ho9.lt g hg; omega
        obtain ⟨Ba, bc, rfl, -, -, hov9, hab9⟩ := Over.start ho9
        have HBE9 := hid hbe9; have HOV9 := hid hov9; have HAB9 := hid hab9; have HWB := hid hwb
        clear hbe9 hov9 hab9 hwb ho9 hb9
        generalize hzl : zb.length = nb at *
        clear hzl
        go_wp2
        go_loopw [15] (fun i wr => OvRel Ba nb w9 i wr) (fun i _ => nb - (intOf i).toNat)
        case atStart => exact ⟨0, by omega, rfl, HOV9.out⟩
        case round =>
        obtain ⟨i, hi', rfl, hov⟩ := hrel
        by_cases hil : i < nb
        · obtain ⟨g, rfl, hg, hcl⟩ := hov.2 (by omega)
          obtain ⟨⟨u, hu⟩, hfz⟩ := hcl i hil
          have HV8 := hid (hov.store rfl (.int .u8 9) hil)
          clear hov hcl
          go_wp2
          go_roundw
          case rel => exact ⟨i + 1, by omega, by go_num, HV8.out⟩
          case measure => simp [intOf]; omega
        · obtain rfl : i = nb := by omega
          have HBE10 := hid ((HBE9.out.over hov.1 (fun g hg => .inr (HAB9.out g hg))).less (E' := fun g => g < w.heap.size) (fun g hg => .inl hg))
          have HBW10 := hid (HBW9.out.trans (hov.1.below HBW9.out.size (fun g hg => HWB.out g (HAB9.out g hg))))
          clear hov
          go_wp2
          go_roundw
          case rel => exact ⟨k + 1, L', by omega, by omega, by go_num, HOK6.out, HBE10.out, HBW10.out⟩
          case measure => simp [intOf]; omega
    · have hlk : ∃ D R : Nat → Prop, NetP wr D n L ∧ NetR wr R r L := by
        obtain ⟨D, R, h1, h2, -⟩ := hbe
        exact ⟨D, R, h1, h2⟩
      obtain ⟨D, R, h1, h2⟩ := hlk
      have HLK := hid (like_any D R n r L wr h1 h2 hok)
      have HB := hid hb
      have hex : (k < l.length ∧ k = 40) ∨ k = l.length := by omega
      clear hok hbe hb h1 h2 hlt
      rcases hex with ⟨hlt, rfl⟩ | rfl
      all_goals
        go_wp2_with fail
        refine HLK.out.mono ?_
        rintro e w2 ⟨rfl, hb2⟩
        have HB2 := hid (HB.out.trans (hb2.mono HB.out.size))
        clear hb2
        go_wp2_with fail
        refine (lives_any w2).mono ?_
        rintro e w3 ⟨rfl, hb3⟩
        have HB3 := hid (HB2.out.trans (hb3.mono HB2.out.size))
        clear hb3
        go_wp2
        go_ret
        exact ⟨rfl, HB3.out⟩
end Go.Proofs.Ytkgifbnkkmeoiaa
