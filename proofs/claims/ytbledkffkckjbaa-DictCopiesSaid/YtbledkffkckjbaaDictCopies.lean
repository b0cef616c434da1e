/- The walk of DictCopies. -/
import Derived.Test.YtbledkffkckjbaaDictWalks
import Derived.Test.YtbledkffkckjbaaDict7
import Derived.Test.YtbledkffkckjbaaReadsZ
namespace Go.Proofs.Ytbledkffkckjbaa
open Go.ChangeShapes Go.WideShapes Go.ChangeAt Go.RowKit Go.Maps
set_option linter.unusedVariables false

abbrev PathsZ (w : World) (B : Nat) (v : Value) (ll : List (List ByteArray)) : Prop := rdSliceZ 1 24 (rdSliceZ 1 16 rdStr) w B [v] ll
theorem opens_pathsZ : OpensZ Try.prog 22 1 (rdSliceZ 1 24 (rdSliceZ 1 16 rdStr)) :=
  opensZ_slice (e := 30) (good_sliceZ good_str) Try.underlying22 (opensZ_slice (e := 9) good_str Try.underlying30 (opens_str Try.underlying9 (by kernel_rfl)).z (by kernel_rfl) (by omega) (by kernel_rfl)) (by kernel_rfl) (by omega) (by kernel_rfl)
theorem PathsZ.at {w : World} {B : Nat} {v : Value} {ll : List (List ByteArray)} (h : PathsZ w B v ll) :
    ∃ A c, v = .slice A ll.length c ∧ ll.length ≤ c ∧ c ≤ 9223372036854775807 ∧ ∀ i (hi : i < ll.length), ∃ b off u, A = some ⟨b, off, none⟩ ∧ b < B ∧ w.cell? ⟨b, off + i, none⟩ = some u ∧ SlE w (fun g => g < B) u (svals ll[i]) ∧ StrOk ll[i] ∧ ll[i].length * 16 ≤ 140737488355328 := by
  obtain ⟨⟨A, c, e, h1, h2, h3⟩, _⟩ := h
  injection e with e _
  unfold maxLen at h2
  refine ⟨A, c, e, h1, by omega, fun i hi => ?_⟩
  obtain ⟨b, off, e1, hb, h4⟩ := h3 (by omega)
  obtain ⟨es, g1, g2, g3, g4⟩ := h4 i _ (List.getElem?_eq_getElem hi)
  obtain ⟨u, rfl⟩ : ∃ u, es = [u] := List.length_eq_one_iff.1 g1
  have := g2 0 u rfl
  rw [Nat.mul_one, Nat.add_zero] at this
  obtain ⟨k1, k2, k3⟩ := sl_of_rd g3
  exact ⟨b, off, u, e1, hb, this, k1, k2, by unfold reachBytes at g4; omega⟩
/-- A row of the law's own may be written over. -/
def Over (A : Option Addr) (n : Nat) (w0 w : World) : Prop :=
  Chg (fun g => A = some ⟨g, 0, none⟩) w0 w ∧ (0 < n → ∃ g, A = some ⟨g, 0, none⟩ ∧ g < w.heap.size ∧ ∀ j, j < n → (∃ u, w.cell? ⟨g, j, none⟩ = some u) ∧ w.frozen? ⟨g, j, none⟩ = false)
theorem Over.start {w : World} {base n : Nat} {e : TypeId} {v : Value} {xs : List Value} (h : w.ownsRow base e 1 v n xs) : ∃ A c, v = .slice A n c ∧ n ≤ c ∧ c ≤ maxLen ∧ Over A n w w ∧ ∀ g, A = some ⟨g, 0, none⟩ → v.ownBlock = some g := by
  obtain ⟨A, c, rfl, h1, h2, h3⟩ := own_cells h
  refine ⟨A, c, rfl, h1, h2, ⟨Chg.refl _ _, fun h0 => ?_⟩, fun g hg => by subst hg; rfl⟩
  obtain ⟨g, e1, _, e2, e3⟩ := h3 h0
  exact ⟨g, e1, e2, e3⟩
theorem Over.store {A : Option Addr} {n j g : Nat} {w0 w : World} (h : Over A n w0 w) (hA : A = some ⟨g, 0, none⟩) (v : Value) (hj : j < n) : Over A n w0 (w.setCell ⟨g, j, none⟩ v) := by
  obtain ⟨h1, h2⟩ := h
  obtain ⟨g', e1, e2, e3⟩ := h2 (by omega)
  have hg : g' = g := by rw [hA] at e1; injection e1 with e1; injection e1 with e1 _; exact e1.symm
  subst hg
  refine ⟨h1.same ⟨rfl, rfl, rfl, by simp [World.setCell], fun k hk hn => Below.heap_setCell _ _ _ k (fun e => hn (by simp at e; rw [hA, e]))⟩, fun _ => ⟨g', hA, by simpa [World.setCell] using e2, fun i hi => ?_⟩⟩
  obtain ⟨⟨u, hu⟩, hf⟩ := e3 i hi
  refine ⟨?_, frozen_far hf⟩
  by_cases hij : j = i
  · subst hij; exact ⟨_, cell_here hu⟩
  · exact ⟨u, cell_beside hij hu⟩
set_option maxRecDepth 100000 in
set_option maxHeartbeats 3200000 in
theorem walk_DictCopies (w : World) (levels : Int) (hlv : InI64 levels) (v : Value) (ll : List (List ByteArray)) (hv : PathsW w w.heap.size v ll) (v2 : Value) (more : List (List ByteArray)) (hv2 : PathsZ w w.heap.size v2 more) :
    Calls Try.prog 5 #[.int .i64 levels, v, v2] w (Gives (.bool true) w) := by
  obtain ⟨i0, hi, hz0, hz1, hz2⟩ := info_parts info_str
  have HBT := hid (both_any levels v ll w hlv hv)
  have hL := pickN_in levels 3 (by omega)
  have hLL : 1 ≤ bothN levels ∧ bothN levels ≤ 3 := by unfold bothN; omega
  have hok : DOk (addMany (bothN levels) [] (ll.take 60)) := addMany_ok dok_nil _
  clear hL
  generalize bothN levels = L at *
  generalize addMany L [] (ll.take 60) = ns at *
  obtain ⟨A, c0, rfl, hc1, hc2, hrow⟩ := hv2.at
  have HROW := hid hrow; have HDOK := hid hok; clear hrow hv2 hv hok
  go_enter Try.func5, Try.ntmps5
  go_wp2_with fail
  refine HBT.out.mono ?_
  rintro e w1 ⟨d, r, D, R, rfl, hbo, hb⟩
  have HBO := hid hbo; have HB := hid hb; clear hbo hb HBT
  have hs1 := HB.out.size
  have HCP := hid (copyD_any D d L ns w1 HBO.out.1 HDOK.out hLL.1 hLL.2)
  go_wp2_with fail
  refine HCP.out.mono ?_
  rintro e w2 ⟨cd, C, rfl, hdc, hC, hb2⟩
  have HDC := hid hdc; have HC := hid hC; have HB2 := hid hb2; clear hdc hC hb2 HCP
  go_wp2
  go_loopw [11] (fun i wr => ∃ (k : Nat) (C : Nat → Prop) (nsc : List DNode), i = .int .i64 k ∧ k ≤ more.length ∧ k ≤ 40 ∧ DictW wr C cd L nsc ∧ DOk nsc ∧ (∀ x, C x → w1.heap.size ≤ x) ∧ Below w1.heap.size w1 wr) (fun i _ => 40 - (intOf i).toNat)
  case atStart => exact ⟨0, C, ns, rfl, by omega, by omega, HDC.out, HDOK.out, HC.out, HB2.out⟩
  case round =>
    clear HDC HC HB2
    obtain ⟨k, C, nsc, rfl, hk, hk40, hdc, hokc, hC, hb2⟩ := hrel
    have HDC := hid hdc; have HC := hid hC; have HB2 := hid hb2; have HOKC := hid hokc; clear hdc hC hb2 hokc
    have HW := hid (HB.out.trans (HB2.out.mono hs1))
    by_cases hgo : k < more.length ∧ k < 40
    · obtain ⟨hlt, h40⟩ := hgo
      obtain ⟨b, off, u, rfl, hbl, hcell, hsl, hso, hpl⟩ := HROW.out k hlt
      replace hcell := cellK HW.out hbl hcell
      have hslr : SlE wr (fun g => g < w.heap.size) u (svals more[k]) := hsl.kept (fun g hg => HW.out.block g hg)
      generalize more[k] = p at *
      have HSL := hid hslr; have HSO := hid hso
      clear hslr hsl hso
      have hs2 := HB2.out.size
      go_wp2_with (at_builtin; refine stop_here ?_)
      refine go_on ?_
      refine app_own (.tmp 44) (.tmp 48) 30 30 rfl rfl wr.heap.size 9 i0 (.string ByteArray.empty) 1 16 Try.underlying30 hi hz0 hz1 hz2 rfl (by omega) _ 0 [] rfl (World.ownsRow_nil _ _ _ _) u p.length (svals p) rfl (by
          have := src_sl wr Try.underlying30 HSL.out.sl (svals_one _)
          rwa [svals_len] at this) (by unfold maxLen; omega) (by omega) (Nat.le_refl _) ?_
      intro v4 w4 ho4 hg4 hb4
      rw [Nat.zero_add, List.nil_append] at ho4
      have HO4 := hid ho4; have HB4 := hid hb4; clear ho4 hg4 hb4
      have hs4 := HB4.out.size
      have ad := addD_any C cd L nsc v4 p w4 (HDC.out.below HB4.out) HOKC.out.inv HOKC.out.len (SlE.of_own HO4.out (fun g hg hx => by have := (HO4.out.lt g hg).1; have := HDC.out.2.1 g hx; omega)) HSO.out (by omega)
      have hok' := (link_add HOKC.out L p).2
      have hfew := addDR_few HOKC.out L p
      generalize addDR nsc L p = res at *
      obtain ⟨ns', cs, er⟩ := res
      simp only at hok' hfew
      have HAD := hid ad; have HOK' := hid hok'
      clear ad hok' hcell
      go_wp2_with fail
      refine HAD.out.mono ?_
      rintro e w5 ⟨v5, C5, rfl, ho5, hn5, hg5, hd5, hc5⟩
      simp only at ho5 hd5
      have HO5 := hid ho5; have HN5 := hid hn5; have HG5 := hid hg5; have HD5 := hid hd5; have HC5 := hid hc5
      clear ho5 hn5 hg5 hd5 hc5 HAD
      have hs5 := HC5.out.size
      have HL4 := hid (HO4.out.lt)
      have HL5 := hid (HO5.out.lt)
      have HNC := hid (show ∀ g, v4.ownBlock = some g → ¬ C5 g from fun g hg hx => by
        have := HL4.out g hg
        rcases HG5.out.2 g hx with h | h
        · have := HDC.out.2.1 g h; omega
        · omega)
      obtain ⟨A4, c4, rfl, k1, k2, hov4, hab4⟩ := Over.start (own_kept HO4.out (fun g hg => HC5.out.block g (HL4.out g hg).2 (fun hx => HNC.out g hg (HG5.out.1 g hx))))
      have HOV4 := hid hov4; have HAB4 := hid hab4; clear hov4 hab4
      unfold maxLen at k2
      obtain ⟨wo, rfl⟩ : ∃ wo : World, wo = wr := ⟨_, rfl⟩
      go_wp2
      go_loopw [15] (fun i wq => ∃ j : Nat, i = .int .i64 j ∧ j ≤ p.length ∧ Over A4 p.length w5 wq) (fun i _ => p.length - (intOf i).toNat)
      case atStart => exact ⟨0, rfl, by omega, HOV4.out⟩
      case round =>
        clear HOV4
        obtain ⟨j, rfl, hj, hov⟩ := hrel
        have HOV := hid hov; clear hov
        by_cases hltj : j < p.length
        · obtain ⟨g, rfl, hgl, hcf⟩ := HOV.out.2 (by omega)
          obtain ⟨⟨x, hx⟩, hfz⟩ := hcf j hltj
          clear hcf
          go_wp2
          go_roundw
          case rel => exact ⟨j + 1, by go_num, by omega, HOV.out.store rfl _ hltj⟩
          case measure => simp [intOf]; omega
        · obtain rfl : j = p.length := by omega
          have hov := HOV.out.1
          obtain ⟨A5, c5, rfl, q1, q2, hov5, hab5⟩ := Over.start (own_kept HO5.out (fun g hg => hov.block g (HL5.out g hg).2 (fun hx => by have := (HL4.out g (HAB4.out g hx)).2; have := (HL5.out g hg).1; omega)))
          have HOV5 := hid hov5; have HAB5 := hid hab5; have HCH1 := hid hov; clear hov5 hab5 hov HOV
          unfold maxLen at q2
          obtain ⟨wq, rfl⟩ : ∃ wq : World, wq = wr := ⟨_, rfl⟩
          go_wp2
          go_loopw [16] (fun i wz => ∃ j : Nat, i = .int .i64 j ∧ j ≤ cs.length ∧ Over A5 cs.length wq wz) (fun i _ => cs.length - (intOf i).toNat)
          case atStart => exact ⟨0, rfl, by omega, HOV5.out⟩
          case round =>
            clear HOV5
            obtain ⟨j, rfl, hj5, hov⟩ := hrel
            have HOV := hid hov; clear hov
            by_cases hltj : j < cs.length
            · obtain ⟨g, rfl, hgl, hcf⟩ := HOV.out.2 (by omega)
              obtain ⟨⟨x, hx⟩, hfz⟩ := hcf j hltj
              clear hcf
              go_wp2
              go_roundw
              case rel => exact ⟨j + 1, by go_num, by omega, HOV.out.store rfl _ hltj⟩
              case measure => simp [intOf]; omega
            · have hch2 := HOV.out.1
              have HCH2 := hid hch2; clear hch2 HOV
              have hz1 := HCH1.out.size
              have hz2 := HCH2.out.size
              go_wp2
              go_roundw
              case rel =>
                refine ⟨k + 1, C5, ns', by go_num, by omega, by omega, ?_, HOK'.out, fun x hx => ?_, ?_⟩
                · refine (HD5.out.kept (HCH1.out.kept (fun x hx => ⟨HD5.out.2.1 x hx, fun hA => HNC.out x (HAB4.out x hA) hx⟩)) hz1).kept (HCH2.out.kept (fun x hx => ⟨?_, fun hA => HN5.out x (HAB5.out x hA) hx⟩)) hz2
                  have := HD5.out.2.1 x hx; omega
                · rcases HG5.out.2 x hx with h | h
                  · exact HC.out x h
                  · omega
                · refine HB2.out.trans ((HB4.out.mono hs2).trans ((HC5.out.below (by omega) HC.out).trans ((HCH1.out.below (by omega) (fun x hA => ?_)).trans (HCH2.out.below (by omega) (fun x hA => ?_)))))
                  · have := (HL4.out x (HAB4.out x hA)).1; omega
                  · have := (HL5.out x (HAB5.out x hA)).1; omega
              case measure => simp [intOf]; omega
    · have HGO := hid hgo; clear hgo
      by_cases hlt : k < more.length
      case' pos =>
        have h40 : k = 40 := by have := HGO.out; omega
        subst h40
      case' neg =>
        obtain rfl : k = more.length := by omega
      all_goals
        have HBR := hid (HBO.out.below HB2.out)
        have HLN := hid (lenD_any D d L ns wr HBR.out.1)
        have HPA := hid (fun W (hb : Below wr.heap.size wr W) => pathD_in D d L ns ns.length W (HBR.out.1.below hb) HDOK.out.inv (by have := HDOK.out.len; omega) (Nat.le_refl _))
        have hpl := path_len_le HDOK.out.inv ns.length (Nat.le_refl _)
        have hdl := HDOK.out.len
        generalize pathOf ns ns.length = pp at *
        go_wp2_with fail
        refine HLN.out.mono ?_
        rintro e w5 ⟨rfl, hq5⟩
        have HB5 := hid (hq5.below wr.heap.size); clear hq5
        go_wp2_with fail
        refine (HPA.out w5 HB5.out).mono ?_
        rintro e w6 ⟨v6, rfl, ho6, hb6⟩
        have HL6 := hid ho6.lt
        obtain ⟨A6, c6, rfl, k1, k2, hov, hab⟩ := Over.start ho6
        have HOV := hid hov; have HAB := hid hab; have HB6 := hid hb6
        clear ho6 hov hab hb6
        unfold maxLen at k2
        have hs5 := HB5.out.size
        have hs6 := HB6.out.size
        have hs2 := HB2.out.size
        obtain ⟨wo, rfl⟩ : ∃ wo : World, wo = wr := ⟨_, rfl⟩
        go_wp2
        go_loopw [19] (fun i wz => ∃ j : Nat, i = .int .i64 j ∧ j ≤ pp.length ∧ Over A6 pp.length w6 wz) (fun i _ => pp.length - (intOf i).toNat)
        case atStart => exact ⟨0, rfl, by omega, HOV.out⟩
        case round =>
          clear HOV
          obtain ⟨j, rfl, hj, hov⟩ := hrel
          have HOV := hid hov; clear hov
          by_cases hltj : j < pp.length
          · obtain ⟨g, rfl, hgl, hcf⟩ := HOV.out.2 (by omega)
            obtain ⟨⟨x, hx⟩, hfz⟩ := hcf j hltj
            clear hcf
            go_wp2
            go_roundw
            case rel => exact ⟨j + 1, by go_num, by omega, HOV.out.store rfl _ hltj⟩
            case measure => simp [intOf]; omega
          · have hb7 : Below wo.heap.size wo wr := (HB5.out.trans (HB6.out.mono hs5)).trans (HOV.out.1.below (by omega) (fun x hA => by have := (HL6.out x (HAB.out x hA)).1; omega))
            have HB7 := hid hb7
            have HLK := hid (like_any w.heap.size D R d r L ns wr (HBR.out.below hb7))
            clear hb7
            go_wp2_with fail
            refine HLK.out.mono ?_
            rintro e w8 ⟨rfl, hb8⟩
            have HB8 := hid (HW.out.trans ((HB7.out.mono HW.out.size).trans (hb8.mono (Nat.le_trans HW.out.size HB7.out.size)))); clear hb8
            go_wp2_with fail
            refine (livesD_any w8).mono ?_
            rintro e w9 ⟨rfl, hb9⟩
            have HB9 := hid (HB8.out.trans (hb9.mono HB8.out.size)); clear hb9
            go_wp2
            go_ret
            exact ⟨rfl, HB9.out⟩
end Go.Proofs.Ytbledkffkckjbaa
