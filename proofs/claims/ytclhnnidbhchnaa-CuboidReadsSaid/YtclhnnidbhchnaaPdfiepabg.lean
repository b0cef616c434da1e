/- 1 text of this claim, in build order. -/
import Derived.Test.YtclhnnidbhchnaaPincncman
import Derived.Test.YtclhnnidbhchnaaPmcbaoioa
import Derived.Test.YtclhnnidbhchnaaPklfoijpk
/- The reference's Put. -/
namespace Go.Proofs.Ytclhnnidbhchnaa
open Go.ChangeShapes Go.WideShapes Go.ChangeAt Go.RowKit Go.Maps
set_option linter.unusedVariables false
set_option linter.unusedSimpArgs false

theorem putIR8 (v : Value) (l : List UInt8) (n : Int) (w : World) (hv : Sl w w.heap.size v (bvals l)) (hl : l.length ≤ 100000) (hn : InI64 n) :
    Calls Try.prog 93 #[v, .int .i64 n] w (Put8 (l ++ putInt n) w) := by
  unfold InI64 at hn
  refine (refPutInt_any v l n w hv (by omega) (by omega) (by omega)).mono ?_
  rintro e w' ⟨v', rfl, h, hb⟩
  exact ⟨v', rfl, by unfold Own8; rw [List.length_append]; exact h, hb⟩
set_option maxRecDepth 100000 in
set_option maxHeartbeats 6400000 in
theorem putR_any (R : Nat → Prop) (r : Nat) (Wi Mi : Int) (W M : Nat) (L : List KC) (w : World) (hr : RefC w R r Wi Mi L) (hs : OkL W M L) (hW : W ≤ 3) (hM : M ≤ 2) (hL : L.length ≤ 600) :
    Calls Try.prog 60 #[.pointer (some ⟨r, 0, none⟩), .slice none 0 0] w (Put8 (putCub L) w) := by
  obtain ⟨h1, h2, h3, h4, h5, u, es, h6, h7, h8, h9⟩ := hr
  have hrl := h2 r h1
  obtain ⟨Au, cu, rfl⟩ := own_formN h7
  have HEL := hid (fun j (hj : j < L.length) => RefC.elem h7 h9 hj)
  have HRL := hid h2
  have HS := hid hs
  have HP0 := hid (fun W' => putIR8 (.slice none 0 0) [] (L.length : Int) W' Sl.nil_ (by simp) (by unfold InI64; omega))
  have hpc : putCub L = putInt (L.length : Int) ++ L.flatMap putKC := rfl
  have hhd := putInt_le (L.length : Int)
  simp only [List.nil_append] at HP0
  generalize putInt (L.length : Int) = hd at *
  have HPC := hid hpc
  clear hs hpc h1 h2 h3 h4 h5 h7 h8 h9
  go_enter Try.func60, Try.ntmps60
  go_wp2_with fail
  refine (HP0.out _).mono ?_
  rintro e w2 ⟨b2, rfl, ho2, hb2⟩
  have hz2 := hb2.size
  have HB2 := hid hb2; have HW2 := hid ho2
  clear ho2 hb2
  go_wp2
  go_loopw [5, 6] (fun b i wr => PoRel hd L w.heap.size w2 b i wr) (fun _ i _ => L.length - (intOf i).toNat)
  case atStart => exact ⟨0, by omega, rfl, by rw [List.take_zero, List.flatMap_nil, List.append_nil]; exact HW2.out, Below.refl _ _⟩
  case round =>
    obtain ⟨k, hk, rfl, hown, hb⟩ := hrel
    have hsb := hb.size
    have hbw := HB2.out.trans (hb.mono hz2)
    have HOW := hid hown; have HB := hid hb; have HBW := hid hbw
    have y2 := cellK hbw hrl h6
    clear hown
    by_cases hlt : k < L.length
    · obtain ⟨g, cap, K, kc, A1, c1, A2, c2, A3, c3, e1, hg0, hgl, hnc, hcm, -, q0, q1, q2, q3, q4, hsk, hce⟩ := HEL.out k hlt
      injection e1 with e1 _ e2
      subst e1; subst e2
      have q0 := cellK hbw hgl q0
      have q1 := cellK hbw hgl q1
      have q2 := cellK hbw hgl q2
      have q3 := cellK hbw hgl q3
      have q4 := cellK hbw hgl q4
      unfold maxLen at hcm
      have hmem := getD_memK hlt
      have hkk := HS.out.key _ hmem
      have hkl := hkk.1
      have hmay := HS.out.may _ hmem
      have hful := HS.out.full _ hmem
      have hln := HS.out.len _ hmem
      have hft := flat_takeK hlt
      have hpk : putKC (L.getD k zK) = (L.getD k zK).1.flatMap putInt ++ (putInt (L.getD k zK).2.n ++ (List.range (L.getD k zK).2.s.length).flatMap (putI3 (L.getD k zK).2)) := rfl
      have hpl1 := putKC_len hkl hW hln hM
      have htl : ((L.take k).flatMap putKC).length ≤ 60000 := by
        have := putKCs_len (HS.out.take k) hW hM
        rw [List.length_take] at this
        omega
      have hi64 := cell_i64 hmay hful
      have hki : ∀ x ∈ (L.getD k zK).1, InI64 x := fun x hx => by have := hkk.2 x hx; unfold InI64; omega
      generalize (L.getD k zK).2 = c at *
      generalize (L.getD k zK).1 = key at *
      generalize putKC (L.getD k zK) = pk at *
      generalize (L.take k).flatMap putKC = tk at *
      have hacc : (hd ++ tk).length ≤ 60100 := by rw [List.length_append]; omega
      generalize hT1 : (hd ++ tk) ++ key.flatMap putInt = T1 at *
      have hT1l : T1.length ≤ 60200 := by
        rw [← hT1, List.length_append]
        have := congrArg List.length hpk
        rw [List.length_append] at this
        omega
      have hkf := hsk.sl.formI
      have SLK := hid hsk.sl; have HCE := hid hce.read
      have HT1 := hid hT1; have HPK := hid hpk; have HFT := hid hft; have HI := hid hi64; have HKI := hid hki
      have HMY := hid hmay
      have hk3 : key.length ≤ 3 := by omega
      clear hT1 hpk hft hi64 hki hmem hkk hful hmay hkl hsk hce hln hkf
      obtain ⟨wo, rfl⟩ : ∃ wo : World, wo = wr := ⟨_, rfl⟩
      go_upto_region 6 with (fail)
      go_loopw [5, 7] (fun b i wq => PqH w.heap.size wo T1 key putInt b i wq) (fun _ i _ => key.length - (intOf i).toNat)
      case atStart => exact ⟨0, by omega, rfl, _, HOW.out, by rw [List.drop_zero]; exact HT1.out, Below.refl _ _⟩
      case round =>
        obtain ⟨j, hj, rfl, acc, hown, heq, hb⟩ := hrel
        have hsq := hb.size
        have HOQ := hid hown; have HBQ := hid hb
        have hal := pqh_len heq hT1l
        have y2 := cellK hb (by omega) y2
        have q0 := cellK hb (by omega) q0
        have q1 := cellK hb (by omega) q1
        have q2 := cellK hb (by omega) q2
        have q3 := cellK hb (by omega) q3
        have q4 := cellK hb (by omega) q4
        by_cases hjl : j < key.length
        · obtain ⟨bk, ok, rfl, hbk, hck⟩ := SLK.out.int hjl
          have hck := cellK (HBW.out.trans (hb.mono (by omega))) (by omega) hck
          have heq2 := pqh_step hjl heq
          have hx64 := HKI.out _ (List.getElem_mem hjl)
          have e0 : key[j] = key.getD j 0 := by simp [List.getD_eq_getElem?_getD, hjl]
          rw [e0] at heq2 hx64
          generalize key.getD j 0 = x at *
          have HE2 := hid heq2
          have HP := hid (putIR8 u5 acc x wr hown.sl (by omega) hx64)
          clear heq heq2 hown hb e0
          go_wp2_with fail
          refine HP.out.mono ?_
          rintro e w4 ⟨b4, rfl, ho4, hb4⟩
          have HB4 := hid (HBQ.out.trans (hb4.mono hsq))
          have HO4 := hid (ho4.less (base' := w.heap.size) (by omega))
          clear ho4 hb4
          go_wp2
          go_roundw
          case rel => exact ⟨j + 1, by omega, by go_num, _, HO4.out, HE2.out, HB4.out⟩
          case measure => simp [intOf]; omega
        · obtain rfl : j = key.length := by omega
          have hae := pqh_end heq
          subst hae
          obtain ⟨W0, hW0⟩ : ∃ W', W' = wr.alloc (.cells #[.int .i64 c.n, .slice A1 c.s.length c1, .slice A2 c.lo.length c2, .slice A3 c.hi.length c3] 25) := ⟨_, rfl⟩
          have hb0 : Below wr.heap.size wr W0 := by rw [hW0]; exact bl1 _ _
          have hz0 : W0.heap.size = wr.heap.size + 1 := by rw [hW0]; simp
          have hbk : Blk W0 wr.heap.size (.int .i64 c.n) (.slice A1 c.s.length c1) (.slice A2 c.lo.length c2) (.slice A3 c.hi.length c3) := by rw [hW0]; exact Blk.new _ _ _ _ _ _
          have HO0 := hid (HOQ.out.on hb0)
          have HPN := hid (putIR8 _ acc c.n W0 HO0.out.sl (by omega) HI.out.1)
          obtain ⟨p0, p1, p2, p3, -, -, -, -⟩ := hbk
          have hcr := cellR_parts HCE.out
          have hsh := HMY.out.1
          have HS1 := hid hcr.1; have HS2 := hid hcr.2.1; have HS3 := hid hcr.2.2
          have hsl1 : c.s.length ≤ 2 := hsh.1
          have hT2l : ((acc ++ putInt c.n) ++ (List.range c.s.length).flatMap (putI3 c)).length ≤ 60400 := by
            have := congrArg List.length HPK.out
            rw [List.length_append, List.length_append] at this
            rw [List.length_append, List.length_append]
            omega
          have hT2 : hd ++ (tk ++ pk) = (acc ++ putInt c.n) ++ (List.range c.s.length).flatMap (putI3 c) := by rw [HPK.out, ← HT1.out]; simp only [List.append_assoc]
          have HT2 := hid hT2
          have HW0 := hid hW0
          have HB30 := hid ((HB.out.trans (hb.mono (by omega))).trans (hb0.mono (by omega)))
          have HBW0 := hid ((HBW.out.trans (hb.mono (by omega))).trans (hb0.mono (by omega)))
          clear hcr hT2 hsh hb hown heq hal hW0 hb0
          go_wp2_with fail
          rw [← HW0.out]
          refine HPN.out.mono ?_
          rintro e w5 ⟨b5, rfl, ho5, hb5⟩
          have hsl2 : c.lo.length = c.s.length := HMY.out.1.2.1
          have hsl3 : c.hi.length = c.s.length := HMY.out.1.2.2
          have hs5 := hb5.size
          have hNW : wr.heap.size < W0.heap.size := by omega
          have p1 := cellK hb5 hNW p1
          have p2 := cellK hb5 hNW p2
          have p3 := cellK hb5 hNW p3
          have HO5 := hid (ho5.less (base' := w.heap.size) (by omega))
          have HB35 := hid (HB30.out.trans (hb5.mono (by omega)))
          have hbw5 := HBW0.out.trans (hb5.mono (by omega))
          have HS1 := hid (HS1.out.below hbw5); have HS2 := hid (HS2.out.below hbw5); have HS3 := hid (HS3.out.below hbw5)
          obtain ⟨wi, rfl⟩ : ∃ wi : World, wi = wr := ⟨_, rfl⟩
          have hNN : wi.heap.size < w5.heap.size := by omega
          generalize hT2g : (acc ++ putInt c.n) ++ (List.range c.s.length).flatMap (putI3 c) = T2 at *
          have HT2G := hid hT2g
          clear ho5 hb5 p0 hT2g hbw5
          go_wp2
          go_loopw [5, 9] (fun b i wq => PqH w.heap.size w5 T2 (List.range c.s.length) (putI3 c) b i wq) (fun _ i _ => c.s.length - (intOf i).toNat)
          case atStart => exact ⟨0, by omega, rfl, _, HO5.out, by rw [List.drop_zero]; exact HT2G.out, Below.refl _ _⟩
          case round =>
            clear y2 q0 q1 q2 q3 q4
            obtain ⟨j, hj, rfl, acc2, hown2, heq2, hb2⟩ := hrel
            rw [List.length_range] at hj
            have hs2 := hb2.size
            have HOW2 := hid hown2; have HB2' := hid hb2
            have hal2 := pqh_len heq2 hT2l
            have p1 := cellK hb2 hNN p1
            have p2 := cellK hb2 hNN p2
            have p3 := cellK hb2 hNN p3
            by_cases hjl : j < c.s.length
            · obtain ⟨b1, o1, rfl, hb1, hx1⟩ := HS1.out.int hjl
              have jl2 : j < c.lo.length := by omega
              have jl3 : j < c.hi.length := by omega
              obtain ⟨b2', o2, rfl, hb2', hx2⟩ := HS2.out.int jl2
              obtain ⟨b3', o3, rfl, hb3', hx3⟩ := HS3.out.int jl3
              have hx1 := cellK hb2 (by omega) hx1
              have hx2 := cellK hb2 (by omega) hx2
              have hx3 := cellK hb2 (by omega) hx3
              have heq3 := pqh_step (by rw [List.length_range]; exact hjl) heq2
              rw [List.getElem_range] at heq3
              obtain ⟨i1, i2, i3⟩ := HI.out.2 j hjl
              have hp3 : putI3 c j = putInt (c.s.getD j 0) ++ (putInt (c.lo.getD j 0) ++ putInt (c.hi.getD j 0)) := rfl
              rw [hp3] at heq3
              generalize c.s.getD j 0 = xs at *
              generalize c.lo.getD j 0 = xl at *
              generalize c.hi.getD j 0 = xh at *
              have l1 := putInt_le xs; have l2 := putInt_le xl
              have HE3 := hid heq3
              have HP1 := hid (putIR8 u5 acc2 xs wr HOW2.out.sl (by omega) i1)
              have HP2 := hid (fun v W' (h : Sl W' W'.heap.size v (bvals (acc2 ++ putInt xs))) => putIR8 v (acc2 ++ putInt xs) xl W' h (by rw [List.length_append]; omega) i2)
              have HP3 := hid (fun v W' (h : Sl W' W'.heap.size v (bvals (acc2 ++ putInt xs ++ putInt xl))) => putIR8 v (acc2 ++ putInt xs ++ putInt xl) xh W' h (by rw [List.length_append, List.length_append]; omega) i3)
              clear heq2 heq3 hown2 hb2 hp3 i1 i2 i3
              go_wp2_with fail
              refine HP1.out.mono ?_
              rintro e w6 ⟨v6, rfl, ho6, hb6⟩
              have hz6 := hb6.size
              have p1 := cellK hb6 (by omega) p1
              have p2 := cellK hb6 (by omega) p2
              have p3 := cellK hb6 (by omega) p3
              have hx2 := cellK hb6 (by omega) hx2
              have hx3 := cellK hb6 (by omega) hx3
              have HQ6 := hid hb6; have HO6 := hid ho6.sl
              clear ho6 hb6
              go_wp2_with fail
              refine (HP2.out _ _ HO6.out).mono ?_
              rintro e w7 ⟨v7, rfl, ho7, hb7⟩
              have hz7 := hb7.size
              have p1 := cellK hb7 (by omega) p1
              have p3 := cellK hb7 (by omega) p3
              have hx3 := cellK hb7 (by omega) hx3
              have HQ7 := hid (HQ6.out.trans (hb7.mono hz6)); have HO7 := hid ho7.sl
              clear ho7 hb7
              go_wp2_with fail
              refine (HP3.out _ _ HO7.out).mono ?_
              rintro e w8 ⟨v8, rfl, ho8, hb8⟩
              have HQ8 := hid (HQ7.out.trans (hb8.mono (by omega))); have HO8 := hid (ho8.less (base' := w.heap.size) (by omega))
              clear ho8 hb8
              rw [List.append_assoc, List.append_assoc] at HO8
              go_wp2
              go_roundw
              case rel => exact ⟨j + 1, by rw [List.length_range]; omega, by go_num, _, HO8.out, by first | (rw [← HE3.out]; done) | (rw [← HE3.out]; simp only [List.append_assoc]), HB2'.out.trans (HQ8.out.mono hs2)⟩
              case measure => simp [intOf]; omega
            · obtain rfl : j = c.s.length := by omega
              rw [show List.drop c.s.length (List.range c.s.length) = [] by simp, List.flatMap_nil, List.append_nil] at heq2
              subst heq2
              have HBX := hid (HB35.out.trans (HB2'.out.mono (by omega)))
              clear hb2 hown2
              go_wp2
              go_roundw
              case rel => exact ⟨k + 1, by omega, by go_num, by rw [HFT.out, HT2.out]; exact HOW2.out, HBX.out⟩
              case measure => simp [intOf]; omega
    · obtain rfl : k = L.length := by omega
      rw [List.take_length] at HOW
      have HOE := hid (show Own8 wr w.heap.size u5 (putCub L) by rw [HPC.out]; exact HOW.out)
      clear hb hbw HOW HB
      go_wp2
      go_ret
      exact ⟨_, rfl, HOE.out, HBW.out⟩
end Go.Proofs.Ytclhnnidbhchnaa
