/- The walks of DictPlays and DictStays. -/
import Derived.Test.YtbledkffkckjbaaDictBoth
namespace Go.Proofs.Ytbledkffkckjbaa
open Go.ChangeShapes Go.WideShapes Go.ChangeAt Go.RowKit Go.Maps
set_option linter.unusedVariables false

theorem opens_paths : Opens Try.prog 22 1 (rdSlice 1 (rdSlice 1 rdStr)) :=
  opens_slice (e := 30) (good_slice good_str) Try.underlying22 (opens_slice (e := 9) good_str Try.underlying30 (opens_str Try.underlying9 (by kernel_rfl)) (by kernel_rfl) (by omega)) (by kernel_rfl) (by omega)
set_option maxRecDepth 100000 in
set_option maxHeartbeats 1600000 in
theorem walk_DictPlays (w : World) (levels : Int) (hlv : InI64 levels) (v : Value) (ll : List (List ByteArray)) (hv : PathsW w w.heap.size v ll) (v2 : Value) (ask : List (List ByteArray)) (hv2 : PathsW w w.heap.size v2 ask) :
    Calls Try.prog 3 #[.int .i64 levels, v, v2] w (Gives (.bool true) w) := by
  have HBT := hid (both_any levels v ll w hlv hv)
  generalize bothN levels = L at *
  generalize hns : addMany L [] (ll.take 60) = ns at *
  clear hns hv
  obtain ⟨A, c, rfl, hc1, hc2, hrow⟩ := hv2.at
  have HROW := hid hrow; clear hrow hv2
  go_enter Try.func3, Try.ntmps3
  go_wp2_with fail
  refine HBT.out.mono ?_
  rintro e w1 ⟨d, r, D, R, rfl, hbo, hb⟩
  have HBO := hid hbo; have HB := hid hb; clear hbo hb HBT
  have hs1 := HB.out.size
  go_wp2
  go_loopw [10] (fun i wr => ∃ k : Nat, i = .int .i64 k ∧ k ≤ ask.length ∧ k ≤ 30 ∧ Below w1.heap.size w1 wr) (fun i _ => 30 - (intOf i).toNat)
  case atStart => exact ⟨0, rfl, by omega, by omega, Below.refl _ _⟩
  case round =>
    obtain ⟨k, rfl, hk, hk30, hb⟩ := hrel
    have HBR := hid hb; clear hb
    have HW := hid (HB.out.trans (HBR.out.mono hs1))
    have HBOR := hid (HBO.out.below HBR.out)
    by_cases hgo : k < ask.length ∧ k < 30
    · obtain ⟨hlt, h30⟩ := hgo
      obtain ⟨b, off, u, rfl, hbl, hcell, hsl, hso, hpl⟩ := HROW.out k hlt
      replace hcell := cellK HW.out hbl hcell
      generalize ask[k] = p at *
      have hslr : SlE wr (fun g => g < w.heap.size) u (svals p) := hsl.kept (fun g hg => HW.out.block g hg)
      have hdok := HBOR.out.2.2.1
      have cd := codeD_any D d L ns u p wr HBOR.out.1 hdok.inv (by have := hdok.len; omega) hslr.sl hso hpl
      have lk := link_code hdok.inv p
      have cr := fun W (hb : Below wr.heap.size wr W) => refCode_any R r L (paths ns) u p W (HBOR.out.2.1.below hb) (by rw [paths_len]; have := hdok.len; omega) ((hslr.sl.below hb).more hb.size)
      rw [lk] at cr
      generalize codeDR ns p = cc at *
      obtain ⟨cx, ce⟩ := cc
      have HCD := hid cd; have HCR := hid cr
      clear cd cr lk hslr hdok hsl hso hpl
      go_wp2_with fail
      refine HCD.out.mono ?_
      rintro e w3 ⟨rfl, hb3⟩
      have HB3 := hid hb3; clear hb3
      have hs0 := HW.out.size
      have hcell3 := cellK HB3.out (by omega) hcell
      go_wp2_with fail
      refine (HCR.out _ HB3.out).mono ?_
      rintro e w4 ⟨rfl, hq4⟩
      have HB4 := hid (HB3.out.trans (hq4.below wr.heap.size)); clear hq4 hcell3 hcell
      have t1 : (cx != cx) = false := by simp
      have t2 : (ce != ce) = false := by simp
      have hs2 := HBR.out.size
      go_wp2
      go_roundw
      case rel => exact ⟨k + 1, by go_num, by omega, by omega, HBR.out.trans (HB4.out.mono hs2)⟩
      case measure => simp [intOf]; omega
    · have HLK := hid (like_any w.heap.size D R d r L ns wr HBOR.out)
      have HGO := hid hgo; clear hgo
      have hs0 := HW.out.size
      by_cases hlt : k < ask.length
      · have h30 : k = 30 := by have := HGO.out; omega
        subst h30
        go_wp2_with fail
        refine HLK.out.mono ?_
        rintro e w3 ⟨rfl, hb3⟩
        have HB3 := hid (HW.out.trans (hb3.mono hs0)); clear hb3
        go_wp2_with fail
        refine (newD_no 0 w3 (by omega)).mono ?_
        rintro e w4 ⟨rfl, hq4⟩
        have HB4 := hid (HB3.out.trans (hq4.below w.heap.size)); clear hq4
        go_wp2_with fail
        refine (newD_no 4 w4 (by omega)).mono ?_
        rintro e w5 ⟨rfl, hq5⟩
        have HB5 := hid (HB4.out.trans (hq5.below w.heap.size)); clear hq5
        go_wp2_with fail
        refine (livesD_any w5).mono ?_
        rintro e w6 ⟨rfl, hb6⟩
        have HB6 := hid (HB5.out.trans (hb6.mono HB5.out.size)); clear hb6
        go_wp2
        go_ret
        exact ⟨rfl, HB6.out⟩
      · obtain rfl : k = ask.length := by omega
        go_wp2_with fail
        refine HLK.out.mono ?_
        rintro e w3 ⟨rfl, hb3⟩
        have HB3 := hid (HW.out.trans (hb3.mono hs0)); clear hb3
        go_wp2_with fail
        refine (newD_no 0 w3 (by omega)).mono ?_
        rintro e w4 ⟨rfl, hq4⟩
        have HB4 := hid (HB3.out.trans (hq4.below w.heap.size)); clear hq4
        go_wp2_with fail
        refine (newD_no 4 w4 (by omega)).mono ?_
        rintro e w5 ⟨rfl, hq5⟩
        have HB5 := hid (HB4.out.trans (hq5.below w.heap.size)); clear hq5
        go_wp2_with fail
        refine (livesD_any w5).mono ?_
        rintro e w6 ⟨rfl, hb6⟩
        have HB6 := hid (HB5.out.trans (hb6.mono HB5.out.size)); clear hb6
        go_wp2
        go_ret
        exact ⟨rfl, HB6.out⟩
theorem mem_code {α : Type} [DecidableEq α] {l : List α} {x : α} (h : x ∈ l) : code l x ≠ 0 := fun e => code_zero.1 e h
/-- What was just added has a code: the last one told. -/
theorem add_code {ns : List DNode} (h : DOk ns) (L : Int) (hL : 1 ≤ L) (p : List ByteArray) (he : (addDR ns L p).2.2 = 0) :
    ∃ m u : Nat, (addDR ns L p).2.1.length = m + 1 ∧ (addDR ns L p).2.1[m]? = some u ∧ codeDR (addDR ns L p).1 p = ((u : Int), 0) := by
  obtain ⟨a1, a2, a3, a4, a5⟩ := addD_says h.inv p
  unfold addDR at he ⊢
  by_cases hno : mayB p = false ∨ (p.length : Int) ≠ L
  · rw [if_pos hno] at he; simp at he
  · rw [if_neg hno] at he ⊢
    by_cases h40 : 40 < ns.length + (p.length - (known ns 0 p).1.length)
    · rw [if_pos h40] at he; simp at he
    · rw [if_neg h40]
      have hm : mayB p ≠ false := fun e => hno (.inl e)
      have hpl : (p.length : Int) = L := by
        by_cases e : (p.length : Int) = L
        · exact e
        · exact absurd (.inr e) hno
      obtain ⟨m, hm1⟩ : ∃ m, p.length = m + 1 := ⟨p.length - 1, by omega⟩
      have hmem : p ∈ paths (addD ns p).1 := by
        rw [a2, List.mem_append]
        by_cases h0 : code (paths ns) p = 0
        · right
          unfold moreR
          rw [List.mem_filter, List.mem_map]
          exact ⟨⟨m, by rw [List.mem_range]; omega, by rw [← hm1, List.take_length]⟩, by simpa using h0⟩
        · left
          by_cases hx : p ∈ paths ns
          · exact hx
          · exact absurd (code_zero.2 hx) h0
      have hc := mem_code hmem
      rw [find_walk a1] at hc
      refine ⟨m, code (paths (addD ns p).1) p, ?_, ?_, ?_⟩
      · show (addD ns p).2.length = _
        rw [a3]; simp [outR, hm1]
      · show (addD ns p).2[m]? = _
        rw [a3]
        unfold outR
        rw [List.getElem?_map, List.getElem?_range (by omega)]
        simp only [Option.map_some]
        rw [← hm1, List.take_length]
      · show codeDR (addD ns p).1 p = _
        unfold codeDR
        rw [if_neg hm, find_walk a1]
        cases hw : walkD (addD ns p).1 0 p with
        | none => rw [hw] at hc; exact absurd rfl hc
        | some u => simp [optD]
theorem PathsW.head {w : World} {B : Nat} {A : Option Addr} {c : Nat} {ll : List (List ByteArray)} (h : PathsW w B (.slice A ll.length c) ll) (n : Nat) (hn : n ≤ ll.length) : PathsW w B (.slice A n c) (ll.take n) := by
  obtain ⟨A', c', e, h1, h2, h3⟩ := h
  injection e with e _
  injection e with e1 _ e3
  subst e1; subst e3
  refine ⟨A, c, by rw [List.length_take, Nat.min_eq_left hn], by rw [List.length_take]; omega, h2, fun h0 => ?_⟩
  rw [List.length_take] at h0
  obtain ⟨b, off, q1, q2, q3⟩ := h3 (by omega)
  refine ⟨b, off, q1, q2, fun i x hx => q3 i x ?_⟩
  rw [List.getElem?_take] at hx
  split at hx
  · exact hx
  · cases hx
set_option maxRecDepth 100000 in
set_option maxHeartbeats 3200000 in
theorem walk_DictStays (w : World) (levels : Int) (hlv : InI64 levels) (v : Value) (l0 : List (List ByteArray)) (hv : PathsW w w.heap.size v l0) :
    Calls Try.prog 4 #[.int .i64 levels, v] w (Gives (.bool true) w) := by
  obtain ⟨A, c, rfl, hc1, hc2, -⟩ := hv.at
  have hL := pickN_in levels 3 (by omega)
  obtain ⟨ll, hll⟩ : ∃ ll, ll = l0.take 40 := ⟨_, rfl⟩
  have hle : ll.length ≤ 40 := by rw [hll, List.length_take]; omega
  have hlv2 : PathsW w w.heap.size (.slice A ll.length c) ll := by
    have := hv.head (min 40 l0.length) (by omega)
    rw [hll, List.length_take]
    have e : l0.take (min 40 l0.length) = l0.take 40 := by
      rw [List.take_eq_take_iff]; omega
    rwa [e] at this
  have hll2 : ll.length = min 40 l0.length := by rw [hll, List.length_take]
  have HBT := hid (both_any levels _ ll w hlv hlv2)
  rw [show ll.take 60 = ll from List.take_of_length_le (by omega)] at HBT
  have hok : DOk (addMany (bothN levels) [] ll) := addMany_ok dok_nil ll
  have hLL : 1 ≤ bothN levels ∧ bothN levels ≤ 3 := by unfold bothN; omega
  clear hL
  generalize bothN levels = L at *
  generalize addMany L [] ll = ns0 at *
  obtain ⟨A0, c0, e0, g1, g2, hrow⟩ := hlv2.at
  injection e0 with e1 _ e3
  subst e1; subst e3
  have HROW := hid hrow; have HL2 := hid hlv2; clear hrow hv hlv2 hll
  go_enter Try.func4, Try.ntmps4
  have HOK0 := hid hok; clear hok
  have h1000 : ll.length ≤ 1000 := by omega
  by_cases h40 : 40 < l0.length
  case' pos =>
    have eV : Value.slice A 40 c = Value.slice A ll.length c := by rw [show ll.length = 40 by omega]
    clear hll2
    have EV := hid eV; clear eV
    go_wp2_with fail
    rw [EV.out]
    clear EV
  case' neg =>
    have el : ll.length = l0.length := by omega
    rw [← el]
    clear hll2 hc1 h40 el
    go_wp2_with fail
  all_goals
    refine HBT.out.mono ?_
    rintro e w1 ⟨d, r, D, R, rfl, hbo, hb⟩
    have HBO := hid hbo; have HB := hid hb; clear hbo hb HBT
    go_wp2
    go_loopw [8] (fun i wr => ∃ (k : Nat) (D R : Nat → Prop), i = .int .i64 k ∧ k ≤ ll.length ∧ BothW wr w.heap.size D R d r L (addMany L ns0 (ll.take k)) ∧ Below w.heap.size w wr) (fun i _ => ll.length - (intOf i).toNat)
    case atStart => exact ⟨0, D, R, rfl, by omega, HBO.out, HB.out⟩
    case round =>
      clear HBO HB
      obtain ⟨k, D, R, rfl, hk, hbo, hb⟩ := hrel
      have HBO := hid hbo; have HB := hid hb; clear hbo hb
      by_cases hlt : k < ll.length
      · obtain ⟨b, off, u, rfl, hbl, hcell, hsl, hso, hpl⟩ := HROW.out k hlt
        replace hcell := cellK HB.out hbl hcell
        have e1 : ll.take (k + 1) = ll.take k ++ [ll[k]] := List.take_succ_eq_append_getElem hlt
        generalize ll[k] = p at *
        have hdok := HBO.out.2.2.1
        generalize hns : addMany L ns0 (ll.take k) = ns at *
        obtain ⟨la, ld⟩ := link_add hdok L p
        have lf := addDR_few hdok L p
        have lc := add_code hdok L hLL.1 p
        have hslr : SlE wr (fun g => g < w.heap.size) u (svals p) := hsl.kept (fun g hg => HB.out.block g hg)
        have ad := addD_any D d L ns u p wr HBO.out.1 hdok.inv hdok.len (hslr.mono (fun g hg hD => by have := HBO.out.2.2.2.2.1 g hD; omega)) hso hpl
        have hns2 : addMany L ns0 (ll.take (k + 1)) = (addDR ns L p).1 := by rw [e1, addMany_snoc, hns]
        generalize hres : addDR ns L p = res at *
        obtain ⟨ns', cs, er⟩ := res
        simp only at la ld lf hns2 lc
        have HAD := hid ad; have HLA := hid la; have HLD := hid ld; have HN2 := hid hns2; have HSL := hid hslr; have HOK := hid hdok; have HLC := hid lc; have HSO := hid hso; have HPL := hid hpl
        clear ad la ld hns2 hslr hdok hres e1 hns hsl hso hpl lc
        go_wp2_with fail
        refine HAD.out.mono ?_
        rintro e w4 ⟨v1, D', rfl, ho1, hn1, hg1, hd1, hc1'⟩
        have HO1 := hid ho1; have HNN1 := hid hn1; have HG1 := hid hg1; have HDD1 := hid hd1; have HCC1 := hid hc1'
        clear ho1 hn1 hg1 hd1 hc1'
        simp only at HO1
        have hs4 := HCC1.out.size
        have hs0 := HB.out.size
        have b4 : Below w.heap.size wr w4 := HCC1.out.below hs0 HBO.out.2.2.2.2.1
        have hcell4 := cellK b4 hbl hcell
        have hsl4 : SlE w4 (fun g => ¬ R g) u (svals p) := (HSL.out.kept (fun g hg => b4.block g hg)).mono (fun g hg hR => by have := HBO.out.2.2.2.2.2 g hR; omega)
        have hrw4 : RefW w4 R r L (paths ns) := HBO.out.2.1.kept (HCC1.out.kept (fun g hg => ⟨HBO.out.2.1.2.1 g hg, fun hD => HBO.out.2.2.2.1 g hD hg⟩)) hs4
        have ra := refAdd_any R r L (paths ns) u p w4 hrw4 (by rw [paths_len]; have := HOK.out.len; omega) hsl4
        rw [HLA.out] at ra
        have HRA := hid ra
        clear ra hrw4 hsl4 b4
        go_wp2_with fail
        refine HRA.out.mono ?_
        rintro e w5 ⟨v2, R', rfl, hs5, hg2, hr2, hc2'⟩
        have HS5 := hid hs5
        have HST := hid (both_step HBO.out HLD.out HG1.out HDD1.out HCC1.out HO1.out HNN1.out hg2 hr2 hc2' hs0)
        clear hs5 hg2 hr2 hc2' hcell4
        have HIN := hid (ints_yes v1 v2 cs w5 (Sl.of_own (by simpa using HST.out.2.2.1)) HS5.out (by omega))
        have t1 : (er != er) = false := by simp
        go_wp2_with fail
        refine HIN.out.mono ?_
        rintro e w6 ⟨rfl, hq6⟩
        have HQ6 := hid hq6; clear hq6
        have HB6 := hid (HB.out.trans (HST.out.2.1.trans (HQ6.out.below _)))
        have HBO6 := hid (HST.out.1.below (HQ6.out.below _))
        by_cases her : er = 0
        · obtain ⟨m, x, hm, hx, hcd⟩ := HLC.out her
          subst her
          have hcx : cs.length ≤ 3 := lf
          have hcell6 := (HQ6.out.cell ⟨b, off + k, none⟩).trans (cellK HST.out.2.1 hbl hcell)
          have hsl6 : SlE w6 (fun g => g < w.heap.size) u (svals p) := HSL.out.kept (fun g hg => (HST.out.2.1.trans (HQ6.out.below _)).block g hg)
          have cd := codeD_any D' d L ns' u p w6 HBO6.out.1 HLD.out.inv (by have := HLD.out.len; omega) hsl6.sl HSO.out HPL.out
          rw [hcd] at cd
          have HCD := hid cd
          have hv1 : Sl w6 w6.heap.size v1 (nvals cs) := by
            have := (Sl.of_own (HST.out.2.2.1)).qu' HQ6.out
            rwa [← Qu.size HQ6.out] at this
          obtain ⟨A1, c1, rfl, k1, k2, k3⟩ := hv1
          rw [nvals_len, hm] at k1 k3
          obtain ⟨b1, off1, rfl, kb, kc⟩ := k3 (by omega)
          have kcell := kc m (.int .i64 (x : Int)) (by simp [nvals, hx])
          simp only [nvals_len, hm]
          have hm2 : ((m + 1 : Nat) : Int) = (m : Int) + 1 := by omega
          have KC := hid kcell
          clear cd hsl6 kc k3 hcd hx kcell hcell
          go_wp2_with fail
          refine HCD.out.mono ?_
          rintro e w7 ⟨rfl, hb7⟩
          have HB7 := hid hb7; clear hb7
          have kcell := cellK HB7.out kb KC.out
          have t2 : ((x : Int) != (x : Int)) = false := by simp
          have hs6 := HB6.out.size
          go_wp2
          go_roundw
          case rel => exact ⟨k + 1, D', R', by go_num, by omega, by rw [HN2.out]; exact HBO6.out.below HB7.out, HB6.out.trans (HB7.out.mono hs6)⟩
          case measure => simp [intOf]; omega
        · have t2 : (er == 0) = false := by rw [beq_eq_false_iff_ne]; exact her
          clear her hcell
          go_wp2
          go_roundw
          case rel => exact ⟨k + 1, D', R', by go_num, by omega, by rw [HN2.out]; exact HBO6.out, HB6.out⟩
          case measure => simp [intOf]; omega
      · obtain rfl : k = ll.length := by omega
        have HLK := hid (like_any w.heap.size D R d r L _ wr HBO.out)
        go_wp2_with fail
        refine HLK.out.mono ?_
        rintro e w3 ⟨rfl, hb3⟩
        have HB3 := hid (HB.out.trans (hb3.mono HB.out.size)); clear hb3
        go_wp2_with fail
        refine (livesD_any w3).mono ?_
        rintro e w6 ⟨rfl, hb6⟩
        have HB6 := hid (HB3.out.trans (hb6.mono HB3.out.size)); clear hb6
        go_wp2
        go_ret
        exact ⟨rfl, HB6.out⟩
end Go.Proofs.Ytbledkffkckjbaa
