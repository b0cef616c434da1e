/- The walks of DictPlays and DictStays. -/
import Derived.Test.YtbledkffkckjbaaDictBoth
namespace Go.Proofs.Ytbledkffkckjbaa
open Go.ChangeShapes Go.WideShapes Go.ChangeAt Go.RowKit Go.Maps
set_option linter.unusedVariables false

theorem opens_paths : Opens Try.prog 22 1 (rdSlice 1 (rdSlice 1 rdStr)) :=
  opens_slice (e := 30) (good_slice good_str) Try.underlying22 (opens_slice (e := 9) good_str Try.underlying30 (opens_str Try.underlying9 (by kernel_rfl)) (by kernel_rfl) (by omega)) (by kernel_rfl) (by omega)
set_option maxRecDepth 100000 in
set_option maxHeartbeats 1600000 in
theorem walk_DictPlays (w : World) (levels : Int) (hlv : InI64 levels) (v : Value) (ll : List (List ByteArray)) (hv : PathsW w w.heap.size v ll) (v2 : Value) (ask : List (List ByteArray)) (hv2 : PathsW w w.heap.size v2 ask) :
    Calls Try.prog 3 #[.int .i64 levels, v, v2] w (Gives (.bool true) w) := by
  have HBT := hid (both_any levels v ll w hlv hv)
  generalize bothN levels = L at *
  generalize hns : addMany L [] (ll.take 60) = ns at *
  clear hns hv
  obtain ⟨A, c, rfl, hc1, hc2, hrow⟩ := hv2.at
  have HROW := hid hrow; clear hrow hv2
  go_enter Try.func3, Try.ntmps3
  go_wp2_with fail
  refine HBT.out.mono ?_
  rintro e w1 ⟨d, r, D, R, rfl, hbo, hb⟩
  have HBO := hid hbo; have HB := hid hb; clear hbo hb HBT
  have hs1 := HB.out.size
  go_wp2
  go_loopw [10] (fun i wr => ∃ k : Nat, i = .int .i64 k ∧ k ≤ ask.length ∧ k ≤ 30 ∧ Below w1.heap.size w1 wr) (fun i _ => 30 - (intOf i).toNat)
  case atStart => exact ⟨0, rfl, by omega, by omega, Below.refl _ _⟩
  case round =>
    obtain ⟨k, rfl, hk, hk30, hb⟩ := hrel
    have HBR := hid hb; clear hb
    have HW := hid (HB.out.trans (HBR.out.mono hs1))
    have HBOR := hid (HBO.out.below HBR.out)
    by_cases hgo : k < ask.length ∧ k < 30
    · obtain ⟨hlt, h30⟩ := hgo
      obtain ⟨b, off, u, rfl, hbl, hcell, hsl, hso, hpl⟩ := HROW.out k hlt
      replace hcell := cellK HW.out hbl hcell
      generalize ask[k] = p at *
      have hslr : SlE wr (fun g => g < w.heap.size) u (svals p) := hsl.kept (fun g hg => HW.out.block g hg)
      have hdok := HBOR.out.2.2.1
      have cd := codeD_any D d L ns u p wr HBOR.out.1 hdok.inv (by have := hdok.len; omega) hslr.sl hso hpl
      have lk := link_code hdok.inv p
      have cr := fun W (hb : Below wr.heap.size wr W) => refCode_any R r L (paths ns) u p W (HBOR.out.2.1.below hb) (by rw [paths_len]; have := hdok.len; omega) ((hslr.sl.below hb).more hb.size)
      rw [lk] at cr
      generalize codeDR ns p = cc at *
      obtain ⟨cx, ce⟩ := cc
      have HCD := hid cd; have HCR := hid cr
      clear cd cr lk hslr hdok hsl hso hpl
      go_wp2_with fail
      refine HCD.out.mono ?_
      rintro e w3 ⟨rfl, hb3⟩
      have HB3 := hid hb3; clear hb3
      have hs0 := HW.out.size
      have hcell3 := cellK HB3.out (by omega) hcell
      go_wp2_with fail
      refine (HCR.out _ HB3.out).mono ?_
      rintro e w4 ⟨rfl, hq4⟩
      have HB4 := hid (HB3.out.trans (hq4.below wr.heap.size)); clear hq4 hcell3 hcell
      have t1 : (cx != cx) = false := by simp
      have t2 : (ce != ce) = false := by simp
      have hs2 := HBR.out.size
      go_wp2
      go_roundw
      case rel => exact ⟨k + 1, by go_num, by omega, by omega, HBR.out.trans (HB4.out.mono hs2)⟩
      case measure => simp [intOf]; omega
    · have HLK := hid (like_any w.heap.size D R d r L ns wr HBOR.out)
      have HGO := hid hgo; clear hgo
      have hs0 := HW.out.size
      by_cases hlt : k < ask.length
      · have h30 : k = 30 := by have := HGO.out; omega
        subst h30
        go_wp2_with fail
        refine HLK.out.mono ?_
        rintro e w3 ⟨rfl, hb3⟩
        have HB3 := hid (HW.out.trans (hb3.mono hs0)); clear hb3
        go_wp2_with fail
        refine (newD_no 0 w3 (by omega)).mono ?_
        rintro e w4 ⟨rfl, hq4⟩
        have HB4 := hid (HB3.out.trans (hq4.below w.heap.size)); clear hq4
        go_wp2_with fail
        refine (newD_no 4 w4 (by omega)).mono ?_
        rintro e w5 ⟨rfl, hq5⟩
        have HB5 := hid (HB4.out.trans (hq5.below w.heap.size)); clear hq5
        go_wp2_with fail
        refine (livesD_any w5).mono ?_
        rintro e w6 ⟨rfl, hb6⟩
        have HB6 := hid (HB5.out.trans (hb6.mono HB5.out.size)); clear hb6
        go_wp2
        go_ret
        exact ⟨rfl, HB6.out⟩
      · obtain rfl : k = ask.length := by omega
        go_wp2_with fail
        refine HLK.out.mono ?_
        rintro e w3 ⟨rfl, hb3⟩
        have HB3 := hid (HW.out.trans (hb3.mono hs0)); clear hb3
        go_wp2_with fail
        refine (newD_no 0 w3 (by omega)).mono ?_
        rintro e w4 ⟨rfl, hq4⟩
        have HB4 := hid (HB3.out.trans (hq4.below w.heap.size)); clear hq4
        go_wp2_with fail
        refine (newD_no 4 w4 (by omega)).mono ?_
        rintro e w5 ⟨rfl, hq5⟩
        have HB5 := hid (HB4.out.trans (hq5.below w.heap.size)); clear hq5
        go_wp2_with fail
        refine (livesD_any w5).mono ?_
        rintro e w6 ⟨rfl, hb6⟩
        have HB6 := hid (HB5.out.trans (hb6.mono HB5.out.size)); clear hb6
        go_wp2
        go_ret
        exact ⟨rfl, HB6.out⟩
end Go.Proofs.Ytbledkffkckjbaa
