/- The program's dictionary: Copy. -/
import Derived.Test.YtbledkffkckjbaaDictLaw
namespace Go.Proofs.Ytbledkffkckjbaa
open Go.ChangeShapes Go.WideShapes Go.ChangeAt Go.RowKit Go.Maps
set_option linter.unusedVariables false

def CopyPost (L : Int) (ns : List DNode) (w : World) (e : Ending) (w' : World) : Prop :=
  ∃ d D, e = .returned (.pointer (some ⟨d, 0, none⟩)) ∧ DictW w' D d L ns ∧ (∀ k, D k → w.heap.size ≤ k) ∧ Below w.heap.size w w'
set_option maxRecDepth 100000 in
set_option maxHeartbeats 1600000 in
theorem copyD_any (D : Nat → Prop) (d : Nat) (L : Int) (ns : List DNode) (w : World) (h : DictW w D d L ns) (hok : DOk ns) (h1 : 1 ≤ L) (h3 : L ≤ 3) :
    Calls Try.prog 17 #[.pointer (some ⟨d, 0, none⟩)] w (CopyPost L ns w) := by
  obtain ⟨A, c, h5, hc1, hc2, hrow⟩ := h.rows
  have hd := h.2.1 d h.1
  have hL := h.2.2.2.1
  have hlen := hok.len
  have HN := hid (newD_yes L w h1 h3)
  have HROW := hid hrow; have HOK := hid hok; clear h hrow hok
  unfold maxLen at hc2
  go_enter Try.func17, Try.ntmps17
  go_wp2_with fail
  refine HN.out.mono ?_
  rintro e w1 ⟨d1, D1, rfl, hd1, hD1, hb1⟩
  have h5' := cellK hb1 hd h5
  have HD1 := hid hd1; have HG1 := hid hD1; have HB1 := hid hb1; clear hd1 hD1 hb1
  go_wp2
  go_loopw [5, 16] (fun _ i wr => ∃ (k : Nat) (D' : Nat → Prop), i = .int .i64 k ∧ k ≤ ns.length ∧ DictW wr D' d1 L (ns.take k) ∧ (∀ k, D' k → w.heap.size ≤ k) ∧ Below w.heap.size w wr) (fun _ i _ => ns.length - (intOf i).toNat)
  case atStart => exact ⟨0, D1, rfl, by omega, HD1.out, HG1.out, HB1.out⟩
  case round =>
    obtain ⟨k, D', rfl, hk, hdw, hg, hb⟩ := hrel
    have HDW := hid hdw; have HG := hid hg; have HB := hid hb; clear hdw hg hb
    by_cases hlt : k < ns.length
    · obtain ⟨b, rfl, hbl, hcA, hcB⟩ := HROW.out k hlt
      replace hcA := cellK HB.out hbl hcA
      replace hcB := cellK HB.out hbl hcB
      obtain ⟨hx1, hx2⟩ := HOK.out.small _ (List.getElem_mem hlt)
      have e1 : ns.take (k + 1) = ns.take k ++ [ns[k]] := List.take_succ_eq_append_getElem hlt
      have hnot : ns[k] ∉ ns.take k := by
        intro hm
        obtain ⟨j, hj, he⟩ := List.mem_iff_getElem.1 hm
        rw [List.length_take] at hj
        rw [List.getElem_take] at he
        have c1 := code_of_get HOK.out.inv.nodup (List.getElem?_eq_getElem hlt)
        have c2 := code_of_get HOK.out.inv.nodup (List.getElem?_eq_getElem (show j < ns.length by omega))
        rw [he, c1] at c2
        omega
      have hb2 : Below w.heap.size w (wr.alloc (.cells #[.int .i64 (ns[k].1 : Int), .string ns[k].2] 67)) := HB.out.alloc HB.out.size _
      have hp := putD_any D' d1 L (ns.take k) ns[k].1 ns[k].2 (wr.alloc (.cells #[.int .i64 (ns[k].1 : Int), .string ns[k].2] 67)) (HDW.out.below (bl1 _ _)) (by rw [List.length_take]; omega) hx1 (by omega) hnot
      have e2 : ns.take k ++ [(ns[k].1, ns[k].2)] = ns.take (k + 1) := e1.symm
      rw [e2] at hp
      generalize ns[k].1 = up at *
      generalize ns[k].2 = s at *
      have HP := hid hp; have HB2 := hid hb2
      clear hp e1 e2 hnot hb2
      go_wp2_with fail
      refine HP.out.mono ?_
      rintro e w4 ⟨D2, rfl, hg2, hd4, hc4⟩
      have HD4 := hid hd4
      have HB4 := hid (HB2.out.trans (hc4.below HB2.out.size HG.out))
      have HG4 := hid (show ∀ k, D2 k → w.heap.size ≤ k from fun k hk => (hg2.2 k hk).elim (HG.out k) (fun h => Nat.le_trans HB2.out.size h))
      clear hg2 hd4 hc4
      go_wp2
      go_roundw
      case rel => exact ⟨k + 1, D2, by go_num, by omega, HD4.out, HG4.out, HB4.out⟩
      case measure => simp [intOf]; omega
    · obtain rfl : k = ns.length := by omega
      go_wp2
      go_ret
      refine ⟨d1, D', rfl, ?_, HG.out, HB.out⟩
      have := HDW.out
      rwa [List.take_length] at this
end Go.Proofs.Ytbledkffkckjbaa
