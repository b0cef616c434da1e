/- The laws' helpers of layer 7: lives. -/
import Derived.Test.YtbledkffkckjbaaDictLike
namespace Go.Proofs.Ytbledkffkckjbaa
open Go.ChangeShapes Go.WideShapes Go.ChangeAt Go.RowKit Go.Maps
set_option linter.unusedVariables false

def sA : ByteArray := ⟨#[97]⟩
def sX : ByteArray := ⟨#[120]⟩
def sY : ByteArray := ⟨#[121]⟩
def lv1 : List DNode := [(0, sA), (1, sX)]
def lv2 : List DNode := [(0, sA), (1, sX), (1, sY)]
theorem lv_add1 : addDR [] 2 [sA, sX] = (lv1, [1, 2], 0) := by decide +kernel
theorem lv_add2 : addDR lv1 2 [sA, sY] = (lv2, [1, 3], 0) := by decide +kernel
theorem lv_code1 : codeDR lv2 [sA] = (1, 0) := by decide +kernel
theorem lv_code2 : codeDR lv2 [sX] = (0, 33) := by decide +kernel
theorem lv_up : upDR lv2 3 1 = (1, 0) := by decide +kernel
theorem lv_ok1 : DOk lv1 := by have := (link_add dok_nil 2 [sA, sX]).2; rwa [lv_add1] at this
theorem lv_ok2 : DOk lv2 := by have := (link_add lv_ok1 2 [sA, sY]).2; rwa [lv_add2] at this
/-- A slice just built of texts. -/
theorem built {w : World} {D : Nat → Prop} (hD : ∀ k, D k → k < w.heap.size) (p : List ByteArray) (t : TypeId) (n : Nat) (hn : p.length = n) (hp : p.length ≤ 1000) :
    SlE (w.alloc (.cells (svals p).toArray t)) (fun g => ¬ D g) (.slice (some ⟨w.heap.size, 0, none⟩) n n) (svals p) := by
  subst hn
  refine ⟨_, _, by rw [svals_len], by rw [svals_len]; omega, by unfold maxLen; omega, fun _ => ⟨w.heap.size, 0, rfl, fun h => by have := hD _ h; omega, fun j u hu => ?_⟩⟩
  rw [Nat.zero_add, World.cell?_alloc_at _ _ _ _ rfl]
  simpa using hu
set_option maxRecDepth 100000 in
set_option maxHeartbeats 1600000 in
theorem livesD_any (w : World) : Calls Try.prog 13 #[] w (Gives (.bool true) w) := by
  have t1 := fun W => newD_yes 2 W (by omega) (by omega)
  go_enter Try.func13, Try.ntmps13
  go_wp2_with fail
  refine (t1 _).mono ?_
  rintro e w1 ⟨d, D, rfl, hd1, hD1, hb1⟩
  have HD1 := hid hd1; have HG1 := hid hD1; have HB1 := hid hb1; clear hd1 hD1 hb1 t1
  go_wp2_with fail
  have HW2 := hid (HD1.out.below (bl1 w1 (.cells (svals [sA, sX]).toArray 9)))
  have a1 := addD_any D d 2 [] _ [sA, sX] _ HW2.out dinv_nil (by simp) (built HD1.out.2.1 [sA, sX] 9 2 rfl (by simp)) (by unfold StrOk; decide +kernel) (by simp)
  rw [lv_add1] at a1
  refine Calls.mono a1 ?_
  clear a1
  rintro e w3 ⟨v1, D1, rfl, hown1, hnot1, hg1, hd1, hc1⟩
  have hB2 : Below w.heap.size w (w1.alloc (.cells (svals [sA, sX]).toArray 9)) := HB1.out.alloc HB1.out.size _
  have HB3 := hid (hB2.trans (hc1.below hB2.size HG1.out))
  have HG3 := hid (show ∀ k, D1 k → w.heap.size ≤ k from fun k hk => (hg1.2 k hk).elim (HG1.out k) (fun h => Nat.le_trans hB2.size h))
  have HO1 := hid hown1; have HN1 := hid hnot1; have HD3 := hid hd1
  clear hown1 hnot1 hg1 hd1 hc1 hB2
  go_wp2_with fail
  have a2 := addD_any D1 d 2 lv1 _ [sA, sY] _ (HD3.out.below (bl1 w3 (.cells (svals [sA, sY]).toArray 9))) lv_ok1.inv (by decide) (built HD3.out.2.1 [sA, sY] 9 2 rfl (by simp)) (by unfold StrOk; decide +kernel) (by simp)
  rw [lv_add2] at a2
  refine Calls.mono a2 ?_
  clear a2
  rintro e w5 ⟨v2, D2, rfl, hown2, hnot2, hg2, hd2, hc2⟩
  have hB4 : Below w.heap.size w (w3.alloc (.cells (svals [sA, sY]).toArray 9)) := HB3.out.alloc HB3.out.size _
  have HB5 := hid (hB4.trans (hc2.below hB4.size HG3.out))
  have hk1 := own_kept (HO1.out.alloc (.cells (svals [sA, sY]).toArray 9)) (fun g hg => hc2.block g ((HO1.out.alloc _).lt g hg).2 (HN1.out g hg))
  have S1 := hid (Sl.of_own hk1); have S2 := hid (Sl.of_own hown2); have HD5 := hid hd2
  clear hown2 hnot2 hg2 hd2 hc2 hB4 hk1
  go_wp2_with fail
  have a3 := codeD_any D2 d 2 lv2 _ [sA] _ (HD5.out.below (bl1 w5 (.cells (svals [sA]).toArray 9))) lv_ok2.inv (by decide) (built HD5.out.2.1 [sA] 9 1 rfl (by simp)).sl (by unfold StrOk; decide +kernel) (by simp)
  rw [lv_code1] at a3
  refine Calls.mono a3 ?_
  clear a3
  rintro e w7 ⟨rfl, hb7⟩
  have HB7 := hid ((bl1 w5 (.cells (svals [sA]).toArray 9)).trans (hb7.mono (bl1 w5 (.cells (svals [sA]).toArray 9)).size)); clear hb7
  have HD7 := hid (HD5.out.below HB7.out)
  go_wp2_with fail
  have a4 := codeD_any D2 d 2 lv2 _ [sX] _ (HD7.out.below (bl1 w7 (.cells (svals [sX]).toArray 9))) lv_ok2.inv (by decide) (built HD7.out.2.1 [sX] 9 1 rfl (by simp)).sl (by unfold StrOk; decide +kernel) (by simp)
  rw [lv_code2] at a4
  refine Calls.mono a4 ?_
  clear a4
  rintro e w9 ⟨rfl, hb9⟩
  have HB9 := hid (HB7.out.trans (((bl1 w7 (.cells (svals [sX]).toArray 9)).trans (hb9.mono (bl1 w7 (.cells (svals [sX]).toArray 9)).size)).mono HB7.out.size)); clear hb9
  have HD9 := hid (HD5.out.below HB9.out)
  go_wp2_with fail
  have a5 := upD_any D2 d 2 lv2 3 1 w9 HD9.out lv_ok2.inv (by decide)
  rw [lv_up] at a5
  refine Calls.mono a5 ?_
  clear a5
  rintro e w10 ⟨rfl, hb10⟩
  have HB10 := hid (HB9.out.trans (hb10.mono HB9.out.size)); clear hb10
  have HLN := hid (lenD_any D2 d 2 lv2 w10 (HD5.out.below HB10.out))
  obtain ⟨A1, c1, rfl, hc1, hc1', hA1⟩ := S1.out
  obtain ⟨b1, off1, rfl, hbl1, hcell1⟩ := hA1 (by decide)
  obtain ⟨A2, c2, rfl, hc2, hc2', hA2⟩ := S2.out
  obtain ⟨b2, off2, rfl, hbl2, hcell2⟩ := hA2 (by decide)
  have q1 := cellK HB10.out hbl1 (hcell1 1 _ rfl)
  have q2 := cellK HB10.out hbl2 (hcell2 0 _ rfl)
  rw [Nat.add_zero] at q2
  have q3 := cellK HB10.out hbl2 (hcell2 1 _ rfl)
  have e1 : (nvals [1, 2]).length = 2 := rfl
  have e2 : (nvals [1, 3]).length = 2 := rfl
  rw [e1] at hc1; rw [e2] at hc2
  clear hcell1 hcell2 hA1 hA2 S1 S2 HO1 HN1
  simp only [e1, e2]
  go_wp2_with fail
  refine HLN.out.mono ?_
  rintro e w11 ⟨rfl, hq11⟩
  go_wp2
  go_ret
  exact ⟨rfl, HB5.out.trans ((HB10.out.mono HB5.out.size).trans (hq11.below _))⟩
end Go.Proofs.Ytbledkffkckjbaa
