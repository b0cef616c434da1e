/- 3 texts of this claim, in build order. -/
import Derived.Test.YtkgifbnkkmeoiaaGreatDoorPnadfnpkm
import Derived.Test.YtkgifbnkkmeoiaaGreatDoorPnmhhpghe
import Derived.Test.YtkgifbnkkmeoiaaGreatDoorPmfcnoomp
import Derived.Test.YtkgifbnkkmeoiaaGreatDoorPfimkpfpn
import Derived.Laws.BytesArg
import Derived.Test.YtkgifbnkkmeoiaaGreatDoorPajbicmld
import Derived.Deep.RegionLaw
/- The reference's PutCmd and PutEntry. -/
namespace Go.Proofs.YtkgifbnkkmeoiaaGreatDoor
open Go.ChangeShapes Go.WideShapes Go.ChangeAt Go.RowKit
set_option linter.unusedVariables false
set_option linter.unusedSimpArgs false

theorem numB_true {n a : Int} (h : numB n a = true) : ¬ n < a ∧ ¬ 1099511627776 < n := by have := of_decide_eq_true h; omega
theorem numB_false {n a : Int} (h : numB n a = false) : n < a ∨ (¬ n < a ∧ 1099511627776 < n) := by have := of_decide_eq_false h; omega
set_option maxRecDepth 100000 in
set_option maxHeartbeats 1600000 in
theorem refPutCmd_any (v x : Value) (b : List UInt8) (c : CmdX) (w : World) (hv : Sl w w.heap.size v (bvals b)) (hb0 : b.length ≤ 40000) (hx : CmdV w w.heap.size x c) :
    Calls Tryz.prog 52 #[v, x] w (PutR b (putC c) (errC c) w) := by
  obtain ⟨A, k, rfl, hF, hi1, hi2, hi3⟩ := hx
  obtain ⟨op, ses, seq, fs⟩ := c
  simp only at hi1 hi2 hi3 hF ⊢
  obtain ⟨W1, hW1⟩ : ∃ W1, W1 = w.alloc (.cells #[.int .i64 op, .int .i64 ses, .int .i64 seq, .slice A fs.length k] 47) := ⟨_, rfl⟩
  have c0 : W1.cell? ⟨w.heap.size, 0, none⟩ = some (.int .i64 op) := by rw [hW1]; simp [go_sem]
  have c1 : W1.cell? ⟨w.heap.size, 1, none⟩ = some (.int .i64 ses) := by rw [hW1]; simp [go_sem]
  have c2 : W1.cell? ⟨w.heap.size, 2, none⟩ = some (.int .i64 seq) := by rw [hW1]; simp [go_sem]
  have c3 : W1.cell? ⟨w.heap.size, 3, none⟩ = some (.slice A fs.length k) := by rw [hW1]; simp [go_sem]
  have hb1 : Below w.heap.size w W1 := by rw [hW1]; exact bl1 _ _
  have hz1 : W1.heap.size = w.heap.size + 1 := by rw [hW1]; simp
  obtain ⟨q, hq⟩ : ∃ q, q = w.heap.size := ⟨_, rfl⟩
  have HV := hid ((hv.below hb1).more hb1.size)
  have HF := hid (good_facts.on hF hb1)
  obtain ⟨Va, vc, rfl, -, -, -⟩ := id hv
  rw [bvals_len] at HV ⊢
  have HB1 := hid hb1; have HW1 := hid hW1
  have hq1 : q < W1.heap.size := by omega
  have HQ := hid hq.symm
  rw [← hq] at c0 c1 c2 c3 HB1
  clear hv hF hb1 hW1 hz1 hq
  rcases errC_ways op ses seq fs with ⟨h1, hE⟩ | ⟨h1, h2, hE⟩ | ⟨h1, h2, hs1, hE⟩ | ⟨h1, h2, hs1, hs2, hE⟩ | ⟨h1, h2, hs1, hs2, hE⟩
  · rw [hE]
    clear hE
    go_enter Tryz.func52, Tryz.ntmps52
    go_upto_region 1 with (fail)
    rw [← HW1.out, HQ.out]
    go_wp2
    go_ret2
    exact .inr ⟨by decide, rfl, by rw [HQ.out]; exact HB1.out⟩
  · rw [hE]
    clear hE
    go_enter Tryz.func52, Tryz.ntmps52
    go_upto_region 1 with (fail)
    rw [← HW1.out, HQ.out]
    go_wp2
    go_ret2
    exact .inr ⟨by decide, rfl, by rw [HQ.out]; exact HB1.out⟩
  · rw [hE]
    have hn := numB_false hs1
    clear hE hs1
    rcases hn with hn | ⟨hn, hn2⟩
    all_goals
      go_enter Tryz.func52, Tryz.ntmps52
      go_upto_region 1 with (fail)
      rw [← HW1.out, HQ.out]
      go_wp2
      go_ret2
      exact .inr ⟨by decide, rfl, by rw [HQ.out]; exact HB1.out⟩
  · rw [hE]
    obtain ⟨g1, g2⟩ := numB_true hs1
    have hn := numB_false hs2
    clear hE hs1 hs2
    rcases hn with hn | ⟨hn, hn2⟩
    all_goals
      go_enter Tryz.func52, Tryz.ntmps52
      go_upto_region 1 with (fail)
      rw [← HW1.out, HQ.out]
      go_wp2
      go_ret2
      exact .inr ⟨by decide, rfl, by rw [HQ.out]; exact HB1.out⟩
  · rw [hE]
    obtain ⟨g1, g2⟩ := numB_true hs1
    obtain ⟨g3, g4⟩ := numB_true hs2
    clear hE hs1 hs2
    have a1 := putInt_le op
    have a2 := putInt_le ses
    have a3 := putInt_le seq
    obtain ⟨T, hT⟩ : ∃ T, T = putC (op, ses, seq, fs) := ⟨_, rfl⟩
    rw [← hT]
    have HT := hid (show b ++ T = b ++ putInt op ++ putInt ses ++ putInt seq ++ putFacts fs by rw [hT]; simp [putC])
    have hi1 := hid hi1; have hi2 := hid hi2; have hi3 := hid hi3
    clear hT
    have HC1 := hid (refPutI8 _ b op W1 HV.out (by omega) hi1.out)
    go_enter Tryz.func52, Tryz.ntmps52
    go_upto_region 1 with (fail)
    rw [← HW1.out, HQ.out]
    go_wp2_with fail
    refine HC1.out.mono ?_
    rintro e w5 ⟨v5, rfl, ho5, hb5⟩
    have hq5 := Nat.lt_of_lt_of_le hq1 hb5.size
    have c1 := cellK hb5 (by omega) c1; have c2 := cellK hb5 (by omega) c2; have c3 := cellK hb5 (by omega) c3
    have HB5 := hid hb5
    have HC2 := hid (refPutI8 v5 (b ++ putInt op) ses w5 ho5.sl (by simp only [List.length_append]; omega) hi2.out)
    clear ho5 hb5
    go_wp2_with fail
    refine HC2.out.mono ?_
    rintro e w6 ⟨v6, rfl, ho6, hb6⟩
    have hq6 := Nat.lt_of_lt_of_le hq5 hb6.size
    have c2 := cellK hb6 (by omega) c2; have c3 := cellK hb6 (by omega) c3
    have HB6 := hid (HB5.out.trans (hb6.mono HB5.out.size))
    have HC3 := hid (refPutI8 v6 (b ++ putInt op ++ putInt ses) seq w6 ho6.sl (by simp only [List.length_append]; omega) hi3.out)
    clear ho6 hb6
    go_wp2_with fail
    refine HC3.out.mono ?_
    rintro e w7 ⟨v7, rfl, ho7, hb7⟩
    have c3 := cellK hb7 (by omega) c3
    have HB7 := hid (HB6.out.trans (hb7.mono HB6.out.size))
    have HC4 := hid (refPutFacts_any v7 (.slice A fs.length k) (b ++ putInt op ++ putInt ses ++ putInt seq) fs w7 ho7.sl (by simp only [List.length_append]; omega) (good_facts.on HF.out HB7.out))
    clear ho7 hb7
    go_wp2_with fail
    refine HC4.out.mono ?_
    rintro e w8 h8
    obtain ⟨v8, rfl, ho8, hb8⟩ := h8.one
    have HO8 := hid ho8
    have HB8 := hid (HB7.out.trans (hb8.mono HB7.out.size))
    clear ho8 hb8 h8
    have z8 := HB7.out.size
    go_wp2
    go_ret2
    have hz := HB1.out.size
    refine Put1.back ?_
    rw [HT.out]
    exact Put1.from_ HO8.out (by have := HQ.out; omega) (by rw [HQ.out]; exact HB1.out.trans (HB8.out.mono (by omega)))
set_option maxRecDepth 100000 in
set_option maxHeartbeats 1600000 in
theorem refPutEnt_any (v x : Value) (b : List UInt8) (c : EntX) (w : World) (hv : Sl w w.heap.size v (bvals b)) (hb0 : b.length ≤ 30000) (hx : EntV w w.heap.size x c) :
    Calls Tryz.prog 23 #[v, x] w (PutR b (putN c) (errN c) w) := by
  obtain ⟨ix, tm, cm⟩ := c
  obtain ⟨op, ses, seq, fs⟩ := cm
  obtain ⟨A, k, rfl, hF, hi1, hi2, hi3, hi4, hi5⟩ := hx
  simp only at hi1 hi2 hi3 hi4 hi5 hF ⊢
  have hC : CmdV w w.heap.size (.agg #[.int .i64 op, .int .i64 ses, .int .i64 seq, .slice A fs.length k]) (op, ses, seq, fs) := ⟨A, k, rfl, hF, hi3, hi4, hi5⟩
  obtain ⟨W1, hW1⟩ : ∃ W1, W1 = w.alloc (.cells #[.int .i64 ix, .int .i64 tm, .int .i64 op, .int .i64 ses, .int .i64 seq, .slice A fs.length k] 49) := ⟨_, rfl⟩
  have c0 : W1.cell? ⟨w.heap.size, 0, none⟩ = some (.int .i64 ix) := by rw [hW1]; simp [go_sem]
  have c1 : W1.cell? ⟨w.heap.size, 1, none⟩ = some (.int .i64 tm) := by rw [hW1]; simp [go_sem]
  have c2 : W1.cell? ⟨w.heap.size, 2, none⟩ = some (.int .i64 op) := by rw [hW1]; simp [go_sem]
  have c3 : W1.cell? ⟨w.heap.size, 3, none⟩ = some (.int .i64 ses) := by rw [hW1]; simp [go_sem]
  have c4 : W1.cell? ⟨w.heap.size, 4, none⟩ = some (.int .i64 seq) := by rw [hW1]; simp [go_sem]
  have c5 : W1.cell? ⟨w.heap.size, 5, none⟩ = some (.slice A fs.length k) := by rw [hW1]; simp [go_sem]
  have hb1 : Below w.heap.size w W1 := by rw [hW1]; exact bl1 _ _
  have hz1 : W1.heap.size = w.heap.size + 1 := by rw [hW1]; simp
  obtain ⟨q, hq⟩ : ∃ q, q = w.heap.size := ⟨_, rfl⟩
  have HV := hid ((hv.below hb1).more hb1.size)
  have HC := hid (hC.on hb1)
  obtain ⟨Va, vc, rfl, -, -, -⟩ := id hv
  rw [bvals_len] at HV ⊢
  have HB1 := hid hb1; have HW1 := hid hW1
  have hq1 : q < W1.heap.size := by omega
  have HQ := hid hq.symm
  rw [← hq] at c0 c1 c2 c3 c4 c5 HB1
  clear hv hC hb1 hW1 hz1 hq
  rcases errN_ways ix tm (op, ses, seq, fs) with ⟨hs1, hE⟩ | ⟨hs1, hs2, hE⟩ | ⟨hs1, hs2, hE⟩
  · rw [hE]
    have hn := numB_false hs1
    clear hE hs1
    rcases hn with hn | ⟨hn, hn2⟩
    all_goals
      go_enter Tryz.func23, Tryz.ntmps23
      go_upto_region 1 with (fail)
      rw [← HW1.out, HQ.out]
      go_wp2
      go_ret2
      exact .inr ⟨by decide, rfl, by rw [HQ.out]; exact HB1.out⟩
  · rw [hE]
    obtain ⟨g1, g2⟩ := numB_true hs1
    have hn := numB_false hs2
    clear hE hs1 hs2
    rcases hn with hn | ⟨hn, hn2⟩
    all_goals
      go_enter Tryz.func23, Tryz.ntmps23
      go_upto_region 1 with (fail)
      rw [← HW1.out, HQ.out]
      go_wp2
      go_ret2
      exact .inr ⟨by decide, rfl, by rw [HQ.out]; exact HB1.out⟩
  · rw [hE]
    obtain ⟨g1, g2⟩ := numB_true hs1
    obtain ⟨g3, g4⟩ := numB_true hs2
    clear hE hs1 hs2
    have a1 := putInt_le ix
    have a2 := putInt_le tm
    obtain ⟨T, hT⟩ : ∃ T, T = putN (ix, tm, op, ses, seq, fs) := ⟨_, rfl⟩
    rw [← hT]
    have HT := hid (show b ++ T = b ++ putInt ix ++ putInt tm ++ putC (op, ses, seq, fs) by rw [hT]; simp [putN])
    have hi1 := hid hi1; have hi2 := hid hi2
    have HCM := hid (fun v (b' : List UInt8) W (h1 : Sl W W.heap.size v (bvals b')) (h2 : b'.length ≤ 40000) (hb : Below W1.heap.size W1 W) => (refPutCmd_any v (.agg #[.int .i64 op, .int .i64 ses, .int .i64 seq, .slice A fs.length k]) b' (op, ses, seq, fs) W h1 h2 (HC.out.on hb)).mono (fun e w' h => h.one))
    generalize errC (op, ses, seq, fs) = er at *
    generalize putC (op, ses, seq, fs) = pc at *
    clear hT hF hi3 hi4 hi5
    have HC1 := hid (refPutI8 _ b ix W1 HV.out (by omega) hi1.out)
    go_enter Tryz.func23, Tryz.ntmps23
    go_upto_region 1 with (fail)
    rw [← HW1.out, HQ.out]
    go_wp2_with fail
    refine HC1.out.mono ?_
    rintro e w5 ⟨v5, rfl, ho5, hb5⟩
    have hq5 := Nat.lt_of_lt_of_le hq1 hb5.size
    have c1 := cellK hb5 (by omega) c1; have c2 := cellK hb5 (by omega) c2; have c3 := cellK hb5 (by omega) c3; have c4 := cellK hb5 (by omega) c4; have c5 := cellK hb5 (by omega) c5
    have HB5 := hid hb5
    have HC2 := hid (refPutI8 v5 (b ++ putInt ix) tm w5 ho5.sl (by simp only [List.length_append]; omega) hi2.out)
    clear ho5 hb5
    go_wp2_with fail
    refine HC2.out.mono ?_
    rintro e w6 ⟨v6, rfl, ho6, hb6⟩
    have c2 := cellK hb6 (by omega) c2; have c3 := cellK hb6 (by omega) c3; have c4 := cellK hb6 (by omega) c4; have c5 := cellK hb6 (by omega) c5
    have HB6 := hid (HB5.out.trans (hb6.mono HB5.out.size))
    have HC3 := hid (HCM.out v6 (b ++ putInt ix ++ putInt tm) w6 ho6.sl (by simp only [List.length_append]; omega) HB6.out)
    clear ho6 hb6
    go_wp2_with fail
    refine HC3.out.mono ?_
    rintro e w8 ⟨v8, rfl, ho8, hb8⟩
    have HO8 := hid ho8
    have HB8 := hid (HB6.out.trans (hb8.mono HB6.out.size))
    clear ho8 hb8
    have z8 := HB6.out.size
    go_wp2
    go_ret2
    have hz := HB1.out.size
    refine Put1.back ?_
    rw [HT.out]
    exact Put1.from_ HO8.out (by have := HQ.out; omega) (by rw [HQ.out]; exact HB1.out.trans (HB8.out.mono (by omega)))
end Go.Proofs.YtkgifbnkkmeoiaaGreatDoor
/- wire.PutText (seats whose PutInt stands in WirePutI). -/
namespace Go.Proofs.YtkgifbnkkmeoiaaGreatDoor
open Go.ChangeShapes Go.WideShapes Go.ChangeAt Go.RowKit
set_option linter.unusedVariables false
set_option linter.unusedSimpArgs false

theorem putText8 (v : Value) (l : List UInt8) (s : ByteArray) (w : World) (hv : Sl w w.heap.size v (bvals l)) (hl : l.length + s.size ≤ 1000000) :
    Calls Tryz.prog 20 #[v, .string s] w (Put8 (l ++ putInt s.size ++ s.data.toList) w) := by
  refine (putText_any v l s w hv (by omega)).mono ?_
  rintro e w' ⟨v', rfl, h, hb⟩
  refine ⟨v', rfl, ?_, hb⟩
  unfold Own8
  rw [List.length_append, List.length_append, show s.data.toList.length = s.size from by simp]
  exact h
end Go.Proofs.YtkgifbnkkmeoiaaGreatDoor
/- links.Put of the example's message. -/
namespace Go.Proofs.YtkgifbnkkmeoiaaGreatDoor
open Go.ChangeShapes Go.WideShapes Go.ChangeAt Go.RowKit
set_option linter.unusedVariables false
set_option linter.unusedSimpArgs false

def liveNs : List Int := [1, 2, 1, 0, 0, 0, 0, 0, 0, 0, 0]
def liveBs (k : Nat) : List UInt8 := (liveNs.take k).flatMap putInt
def LvRel (w : World) (b i : Value) (wr : World) : Prop := ∃ k : Nat, k ≤ 11 ∧ i = .int .i64 k ∧ Own8 wr w.heap.size b (liveBs k) ∧ Below w.heap.size w wr
theorem liveBs_le (k : Nat) (hk : k ≤ 11) : (liveBs k).length ≤ 11 := by
  have : ∀ k : Fin 12, (liveBs k.val).length ≤ 11 := by decide +kernel
  exact this ⟨k, by omega⟩
theorem liveBs_succ (k : Nat) (hk : k < 11) : liveBs (k + 1) = liveBs k ++ putInt (liveNs.getD k 0) := by
  have : ∀ k : Fin 11, liveBs (k.val + 1) = liveBs k.val ++ putInt (liveNs.getD k.val 0) := by decide +kernel
  exact this ⟨k, hk⟩
theorem liveNs_bnd (k : Nat) (hk : k < 11) : 0 ≤ liveNs.getD k 0 ∧ liveNs.getD k 0 ≤ 2 := by
  have : ∀ k : Fin 11, 0 ≤ liveNs.getD k.val 0 ∧ liveNs.getD k.val 0 ≤ 2 := by decide +kernel
  exact this ⟨k, hk⟩
def liveMsg : Value := .agg #[.int .i64 1, .int .i64 1, .int .i64 2, .int .i64 1, .int .i64 0, .int .i64 0, .int .i64 0, .int .i64 0, .bool false, .int .i64 0, .int .i64 0, .slice none 0 0, .slice none 0 0]
theorem liveBody : liveBs 11 ++ putInt (ByteArray.empty).size ++ (ByteArray.empty).data.toList = [2, 4, 2, 0, 0, 0, 0, 0, 0, 0, 0, 0] := by decide +kernel
theorem number_eq (n a b : Int) (w : World) : Calls Tryz.prog 16 #[.int .i64 n, .int .i64 a, .int .i64 b] w fun e w' => e = .returned (.bool (decide (a ≤ n ∧ n ≤ b))) ∧ w = w' := by
  go_enter Tryz.func16, Tryz.ntmps16
  have hc : (a ≤ n ∧ n ≤ b) ∨ (a ≤ n ∧ ¬ n ≤ b) ∨ ¬ a ≤ n := by omega
  rcases hc with ⟨h1, h2⟩ | ⟨h1, h2⟩ | h1
  · go_wp2
    go_ret
    exact ⟨by simp [h1, h2], rfl⟩
  · go_wp2
    go_ret
    exact ⟨by simp [h1, h2], rfl⟩
  · have hf : decide (a ≤ n ∧ n ≤ b) = false := decide_eq_false (by omega)
    rw [hf]
    clear hf
    go_wp2
    go_ret
    exact ⟨rfl, rfl⟩
set_option maxRecDepth 100000 in
set_option maxHeartbeats 1600000 in
theorem putLive_any (w : World) : Calls Tryz.prog 7 #[liveMsg] w (Put8E (frameB 1 [2, 4, 2, 0, 0, 0, 0, 0, 0, 0, 0, 0]) 0 w) := by
  unfold liveMsg
  have HN1 := hid (number_eq 1 1 8); have HN2 := hid (number_eq 1 1 7); have HN3 := hid (number_eq 2 1 7)
  rw [decide_eq_true (by omega)] at HN1 HN2 HN3
  obtain ⟨F, hF⟩ : ∃ F, F = frameB 1 [2, 4, 2, 0, 0, 0, 0, 0, 0, 0, 0, 0] := ⟨_, rfl⟩
  rw [← hF]
  obtain ⟨W1, hW1⟩ : ∃ W1, W1 = w.alloc (.cells #[.int .i64 1, .int .i64 1, .int .i64 2, .int .i64 1, .int .i64 0, .int .i64 0, .int .i64 0, .int .i64 0, .bool false, .int .i64 0, .int .i64 0, .slice none 0 0, .slice none 0 0] 25) := ⟨_, rfl⟩
  have hcl : ∀ i v, (#[Value.int .i64 1, .int .i64 1, .int .i64 2, .int .i64 1, .int .i64 0, .int .i64 0, .int .i64 0, .int .i64 0, .bool false, .int .i64 0, .int .i64 0, .slice none 0 0, .slice none 0 0] : Array Value)[i]? = some v → W1.cell? ⟨w.heap.size, i, none⟩ = some v := fun i v h => by
    rw [hW1, World.cell?_alloc_at _ _ _ _ rfl]; exact h
  have c0 := hcl 0 _ rfl; have c1 := hcl 1 _ rfl; have c2 := hcl 2 _ rfl; have c3 := hcl 3 _ rfl; have c4 := hcl 4 _ rfl; have c5 := hcl 5 _ rfl; have c6 := hcl 6 _ rfl; have c7 := hcl 7 _ rfl; have c8 := hcl 8 _ rfl; have c9 := hcl 9 _ rfl; have c10 := hcl 10 _ rfl; have c11 := hcl 11 _ rfl; have c12 := hcl 12 _ rfl
  have HW1 := hid hW1; have HF := hid hF
  have hb1 : Below w.heap.size w W1 := by rw [hW1]; exact bl1 _ _
  have hz1 : W1.heap.size = w.heap.size + 1 := by rw [hW1]; simp
  have HB1 := hid hb1
  clear hW1 hF hcl hb1
  go_enter Tryz.func7, Tryz.ntmps7
  go_upto_region 1 with (fail)
  rw [← HW1.out]
  go_wp2_with fail
  refine (HN1.out W1).mono ?_
  rintro e w1 ⟨rfl, rfl⟩
  go_wp2_with fail
  refine (HN2.out W1).mono ?_
  rintro e w1 ⟨rfl, rfl⟩
  go_wp2_with fail
  refine (HN3.out W1).mono ?_
  rintro e w1 ⟨rfl, rfl⟩
  go_upto_region 8 with (fail)
  obtain ⟨W2, hW2⟩ : ∃ W2, W2 = W1.alloc (.cells #[.int .i64 1, .int .i64 2, .int .i64 1, .int .i64 0, .int .i64 0, .int .i64 0, .int .i64 0, .int .i64 0, .int .i64 0, .int .i64 0, .int .i64 0] 3) := ⟨_, rfl⟩
  rw [← hW2]
  have hic : ∀ k, k < 11 → W2.cell? ⟨w.heap.size + 1, k, none⟩ = some (.int .i64 (liveNs.getD k 0)) := fun k hk => by
    rw [hW2, World.cell?_alloc_at _ _ _ _ hz1.symm]
    have : ∀ k : Fin 11, (#[Value.int .i64 1, .int .i64 2, .int .i64 1, .int .i64 0, .int .i64 0, .int .i64 0, .int .i64 0, .int .i64 0, .int .i64 0, .int .i64 0, .int .i64 0] : Array Value)[k.val]? = some (.int .i64 (liveNs.getD k.val 0)) := fun k => by
      match k with
      | ⟨0, _⟩ => rfl
      | ⟨1, _⟩ => rfl
      | ⟨2, _⟩ => rfl
      | ⟨3, _⟩ => rfl
      | ⟨4, _⟩ => rfl
      | ⟨5, _⟩ => rfl
      | ⟨6, _⟩ => rfl
      | ⟨7, _⟩ => rfl
      | ⟨8, _⟩ => rfl
      | ⟨9, _⟩ => rfl
      | ⟨10, _⟩ => rfl
    exact this ⟨k, hk⟩
  have hb2 : Below W1.heap.size W1 W2 := by rw [hW2]; exact bl1 _ _
  have hz2 : W2.heap.size = w.heap.size + 2 := by rw [hW2]; simp; omega
  have HIC := hid hic; have HB2 := hid hb2
  clear hW2 hic hb2
  go_loopw [5, 73] (fun b i wr => LvRel W2 b i wr) (fun _ i _ => 11 - (intOf i).toNat)
  case atStart => exact ⟨0, by omega, rfl, Own8.nil_ _ _, Below.refl _ _⟩
  case round =>
    obtain ⟨k, hk, rfl, ho, hb⟩ := hrel
    by_cases hlt : k < 11
    · have q := cellK hb (by omega) (HIC.out k hlt)
      have hsu := liveBs_succ k hlt
      have hbn := liveNs_bnd k hlt
      have hle := liveBs_le k (by omega)
      have HN := hid (fun W => number_eq (liveNs.getD k 0) 0 1099511627776 W)
      rw [decide_eq_true (by omega)] at HN
      generalize liveNs.getD k 0 = z at *
      have HPU := hid (putI8 u5 (liveBs k) z wr ho.sl (by omega) (by unfold InI64; omega))
      rw [← hsu] at HPU
      obtain ⟨A, c, rfl⟩ := ho.form
      have HB := hid hb
      clear ho hb hsu
      go_wp2_with fail
      refine (HN.out wr).mono ?_
      rintro e w1 ⟨rfl, rfl⟩
      go_wp2_with fail
      refine HPU.out.mono ?_
      rintro e w1 ⟨v1, rfl, ho1, hb1⟩
      have HO1 := hid (Own8.less ho1 (show W2.heap.size ≤ wr.heap.size from HB.out.size)); have HB1 := hid (HB.out.trans (hb1.mono HB.out.size))
      clear ho1 hb1
      go_wp2
      go_roundw
      case rel => exact ⟨k + 1, by omega, by go_num, HO1.out, HB1.out⟩
      case measure => simp [intOf]; omega
    · obtain rfl : k = 11 := by omega
      have hle := liveBs_le 11 (by omega)
      have hs2 := hb.size
      have c0 := cellK hb (by omega) (cellK HB2.out (by omega) c0)
      have c11 := cellK hb (by omega) (cellK HB2.out (by omega) c11)
      have c12 := cellK hb (by omega) (cellK HB2.out (by omega) c12)
      obtain ⟨A, c, rfl⟩ := ho.form
      clear c1 c2 c3 c4 c5 c6 c7 c8 c9 c10
      have HB := hid hb; have HO := hid ho
      have HPT := hid (fun W (hq : Qu wr W) => (putText8 (.slice A (liveBs 11).length c) (liveBs 11) ByteArray.empty W ((HO.out.sl.qu' hq).more (by rw [hq.size]; exact Nat.le_refl _)) (by show _ + 0 ≤ _; omega)).mono (fun e w' h => (show ∃ v, e = .returned v ∧ Own8 w' wr.heap.size v [2, 4, 2, 0, 0, 0, 0, 0, 0, 0, 0, 0] ∧ Below wr.heap.size wr w' by
        obtain ⟨v, e1, h1, h2⟩ := h
        rw [liveBody] at h1
        exact ⟨v, e1, Own8.less h1 (by rw [hq.size]; exact Nat.le_refl _), (hq.below _).trans (h2.mono (by rw [hq.size]; exact Nat.le_refl _))⟩)))
      have hbl : (liveBs 11).length ≤ 11 := liveBs_le 11 (by omega)
      generalize liveBs 11 = bs at *
      have hcv : ∀ W : World, (convert 23 9 (.slice none 0 0)).run Tryz.prog W = .ok (.string ByteArray.empty) W := fun W => text_sl (l := []) (w := W) (B := 0) Sl.nil_
      generalize ByteArray.empty = em at *
      have HFR := hid (fun v W (hx : Sl W W.heap.size v (bvals [2, 4, 2, 0, 0, 0, 0, 0, 0, 0, 0, 0])) => frameP_any (.slice none 0 0) v [] 1 [2, 4, 2, 0, 0, 0, 0, 0, 0, 0, 0, 0] W Sl.nil_ (by simp) hx (by unfold InI64; omega))
      rw [show framePut [] 1 [2, 4, 2, 0, 0, 0, 0, 0, 0, 0, 0, 0] = (F, 0) by rw [HF.out]; rfl] at HFR
      clear hb ho
      obtain ⟨wo, hwo⟩ : ∃ wo : World, wo = wr := ⟨_, rfl⟩
      subst hwo
      go_wp2
      go_loopw [5, 87] (fun b i wq => b = .slice A bs.length c ∧ i = .int .i64 0 ∧ wo = wq) (fun _ _ _ => 0)
      case atStart => exact ⟨rfl, rfl, rfl⟩
      case round =>
      obtain ⟨rfl, rfl, rfl⟩ := hrel
      go_upto_region 22 with (fail)
      go_region_law (first
        | (go_simp; go_at_call 20; refine (HPT.out _ ⟨1, rfl⟩).mono ?_; rintro e w5 ⟨v5, rfl, ho5, hb5⟩; have c0 := cellK hb5 (by omega) c0; have HO5 := hid ho5; have HB5 := hid hb5; clear ho5 hb5)
        | (go_simp; go_at_call 19; refine (HFR.out _ _ HO5.out.sl).mono ?_; rintro e w6 ⟨v6, rfl, ho6, hb6⟩; have HO6 := hid ho6; have HB6 := hid (HB5.out.trans (hb6.mono HB5.out.size)); clear ho6 hb6))
      all_goals
        go_wp2
        go_ret2
        have z5 := HB5.out.size
        exact ⟨_, rfl, Own8.less HO6.out (by omega), HB1.out.trans ((HB2.out.mono (by omega)).trans ((HB.out.trans (HB6.out.mono hs2)).mono (by omega)))⟩
end Go.Proofs.YtkgifbnkkmeoiaaGreatDoor
