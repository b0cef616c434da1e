/- links.Put of the example's message. -/
import Derived.Test.YtkgifbnkkmeoiaaFrame
import Derived.Test.YtkgifbnkkmeoiaaPutTextI
import Derived.Deep.RegionLaw
namespace Go.Proofs.Ytkgifbnkkmeoiaa
open Go.ChangeShapes Go.WideShapes Go.ChangeAt Go.RowKit
set_option linter.unusedVariables false
set_option linter.unusedSimpArgs false

def liveNs : List Int := [1, 2, 1, 0, 0, 0, 0, 0, 0, 0, 0]
def liveBs (k : Nat) : List UInt8 := (liveNs.take k).flatMap putInt
def LvRel (w : World) (b i : Value) (wr : World) : Prop := ∃ k : Nat, k ≤ 11 ∧ i = .int .i64 k ∧ Own8 wr w.heap.size b (liveBs k) ∧ Below w.heap.size w wr
theorem liveBs_le (k : Nat) (hk : k ≤ 11) : (liveBs k).length ≤ 11 := by
  have : ∀ k : Fin 12, (liveBs k.val).length ≤ 11 := by decide +kernel
  exact this ⟨k, by omega⟩
theorem liveBs_succ (k : Nat) (hk : k < 11) : liveBs (k + 1) = liveBs k ++ putInt (liveNs.getD k 0) := by
  have : ∀ k : Fin 11, liveBs (k.val + 1) = liveBs k.val ++ putInt (liveNs.getD k.val 0) := by decide +kernel
  exact this ⟨k, hk⟩
theorem liveNs_bnd (k : Nat) (hk : k < 11) : 0 ≤ liveNs.getD k 0 ∧ liveNs.getD k 0 ≤ 2 := by
  have : ∀ k : Fin 11, 0 ≤ liveNs.getD k.val 0 ∧ liveNs.getD k.val 0 ≤ 2 := by decide +kernel
  exact this ⟨k, hk⟩
def liveMsg : Value := .agg #[.int .i64 1, .int .i64 1, .int .i64 2, .int .i64 1, .int .i64 0, .int .i64 0, .int .i64 0, .int .i64 0, .bool false, .int .i64 0, .int .i64 0, .slice none 0 0, .slice none 0 0]
theorem liveBody : liveBs 11 ++ putInt (ByteArray.empty).size ++ (ByteArray.empty).data.toList = [2, 4, 2, 0, 0, 0, 0, 0, 0, 0, 0, 0] := by decide +kernel
theorem number_eq (n a b : Int) (w : World) : Calls Try.prog 32 #[.int .i64 n, .int .i64 a, .int .i64 b] w fun e w' => e = .returned (.bool (decide (a ≤ n ∧ n ≤ b))) ∧ w = w' := by
  go_enter Try.func32, Try.ntmps32
  have hc : (a ≤ n ∧ n ≤ b) ∨ (a ≤ n ∧ ¬ n ≤ b) ∨ ¬ a ≤ n := by omega
  rcases hc with ⟨h1, h2⟩ | ⟨h1, h2⟩ | h1
  · go_wp2
    go_ret
    exact ⟨by simp [h1, h2], rfl⟩
  · go_wp2
    go_ret
    exact ⟨by simp [h1, h2], rfl⟩
  · have hf : decide (a ≤ n ∧ n ≤ b) = false := decide_eq_false (by omega)
    rw [hf]
    clear hf
    go_wp2
    go_ret
    exact ⟨rfl, rfl⟩
set_option maxRecDepth 100000 in
set_option maxHeartbeats 1600000 in
theorem putLive_any (w : World) : Calls Try.prog 25 #[liveMsg] w (Put8E (frameB 1 [2, 4, 2, 0, 0, 0, 0, 0, 0, 0, 0, 0]) 0 w) := by
  unfold liveMsg
  have HN1 := hid (number_eq 1 1 8); have HN2 := hid (number_eq 1 1 7); have HN3 := hid (number_eq 2 1 7)
  rw [decide_eq_true (by omega)] at HN1 HN2 HN3
  obtain ⟨F, hF⟩ : ∃ F, F = frameB 1 [2, 4, 2, 0, 0, 0, 0, 0, 0, 0, 0, 0] := ⟨_, rfl⟩
  rw [← hF]
  obtain ⟨W1, hW1⟩ : ∃ W1, W1 = w.alloc (.cells #[.int .i64 1, .int .i64 1, .int .i64 2, .int .i64 1, .int .i64 0, .int .i64 0, .int .i64 0, .int .i64 0, .bool false, .int .i64 0, .int .i64 0, .slice none 0 0, .slice none 0 0] 65) := ⟨_, rfl⟩
  have hcl : ∀ i v, (#[Value.int .i64 1, .int .i64 1, .int .i64 2, .int .i64 1, .int .i64 0, .int .i64 0, .int .i64 0, .int .i64 0, .bool false, .int .i64 0, .int .i64 0, .slice none 0 0, .slice none 0 0] : Array Value)[i]? = some v → W1.cell? ⟨w.heap.size, i, none⟩ = some v := fun i v h => by
    rw [hW1, World.cell?_alloc_at _ _ _ _ rfl]; exact h
  have c0 := hcl 0 _ rfl; have c1 := hcl 1 _ rfl; have c2 := hcl 2 _ rfl; have c3 := hcl 3 _ rfl; have c4 := hcl 4 _ rfl; have c5 := hcl 5 _ rfl; have c6 := hcl 6 _ rfl; have c7 := hcl 7 _ rfl; have c8 := hcl 8 _ rfl; have c9 := hcl 9 _ rfl; have c10 := hcl 10 _ rfl; have c11 := hcl 11 _ rfl; have c12 := hcl 12 _ rfl
  have HW1 := hid hW1; have HF := hid hF
  have hb1 : Below w.heap.size w W1 := by rw [hW1]; exact bl1 _ _
  have hz1 : W1.heap.size = w.heap.size + 1 := by rw [hW1]; simp
  have HB1 := hid hb1
  clear hW1 hF hcl hb1
  go_enter Try.func25, Try.ntmps25
  go_upto_region 1 with (fail)
  rw [← HW1.out]
  go_wp2_with fail
  refine (HN1.out W1).mono ?_
  rintro e w1 ⟨rfl, rfl⟩
  go_wp2_with fail
  refine (HN2.out W1).mono ?_
  rintro e w1 ⟨rfl, rfl⟩
  go_wp2_with fail
  refine (HN3.out W1).mono ?_
  rintro e w1 ⟨rfl, rfl⟩
  go_upto_region 8 with (fail)
  obtain ⟨W2, hW2⟩ : ∃ W2, W2 = W1.alloc (.cells #[.int .i64 1, .int .i64 2, .int .i64 1, .int .i64 0, .int .i64 0, .int .i64 0, .int .i64 0, .int .i64 0, .int .i64 0, .int .i64 0, .int .i64 0] 3) := ⟨_, rfl⟩
  rw [← hW2]
  have hic : ∀ k, k < 11 → W2.cell? ⟨w.heap.size + 1, k, none⟩ = some (.int .i64 (liveNs.getD k 0)) := fun k hk => by
    rw [hW2, World.cell?_alloc_at _ _ _ _ hz1.symm]
    have : ∀ k : Fin 11, (#[Value.int .i64 1, .int .i64 2, .int .i64 1, .int .i64 0, .int .i64 0, .int .i64 0, .int .i64 0, .int .i64 0, .int .i64 0, .int .i64 0, .int .i64 0] : Array Value)[k.val]? = some (.int .i64 (liveNs.getD k.val 0)) := fun k => by
      match k with
      | ⟨0, _⟩ => rfl
      | ⟨1, _⟩ => rfl
      | ⟨2, _⟩ => rfl
      | ⟨3, _⟩ => rfl
      | ⟨4, _⟩ => rfl
      | ⟨5, _⟩ => rfl
      | ⟨6, _⟩ => rfl
      | ⟨7, _⟩ => rfl
      | ⟨8, _⟩ => rfl
      | ⟨9, _⟩ => rfl
      | ⟨10, _⟩ => rfl
    exact this ⟨k, hk⟩
  have hb2 : Below W1.heap.size W1 W2 := by rw [hW2]; exact bl1 _ _
  have hz2 : W2.heap.size = w.heap.size + 2 := by rw [hW2]; simp; omega
  have HIC := hid hic; have HB2 := hid hb2
  clear hW2 hic hb2
  go_loopw [5, 73] (fun b i wr => LvRel W2 b i wr) (fun _ i _ => 11 - (intOf i).toNat)
  case atStart => exact ⟨0, by omega, rfl, Own8.nil_ _ _, Below.refl _ _⟩
  case round =>
    obtain ⟨k, hk, rfl, ho, hb⟩ := hrel
    by_cases hlt : k < 11
    · have q := cellK hb (by omega) (HIC.out k hlt)
      have hsu := liveBs_succ k hlt
      have hbn := liveNs_bnd k hlt
      have hle := liveBs_le k (by omega)
      have HN := hid (fun W => number_eq (liveNs.getD k 0) 0 1099511627776 W)
      rw [decide_eq_true (by omega)] at HN
      generalize liveNs.getD k 0 = z at *
      have HPU := hid (putI8 u5 (liveBs k) z wr ho.sl (by omega) (by unfold InI64; omega))
      rw [← hsu] at HPU
      obtain ⟨A, c, rfl⟩ := ho.form
      have HB := hid hb
      clear ho hb hsu
      go_wp2_with fail
      refine (HN.out wr).mono ?_
      rintro e w1 ⟨rfl, rfl⟩
      go_wp2_with fail
      refine HPU.out.mono ?_
      rintro e w1 ⟨v1, rfl, ho1, hb1⟩
      have HO1 := hid (Own8.less ho1 (show W2.heap.size ≤ wr.heap.size from HB.out.size)); have HB1 := hid (HB.out.trans (hb1.mono HB.out.size))
      clear ho1 hb1
      go_wp2
      go_roundw
      case rel => exact ⟨k + 1, by omega, by go_num, HO1.out, HB1.out⟩
      case measure => simp [intOf]; omega
    · obtain rfl : k = 11 := by omega
      have hle := liveBs_le 11 (by omega)
      have hs2 := hb.size
      have c0 := cellK hb (by omega) (cellK HB2.out (by omega) c0)
      have c11 := cellK hb (by omega) (cellK HB2.out (by omega) c11)
      have c12 := cellK hb (by omega) (cellK HB2.out (by omega) c12)
      obtain ⟨A, c, rfl⟩ := ho.form
      clear c1 c2 c3 c4 c5 c6 c7 c8 c9 c10
      have HB := hid hb; have HO := hid ho
      have HPT := hid (fun W (hq : Qu wr W) => (putText8 (.slice A (liveBs 11).length c) (liveBs 11) ByteArray.empty W ((HO.out.sl.qu' hq).more (by rw [hq.size]; exact Nat.le_refl _)) (by show _ + 0 ≤ _; omega)).mono (fun e w' h => (show ∃ v, e = .returned v ∧ Own8 w' wr.heap.size v [2, 4, 2, 0, 0, 0, 0, 0, 0, 0, 0, 0] ∧ Below wr.heap.size wr w' by
        obtain ⟨v, e1, h1, h2⟩ := h
        rw [liveBody] at h1
        exact ⟨v, e1, Own8.less h1 (by rw [hq.size]; exact Nat.le_refl _), (hq.below _).trans (h2.mono (by rw [hq.size]; exact Nat.le_refl _))⟩)))
      have hbl : (liveBs 11).length ≤ 11 := liveBs_le 11 (by omega)
      generalize liveBs 11 = bs at *
      have hcv : ∀ W : World, (convert 30 9 (.slice none 0 0)).run Try.prog W = .ok (.string ByteArray.empty) W := fun W => text_sl (l := []) (w := W) (B := 0) Sl.nil_
      generalize ByteArray.empty = em at *
      have HFR := hid (fun v W (hx : Sl W W.heap.size v (bvals [2, 4, 2, 0, 0, 0, 0, 0, 0, 0, 0, 0])) => frameP_any (.slice none 0 0) v [] 1 [2, 4, 2, 0, 0, 0, 0, 0, 0, 0, 0, 0] W Sl.nil_ (by simp) hx (by unfold InI64; omega))
      rw [show framePut [] 1 [2, 4, 2, 0, 0, 0, 0, 0, 0, 0, 0, 0] = (F, 0) by rw [HF.out]; rfl] at HFR
      clear hb ho
      obtain ⟨wo, hwo⟩ : ∃ wo : World, wo = wr := ⟨_, rfl⟩
      subst hwo
      go_wp2
      go_loopw [5, 87] (fun b i wq => b = .slice A bs.length c ∧ i = .int .i64 0 ∧ wo = wq) (fun _ _ _ => 0)
      case atStart => exact ⟨rfl, rfl, rfl⟩
      case round =>
      obtain ⟨rfl, rfl, rfl⟩ := hrel
      go_upto_region 22 with (fail)
      go_region_law (first
        | (go_simp; go_at_call 37; refine (HPT.out _ ⟨1, rfl⟩).mono ?_; rintro e w5 ⟨v5, rfl, ho5, hb5⟩; have c0 := cellK hb5 (by omega) c0; have HO5 := hid ho5; have HB5 := hid hb5; clear ho5 hb5)
        | (go_simp; go_at_call 36; refine (HFR.out _ _ HO5.out.sl).mono ?_; rintro e w6 ⟨v6, rfl, ho6, hb6⟩; have HO6 := hid ho6; have HB6 := hid (HB5.out.trans (hb6.mono HB5.out.size)); clear ho6 hb6))
      all_goals
        go_wp2
        go_ret2
        have z5 := HB5.out.size
        exact ⟨_, rfl, Own8.less HO6.out (by omega), HB1.out.trans ((HB2.out.mono (by omega)).trans ((HB.out.trans (HB6.out.mono hs2)).mono (by omega)))⟩
end Go.Proofs.Ytkgifbnkkmeoiaa
