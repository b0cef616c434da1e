/- 2 texts of this claim, in build order. -/
import Derived.Test.YtkgifbnkkmeoiaaGreatDoorPkboojnjg
import Derived.Test.YtkgifbnkkmeoiaaGreatDoorPbkmcnbfe
import Derived.Test.YtkgifbnkkmeoiaaGreatDoorPkdngihjo
import Derived.Test.YtkgifbnkkmeoiaaGreatDoorPcononjpe
/- The reference's Sum and With. -/
namespace Go.Proofs.YtkgifbnkkmeoiaaGreatDoor
open Go.ChangeShapes Go.WideShapes Go.ChangeAt Go.RowKit
set_option linter.unusedVariables false
set_option linter.unusedSimpArgs false

def SumRel (l : List UInt8) (w : World) (n i : Value) (wr : World) : Prop := ∃ k : Nat, k ≤ l.length ∧ i = .int .i64 k ∧ n = .int .u32 ((CrcM.runN 4294967295 (l.take k) : Nat) : Int) ∧ w = wr
def SumRel2 (Y : Nat) (w : World) (n i : Value) (wr : World) : Prop := ∃ j : Nat, j ≤ 8 ∧ i = .int .i64 j ∧ n = .int .u32 ((CrcM.shN j Y : Nat) : Int) ∧ w = wr
theorem runN_take (l : List UInt8) (k : Nat) (hk : k < l.length) : CrcM.runN 4294967295 (l.take (k + 1)) = CrcM.shN 8 (CrcM.runN 4294967295 (l.take k) ^^^ (l.getD k 0).toNat) := by
  unfold CrcM.runN
  rw [List.take_succ_eq_append_getElem hk, List.foldl_append, List.getD_eq_getElem?_getD, List.getElem?_eq_getElem hk]; rfl
set_option maxRecDepth 100000 in
set_option maxHeartbeats 1600000 in
theorem refSum_any (v : Value) (l : List UInt8) (w : World) (hv : Sl w w.heap.size v (bvals l)) (hl : l.length ≤ 140737488355328) : Calls Tryz.prog 73 #[.int .u32 0, v] w fun e w' => e = .returned (.int .u32 (crcSum l)) ∧ w = w' := by
  obtain ⟨A, c, e, hc1, hc2, -⟩ := id hv
  rw [bvals_len] at e hc1
  subst e
  have HV := hid hv
  unfold maxLen at hc2
  obtain ⟨s, hs⟩ : ∃ s, s = crcSum l := ⟨_, rfl⟩
  rw [← hs]
  have HS := hid (show s = 4294967295 - ((CrcM.runN 4294967295 l : Nat) : Int) by
    rw [hs, crcSum_nat]
    exact not_sub _ (CrcM.run_lt _ _ (by decide)))
  clear hv hs
  go_enter Tryz.func73, Tryz.ntmps73
  go_wp2
  go_loopw [5, 6] (fun n i wr => SumRel l w n i wr) (fun _ i _ => l.length - (intOf i).toNat)
  case atStart => exact ⟨0, by omega, rfl, rfl, rfl⟩
  case round =>
    obtain ⟨k, hk, rfl, rfl, rfl⟩ := hrel
    by_cases hlt : k < l.length
    · obtain ⟨b, off, rfl, hb, hcl⟩ := HV.out.byteAt hlt
      have hrun := runN_take l k hlt
      have hnl := CrcM.run_lt 4294967295 (l.take k) (by decide)
      generalize CrcM.runN 4294967295 (l.take k) = y at *
      generalize l.getD k 0 = z at *
      have hxz : Go.bits .xor .u32 (y : Int) (z.toNat : Int) = ((y ^^^ z.toNat : Nat) : Int) := bits_xor_u32_nat _ _ hnl (Nat.lt_trans (UInt8.toNat_lt z) (by decide))
      have hY := xor_byte_lt hnl z
      have hz4 : (z.toNat : Int) % 4294967296 = (z.toNat : Int) := by have := UInt8.toNat_lt z; omega
      have hwz : IntKind.u32.wrap (z.toNat : Int) = (z.toNat : Int) := by have := UInt8.toNat_lt z; simp only [IntKind.wrap, IntKind.bits, IntKind.signed]; simp; omega
      generalize y ^^^ z.toNat = Y at *
      have HRUN := hid hrun
      clear hrun
      go_wp2
      go_loopw [5, 7] (fun n i wr => SumRel2 Y w n i wr) (fun _ i _ => 8 - (intOf i).toNat)
      case atStart => exact ⟨0, by omega, rfl, rfl, rfl⟩
      case round =>
      obtain ⟨j, hj, rfl, rfl, rfl⟩ := hrel
      by_cases hj8 : j < 8
      · have hX := CrcM.shN_lt j hY
        have hsu : CrcM.shN (j + 1) Y = CrcM.sh (CrcM.shN j Y) := rfl
        generalize CrcM.shN j Y = X at *
        by_cases h1 : X % 2 = 1
        · have t1 : ((X : Int) % 2 == 1) = true := by rw [beq_iff_eq]; omega
          have hsx : CrcM.sh X = (X / 2) ^^^ 3988292384 := by unfold CrcM.sh; rw [if_pos h1]
          have HSU := hid (show ((CrcM.shN (j + 1) Y : Nat) : Int) = Go.bits .xor .u32 ((X : Int) / 2) 3988292384 by
            rw [hsu, hsx, show (X : Int) / 2 = ((X / 2 : Nat) : Int) by omega]
            exact (bits_xor_u32_nat (X / 2) 3988292384 (by omega) (by decide)).symm)
          clear hsu h1 hsx
          go_wp2
          go_roundw
          case rel => exact ⟨j + 1, by omega, by go_num, by rw [HSU.out], rfl⟩
          case measure => simp [intOf]; omega
        · have t1 : ((X : Int) % 2 == 1) = false := by rw [beq_eq_false_iff_ne]; omega
          have hsx : CrcM.sh X = X / 2 := by unfold CrcM.sh; rw [if_neg h1]
          have HSU := hid (show ((CrcM.shN (j + 1) Y : Nat) : Int) = (X : Int) / 2 by rw [hsu, hsx]; omega)
          clear hsu h1 hsx
          go_wp2
          go_roundw
          case rel => exact ⟨j + 1, by omega, by go_num, by rw [HSU.out], rfl⟩
          case measure => simp [intOf]; omega
      · obtain rfl : j = 8 := by omega
        rw [← HRUN.out]
        go_wp2
        go_roundw
        case rel => exact ⟨k + 1, by omega, by go_num, rfl, rfl⟩
        case measure => simp [intOf]; omega
    · obtain rfl : k = l.length := by omega
      rw [List.take_length]
      have hy := CrcM.run_lt 4294967295 l (by decide)
      generalize CrcM.runN 4294967295 l = y at *
      go_wp2
      go_ret
      exact ⟨by rw [HS.out]; rfl, rfl⟩
theorem cell_new1 (w : World) (u : Value) (t : TypeId) : ∀ j v, [u][j]? = some v → (w.alloc (.cells #[u] t)).cell? ((⟨w.heap.size, 0, none⟩ : Addr).add j) = some v := by
  intro j v h
  match j, h with
  | 0, h =>
    simp only [List.getElem?_cons_zero, Option.some.injEq] at h
    subst h
    show (w.alloc (.cells #[u] t)).cell? ⟨w.heap.size, 0, none⟩ = some u
    rw [World.cell?_alloc_at _ _ _ _ rfl]; rfl
theorem le4_take {q k : Nat} (hk : k < 4) : (le4 q).take (k + 1) = (le4 q).take k ++ [UInt8.ofNat (q / 256 ^ k % 256)] := by
  match k, hk with
  | 0, _ => simp [le4]
  | 1, _ => simp [le4]
  | 2, _ => simp [le4]
  | 3, _ => simp [le4]
/-- Bytes with their sum. -/
def WithRel (l : List UInt8) (q : Nat) (w : World) (out n i : Value) (wr : World) : Prop := ∃ k : Nat, k ≤ 4 ∧ i = .int .i64 k ∧ n = .int .u32 ((q / 256 ^ k : Nat) : Int) ∧ Own8 wr w.heap.size out (l ++ (le4 q).take k) ∧ Below w.heap.size w wr
set_option maxRecDepth 100000 in
set_option maxHeartbeats 1600000 in
theorem refWith_any (v : Value) (l : List UInt8) (w : World) (hv : Sl w w.heap.size v (bvals l)) (hl : l.length ≤ 1000000) : Calls Tryz.prog 53 #[v] w (Put8 (l ++ le4 (crcSum l).toNat) w) := by
  obtain ⟨i0, hi, hz0, hz1, hz2⟩ := info_parts info_byte
  obtain ⟨A, c, e, hc1, hc2, -⟩ := id hv
  rw [bvals_len] at e hc1
  subst e
  have HV := hid hv
  unfold maxLen at hc2
  have HSU := hid (fun W (h : Sl W W.heap.size (.slice A l.length c) (bvals l)) => refSum_any (.slice A l.length c) l W h (by omega))
  have hb := crcSum_bounds l
  obtain ⟨q, hq⟩ : ∃ q : Nat, crcSum l = (q : Int) := ⟨(crcSum l).toNat, by omega⟩
  rw [hq] at HSU hb ⊢
  rw [Int.toNat_natCast]
  clear hv hq
  go_enter Tryz.func53, Tryz.ntmps53
  go_wp2_with (at_builtin; refine stop_here ?_)
  refine go_on ?_
  refine app_own (.tmp 6) (.tmp 7) 23 23 rfl rfl w.heap.size 5 i0 (.int .u8 0) 1 1 Tryz.underlying23 hi hz0 hz1 hz2 rfl (by omega) _ 0 [] rfl (World.ownsRow_nil _ _ _ _) (.slice A l.length c) l.length (bvals l) rfl (by have := src_sl _ Tryz.underlying23 HV.out (bvals_one l); rwa [bvals_len] at this) (by unfold maxLen; omega) (by omega) (by omega) ?_
  intro v1 w1 ho1 hg1 hb1
  rw [Nat.zero_add, List.nil_append] at ho1
  obtain ⟨A1, c1, rfl⟩ := Own8.form (show Own8 w1 w.heap.size v1 l from ho1)
  have HO1 := hid (show Own8 w1 w.heap.size (.slice A1 l.length c1) l from ho1)
  have HB1 := hid hb1
  have HV1 := hid ((HV.out.below hb1).more hb1.size)
  clear ho1 hg1 hb1
  go_wp2_with fail
  refine (HSU.out w1 HV1.out).mono ?_
  rintro e w2 ⟨rfl, rfl⟩
  go_wp2
  go_loopw [3, 4, 5] (fun out n i wr => WithRel l q w out n i wr) (fun _ _ i _ => 4 - (intOf i).toNat)
  case atStart => exact ⟨0, by omega, rfl, by simp, by simpa using HO1.out, HB1.out⟩
  case round =>
    obtain ⟨k, hk, rfl, rfl, ho, hbw⟩ := hrel
    have hsb := hbw.size
    have hll : (l ++ (le4 q).take k).length = l.length + k := by rw [List.length_append, List.length_take, show (le4 q).length = 4 from rfl]; omega
    obtain ⟨Aw, cw, rfl⟩ := ho.form
    by_cases hlt : k < 4
    · have ht := le4_take (q := q) hlt
      have hnx : ((q / 256 ^ (k + 1) : Nat) : Int) = ((q / 256 ^ k : Nat) : Int) / 256 := by rw [Nat.pow_succ, ← Nat.div_div_eq_div_mul]; omega
      have hqk : q / 256 ^ k < 4294967296 := Nat.lt_of_le_of_lt (Nat.div_le_self _ _) (by omega)
      generalize q / 256 ^ k = y at *
      have hby : bvals [UInt8.ofNat (y % 256)] = [.int .u8 ((y : Int) % 256)] := by
        show [Value.int .u8 (((UInt8.ofNat (y % 256)).toNat : Nat) : Int)] = _
        rw [UInt8.toNat_ofNat']
        refine congrArg (fun z => [Value.int .u8 z]) ?_
        omega
      have HO := hid ho; have HBW := hid hbw; have HT := hid ht; have HNX := hid hnx; have HBY := hid hby
      generalize hacc : l ++ (le4 q).take k = acc at *
      have HACC := hid hacc; have HLL := hid hll
      clear ho hbw ht hnx hby hacc hll
      go_wp2_with (at_builtin; refine stop_here ?_)
      refine go_on ?_
      refine app_own (.tmp 15) (.tmp 19) 23 23 rfl rfl w.heap.size 5 i0 (.int .u8 0) 1 1 Tryz.underlying23 hi hz0 hz1 hz2 rfl (by omega) _ acc.length (bvals acc) rfl (own_kept HO.out (fun g hg => (bl1 wr _).block g (own_lt HO.out g hg).2)) (.slice (some ⟨wr.heap.size, 0, none⟩) 1 1) 1 [.int .u8 ((y : Int) % 256)] rfl (Src.ofSlice _ Tryz.underlying23 _ 1 1 _ rfl (cell_new1 _ _ _) (by simp; rfl)) (by have := HLL.out; unfold maxLen; omega) (by have := HLL.out; omega) (by simp; omega) ?_
      intro v8 w8 ho8 hg8 hb8
      have HO8 := hid (show Own8 w8 w.heap.size v8 (l ++ (le4 q).take (k + 1)) by
        rw [HT.out, ← List.append_assoc, HACC.out]
        unfold Own8
        rw [bvals_app, HBY.out, List.length_append, List.length_singleton]
        exact ho8)
      have HB8 := hid (HBW.out.trans (((bl1 wr _).mono hsb).trans hb8))
      clear ho8 hg8 hb8
      go_wp2
      go_roundw
      case rel => exact ⟨k + 1, by omega, by go_num, by rw [HNX.out], HO8.out, HB8.out⟩
      case measure => simp [intOf]; omega
    · obtain rfl : k = 4 := by omega
      rw [List.take_of_length_le (by rw [show (le4 q).length = 4 from rfl]; exact Nat.le_refl _)] at ho ⊢
      have HO := hid ho; have HBW := hid hbw
      generalize l ++ le4 q = acc at *
      clear ho hbw
      go_wp2
      go_ret
      exact ⟨_, rfl, HO.out, HBW.out⟩
end Go.Proofs.YtkgifbnkkmeoiaaGreatDoor
/- Contract of the reference's Same (bytes). -/
namespace Go.Proofs.YtkgifbnkkmeoiaaGreatDoor
open Go.ChangeShapes Go.WideShapes Go.ChangeAt Go.RowKit
set_option linter.unusedVariables false

def SameRelB (l r : List UInt8) (w : World) (i : Value) (wr : World) : Prop := ∃ k : Nat, k ≤ l.length ∧ i = .int .i64 k ∧ l.take k = r.take k ∧ Qu w wr
def SamePostB (l r : List UInt8) (w : World) (e : Ending) (w' : World) : Prop := e = .returned (.bool (decide (l = r))) ∧ Qu w w'
set_option maxRecDepth 100000 in
set_option maxHeartbeats 400000 in
theorem sameB_any (v x : Value) (l r : List UInt8) (w : World) (hl : l.length ≤ 140737488355328) (hr : r.length ≤ 140737488355328) (hv : Sl w w.heap.size v (bvals l)) (hx : Sl w w.heap.size x (bvals r)) :
    Calls Tryz.prog 9 #[v, x] w (SamePostB l r w) := by
  obtain ⟨A, c, rfl, hc1, hc2, hA⟩ := hv
  obtain ⟨A', c', rfl, hc1', hc2', hA'⟩ := hx
  simp only [bvals_len] at hc1 hc1' ⊢
  have HA := hid hA; have HA' := hid hA'
  clear hA hA'
  go_enter Tryz.func9, Tryz.ntmps9
  by_cases hlen : l.length = r.length
  · have t1 : ((l.length : Int) != (r.length : Int)) = false := by simp [hlen]
    have HL := hid hlen; clear hlen
    go_wp2
    go_loopw [5] (fun i wr => SameRelB l r w i wr) (fun i _ => l.length - (intOf i).toNat)
    case atStart => exact ⟨0, by omega, rfl, rfl, Qu.refl _⟩
    case round =>
      obtain ⟨k, hk, rfl, hsame, hq⟩ := hrel
      have HS := hid hsame; clear hsame
      by_cases hlt : k < l.length
      · have hlt' : k < r.length := by have := HL.out; omega
        obtain ⟨b, off, rfl, hbl, hcell⟩ := Sl.byte HA.out hlt
        obtain ⟨b', off', rfl, hbl', hcell'⟩ := Sl.byte HA'.out hlt'
        have g1 : wr.cell? ⟨b, off + k, none⟩ = _ := (hq.cell _).trans hcell
        have g2 : wr.cell? ⟨b', off' + k, none⟩ = _ := (hq.cell _).trans hcell'
        clear hcell hcell'
        have e1 : l.take (k + 1) = l.take k ++ [l[k]] := List.take_succ_eq_append_getElem hlt
        have e2 : r.take (k + 1) = r.take k ++ [r[k]] := List.take_succ_eq_append_getElem hlt'
        by_cases he : l[k] = r[k]
        · have hs' : l.take (k + 1) = r.take (k + 1) := by rw [e1, e2, HS.out, he]
          have t2 : ((l[k].toNat : Int) != (r[k].toNat : Int)) = false := by simp [he]
          have HS' := hid hs'
          clear e1 e2 he hs'
          generalize l[k].toNat = p at *
          generalize r[k].toNat = q at *
          go_wp2
          go_quiet (fail)
          go_wp2
          go_roundw
          case rel => exact ⟨k + 1, by omega, by go_num, HS'.out, hq.drewN _⟩
          case measure => simp [intOf]; omega
        · have hne : decide (l = r) = false := by
            rw [decide_eq_false_iff_not]; intro h; subst h; exact he rfl
          have t2 : ((l[k].toNat : Int) != (r[k].toNat : Int)) = true := by
            simp only [bne_iff_ne, ne_eq]; intro h; exact he (UInt8.toNat_inj.1 (by omega))
          have HN := hid hne
          clear e1 e2 he hne
          generalize l[k].toNat = p at *
          generalize r[k].toNat = q at *
          go_wp2
          go_quiet (fail)
          go_wp2
          go_ret
          exact ⟨by rw [HN.out]; rfl, hq.drewN _⟩
      · have heq : decide (l = r) = true := by
          have hl := HL.out
          have := HS.out
          rw [List.take_of_length_le (by omega), List.take_of_length_le (by omega)] at this
          rw [this]; simp
        have HE := hid heq; clear heq
        go_wp2
        go_ret
        exact ⟨by rw [HE.out]; rfl, hq⟩
  · have t1 : ((l.length : Int) != (r.length : Int)) = true := by simp; omega
    have hne : decide (l = r) = false := by
      rw [decide_eq_false_iff_not]; intro h; exact hlen (by rw [h])
    have HN := hid hne; clear hne
    have HL := hid hlen; clear hlen
    go_wp2
    go_ret
    exact ⟨by rw [HN.out]; rfl, Qu.refl _⟩
end Go.Proofs.YtkgifbnkkmeoiaaGreatDoor
