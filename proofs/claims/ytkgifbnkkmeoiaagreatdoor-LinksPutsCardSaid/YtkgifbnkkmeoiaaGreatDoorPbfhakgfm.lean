/- 2 texts of this claim, in build order. -/
import Derived.Test.YtkgifbnkkmeoiaaGreatDoorPclmffahl
import Derived.Test.YtkgifbnkkmeoiaaGreatDoorPbdcknajg
import Derived.Test.YtkgifbnkkmeoiaaGreatDoorPajbicmld
/- The reference's Sum and With. -/
namespace Go.Proofs.YtkgifbnkkmeoiaaGreatDoor
open Go.ChangeShapes Go.WideShapes Go.ChangeAt Go.RowKit
set_option linter.unusedVariables false
set_option linter.unusedSimpArgs false

def SumRel (l : List UInt8) (w : World) (n i : Value) (wr : World) : Prop := ∃ k : Nat, k ≤ l.length ∧ i = .int .i64 k ∧ n = .int .u32 ((CrcM.runN 4294967295 (l.take k) : Nat) : Int) ∧ w = wr
def SumRel2 (Y : Nat) (w : World) (n i : Value) (wr : World) : Prop := ∃ j : Nat, j ≤ 8 ∧ i = .int .i64 j ∧ n = .int .u32 ((CrcM.shN j Y : Nat) : Int) ∧ w = wr
theorem runN_take (l : List UInt8) (k : Nat) (hk : k < l.length) : CrcM.runN 4294967295 (l.take (k + 1)) = CrcM.shN 8 (CrcM.runN 4294967295 (l.take k) ^^^ (l.getD k 0).toNat) := by
  unfold CrcM.runN
  rw [List.take_succ_eq_append_getElem hk, List.foldl_append, List.getD_eq_getElem?_getD, List.getElem?_eq_getElem hk]; rfl
set_option maxRecDepth 100000 in
set_option maxHeartbeats 1600000 in
theorem refSum_any (v : Value) (l : List UInt8) (w : World) (hv : Sl w w.heap.size v (bvals l)) (hl : l.length ≤ 140737488355328) : Calls Tryz.prog 73 #[.int .u32 0, v] w fun e w' => e = .returned (.int .u32 (crcSum l)) ∧ w = w' := by
  obtain ⟨A, c, e, hc1, hc2, -⟩ := id hv
  rw [bvals_len] at e hc1
  subst e
  have HV := hid hv
  unfold maxLen at hc2
  obtain ⟨s, hs⟩ : ∃ s, s = crcSum l := ⟨_, rfl⟩
  rw [← hs]
  have HS := hid (show s = 4294967295 - ((CrcM.runN 4294967295 l : Nat) : Int) by
    rw [hs, crcSum_nat]
    exact not_sub _ (CrcM.run_lt _ _ (by decide)))
  clear hv hs
  go_enter Tryz.func73, Tryz.ntmps73
  go_wp2
  go_loopw [5, 6] (fun n i wr => SumRel l w n i wr) (fun _ i _ => l.length - (intOf i).toNat)
  case atStart => exact ⟨0, by omega, rfl, rfl, rfl⟩
  case round =>
    obtain ⟨k, hk, rfl, rfl, rfl⟩ := hrel
    by_cases hlt : k < l.length
    · obtain ⟨b, off, rfl, hb, hcl⟩ := HV.out.byteAt hlt
      have hrun := runN_take l k hlt
      have hnl := CrcM.run_lt 4294967295 (l.take k) (by decide)
      generalize CrcM.runN 4294967295 (l.take k) = y at *
      generalize l.getD k 0 = z at *
      have hxz : Go.bits .xor .u32 (y : Int) (z.toNat : Int) = ((y ^^^ z.toNat : Nat) : Int) := bits_xor_u32_nat _ _ hnl (Nat.lt_trans (UInt8.toNat_lt z) (by decide))
      have hY := xor_byte_lt hnl z
      have hz4 : (z.toNat : Int) % 4294967296 = (z.toNat : Int) := by have := UInt8.toNat_lt z; omega
      have hwz : IntKind.u32.wrap (z.toNat : Int) = (z.toNat : Int) := by have := UInt8.toNat_lt z; simp only [IntKind.wrap, IntKind.bits, IntKind.signed]; simp; omega
      generalize y ^^^ z.toNat = Y at *
      have HRUN := hid hrun
      clear hrun
      go_wp2
      go_loopw [5, 7] (fun n i wr => SumRel2 Y w n i wr) (fun _ i _ => 8 - (intOf i).toNat)
      case atStart => exact ⟨0, by omega, rfl, rfl, rfl⟩
      case round =>
      obtain ⟨j, hj, rfl, rfl, rfl⟩ := hrel
      by_cases hj8 : j < 8
      · have hX := CrcM.shN_lt j hY
        have hsu : CrcM.shN (j + 1) Y = CrcM.sh (CrcM.shN j Y) := rfl
        generalize CrcM.shN j Y = X at *
        by_cases h1 : X % 2 = 1
        · have t1 : ((X : Int) % 2 == 1) = true := by rw [beq_iff_eq]; omega
          have hsx : CrcM.sh X = (X / 2) ^^^ 3988292384 := by unfold CrcM.sh; rw [if_pos h1]
          have HSU := hid (show ((CrcM.shN (j + 1) Y : Nat) : Int) = Go.bits .xor .u32 ((X : Int) / 2) 3988292384 by
            rw [hsu, hsx, show (X : Int) / 2 = ((X / 2 : Nat) : Int) by omega]
            exact (bits_xor_u32_nat (X / 2) 3988292384 (by omega) (by decide)).symm)
          clear hsu h1 hsx
          go_wp2
          go_roundw
          case rel => exact ⟨j + 1, by omega, by go_num, by rw [HSU.out], rfl⟩
          case measure => simp [intOf]; omega
        · have t1 : ((X : Int) % 2 == 1) = false := by rw [beq_eq_false_iff_ne]; omega
          have hsx : CrcM.sh X = X / 2 := by unfold CrcM.sh; rw [if_neg h1]
          have HSU := hid (show ((CrcM.shN (j + 1) Y : Nat) : Int) = (X : Int) / 2 by rw [hsu, hsx]; omega)
          clear hsu h1 hsx
          go_wp2
          go_roundw
          case rel => exact ⟨j + 1, by omega, by go_num, by rw [HSU.out], rfl⟩
          case measure => simp [intOf]; omega
      · obtain rfl : j = 8 := by omega
        rw [← HRUN.out]
        go_wp2
        go_roundw
        case rel => exact ⟨k + 1, by omega, by go_num, rfl, rfl⟩
        case measure => simp [intOf]; omega
    · obtain rfl : k = l.length := by omega
      rw [List.take_length]
      have hy := CrcM.run_lt 4294967295 l (by decide)
      generalize CrcM.runN 4294967295 l = y at *
      go_wp2
      go_ret
      exact ⟨by rw [HS.out]; rfl, rfl⟩
theorem cell_new1 (w : World) (u : Value) (t : TypeId) : ∀ j v, [u][j]? = some v → (w.alloc (.cells #[u] t)).cell? ((⟨w.heap.size, 0, none⟩ : Addr).add j) = some v := by
  intro j v h
  match j, h with
  | 0, h =>
    simp only [List.getElem?_cons_zero, Option.some.injEq] at h
    subst h
    show (w.alloc (.cells #[u] t)).cell? ⟨w.heap.size, 0, none⟩ = some u
    rw [World.cell?_alloc_at _ _ _ _ rfl]; rfl
theorem le4_take {q k : Nat} (hk : k < 4) : (le4 q).take (k + 1) = (le4 q).take k ++ [UInt8.ofNat (q / 256 ^ k % 256)] := by
  match k, hk with
  | 0, _ => simp [le4]
  | 1, _ => simp [le4]
  | 2, _ => simp [le4]
  | 3, _ => simp [le4]
/-- Bytes with their sum. -/
def WithRel (l : List UInt8) (q : Nat) (w : World) (out n i : Value) (wr : World) : Prop := ∃ k : Nat, k ≤ 4 ∧ i = .int .i64 k ∧ n = .int .u32 ((q / 256 ^ k : Nat) : Int) ∧ Own8 wr w.heap.size out (l ++ (le4 q).take k) ∧ Below w.heap.size w wr
set_option maxRecDepth 100000 in
set_option maxHeartbeats 1600000 in
theorem refWith_any (v : Value) (l : List UInt8) (w : World) (hv : Sl w w.heap.size v (bvals l)) (hl : l.length ≤ 1000000) : Calls Tryz.prog 53 #[v] w (Put8 (l ++ le4 (crcSum l).toNat) w) := by
  obtain ⟨i0, hi, hz0, hz1, hz2⟩ := info_parts info_byte
  obtain ⟨A, c, e, hc1, hc2, -⟩ := id hv
  rw [bvals_len] at e hc1
  subst e
  have HV := hid hv
  unfold maxLen at hc2
  have HSU := hid (fun W (h : Sl W W.heap.size (.slice A l.length c) (bvals l)) => refSum_any (.slice A l.length c) l W h (by omega))
  have hb := crcSum_bounds l
  obtain ⟨q, hq⟩ : ∃ q : Nat, crcSum l = (q : Int) := ⟨(crcSum l).toNat, by omega⟩
  rw [hq] at HSU hb ⊢
  rw [Int.toNat_natCast]
  clear hv hq
  go_enter Tryz.func53, Tryz.ntmps53
  go_wp2_with (at_builtin; refine stop_here ?_)
  refine go_on ?_
  refine app_own (.tmp 6) (.tmp 7) 23 23 rfl rfl w.heap.size 5 i0 (.int .u8 0) 1 1 Tryz.underlying23 hi hz0 hz1 hz2 rfl (by omega) _ 0 [] rfl (World.ownsRow_nil _ _ _ _) (.slice A l.length c) l.length (bvals l) rfl (by have := src_sl _ Tryz.underlying23 HV.out (bvals_one l); rwa [bvals_len] at this) (by unfold maxLen; omega) (by omega) (by omega) ?_
  intro v1 w1 ho1 hg1 hb1
  rw [Nat.zero_add, List.nil_append] at ho1
  obtain ⟨A1, c1, rfl⟩ := Own8.form (show Own8 w1 w.heap.size v1 l from ho1)
  have HO1 := hid (show Own8 w1 w.heap.size (.slice A1 l.length c1) l from ho1)
  have HB1 := hid hb1
  have HV1 := hid ((HV.out.below hb1).more hb1.size)
  clear ho1 hg1 hb1
  go_wp2_with fail
  refine (HSU.out w1 HV1.out).mono ?_
  rintro e w2 ⟨rfl, rfl⟩
  go_wp2
  go_loopw [3, 4, 5] (fun out n i wr => WithRel l q w out n i wr) (fun _ _ i _ => 4 - (intOf i).toNat)
  case atStart => exact ⟨0, by omega, rfl, by simp, by simpa using HO1.out, HB1.out⟩
  case round =>
    obtain ⟨k, hk, rfl, rfl, ho, hbw⟩ := hrel
    have hsb := hbw.size
    have hll : (l ++ (le4 q).take k).length = l.length + k := by rw [List.length_append, List.length_take, show (le4 q).length = 4 from rfl]; omega
    obtain ⟨Aw, cw, rfl⟩ := ho.form
    by_cases hlt : k < 4
    · have ht := le4_take (q := q) hlt
      have hnx : ((q / 256 ^ (k + 1) : Nat) : Int) = ((q / 256 ^ k : Nat) : Int) / 256 := by rw [Nat.pow_succ, ← Nat.div_div_eq_div_mul]; omega
      have hqk : q / 256 ^ k < 4294967296 := Nat.lt_of_le_of_lt (Nat.div_le_self _ _) (by omega)
      generalize q / 256 ^ k = y at *
      have hby : bvals [UInt8.ofNat (y % 256)] = [.int .u8 ((y : Int) % 256)] := by
        show [Value.int .u8 (((UInt8.ofNat (y % 256)).toNat : Nat) : Int)] = _
        rw [UInt8.toNat_ofNat']
        refine congrArg (fun z => [Value.int .u8 z]) ?_
        omega
      have HO := hid ho; have HBW := hid hbw; have HT := hid ht; have HNX := hid hnx; have HBY := hid hby
      generalize hacc : l ++ (le4 q).take k = acc at *
      have HACC := hid hacc; have HLL := hid hll
      clear ho hbw ht hnx hby hacc hll
      go_wp2_with (at_builtin; refine stop_here ?_)
      refine go_on ?_
      refine app_own (.tmp 15) (.tmp 19) 23 23 rfl rfl w.heap.size 5 i0 (.int .u8 0) 1 1 Tryz.underlying23 hi hz0 hz1 hz2 rfl (by omega) _ acc.length (bvals acc) rfl (own_kept HO.out (fun g hg => (bl1 wr _).block g (own_lt HO.out g hg).2)) (.slice (some ⟨wr.heap.size, 0, none⟩) 1 1) 1 [.int .u8 ((y : Int) % 256)] rfl (Src.ofSlice _ Tryz.underlying23 _ 1 1 _ rfl (cell_new1 _ _ _) (by simp; rfl)) (by have := HLL.out; unfold maxLen; omega) (by have := HLL.out; omega) (by simp; omega) ?_
      intro v8 w8 ho8 hg8 hb8
      have HO8 := hid (show Own8 w8 w.heap.size v8 (l ++ (le4 q).take (k + 1)) by
        rw [HT.out, ← List.append_assoc, HACC.out]
        unfold Own8
        rw [bvals_app, HBY.out, List.length_append, List.length_singleton]
        exact ho8)
      have HB8 := hid (HBW.out.trans (((bl1 wr _).mono hsb).trans hb8))
      clear ho8 hg8 hb8
      go_wp2
      go_roundw
      case rel => exact ⟨k + 1, by omega, by go_num, by rw [HNX.out], HO8.out, HB8.out⟩
      case measure => simp [intOf]; omega
    · obtain rfl : k = 4 := by omega
      rw [List.take_of_length_le (by rw [show (le4 q).length = 4 from rfl]; exact Nat.le_refl _)] at ho ⊢
      have HO := hid ho; have HBW := hid hbw
      generalize l ++ le4 q = acc at *
      clear ho hbw
      go_wp2
      go_ret
      exact ⟨_, rfl, HO.out, HBW.out⟩
end Go.Proofs.YtkgifbnkkmeoiaaGreatDoor
/- The reference's frame: Put. -/
namespace Go.Proofs.YtkgifbnkkmeoiaaGreatDoor
open Go.ChangeShapes Go.WideShapes Go.ChangeAt Go.RowKit
set_option linter.unusedVariables false
set_option linter.unusedSimpArgs false

set_option maxRecDepth 100000 in
set_option maxHeartbeats 1600000 in
theorem frameR_any (v x : Value) (b : List UInt8) (kind : Int) (body : List UInt8) (w : World) (hv : Sl w w.heap.size v (bvals b)) (hb : b.length ≤ 100000) (hx : Sl w w.heap.size x (bvals body)) (hk : InI64 kind) :
    Calls Tryz.prog 25 #[v, .int .i64 kind, x] w (Put8E (framePut b kind body).1 (framePut b kind body).2 w) := by
  obtain ⟨i0, hi, hz0, hz1, hz2⟩ := info_parts info_byte
  have HV := hid hv; have HX := hid hx
  obtain ⟨A, c, e1, ha1, ha2, -⟩ := hv
  obtain ⟨C, cc, e2, hc1, hc2, -⟩ := hx
  rw [bvals_len] at e1 ha1 e2 hc1
  subst e1; subst e2
  unfold maxLen at ha2 hc2
  by_cases h : 0 ≤ kind ∧ kind ≤ 255 ∧ body.length ≤ 65536
  · have hp : framePut b kind body = (b ++ frameB kind.toNat body, 0) := by unfold framePut; rw [if_pos h]
    rw [hp]
    clear hp
    obtain ⟨k, rfl⟩ : ∃ k : Nat, kind = (k : Int) := ⟨kind.toNat, by omega⟩
    obtain ⟨h1, h2, h3⟩ := h
    have hle := le4_vals body.length (by omega)
    obtain ⟨m, hm⟩ : ∃ m, m = body.length := ⟨_, rfl⟩
    rw [← hm] at h3 hc1 hle ⊢
    have HM := hid hm
    rw [Int.toNat_natCast]
    have HLE := hid (show bvals (le4 m ++ [UInt8.ofNat k]) = [.int .u8 ((m : Int) % 256), .int .u8 ((m : Int) / 256 % 256), .int .u8 ((m : Int) / 65536), .int .u8 0, .int .u8 ((k : Int) % 256)] by
      rw [bvals_snoc _ k (by omega), hle, show ((k : Int) % 256) = (k : Int) by omega, show (m : Int) / 65536 % 256 = (m : Int) / 65536 by omega, show (m : Int) / 16777216 % 256 = 0 by omega]; rfl)
    have hk' : IntKind.u8.wrap (k : Int) = (k : Int) % 256 := IntKind.wrap_u8 _
    have t1 : (m : Int).tmod 256 = (m : Int) % 256 := Int.tmod_eq_emod_of_nonneg (by omega)
    have t2 : (m : Int).tdiv 256 = (m : Int) / 256 := Int.tdiv_eq_ediv_of_nonneg (by omega)
    have t3 : (m : Int).tdiv 65536 = (m : Int) / 65536 := Int.tdiv_eq_ediv_of_nonneg (by omega)
    have t4 : ((m : Int) / 256).tmod 256 = (m : Int) / 256 % 256 := Int.tmod_eq_emod_of_nonneg (by omega)
    clear hm hle
    go_enter Tryz.func25, Tryz.ntmps25
    go_wp2_with (at_builtin; refine stop_here ?_)
    refine go_on ?_
    have ho1 : (w.alloc (.cells #[.int .u8 ((m : Int) % 256), .int .u8 ((m : Int) / 256 % 256), .int .u8 ((m : Int) / 65536), .int .u8 0, .int .u8 ((k : Int) % 256)] 5)).ownsRow w.heap.size 5 1 (.slice (some ⟨w.heap.size, 0, none⟩) 5 5) 5 (bvals (le4 m ++ [UInt8.ofNat k])) := by
      rw [HLE.out]
      exact ⟨rfl, .inr ⟨w.heap.size, 5, _, rfl, Nat.le_refl _, heap_alloc_new w _, Nat.le_refl _, by simp [maxLen], rfl, rfl⟩⟩
    have hsx : Sl (w.alloc (.cells #[.int .u8 ((m : Int) % 256), .int .u8 ((m : Int) / 256 % 256), .int .u8 ((m : Int) / 65536), .int .u8 0, .int .u8 ((k : Int) % 256)] 5)) w.heap.size (.slice C m cc) (bvals body) := by
      have h := HX.out.below (bl1 w (.cells #[.int .u8 ((m : Int) % 256), .int .u8 ((m : Int) / 256 % 256), .int .u8 ((m : Int) / 65536), .int .u8 0, .int .u8 ((k : Int) % 256)] 5))
      rwa [← HM.out] at h
    refine app_own (.tmp 37) (.tmp 38) 23 23 rfl rfl w.heap.size 5 i0 (.int .u8 0) 1 1 Tryz.underlying23 hi hz0 hz1 hz2 rfl (by omega) _ 5 _ rfl ho1 (.slice C m cc) m (bvals body) rfl (by have := src_sl _ Tryz.underlying23 hsx (bvals_one body); rwa [bvals_len, ← HM.out] at this) (by unfold maxLen; omega) (by omega) (by simp) ?_
    intro v2 w2 ho2 hg2 hb2
    have hb12 : Below w.heap.size w w2 := (bl1 w _).trans hb2
    have hH : Own8 w2 w.heap.size v2 (frameH k body) := by
      unfold Own8
      rw [frameH_len, ← HM.out, show m + 5 = 5 + m by omega]
      unfold frameH
      rw [← HM.out, bvals_app]
      exact ho2
    have hfl := frameH_len k body
    rw [← HM.out] at hfl
    have hfb : frameB k body = frameH k body ++ le4 (crcSum (frameH k body)).toNat := rfl
    generalize frameH k body = F at *
    have HW := hid (refWith_any v2 F w2 hH.sl (by omega))
    rw [← hfb] at HW
    have hfl2 : (frameB k body).length ≤ 65545 := by rw [hfb, List.length_append, show ∀ z, (le4 z).length = 4 from fun _ => rfl]; omega
    generalize frameB k body = G at *
    have HB2 := hid hb12
    obtain ⟨U, cu, rfl⟩ := hH.form
    clear hb12 hH ho1 hsx ho2 hg2 hb2 hfb hfl
    go_wp2_with fail
    (with_reducible refine HW.out.mono ?_)
    rintro e w4 ⟨u4, rfl, ho4, hb4⟩
    obtain ⟨U4, cu4, rfl⟩ := ho4.form
    have hz2' := HB2.out.size
    have hz4 := hb4.size
    have HO4 := hid ho4
    have HB4 := hid (HB2.out.trans (hb4.mono hz2'))
    clear ho4 hb4
    go_wp2_with (at_builtin; refine stop_here ?_)
    refine go_on ?_
    refine app_own (.tmp 42) (.tmp 43) 23 23 rfl rfl w.heap.size 5 i0 (.int .u8 0) 1 1 Tryz.underlying23 hi hz0 hz1 hz2 rfl (by omega) _ 0 [] rfl (World.ownsRow_nil _ _ _ _) (.slice A b.length c) b.length (bvals b) rfl (by have := src_sl _ Tryz.underlying23 (HV.out.below HB4.out) (bvals_one b); rwa [bvals_len] at this) (by unfold maxLen; omega) (by omega) (by omega) ?_
    intro v5 w5 ho5 hg5 hb5
    rw [Nat.zero_add, List.nil_append] at ho5
    have HO5 := hid (show Own8 w5 w.heap.size v5 b from ho5)
    obtain ⟨U5, cu5, rfl⟩ := HO5.out.form
    have hb45 : w4.grownBy w5 (Value.slice none 0 0).ownBlock := hg5
    have HB5 := hid (HB4.out.trans hb5)
    have HO4' := hid (show Own8 w5 w2.heap.size (.slice U4 G.length cu4) G from own_kept HO4.out (fun g hg => hb45.block g (own_lt HO4.out g hg).2 (by simp [Value.ownBlock])))
    clear ho5 hg5 hb5 hb45 HO4
    go_wp2_with (at_builtin; refine stop_here ?_)
    refine go_on ?_
    refine app_own (.tmp 45) (.tmp 46) 23 23 rfl rfl w.heap.size 5 i0 (.int .u8 0) 1 1 Tryz.underlying23 hi hz0 hz1 hz2 rfl (by omega) _ b.length (bvals b) rfl HO5.out (.slice U4 G.length cu4) G.length (bvals G) rfl (by have := src_sl _ Tryz.underlying23 HO4'.out.sl (bvals_one G); rwa [bvals_len] at this) (by unfold maxLen; omega) (by omega) (by have := HB5.out.size; omega) ?_
    intro v6 w6 ho6 hg6 hb6
    have HO6 := hid (show Own8 w6 w.heap.size v6 (b ++ G) by
      unfold Own8
      rw [List.length_append, bvals_app]
      exact ho6)
    have HB6 := hid (HB5.out.trans hb6)
    clear ho6 hg6 hb6
    go_wp2
    go_ret2
    exact ⟨v6, rfl, HO6.out, HB6.out⟩
  · have hp : framePut b kind body = ([], 1) := by unfold framePut; rw [if_neg h]
    rw [hp]
    have hc : kind < 0 ∨ (¬ kind < 0 ∧ 255 < kind) ∨ (¬ kind < 0 ∧ ¬ 255 < kind ∧ 65536 < body.length) := by omega
    clear hp h
    rcases hc with h1 | ⟨h1, h2⟩ | ⟨h1, h2, h3⟩
    all_goals
      go_enter Tryz.func25, Tryz.ntmps25
      go_wp2
      go_ret2
      exact ⟨_, rfl, Own8.nil_ _ _, Below.refl _ _⟩
end Go.Proofs.YtkgifbnkkmeoiaaGreatDoor
