/- The walk of LinksWays. -/
import Derived.Test.YtkgifbnkkmeoiaaLnkWayM
import Derived.BigQuiet
namespace Go.Proofs.Ytkgifbnkkmeoiaa
open Go.ChangeShapes Go.WideShapes Go.ChangeAt Go.RowKit
set_option linter.unusedVariables false
set_option linter.unusedSimpArgs false

/-- The marks: just these places are had. -/
def HadB (w : World) (q : Nat) (H : List Nat) : Prop := ∀ i, i < 200 → w.cell? ⟨q, i, none⟩ = some (.bool (decide (i ∈ H))) ∧ w.frozen? ⟨q, i, none⟩ = false
theorem zeros200 (i : Nat) (hi : i < 200) : Try.zeroCells38[i]? = some (.bool false) := by
  have h : Try.zeroCells38 = Array.replicate 200 (.bool false) := by kernel_rfl
  rw [h]
  simp [hi]
theorem HadB.new (w : World) : HadB (w.alloc (.cells Try.zeroCells38 38)) w.heap.size [] := fun i hi => by
  refine ⟨?_, ?_⟩
  · rw [World.cell?_alloc_at _ _ _ _ rfl, zeros200 i hi]; rfl
  · simp [go_sem]
theorem HadB.kept {w w' : World} {q : Nat} {H : List Nat} (h : HadB w q H) (k : w'.heap[q]? = w.heap[q]?) : HadB w' q H := fun i hi =>
  ⟨(World.cell?_of_block (a := ⟨q, i, none⟩) k).trans (h i hi).1, (World.frozen?_of_block (a := ⟨q, i, none⟩) k).trans (h i hi).2⟩
theorem HadB.set {w : World} {q z : Nat} {H : List Nat} (h : HadB w q H) (hz : z < 200) : HadB (w.setCell ⟨q, z, none⟩ (.bool true)) q (H ++ [z]) := fun i hi => by
  refine ⟨?_, frozen_far (h i hi).2⟩
  by_cases e : i = z
  · subst e
    rw [cell_here (h i hi).1]
    simp
  · rw [cell_beside (fun e' => e e'.symm) (h i hi).1]
    simp [e]
theorem getD_map {α β : Type} (g : α → β) (l : List α) (k : Nat) (d : α) (e : β) (hk : k < l.length) : (l.map g).getD k e = g (l.getD k d) := by
  rw [List.getD_eq_getElem?_getD, List.getElem?_map, List.getElem?_eq_getElem hk, List.getD_eq_getElem?_getD, List.getElem?_eq_getElem hk]; rfl
def WyRel (L : List PK) (S : List GS) (f t : Int) (q : Nat) (w : World) (cn one i : Value) (wr : World) : Prop :=
  ∃ k : Nat, k ≤ S.length ∧ i = .int .i64 k ∧ cn = .int .i64 (HK L S k).length ∧ one = .bool (oneK S f t k) ∧ HadB wr q (HK L S k) ∧ Upd q w wr
def WiRel (H : List Nat) (W : List Nat) (q : Nat) (w : World) (cn i : Value) (wr : World) : Prop :=
  ∃ k : Nat, k ≤ W.length ∧ i = .int .i64 k ∧ cn = .int .i64 ((H.length + k : Nat) : Int) ∧ HadB wr q (H ++ W.take k) ∧ Upd q w wr
set_option maxRecDepth 100000 in
set_option maxHeartbeats 3200000 in
theorem walk_LinksWays (w : World) (v : Value) (l : List DeedN) (hv : rdSlice 6 rdDeedN w w.heap.size [v] l) (from' : Int) (hfr : -9223372036854775808 ≤ from' ∧ from' ≤ 9223372036854775807) (to' : Int) (hto : -9223372036854775808 ≤ to' ∧ to' ≤ 9223372036854775807) : Calls Try.prog 4 #[v, .int .i64 from', .int .i64 to'] w (Gives (.bool true) w) := by
  obtain ⟨A, c, rfl, hlc, hcm⟩ := hv.form
  have HV := hid (fun (k : Nat) (hk : k < l.length) => deed_at hv hk)
  unfold maxLen at hcm
  clear hv hfr hto
  go_enter Try.func4, Try.ntmps4
  go_wp2_with fail
  refine (newN_any w).mono ?_
  rintro e w1 ⟨n, rfl, hn1, hge, hb1⟩
  obtain ⟨W2, hW2⟩ : ∃ W2, W2 = w1.alloc (.cells #[.slice none 0 0] 28) := ⟨_, rfl⟩
  have HBE := hid (both_new hn1 hge hb1 hW2)
  have hz1 := hb1.size
  have HB2 := hid (show Below w.heap.size w W2 by rw [hW2]; exact hb1.trans ((bl1 w1 _).mono hz1))
  have HW2 := hid hW2
  obtain ⟨r, hr⟩ : ∃ r, r = w1.heap.size := ⟨_, rfl⟩
  rw [← hr] at HBE
  clear hn1 hge hb1 hW2
  go_upto_region 3 with (fail)
  rw [← HW2.out, ← hr]
  clear hr
  go_wp2
  go_loopw [9] (fun i wr => PyRel l.length n r 100 w i wr) (fun i _ => l.length - (intOf i).toNat)
  case atStart => exact ⟨0, [], by omega, by omega, rfl, OkN.nil_, HBE.out, HB2.out⟩
  case round =>
    clear HBE HB2 HW2
    obtain ⟨k, L, hk, h250, rfl, hok, hbe, hb⟩ := hrel
    by_cases hlt : k < l.length ∧ k < 100
    · obtain ⟨hlt, hlt2⟩ := hlt
      obtain ⟨b, off, kk, f, t, p, s, d, K, kc, rfl, hbl, hki, q0, q1, q2, q3, q4, q5, hsl⟩ := HV.out k hlt
      have q0 := cellK hb hbl q0
      have q1 := cellK hb hbl q1
      have q2 := cellK hb hbl q2
      have q3 := cellK hb hbl q3
      have q4 := cellK hb hbl q4
      have q5 := cellK hb hbl q5
      have HDO := hid (does_any (fun k => k < w.heap.size) n r L kk f t p s K kc d wr hbe hok hki (hsl.below hb).slE)
      have HOK := hid (hok.does kk f t p s d)
      have HB := hid hb
      clear hok hbe hb hsl
      generalize doesN L kk f t p s d = L' at *
      go_wp2_with fail
      refine HDO.out.mono ?_
      rintro e w3 ⟨rfl, hbe3, hf3⟩
      have HBE := hid hbe3
      have HB3 := hid (HB.out.trans (hf3.below HB.out.size (fun k hk => by omega)))
      clear hbe3 hf3
      go_wp2
      go_roundw
      case rel => exact ⟨k + 1, L', by omega, by omega, by go_num, HOK.out, HBE.out, HB3.out⟩
      case measure => simp [intOf]; omega
    · have hlk : ∃ D : Nat → Prop, NetP wr D n L := by
        obtain ⟨D, R, h1, h2, -⟩ := hbe
        exact ⟨D, h1⟩
      obtain ⟨D, hn⟩ := hlk
      have hl160 := hok.1
      have hall : ∀ p ∈ L, okP p := fun p hp => (hok.2 p hp).1
      have HBU := hid (busyP_any D n L wr hn (by omega) hall)
      have HB := hid hb; have HN := hid hn; have HALL := hid hall
      have hex : (k < l.length ∧ k = 100) ∨ k = l.length := by omega
      clear hok hbe hb hn hall hlt
      have hKl := busyS_len L
      go_upto_region 6 with (fail)
      go_cut [30] from 23 to 30 (fun s30 wx => s30 = .bool false ∧ wr = wx)
      case first =>
        rcases hex with ⟨hlt, rfl⟩ | rfl
        all_goals
          go_wp2
          go_meet
          case rel => exact ⟨rfl, rfl⟩
      case rest =>
      obtain ⟨rfl, rfl⟩ := hcut
      clear hex
      go_wp2_with fail
      refine HBU.out.mono ?_
      rintro e w2 ⟨vl, ls, rfl, hol, hrl, hb2⟩
      obtain ⟨LA, lc, rfl⟩ := own_formN hol
      have HB2 := hid (HB.out.trans (hb2.mono HB.out.size))
      have HN2 := hid (HN.out.below hb2)
      have HOL := hid hol; have HRL := hid hrl
      clear hol hrl hb2
      have hq2l := HB2.out.size
      obtain ⟨W3, hW3⟩ : ∃ W3, W3 = w2.alloc (.cells Try.zeroCells38 38) := ⟨_, rfl⟩
      obtain ⟨q, hq⟩ : ∃ q, q = w2.heap.size := ⟨_, rfl⟩
      have hb3 : Below w2.heap.size w2 W3 := by rw [hW3]; exact bl1 _ _
      have hz3 : W3.heap.size = q + 1 := by rw [hW3, hq]; simp
      have HHB := hid (show HadB W3 q [] by rw [hW3, hq]; exact HadB.new w2)
      have HB3 := hid (HB2.out.trans (hb3.mono hq2l)); have HN3 := hid (HN2.out.below hb3)
      have HOL3 := hid (own_kept HOL.out (fun g hg => hb3.block g (HOL.out.lt g hg).2))
      have HRL3 := hid (HRL.out.below hb3)
      have HQL := hid (fun g (hg : (Value.slice LA ((busyS L).map rowS).length lc).ownBlock = some g) => (show g ≠ q by have := (HOL.out.lt g hg).2; omega))
      have HQR := hid (fun i (hi : i < ((busyS L).map rowS).length) g (hg : (ls.getD i undef).ownBlock = some g) => (show g ≠ q by have := ((HRL.out.2 i hi).lt g hg).2; omega))
      have hQN : ∀ k, D k → k < q := fun k hk => by rw [hq]; exact HN2.out.2.1 k hk
      have HQN := hid hQN
      have HW3 := hid hW3
      have hwl : w.heap.size ≤ q := by omega
      go_upto_region 13 with (fail)
      rw [← HW3.out, ← hq]
      clear hW3 hb3 HB2 HN2 HOL HRL HN HBU hQN hq
      have hkr : ((busyS L).map rowS).length = (busyS L).length := List.length_map ..
      rw [hkr] at HOL3 HQL HQR
      clear hkr hq2l
      go_wp2
      go_loopw [13, 14, 15] (fun cn one i wq => WyRel L (busyS L) from' to' q W3 cn one i wq) (fun _ _ i _ => (busyS L).length - (intOf i).toNat)
      case atStart => exact ⟨0, by omega, rfl, rfl, congrArg Value.bool (by simp [oneK]), HHB.out, Upd.refl _ _⟩
      case round =>
      obtain ⟨i, hi, rfl, rfl, rfl, hhb, hu⟩ := hrel
      obtain ⟨wo, hwo⟩ : ∃ wo : World, wo = wr := ⟨_, rfl⟩
      subst hwo
      have hsu := hu.size
      by_cases hlt : i < (busyS L).length
      · obtain ⟨gl, ol, pl, e1, -, hgl, hpl, hpm, hcl⟩ := (RowA.of_own HOL3.out).elem (by omega)
        injection e1 with e1 _ e3
        subst e1; subst e3
        have cl : W3.cell? ⟨gl, ol + i, none⟩ = some (ls.getD i undef) := by
          have hls : ls.length = (busyS L).length := by have := HRL3.out.1; rwa [List.length_map] at this
          rw [hcl i (by omega), List.getD_eq_getElem?_getD, List.getElem?_eq_getElem (by omega)]; rfl
        have cl := hu.cellAt hgl (HQL.out gl rfl) cl
        have hru := HRL3.out.2 i (by rw [List.length_map]; exact hlt)
        have hqr := HQR.out i hlt
        rw [getD_map rowS _ i default [] hlt] at hru
        have hwp := plS_pos HALL.out hlt
        have hwn := wayN_eq L ((busyS L).getD i default).1.1 ((busyS L).getD i default).1.2
        have hwl2 := fun k (hk : k < (plS L ((busyS L).getD i default)).length) => plS_lt hk
        have hup := fun k (hk : k + 1 < (plS L ((busyS L).getD i default)).length) => plS_up hk
        have hnot := fun k (hk : k < (plS L ((busyS L).getD i default)).length) => HK_not hlt hk
        have hks := HK_succ (L := L) hlt
        have hHl : (HK L (busyS L) i).length + (plS L ((busyS L).getD i default)).length ≤ 160 := by
          have := HK_le HALL.out (i + 1)
          rw [HK_succ hlt, List.length_append] at this
          omega
        have hone := oneK_succ (f := from') (t := to') hlt
        have hrs : rowS ((busyS L).getD i default) = [(((busyS L).getD i default).1.1 : Int), (((busyS L).getD i default).1.2 : Int)] := rfl
        rw [hrs] at hru
        have hwn : wayN L ((busyS L).getD i default).1.1 ((busyS L).getD i default).1.2 = (plS L ((busyS L).getD i default)).map fun (i : Nat) => (i : Int) := hwn
        have HN4 := HN3.out.kept (fun k hk => hu.block k (HN3.out.2.1 k hk) (fun e => by injection e with e; have := HQN.out k hk; omega)) hsu
        have HWY := hid (wayP_any D n L ((busyS L).getD i default).1.1 ((busyS L).getD i default).1.2 wo.drew (HN4.qu ⟨1, rfl⟩) (by omega))
        rw [hwn] at HWY
        generalize plS L ((busyS L).getD i default) = W at *
        generalize (busyS L).getD i default = x at *
        obtain ⟨⟨xf, xt⟩, hx⟩ := x
        simp only at hru hone HWY
        generalize ls.getD i undef = u at *
        obtain ⟨gu, ou, pu, rfl, -, hgu, hpu, hpum, hcu⟩ := (RowA.of_own hru).elem (by simp)
        have r0 : W3.cell? ⟨gu, ou, none⟩ = some (.int .i64 xf) := hcu 0 (by simp)
        have r1 : W3.cell? ⟨gu, ou + 1, none⟩ = some (.int .i64 xt) := hcu 1 (by simp)
        have r0 := hu.cellAt hgu (hqr gu rfl) r0
        have r1 := hu.cellAt hgu (hqr gu rfl) r1
        have hn4 := hid HN4
        have HU := hid hu; have HHB4 := hid hhb
        have HNOT := hid hnot; have HUP := hid hup; have HWL := hid hwl2; have HKS := hid hks; have HONE := hid hone
        generalize HK L (busyS L) i = H at *
        generalize oneK (busyS L) from' to' i = o at *
        unfold maxLen at hpm hpum
        clear hcl hru hqr hnot hup hwl2 hks hone HN4 hu hhb hcu hwn hrs HHB
        go_upto_region 20 with (fail)
        go_cut [14] from 56 to 76 (fun s14 wx => s14 = .bool (o || ((xf : Int) == from' && (xt : Int) == to')) ∧ wo = wx)
        case first =>
          cases o with
          | true =>
            go_wp2
            go_meet
            case rel => exact ⟨rfl, rfl⟩
          | false =>
            by_cases h1 : (xf : Int) = from'
            · have t1 : ((xf : Int) == from') = true := by simp [h1]
              by_cases h2 : (xt : Int) = to'
              · have t2 : ((xt : Int) == to') = true := by simp [h2]
                clear h1 h2
                go_wp2
                go_meet
                case rel => exact ⟨by simp [t1, t2], rfl⟩
              · have t2 : ((xt : Int) == to') = false := by simpa using h2
                clear h1 h2
                go_wp2
                go_meet
                case rel => exact ⟨by simp [t1, t2], rfl⟩
            · have t1 : ((xf : Int) == from') = false := by simpa using h1
              clear h1
              go_wp2
              go_meet
              case rel => exact ⟨by simp [t1], rfl⟩
        case rest =>
        obtain ⟨rfl, rfl⟩ := hcut
        go_upto_region 21 with (fail)
        go_region_held3 (fun w' => w'.cell? ⟨gl, ol + i, none⟩ = some (.slice (some ⟨gu, ou, none⟩) 2 pu) ∧ w'.cell? ⟨gu, ou, none⟩ = some (.int .i64 xf) ∧ w'.cell? ⟨gu, ou + 1, none⟩ = some (.int .i64 xt)) (go_keep) (((with_reducible refine HWY.out.mono ?_); rintro e w5 ⟨vw, rfl, how, hb5⟩; have cl := (hb5.cell (p := ⟨gl, ol + i, none⟩) (show gl < wo.heap.size by omega)).trans cl; have r0 := (hb5.cell (p := ⟨gu, ou, none⟩) (show gu < wo.heap.size by omega)).trans r0; have r1 := (hb5.cell (p := ⟨gu, ou + 1, none⟩) (show gu < wo.heap.size by omega)).trans r1; have HOW := hid how; have HB5 := hid ((Below.refl wo.heap.size wo).drew.trans hb5); clear how hb5))
        all_goals
          have hz5 := HB5.out.size
          have hwz : W3.heap.size ≤ wo.heap.size := hsu
          obtain ⟨gw, ow, pw, rfl, hgwb, hgw, hpw, hpwm, hcw⟩ := (RowA.of_own HOW.out).elem (by rw [List.length_map]; exact hwp)
          have hgwb : wo.heap.size ≤ gw := hgwb
          have hgq : gw ≠ q := by omega
          rw [List.length_map] at hpw hcw ⊢
          have HCW := hid (fun (k : Nat) (hk : k < W.length) => (by
            rw [hcw k (by omega)]
            unfold ivals
            rw [List.getElem?_map, List.getElem?_map, List.getElem?_eq_getElem hk, List.getD_eq_getElem?_getD, List.getElem?_eq_getElem hk]; rfl : w5.cell? ⟨gw, ow + k, none⟩ = some (.int .i64 ((W.getD k 0 : Nat) : Int))))
          have HH5 := hid (HHB4.out.kept (HB5.out.block q (by omega)))
          have HN5 := hid (hn4.out.below HB5.out)
          have HU5 := hid (HU.out.new (HB5.out.mono (by omega)))
          obtain ⟨wl, hwl'⟩ : ∃ wl, wl = W.length := ⟨_, rfl⟩
          unfold maxLen at hpwm
          clear hcw HHB4 HU HOW HB5 hn4 HWY
          go_wp2
          go_loopw [13, 17] (fun cn k wq => WiRel H W q w5 cn k wq) (fun _ k _ => W.length - (intOf k).toNat)
          case atStart => exact ⟨0, by omega, rfl, rfl, by simpa using HH5.out, Upd.refl _ _⟩
          case round =>
          obtain ⟨k, hk, rfl, rfl, hhb, hu⟩ := hrel
          have hsu5 := hu.size
          by_cases hkl : k < W.length
          · have cw := hu.cellAt hgw hgq (HCW.out k hkl)
            have hz := HWL.out k hkl
            have hnot := HNOT.out k hkl
            have htk : H ++ W.take (k + 1) = H ++ W.take k ++ [W.getD k 0] := by rw [List.take_succ_eq_append_getElem hkl, List.append_assoc, List.getD_eq_getElem?_getD, List.getElem?_eq_getElem hkl]; rfl
            have hset := hhb.set (show W.getD k 0 < 200 by omega)
            rw [← htk] at hset
            obtain ⟨hm1, hm2⟩ := hhb (W.getD k 0) (by omega)
            rw [decide_eq_false hnot] at hm1
            have HLEN := hid (fun W' (hq : Qu wr W') => lenN_any D n L W' ((HN5.out.kept (fun k hk => hu.block k (HN5.out.2.1 k hk) (fun e => by injection e with e; have := HQN.out k hk; omega)) hsu5).qu hq))
            have hprev : ¬ (0 : Int) < (k : Int) ∨ ((0 : Int) < (k : Int) ∧ ∃ j : Nat, IntKind.i64.wrap ((k : Int) - 1) = (j : Int) ∧ j < W.length ∧ wr.cell? ⟨gw, ow + j, none⟩ = some (.int .i64 ((W.getD j 0 : Nat) : Int)) ∧ W.getD j 0 < W.getD k 0) := by
              cases k with
              | zero => exact .inl (by omega)
              | succ j => exact .inr ⟨by omega, j, by rw [IntWalk.i64_in _ (by omega)]; omega, by omega, hu.cellAt hgw hgq (HCW.out j (by omega)), HUP.out j hkl⟩
            have HSET := hid hset; have HU2 := hid hu
            generalize hzz : W.getD k 0 = z at *
            clear hset hhb hu hnot htk hzz
            have hz200 : (z : Int) < 200 := by omega
            have hzL : (z : Int) < (L.length : Int) := by omega
            have g1 : decide ((z : Int) < 0) = false := decide_eq_false (by omega)
            have g2 : decide (L.length ≤ z) = false := decide_eq_false (by omega)
            have g3 : decide (200 ≤ z) = false := decide_eq_false (by omega)
            have g4 : decide ((L.length : Int) ≤ (z : Int)) = false := decide_eq_false (by omega)
            have g5 : decide ((200 : Int) ≤ (z : Int)) = false := decide_eq_false (by omega)
            rcases hprev with hk0 | ⟨hk0, j, hjw, hjl, cp, hlt2⟩
            · obtain rfl : k = 0 := by omega
              rw [Nat.add_zero] at cw
              clear hk0
              go_upto_region 27 with (fail)
              go_quiet (first | (go_at_call 12; exact Calls.quiet_of (HLEN.out _ ⟨_, rfl⟩)))
              go_wp2
              go_roundw
              case rel => exact ⟨0 + 1, by omega, by go_num, by go_num, HSET.out.kept rfl, (HU2.out.qu ⟨nq, rfl⟩).trans (Upd.setCell q z _ _)⟩
              case measure => simp [intOf]; omega
            · have g6 : decide ((0 : Int) < (k : Int)) = true := decide_eq_true hk0
              have g7 : decide (0 < k) = true := decide_eq_true (by omega)
              generalize W.getD j 0 = y at *
              have g8 : decide ((z : Int) ≤ (y : Int)) = false := decide_eq_false (by omega)
              have g9 : decide (z ≤ y) = false := decide_eq_false (by omega)
              go_upto_region 27 with (fail)
              go_quiet (first | (go_at_call 12; exact Calls.quiet_of (HLEN.out _ ⟨_, rfl⟩)))
              go_wp2
              go_roundw
              case rel => exact ⟨k + 1, by omega, by go_num, by go_num, HSET.out.kept rfl, (HU2.out.qu ⟨nq, rfl⟩).trans (Upd.setCell q z _ _)⟩
              case measure => simp [intOf]; omega
          · obtain rfl : k = W.length := by omega
            rw [List.take_length] at hhb
            have hlen : H.length + W.length = (HK L (busyS L) (i + 1)).length := by rw [HKS.out, List.length_append]
            have HHB6 := hid hhb; have HU6 := hid hu; have HLN := hid hlen
            clear hhb hu hlen
            go_wp2
            go_roundw
            case rel => exact ⟨i + 1, by omega, by go_num, by rw [HLN.out], by rw [HONE.out], by rw [HKS.out]; exact HHB6.out, HU5.out.trans HU6.out⟩
            case measure => simp [intOf]; omega
      · obtain rfl : i = (busyS L).length := by omega
        have HN4 := HN3.out.kept (fun k hk => hu.block k (HN3.out.2.1 k hk) (fun e => by injection e with e; have := HQN.out k hk; omega)) hsu
        have HWY := hid (fun W (hq : Qu wo W) => wayP_any D n L from' to' W (HN4.qu hq) (by omega))
        have HLEN := hid (lenN_any D n L wo HN4)
        have HBF := hid (HB3.out.trans (hu.below hwl (by omega)))
        rw [HK_all HALL.out, oneK_all HALL.out]
        generalize wayN L from' to' = Y at *
        clear hu hhb hlt HN4
        go_wp2_with fail
        refine HLEN.out.mono ?_
        rintro e w5 ⟨rfl, hq5⟩
        have HQ5 := hid hq5
        clear hq5
        go_wp2_with fail
        refine (HWY.out w5 HQ5.out).mono ?_
        rintro e w6 ⟨vy, rfl, hoy, hb6⟩
        obtain ⟨Ya, Yc, rfl⟩ := own_formN hoy
        have HB6 := hid ((HBF.out.trans (HQ5.out.below _)).trans (hb6.mono (by have := HBF.out.size; rw [HQ5.out.size]; exact this)))
        generalize Y.length = m at *
        clear hoy hb6
        have hm : m = 0 ∨ 0 < m := by omega
        rcases hm with rfl | hm
        all_goals
          try (have g1 : decide ((0 : Int) < (m : Int)) = true := decide_eq_true (by omega))
          go_wp2_with fail
          refine (lives_any w6).mono ?_
          rintro e w7 ⟨rfl, hb7⟩
          have HB7 := hid (HB6.out.trans (hb7.mono HB6.out.size))
          clear hb7
          go_wp2
          go_ret
          exact ⟨rfl, HB7.out⟩
end Go.Proofs.Ytkgifbnkkmeoiaa
