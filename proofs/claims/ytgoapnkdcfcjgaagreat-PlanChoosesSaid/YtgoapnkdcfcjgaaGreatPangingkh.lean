/- 4 texts of this claim, in build order. -/
import Derived.Test.YtgoapnkdcfcjgaaGreatPmnamfpem
import Derived.Test.YtgoapnkdcfcjgaaGreatPplomcpim
import Derived.Test.YtgoapnkdcfcjgaaGreatPldpedafh
set_option linter.unusedVariables false
set_option linter.unusedSimpArgs false
namespace Go.Proofs.YtgoapnkdcfcjgaaGreat
open Go.ChangeShapes Go.WideShapes Go.ChangeAt Go.RowKit
theorem ziM (x u : Value) (vk l : List Int) (b : Nat) (w : World) (hc : w.cell? ⟨b, 0, none⟩ = some u) (hu : zC w w.heap.size [u] vk) (hx : zC w w.heap.size [x] l) :
  Calls Tryz.prog 59 #[x, .pointer (some ⟨b, 0, none⟩)] w (zY (.bool (decide (vk = l))) w) := by
 have HE := hid (zmm u x vk l w hu hx)
 clear hu hx
 go_enter Tryz.func59, Tryz.ntmps59
 go_wp2_with fail
 refine HE.out.mono ?_
 rintro e w1 ⟨rfl, hq⟩
 go_wp2
 go_ret
 exact ⟨rfl, hq.below _⟩
theorem ziF : zbg 59 := za8 Tryz.func59 (by kernel_rfl) rfl
def NmRel (s : ze) (W0 : World) (out i : Value) (wr : World) : Prop :=
 ∃ k : Nat, k <= s.1.length /\ i = .int .i64 k /\ wr.ownsRow W0.heap.size 9 1 out k (zL ((s.1.map (·.1)).take k)) /\ (∀ j (h : j < s.1.length), j < k -> zax s.1[j].2 3 = true) /\ Below W0.heap.size W0 wr
def zbB (s : ze) (i : Nat) : Bool := zap s (s.2.2.getD i []) && !(decide (s.2.2.getD i [] = zV s)) && !((s.2.2.take i).any fun x => decide (s.2.2.getD i [] = x))
def VwRel (s : ze) (w1 : World) (i : Value) (wr : World) : Prop := ∃ k : Nat, k <= s.2.2.length /\ i = .int .i64 k /\ (∀ j, j < k -> zbB s j = true) /\ Below w1.heap.size w1 wr
theorem zj5 {s : ze} {k : Nat} (h : k < s.1.length) (hn : zax s.1[k].2 3 = false) : mayS s = false := by
 have : s.1.all (fun d => zax d.2 3) = false := List.all_eq_false.2 ⟨_, List.getElem_mem h, by rw [hn]; simp⟩
 unfold mayS; rw [this]; rfl
theorem ziu {s : ze} (h : ∀ j (h : j < s.1.length), zax s.1[j].2 3 = true) : mayS s = ((zax (s.1.map (·.1)) 3 && zax s.2.1 2 && decide (s.2.2.length <= 6)) && (List.range s.2.2.length).all (zbB s)) := by
 have : s.1.all (fun d => zax d.2 3) = true := List.all_eq_true.2 (fun d hd => by
  obtain ⟨j, hj, rfl⟩ := List.mem_iff_getElem.1 hd
  exact h j hj)
 unfold mayS; rw [this, Bool.true_and]; rfl
theorem zj4 {s : ze} {k : Nat} (h : k < s.2.2.length) (hn : zbB s k = false) : (List.range s.2.2.length).all (zbB s) = false :=
 List.all_eq_false.2 ⟨k, List.mem_range.2 h, by rw [hn]; simp⟩
theorem zik {s : ze} (h : ∀ j, j < s.2.2.length -> zbB s j = true) : (List.range s.2.2.length).all (zbB s) = true := List.all_eq_true.2 (fun j hj => h j (List.mem_range.1 hj))
set_option maxRecDepth 100000 in
set_option maxHeartbeats 1600000 in
theorem zbF (v : Value) (s : ze) (w : World) (hv : zD w w.heap.size v s) (hl : s.1.length <= 1000) :
  Calls Tryz.prog 40 #[v] w (zY (.bool (mayS s)) w) := by
 obtain ⟨i0, hi, hz0, hz1, hz2⟩ := info_parts zdI
 have hv0 := hv
 obtain ⟨A1, c1, A2, c2, A3, c3, rfl, h1, h2, h3⟩ := hv
 obtain ⟨hc1, hm1⟩ := h1.cap
 obtain ⟨hc3, hm3⟩ := h3.cap
 obtain ⟨W0, hW0⟩ : ∃ W, W = w.alloc (.cells #[.slice A1 s.1.length c1, .slice A2 s.2.1.length c2, .slice A3 s.2.2.length c3] 26) := ⟨_, rfl⟩
 have g0 : Below w.heap.size w W0 := by rw [hW0]; exact bl1 _ _
 have z0 : W0.heap.size = w.heap.size + 1 := by rw [hW0]; simp
 have y0 : W0.cell? ⟨w.heap.size, 0, none⟩ = some (.slice A1 s.1.length c1) := by rw [hW0]; simp [go_sem]
 have y1 : W0.cell? ⟨w.heap.size, 1, none⟩ = some (.slice A2 s.2.1.length c2) := by rw [hW0]; simp [go_sem]
 have y2 : W0.cell? ⟨w.heap.size, 2, none⟩ = some (.slice A3 s.2.2.length c3) := by rw [hW0]; simp [go_sem]
 have HW0 := hid hW0
 have G0 := hid g0; have Y0 := hid y0; have Y1 := hid y1; have Y2 := hid y2
 have HSV := hid (hv0.on g0)
 have H1 := hid (zam.on h1 g0)
 have H2 := hid (zQ.on h2 g0)
 have H3 := hid (zaw.on h3 g0)
 clear hW0 g0 y0 y1 y2 hv0 h1 h2 h3
 go_enter Tryz.func40, Tryz.ntmps40
 go_wp2
 rw [<- HW0.out]
 go_loopw [3, 13] (fun out i wr => NmRel s W0 out i wr) (fun _ i _ => s.1.length - (intOf i).toNat)
 case atStart => exact ⟨0, by omega, rfl, World.ownsRow_nil _ _ _ _, fun j h h' => by omega, Below.refl _ _⟩
 case round =>
  obtain ⟨k, hk, rfl, hown, hall, hb⟩ := hrel
  have hs := hb.size
  have HB := hid hb; have HALL := hid hall; have HOW := hid hown
  clear hb hall hown
  by_cases hlt : k < s.1.length
  ·obtain ⟨b, off, rfl, hbl, es, hel, hcell, hr⟩ := H1.out.at_ hlt
   have e1 : (s.1.map (·.1)).take (k + 1) = (s.1.map (·.1)).take k ++ [s.1[k].1] := by
    rw [List.take_succ_eq_append_getElem (by simp; omega)]; simp
   have hno := fun h => zj5 (s := s) hlt h
   have hyes : zax s.1[k].2 3 = true -> ∀ j (h : j < s.1.length), j < k + 1 -> zax s.1[j].2 3 = true := fun h j hj hjk => by
    by_cases e : j = k
    ·subst e; exact h
    ·exact HALL.out j hj (by omega)
   generalize s.1[k] = d at *
   obtain ⟨nm, ls⟩ := d
   obtain ⟨hl1, ⟨ex, -⟩, hlv⟩ := hr
   obtain ⟨AL, cL, eL, hL1, hL2⟩ := hlv.open_
   obtain rfl : es = [.string nm, .slice AL ls.length cL] := by
    rw [<- List.take_append_drop 1 es, ex, eL]; rfl
   have q0 : wr.cell? ⟨b, off + k * 2, none⟩ = some (.string nm) := zc HB.out hbl (hcell 0 _ rfl)
   have q1 : wr.cell? ⟨b, off + k * 2 + 1, none⟩ = some (.slice AL ls.length cL) := zc HB.out hbl (hcell 1 _ rfl)
   simp only at e1 hno hyes
   have HNM := hid (fun W (hb : Below W0.heap.size W0 W) => zfm (.slice AL ls.length cL) ls 3 W (zQ.on hlv hb) (by omega))
   clear hcell ex eL hl1 hel hlv
   have E1 := hid e1; have HNO := hid hno; have HYES := hid hyes
   generalize zax ls 3 = bn at *
   generalize ls.length = n at *
   clear e1 hno hyes
   go_wp2_with (at_builtin; refine zr ?_)
   refine zar ?_
   refine zav (.tmp 17) (.tmp 20) 23 23 rfl rfl W0.heap.size 9 i0 (.string ByteArray.empty) 1 16 Tryz.underlying23 hi hz0 hz1 hz2 rfl (by decide) _ k (zL ((s.1.map (·.1)).take k)) rfl ((HOW.out.alloc _).alloc _) (.slice (some ⟨wr.heap.size + 1, 0, none⟩) 1 1) 1 (zL [nm]) rfl (Src.ofSlice _ Tryz.underlying23 _ 1 1 _ rfl (zG _ _ _ (by simp)) (by simp [zL]; rfl)) (by first | omega | (simp only [maxLen]; omega)) (by first | omega | (simp only [maxLen]; omega)) (by simp; omega) ?_
   intro v' w' hown' hg' hb'
   have hbw : Below W0.heap.size W0 w' := ((HB.out.alloc hs _).alloc (by simp; omega) _).trans hb'
   have HBW := hid hbw
   have HOW' := hid (show w'.ownsRow W0.heap.size 9 1 v' (k + 1) (zL ((s.1.map (·.1)).take (k + 1))) by rw [E1.out, zea]; exact hown')
   have m1 : w'.cell? ⟨wr.heap.size, 1, none⟩ = some (.slice AL n cL) := by
    refine (World.cell?_of_block (a := ⟨wr.heap.size, 1, none⟩) (hg'.block _ (by simp; omega) (fun e => by have := (HOW.out.lt wr.heap.size e.symm).2; omega))).trans ?_
    simp [go_sem]
   clear hown' hg' hb' hbw HOW
   go_wp2_with fail
   refine (HNM.out _ HBW.out).mono ?_
   rintro e w2 ⟨rfl, hb2⟩
   have hs' := HBW.out.size
   have HB2 := hid hb2
   clear hb2
   cases bn
   ·have hn := HNO.out rfl
    have HN := hid hn
    clear hn
    go_wp2
    go_ret
    exact ⟨by rw [HN.out]; rfl, (G0.out.trans (HBW.out.mono (by omega))).trans (HB2.out.mono (by omega))⟩
   ·go_wp2
    go_roundw
    case rel => exact ⟨k + 1, by omega, by go_num, zo HOW'.out (fun g hg => HB2.out.block g (HOW'.out.lt g hg).2), HYES.out (by first | rfl | trivial), HBW.out.trans (HB2.out.mono hs')⟩
    case measure => simp [intOf]; omega
  ·obtain rfl : k = s.1.length := by omega
   have hmay := ziu (fun j h => HALL.out j h h)
   have hvn := fun j h1 h2 => zj4 (s := s) (k := j) h1 h2
   have hvy := fun h => zik (s := s) h
   have hnl : (s.1.map (·.1)).length = s.1.length := by simp
   have hown : wr.ownsRow W0.heap.size 9 1 u3 s.1.length (zL (s.1.map (·.1))) := by
    have := HOW.out
    rwa [List.take_of_length_le (by omega)] at this
   have hnr : zO wr wr.heap.size [u3] (s.1.map (·.1)) := zbi hnl.symm hown (fun x hx => by
    obtain ⟨d, hd, rfl⟩ := List.mem_map.1 hx
    exact (zjU H1.out d hd).1)
   have HNA := hid (zfm u3 (s.1.map (·.1)) 3 wr hnr (by omega))
   have HNB := hid (fun W (hb : Below W0.heap.size W0 W) => zfm (.slice A2 s.2.1.length c2) s.2.1 2 W (zQ.on H2.out hb) (by omega))
   have hbin := zjA H1.out
   have HBS := hid (fun W (hb : Below W0.heap.size W0 W) => zg1 _ s W (HSV.out.on hb) hl)
   have HCR := hid (fun x l W (hb : Below W0.heap.size W0 W) hx => zgv _ x s l W (HSV.out.on hb) hl hx)
   generalize (List.range s.2.2.length).all (zbB s) = vb at *
   generalize zax (s.1.map (·.1)) 3 = bA at *
   generalize zax s.2.1 2 = bB at *
   have HMAY := hid hmay; have HVN := hid hvn; have HVY := hid hvy; have HBIN := hid hbin
   have k0 := zc HB.out (by omega) Y0.out
   have k1 := zc HB.out (by omega) Y1.out
   have k2 := zc HB.out (by omega) Y2.out
   clear hmay hvn hvy hbin hown hnr HOW HALL
   go_wp2_with fail
   refine HNA.out.mono ?_
   rintro e w1 ⟨rfl, hb1⟩
   have HB1 := hid (HB.out.trans (hb1.mono hs))
   clear hb1
   cases bA
   ·go_wp2
    go_ret
    exact ⟨by rw [HMAY.out]; rfl, G0.out.trans (HB1.out.mono (by omega))⟩
   ·have k0 := zc HB1.out (by omega) Y0.out
    have k1 := zc HB1.out (by omega) Y1.out
    have k2 := zc HB1.out (by omega) Y2.out
    go_wp2_with fail
    refine (HNB.out _ HB1.out).mono ?_
    rintro e w2 ⟨rfl, hb2⟩
    have HB2 := hid (HB1.out.trans (hb2.mono HB1.out.size))
    clear hb2
    have k0 := zc HB2.out (by omega) Y0.out
    have k1 := zc HB2.out (by omega) Y1.out
    have k2 := zc HB2.out (by omega) Y2.out
    cases bB
    ·go_wp2
     go_ret
     exact ⟨by rw [HMAY.out]; rfl, G0.out.trans (HB2.out.mono (by omega))⟩
    ·by_cases h6 : s.2.2.length <= 6
     ·have d6 : decide ((6 : Int) < (s.2.2.length : Int)) = false := by rw [decide_eq_false_iff_not]; omega
      have hm' : mayS s = vb := by rw [HMAY.out, decide_eq_true h6]; simp
      have HM' := hid hm'
      clear hm' HMAY
      go_wp2_with fail
      refine (HBS.out _ HB2.out).mono ?_
      rintro e w3 ⟨r, rfl, hr3, hb3⟩
      have HR3 := hid (zaA rfl hr3 HBIN.out)
      have HB3 := hid (HB2.out.trans (hb3.mono HB2.out.size))
      have z3 := HB3.out.size
      clear hb3 hr3 HBIN HBS k0 k1 k2
      have k2 := zc HB3.out (by omega) Y2.out
      go_wp2
      go_loopw [47] (fun i wr => VwRel s w3 i wr) (fun i _ => s.2.2.length - (intOf i).toNat)
      case atStart => exact ⟨0, by omega, rfl, fun j hj => by omega, Below.refl _ _⟩
      case round =>
       obtain ⟨k, hk, rfl, hall, hb⟩ := hrel
       have hs4 := hb.size
       have HB4 := hid (HB3.out.trans (hb.mono z3)); have HR4 := hid (zm.on HR3.out hb); have HALL := hid hall; have HB34 := hid hb
       clear hall hb
       have k0 := zc HB4.out (by omega) Y0.out
       have k1 := zc HB4.out (by omega) Y1.out
       have k2 := zc HB4.out (by omega) Y2.out
       by_cases hlt : k < s.2.2.length
       ·obtain ⟨b, off, rfl, hbl, es, hel, hcell, hr⟩ := (zaw.on H3.out HB4.out).at_ hlt
        obtain ⟨Av, cv, rfl, hv1, hv2⟩ := hr.open_
        have q0 := hcell 0 _ rfl
        rw [Nat.mul_one, Nat.add_zero] at q0
        have hgd : s.2.2.getD k [] = s.2.2[k] := by rw [List.getD_eq_getElem?_getD, List.getElem?_eq_getElem hlt]; rfl
        have hno := fun h => HVN.out k hlt h
        have hyes : zbB s k = true -> ∀ j, j < k + 1 -> zbB s j = true := fun h j hj => by
         by_cases e : j = k
         ·subst e; exact h
         ·exact HALL.out j (by omega)
        have hvk : zbB s k = (zap s s.2.2[k] && !(decide (s.2.2[k] = zV s)) && !((s.2.2.take k).any fun x => decide (s.2.2[k] = x))) := by unfold zbB; rw [hgd]
        rw [hvk] at hno hyes
        have hhead : zj 1 zC W0 W0.heap.size [.slice (some ⟨b, off, none⟩) k c3] (s.2.2.take k) := H3.out.head_ (by omega)
        generalize s.2.2[k] = vk at *
        have HVK := hid (zm.more hr (Nat.le_refl _))
        have HCV := hid (fun W (hb : Below W0.heap.size W0 W) hx => HCR.out (.slice Av vk.length cv) vk W hb hx)
        have HSM := hid (fun (x : Value) (l : List Int) (B : Nat) (W : World) hc hu hx => ziM x (.slice Av vk.length cv) vk l B W hc hu hx)
        have HAN := hid (fun (B : Nat) (W : World) (hb : Below W0.heap.size W0 W) (hc : W.cell? ⟨B, 0, none⟩ = some (.slice Av vk.length cv)) (hB : B < W.heap.size) (hu : zC W W.heap.size [.slice Av vk.length cv] vk) =>
         zpc 59 #[.pointer (some ⟨B, 0, none⟩)] (fun x => decide (vk = x)) (.slice (some ⟨b, off, none⟩) k c3) (s.2.2.take k) W (zaw.on hhead hb) zaw ziF (fun x u W' hx hr' hb' =>
          ziM u (.slice Av vk.length cv) vk x B W' (zc hb' hB hc) (zm.on hu hb') hr'))
        generalize zap s vk = cA at *
        have hcB : ∃ q, decide (vk = zV s) = q := ⟨_, rfl⟩
        obtain ⟨cB, hcB⟩ := hcB
        rw [hcB] at hno hyes
        have HSB := hid (fun (B : Nat) (W : World) hc hu hx => HSM.out r (zV s) B W hc hu hx)
        rw [hcB] at HSB
        generalize ((s.2.2.take k).any fun x => decide (vk = x)) = cC at *
        have HNO := hid hno; have HYES := hid hyes
        generalize vk.length = n at *
        clear hno hyes hvk hcell hel hr hhead hcB HSM
        have ba : Below wr.heap.size wr (wr.alloc (.cells #[.slice Av n cv] 27)) := bl1 _ _
        have za : (wr.alloc (.cells #[.slice Av n cv] 27)).heap.size = wr.heap.size + 1 := by simp
        have xa : (wr.alloc (.cells #[.slice Av n cv] 27)).cell? ⟨wr.heap.size, 0, none⟩ = some (.slice Av n cv) := by simp [go_sem]
        have BA := hid ba; have XA := hid xa
        have HB5 := hid (HB4.out.trans (ba.mono HB4.out.size))
        clear ba xa
        have l0 := zc HB5.out (by omega) Y0.out
        have l1 := zc HB5.out (by omega) Y1.out
        have l2 := zc HB5.out (by omega) Y2.out
        have hlw : w.heap.size < wr.heap.size := by have := HB4.out.size; omega
        go_wp2_with fail
        refine (HCV.out _ HB5.out (zm.on HVK.out BA.out)).mono ?_
        rintro e w6 ⟨rfl, hb6⟩
        have HB6 := hid (HB5.out.trans (hb6.mono HB5.out.size))
        have B46 := hid (BA.out.trans (hb6.mono BA.out.size))
        have X6 := hid (zc hb6 (by omega) XA.out)
        have z6 : wr.heap.size < w6.heap.size := by have := hb6.size; omega
        clear hb6
        cases cA
        ·have HN := hid (HNO.out rfl)
         go_wp2
         go_ret
         exact ⟨by rw [HM'.out, HN.out]; rfl, G0.out.trans (HB6.out.mono (by omega))⟩
        ·have x6 := X6.out
         go_wp2_with fail
         refine (HSB.out _ _ X6.out (zm.on HVK.out B46.out) (zm.on HR4.out B46.out)).mono ?_
         rintro e w7 ⟨rfl, hb7⟩
         have HB7 := hid (HB6.out.trans (hb7.mono HB6.out.size))
         have B47 := hid (B46.out.trans (hb7.mono B46.out.size))
         have X7 := hid (zc hb7 z6 X6.out)
         have z7 : wr.heap.size < w7.heap.size := by have := hb7.size; omega
         clear hb7 x6
         cases cB
         ·have l2 := zc HB7.out (by omega) Y2.out
          go_wp2_with fail
          refine (HAN.out _ _ HB7.out X7.out z7 (zm.on HVK.out B47.out)).mono ?_
          rintro e w8 ⟨rfl, hb8⟩
          have HB8 := hid (HB7.out.trans (hb8.mono HB7.out.size))
          have B48 := hid (B47.out.trans (hb8.mono B47.out.size))
          clear hb8
          cases cC
          ·go_wp2
           go_roundw
           case rel => exact ⟨k + 1, by omega, by go_num, HYES.out (by first | rfl | trivial), HB34.out.trans (B48.out.mono hs4)⟩
           case measure => simp [intOf]; omega
          ·have HN := hid (HNO.out rfl)
           go_wp2
           go_ret
           exact ⟨by rw [HM'.out, HN.out]; rfl, G0.out.trans (HB8.out.mono (by omega))⟩
         ·have HN := hid (HNO.out rfl)
          go_wp2
          go_ret
          exact ⟨by rw [HM'.out, HN.out]; rfl, G0.out.trans (HB7.out.mono (by omega))⟩
       ·have HV := hid (HVY.out (fun j hj => HALL.out j (by omega)))
        go_wp2
        go_ret
        exact ⟨by rw [HM'.out, HV.out]; rfl, G0.out.trans (HB4.out.mono (by omega))⟩
     ·have d6 : decide ((6 : Int) < (s.2.2.length : Int)) = true := by rw [decide_eq_true_eq]; omega
      go_wp2
      go_ret
      exact ⟨by rw [HMAY.out, decide_eq_false h6]; rfl, G0.out.trans (HB2.out.mono (by omega))⟩
set_option maxRecDepth 100000 in
theorem zmO (n m : Int) (w : World) : Calls Tryz.prog 82 #[.int .i64 n, .int .i64 m] w (za5 (.bool (inQ n m)) w) := by
 unfold inQ
 by_cases h : 0 <= n
 ·have d1 : decide (0 <= n) = true := decide_eq_true h
  rw [d1, Bool.true_and]
  go_enter Tryz.func82, Tryz.ntmps82
  go_wp2
  go_ret
  exact ⟨rfl, Qu.refl _⟩
 ·have d1 : decide (0 <= n) = false := decide_eq_false h
  rw [d1, Bool.false_and]
  go_enter Tryz.func82, Tryz.ntmps82
  go_wp2
  go_ret
  exact ⟨rfl, Qu.refl _⟩
set_option maxRecDepth 100000 in
theorem zkY (n : Int) (w : World) : Calls Tryz.prog 81 #[.int .i64 n] w (zY (.bool (!inQ n 3)) w) := by
 have HI := hid (zmO n 3)
 go_enter Tryz.func81, Tryz.ntmps81
 go_wp2_with fail
 refine (HI.out _).mono ?_
 rintro e w1 ⟨rfl, hq⟩
 go_wp2
 go_ret
 exact ⟨rfl, hq.below _⟩
theorem zgN : zbg 81 := za8 Tryz.func81 (by kernel_rfl) rfl
theorem zmi (v : Value) (l : List Int) (w : World) (hv : zC w w.heap.size [v] l) :
  Calls Tryz.prog 80 #[v, .func (Fn.func 81) #[] #[]] w (zY (.bool (l.any fun n => !inQ n 3)) w) :=
 zgM 81 #[] (fun n => !inQ n 3) v l w hv zm zgN (fun x u W hx hr hb => by
  obtain ⟨e, hs⟩ := hr
  simp only [List.cons.injEq, and_true] at e
  subst e
  exact zkY x W)
set_option maxRecDepth 100000 in
theorem zlB (v : Value) (p : List ByteArray) (w : World) (hv : zO w w.heap.size [v] p) : Calls Tryz.prog 83 #[v] w (zY (.bool (!mayB p)) w) := by
 have HI := hid (zeL v p w (zbP hv).1 (zbP hv).2 (zj7 hv))
 clear hv
 go_enter Tryz.func83, Tryz.ntmps83
 go_wp2_with fail
 refine HI.out.mono ?_
 rintro e w1 ⟨rfl, hb⟩
 go_wp2
 go_ret
 exact ⟨rfl, hb⟩
theorem zhw : zbg 83 := za8 Tryz.func83 (by kernel_rfl) rfl
theorem zmh (v : Value) (l : List (List ByteArray)) (w : World) (hv : zj 1 zO w w.heap.size [v] l) :
  Calls Tryz.prog 54 #[v, .func (Fn.func 83) #[] #[]] w (zY (.bool (l.any fun p => !mayB p)) w) :=
 zhe 83 #[] (fun p => !mayB p) v l w hv zB zhw (fun x u W hx hr hb => zlB u x W hr)
theorem zbG {w : World} {B : Nat} {A : Option Addr} {n c : Nat} {l : List zaS} (h : zj 3 zch w B [.slice A n c] l) {k : Nat} (hk : k < l.length) :
  ∃ b off AM cM, A = some ⟨b, off, none⟩ /\ b < B /\ w.cell? ⟨b, off + k * 3, none⟩ = some (.int .i64 l[k].1) /\ w.cell? ⟨b, off + k * 3 + 1, none⟩ = some (.int .i64 l[k].2.1) /\ w.cell? ⟨b, off + k * 3 + 2, none⟩ = some (.slice AM l[k].2.2.length cM) /\
   za4 l[k].1 /\ za4 l[k].2.1 /\ zj 1 zO w B [.slice AM l[k].2.2.length cM] l[k].2.2 := by
 obtain ⟨b, off, rfl, hb, es, hel, hcell, h1, ⟨e1, i1⟩, h2, ⟨e2, i2⟩, h3⟩ := h.at_ hk
 obtain ⟨AM, cM, e3, -, -⟩ := h3.open_
 obtain rfl : es = [.int .i64 l[k].1, .int .i64 l[k].2.1, .slice AM l[k].2.2.length cM] := by
  rw [<- List.take_append_drop 1 es, e1, <- List.take_append_drop 1 (es.drop 1), e2, e3]; rfl
 exact ⟨b, off, AM, cM, rfl, hb, hcell 0 _ rfl, hcell 1 _ rfl, hcell 2 _ rfl, i1, i2, h3⟩
def PlRel (q : zX) (W0 : World) (i : Value) (wr : World) : Prop := ∃ k : Nat, k <= q.2.length /\ i = .int .i64 k /\ (∀ j (h : j < q.2.length), j < k -> zby q.2[j] = true) /\ Below W0.heap.size W0 wr
set_option maxRecDepth 100000 in
set_option maxHeartbeats 1600000 in
theorem znz (v : Value) (q : zX) (w : World) (hv : zaH w w.heap.size v q) :
  Calls Tryz.prog 52 #[v] w (zY (.bool (zbC q)) w) := by
 obtain ⟨A1, c1, A2, c2, rfl, h1, h2⟩ := hv
 obtain ⟨hc1, hm1⟩ := h1.cap
 obtain ⟨hc2, hm2⟩ := h2.cap
 obtain ⟨W0, hW0⟩ : ∃ W, W = w.alloc (.cells #[.slice A1 q.1.length c1, .slice A2 q.2.length c2] 30) := ⟨_, rfl⟩
 have g0 : Below w.heap.size w W0 := by rw [hW0]; exact bl1 _ _
 have z0 : W0.heap.size = w.heap.size + 1 := by rw [hW0]; simp
 have y0 : W0.cell? ⟨w.heap.size, 0, none⟩ = some (.slice A1 q.1.length c1) := by rw [hW0]; simp [go_sem]
 have y1 : W0.cell? ⟨w.heap.size, 1, none⟩ = some (.slice A2 q.2.length c2) := by rw [hW0]; simp [go_sem]
 have HW0 := hid hW0
 have G0 := hid g0; have Y0 := hid y0; have Y1 := hid y1
 have HHO := hid (zmi _ q.1 W0 (zm.on h1 g0))
 have H2 := hid (zag.on h2 g0)
 have hpl : zbC q = ((decide (q.1.length <= 3) && decide (q.2.length <= 3) && !(q.1.any fun n => !inQ n 3)) && q.2.all zby) := rfl
 generalize (q.1.any fun n => !inQ n 3) = bo at *
 have HPL := hid hpl
 clear hW0 g0 y0 y1 h1 h2 hpl
 have hw : (¬ q.1.length <= 3) \/ (q.1.length <= 3 /\ ¬ q.2.length <= 3) \/ (q.1.length <= 3 /\ q.2.length <= 3) := by omega
 go_enter Tryz.func52, Tryz.ntmps52
 rcases hw with h | ⟨h, h'⟩ | ⟨h, h'⟩
 ·have d1 : decide ((3 : Int) < (q.1.length : Int)) = true := by rw [decide_eq_true_eq]; omega
  have hn : zbC q = false := by rw [HPL.out, decide_eq_false h]; rfl
  have HN := hid hn; clear hn
  go_wp2
  rw [<- HW0.out]
  go_ret
  exact ⟨by rw [HN.out]; rfl, G0.out⟩
 ·have d1 : decide ((3 : Int) < (q.1.length : Int)) = false := by rw [decide_eq_false_iff_not]; omega
  have d2 : decide ((3 : Int) < (q.2.length : Int)) = true := by rw [decide_eq_true_eq]; omega
  have hn : zbC q = false := by rw [HPL.out, decide_eq_false h']; simp
  have HN := hid hn; clear hn
  go_wp2
  rw [<- HW0.out]
  go_ret
  exact ⟨by rw [HN.out]; rfl, G0.out⟩
 ·have d1 : decide ((3 : Int) < (q.1.length : Int)) = false := by rw [decide_eq_false_iff_not]; omega
  have d2 : decide ((3 : Int) < (q.2.length : Int)) = false := by rw [decide_eq_false_iff_not]; omega
  have hn : zbC q = (!bo && q.2.all zby) := by rw [HPL.out, decide_eq_true h, decide_eq_true h']; simp
  have HN := hid hn; clear hn HPL
  go_wp2_with fail
  rw [<- HW0.out]
  refine HHO.out.mono ?_
  rintro e w1 ⟨rfl, hb1⟩
  have HB1 := hid hb1; clear hb1
  cases bo
  ·have hn : zbC q = q.2.all zby := by rw [HN.out]; simp
   have HN' := hid hn; clear hn HN
   have k1 := zc HB1.out (by omega) Y1.out
   go_wp2
   go_loopw [23] (fun i wr => PlRel q W0 i wr) (fun i _ => q.2.length - (intOf i).toNat)
   case atStart => exact ⟨0, by omega, rfl, fun j h h' => by omega, HB1.out⟩
   case round =>
    obtain ⟨k, hk, rfl, hall, hb⟩ := hrel
    have hs := hb.size
    have HB := hid hb; have HALL := hid hall
    clear hb hall
    by_cases hlt : k < q.2.length
    ·obtain ⟨b, off, AM, cM, rfl, hbl, q0, q1, q2, i1, i2, hms⟩ := zbG (zag.stays H2.out HB.out) hlt
     have hno := fun h => zfw (p := zby) hlt h
     have hyes : zby q.2[k] = true -> ∀ j (h : j < q.2.length), j < k + 1 -> zby q.2[j] = true := fun h j hj hjk => by
      by_cases e : j = k
      ·subst e; exact h
      ·exact HALL.out j hj (by omega)
     have hpf : zby q.2[k] = ((inQ q.2[k].1 2 && inQ q.2[k].2.1 3 && decide (q.2[k].2.2.length <= 6)) && !(q.2[k].2.2.any fun p => !mayB p)) := rfl
     rw [hpf] at hno hyes
     clear hpf
     generalize q.2[k] = f at *
     obtain ⟨d, lv, ms⟩ := f
     simp only at hno hyes q0 q1 q2 hms
     have HID := hid (fun W => zmO d 2 W); have HIL := hid (fun W => zmO lv 3 W)
     have HMS := hid (fun W (hb : Below wr.heap.size wr W) => zmh _ ms W (zB.on (zB.more hms (by omega)) hb))
     obtain ⟨hcM, hmM⟩ := hms.cap
     generalize inQ d 2 = b1 at *
     generalize inQ lv 3 = b2 at *
     generalize (ms.any fun p => !mayB p) = b3 at *
     have HNO := hid hno; have HYES := hid hyes
     clear hno hyes hms i1 i2
     obtain ⟨Wf, hWf⟩ : ∃ W, W = wr.alloc (.cells #[.int .i64 d, .int .i64 lv, .slice AM ms.length cM] 83) := ⟨_, rfl⟩
     have gf : Below wr.heap.size wr Wf := by rw [hWf]; exact bl1 _ _
     have zf : Wf.heap.size = wr.heap.size + 1 := by rw [hWf]; simp
     have f0 : Wf.cell? ⟨wr.heap.size, 0, none⟩ = some (.int .i64 d) := by rw [hWf]; simp [go_sem]
     have f1 : Wf.cell? ⟨wr.heap.size, 1, none⟩ = some (.int .i64 lv) := by rw [hWf]; simp [go_sem]
     have f2 : Wf.cell? ⟨wr.heap.size, 2, none⟩ = some (.slice AM ms.length cM) := by rw [hWf]; simp [go_sem]
     have HWf := hid hWf; have GF := hid gf; have F1 := hid f1; have F2 := hid f2
     have GW := hid (HB.out.trans (gf.mono hs))
     clear hWf gf f0 f1 f2
     go_wp2_with fail
     rw [<- HWf.out]
     refine (HID.out _).mono ?_
     rintro e w2 ⟨rfl, hq2⟩
     have B2 := hid (hq2.below Wf.heap.size)
     have m1 := zc B2.out (by omega) F1.out
     clear hq2
     cases b1
     ·have HN := hid (HNO.out rfl)
      go_wp2
      go_ret
      exact ⟨by rw [HN'.out, HN.out]; rfl, G0.out.trans ((GW.out.trans (B2.out.mono (by omega))).mono (by omega))⟩
     ·go_wp2_with fail
      refine (HIL.out _).mono ?_
      rintro e w3 ⟨rfl, hq3⟩
      have B3 := hid (B2.out.trans (hq3.below Wf.heap.size))
      have m2 := zc B3.out (by omega) F2.out
      clear hq3
      cases b2
      ·have HN := hid (HNO.out rfl)
       go_wp2
       go_ret
       exact ⟨by rw [HN'.out, HN.out]; rfl, G0.out.trans ((GW.out.trans (B3.out.mono (by omega))).mono (by omega))⟩
      ·by_cases h6 : ms.length <= 6
       ·have d6 : decide ((6 : Int) < (ms.length : Int)) = false := by rw [decide_eq_false_iff_not]; omega
        have hx : (true && true && decide (ms.length <= 6) && !b3) = !b3 := by rw [decide_eq_true h6]; simp
        have hno := HNO.out; have hyes := HYES.out
        rw [hx] at hno hyes
        have HNO' := hid hno; have HYES' := hid hyes
        clear hno hyes hx
        go_wp2_with fail
        refine (HMS.out _ (GF.out.trans (B3.out.mono (by omega)))).mono ?_
        rintro e w4 ⟨rfl, hb4⟩
        have z3 := B3.out.size
        have B4 := hid (B3.out.trans (hb4.mono z3))
        clear hb4
        cases b3
        ·go_wp2
         go_roundw
         case rel => exact ⟨k + 1, by omega, by go_num, HYES'.out (by first | rfl | trivial), GW.out.trans (B4.out.mono (by omega))⟩
         case measure => simp [intOf]; omega
        ·have HN := hid (HNO'.out rfl)
         go_wp2
         go_ret
         exact ⟨by rw [HN'.out, HN.out]; rfl, G0.out.trans ((GW.out.trans (B4.out.mono (by omega))).mono (by omega))⟩
       ·have d6 : decide ((6 : Int) < (ms.length : Int)) = true := by rw [decide_eq_true_eq]; omega
        have HN := hid (HNO.out (by rw [decide_eq_false h6]; simp))
        go_wp2
        go_ret
        exact ⟨by rw [HN'.out, HN.out]; rfl, G0.out.trans ((GW.out.trans (B3.out.mono (by omega))).mono (by omega))⟩
    ·have hall := zdp (p := zby) (l := q.2) (fun j hj => HALL.out j hj (by omega))
     have HALL' := hid hall; clear hall
     go_wp2
     go_ret
     exact ⟨by rw [HN'.out, HALL'.out]; rfl, G0.out.trans (HB.out.mono (by omega))⟩
  ·go_wp2
   go_ret
   exact ⟨by rw [HN.out]; rfl, G0.out.trans (HB1.out.mono (by omega))⟩
end Go.Proofs.YtgoapnkdcfcjgaaGreat
