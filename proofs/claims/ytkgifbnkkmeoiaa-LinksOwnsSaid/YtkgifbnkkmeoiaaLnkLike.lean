/- The law's like. -/
import Derived.Test.YtkgifbnkkmeoiaaLnkDoes
import Derived.Test.YtkgifbnkkmeoiaaSame8L
namespace Go.Proofs.Ytkgifbnkkmeoiaa
open Go.ChangeShapes Go.WideShapes Go.ChangeAt Go.RowKit
set_option linter.unusedVariables false
set_option linter.unusedSimpArgs false

/-- The links with packets among the first k of the grid. -/
def busyK (L : List PK) (k : Nat) : List (List Int) := ((List.range k).filter fun i => decide (0 < (wayN L ((i / 7 : Nat) + 1 : Int) ((i % 7 : Nat) + 1 : Int)).length)).map fun i => [((i / 7 : Nat) + 1 : Int), ((i % 7 : Nat) + 1 : Int)]
theorem busyK_succ (L : List PK) (k : Nat) : busyK L (k + 1) = busyK L k ++ (if 0 < (wayN L ((k / 7 : Nat) + 1 : Int) ((k % 7 : Nat) + 1 : Int)).length then [[((k / 7 : Nat) + 1 : Int), ((k % 7 : Nat) + 1 : Int)]] else []) := by
  unfold busyK
  rw [List.range_succ, List.filter_append, List.map_append]
  congr 1
  by_cases h : 0 < (wayN L ((k / 7 : Nat) + 1 : Int) ((k % 7 : Nat) + 1 : Int)).length
  · rw [if_pos h, List.filter_cons_of_pos (by exact decide_eq_true h)]; rfl
  · rw [if_neg h, List.filter_cons_of_neg (by rw [decide_eq_false h]; simp)]; rfl
theorem busyK_len (L : List PK) (k : Nat) : (busyK L k).length ≤ k := by
  unfold busyK
  rw [List.length_map]
  exact Nat.le_trans (List.length_filter_le _ _) (by simp)
theorem wayN_pos (L : List PK) (f t : Nat) (hok : ∀ p ∈ L, okP p) : 0 < (wayN L ((f : Nat) : Int) ((t : Nat) : Int)).length ↔ (f, t) ∈ L.map lnkG := by
  unfold wayN wayK
  rw [List.length_map, List.length_pos_iff_exists_mem, List.mem_map]
  constructor
  · rintro ⟨i, hi⟩
    rw [List.mem_filter, List.mem_range, decide_eq_true_eq] at hi
    obtain ⟨hi, h1, h2⟩ := hi
    rw [List.getD_eq_getElem?_getD, List.getElem?_eq_getElem hi] at h1 h2
    refine ⟨L[i], List.getElem_mem hi, ?_⟩
    simp only [Option.getD_some] at h1 h2
    unfold lnkG
    rw [h1, h2]; rfl
  · rintro ⟨p, hp, e⟩
    obtain ⟨i, hi, rfl⟩ := List.mem_iff_getElem.1 hp
    have ho := hok _ hp
    obtain ⟨h1, -, h3, -⟩ := ho
    unfold lnkG at e
    injection e with e1 e2
    refine ⟨i, ?_⟩
    rw [List.mem_filter, List.mem_range, decide_eq_true_eq]
    refine ⟨hi, ?_⟩
    rw [List.getD_eq_getElem?_getD, List.getElem?_eq_getElem hi]
    simp only [Option.getD_some]
    omega
theorem busyK_all (L : List PK) (hok : ∀ p ∈ L, okP p) : busyK L 49 = (busyS L).map rowS := by
  unfold busyK busyS gridS
  rw [List.filter_map, List.map_map]
  have h1 : (List.range 49).filter (fun i => decide (0 < (wayN L ((i / 7 : Nat) + 1 : Int) ((i % 7 : Nat) + 1 : Int)).length)) = (List.range 49).filter ((fun x : GS => decide (x.1 ∈ L.map lnkG)) ∘ fun i => if h : i < 49 then ⟨(i / 7 + 1, i % 7 + 1), by unfold inG; simp only; omega⟩ else default) := by
    refine List.filter_congr fun i hi => ?_
    rw [List.mem_range] at hi
    rw [Function.comp, dif_pos hi]
    have := wayN_pos L (i / 7 + 1) (i % 7 + 1) hok
    simp only
    rw [decide_eq_decide, ← this]
    rfl
  rw [h1]
  refine List.map_congr_left fun i hi => ?_
  have hi := List.mem_range.1 (List.mem_filter.1 hi).1
  rw [Function.comp, dif_pos hi]
  rfl
def LkRel (L : List PK) (w : World) (i : Value) (wr : World) : Prop := ∃ j : Nat, j ≤ L.length + 2 ∧ i = .int .i64 ((j : Int) - 1) ∧ Below w.heap.size w wr
def GrRel (L : List PK) (w : World) (busy f : Value) (wr : World) : Prop :=
  ∃ (a : Nat) (us : List Value), a ≤ 7 ∧ f = .int .i64 ((a : Int) + 1) ∧ wr.ownsRow w.heap.size 39 1 busy (busyK L (a * 7)).length us ∧ RowsI2 wr w.heap.size us (busyK L (a * 7)) ∧ Below w.heap.size w wr
def GrRel2 (L : List PK) (a : Nat) (w : World) (busy t : Value) (wr : World) : Prop :=
  ∃ (b : Nat) (us : List Value), b ≤ 7 ∧ t = .int .i64 ((b : Int) + 1) ∧ wr.ownsRow w.heap.size 39 1 busy (busyK L (a * 7 + b)).length us ∧ RowsI2 wr w.heap.size us (busyK L (a * 7 + b)) ∧ Below w.heap.size w wr
def Lk4 (K : Nat) (w : World) (i : Value) (wr : World) : Prop := ∃ k : Nat, k ≤ K ∧ i = .int .i64 k ∧ Qu w wr
set_option maxRecDepth 100000 in
set_option maxHeartbeats 6400000 in
theorem like_any (D R : Nat → Prop) (n r : Nat) (L : List PK) (w : World) (h : NetP w D n L) (hr : NetR w R r L) (hok : OkN L) :
    Calls Try.prog 8 #[.pointer (some ⟨n, 0, none⟩), .pointer (some ⟨r, 0, none⟩)] w (Gives (.bool true) w) := by
  obtain ⟨i1, hi1, hy0, hy1, hy2⟩ := info_parts info_ints
  have HN := hid h; have HR := hid hr
  have HLEN := hid (lenN_any D n L w.drew (h.qu ⟨1, rfl⟩))
  have h160 := hok.1
  have HOK := hid hok
  have hrl := hr.2.1 r hr.1
  have hnl := h.2.1 n h.1
  have hx : ∃ A c, w.cell? ⟨r, 0, none⟩ = some (.slice A L.length c) ∧ L.length ≤ c ∧ c ≤ maxLen := by
    obtain ⟨-, -, -, v, es, h4, h5, -, -⟩ := hr
    obtain ⟨A, c, rfl, h6, h7⟩ := h5.form
    exact ⟨A, c, h4, h6, h7⟩
  obtain ⟨A, c, x0, hlc, hcm⟩ := hx
  unfold maxLen at hcm
  have HD1000 := hid (fun x (hx : x ∈ L) => (show x.2.2.length ≤ 1000 by have := (hok.2 x hx).2; omega))
  clear h hr hok
  go_enter Try.func8, Try.ntmps8
  go_upto_region 1 with (fail)
  go_region_held3 (fun w' => w'.cell? ⟨r, 0, none⟩ = some (.slice A L.length c)) (go_keep) (((with_reducible refine HLEN.out.mono ?_); rintro e w5 ⟨rfl, hq5⟩; have x0 := (hq5.cell _).trans x0; have HB := hid ((Below.refl w.heap.size w).drew.trans (hq5.below _)); clear hq5))
  all_goals
    clear HLEN
    obtain ⟨w1, hw1⟩ : ∃ w1 : World, w1 = w5 := ⟨_, rfl⟩
    subst hw1
    go_wp2
    go_loopw [5] (fun i wr => LkRel L w1 i wr) (fun i _ => L.length + 2 - ((intOf i) + 1).toNat)
    case atStart => exact ⟨0, by omega, rfl, Below.refl _ _⟩
    case round =>
    have HN1 := hid (HN.out.below HB.out); have HR1 := hid (HR.out.below HB.out)
    have hz1 := HB.out.size
    obtain ⟨j, hj, rfl, hb⟩ := hrel
    have x1 := cellK hb (by omega) x0
    have hsb := hb.size
    by_cases hjl : j < L.length + 2
    · have hle : ((j : Int) - 1) ≤ (L.length : Int) := by omega
      have HLP := hid (lookP_any D n L ((j : Int) - 1) wr (HN1.out.below hb) HD1000.out)
      have HLEN := hid (show (lookN L ((j : Int) - 1)).1.2.2.length ≤ 1000 by
        unfold lookN
        split
        · rename_i hin
          have hp : 0 ≤ ((j : Int) - 1) ∧ ((j : Int) - 1) < (L.length : Int) := by unfold inN at hin; exact of_decide_eq_true hin
          rw [List.getD_eq_getElem?_getD, List.getElem?_eq_getElem (show ((j : Int) - 1).toNat < L.length by omega)]
          exact HD1000.out _ (List.getElem_mem _)
        · simp [zP])
      have HLR := hid (fun W (hbW : Below wr.heap.size wr W) => lookR_any R r L ((j : Int) - 1) W ((HR1.out.below hb).below hbW))
      have HRl := hid (HR1.out.below hb).2.1
      obtain ⟨jj, hjj⟩ : ∃ jj : Int, jj = (j : Int) - 1 := ⟨_, rfl⟩
      rw [← hjj] at hle HLP HLEN HLR ⊢
      have HJ := hid hjj
      have hjb : -1 ≤ jj ∧ jj ≤ 160 := by omega
      generalize lookN L jj = lk at *
      obtain ⟨⟨y1, y2, l⟩, er⟩ := lk
      have HBr := hid hb
      clear hb hjj
      simp only at HLP HLEN HLR
      go_wp2_with fail
      refine HLP.out.mono ?_
      rintro e w2 ⟨bv, rfl, ho2, hb2⟩
      obtain ⟨BA, bc, rfl⟩ := Own8.form ho2
      have HLR2 := hid (HLR.out w2 hb2)
      have HO2 := hid ho2; have HB2 := hid hb2
      clear ho2 hb2
      go_wp2_with fail
      refine HLR2.out.mono ?_
      rintro e w3 ⟨C, cc, rfl, hs3, hb3⟩
      have hz2 := HB2.out.size
      have hz3 := hb3.size
      obtain ⟨W4, hW4⟩ : ∃ W', W' = w3.alloc (.cells #[.int .i64 y1, .int .i64 y2, .slice C l.length cc] 55) := ⟨_, rfl⟩
      have z0 : W4.cell? ⟨w3.heap.size, 0, none⟩ = some (.int .i64 y1) := by rw [hW4]; simp [go_sem]
      have z1 : W4.cell? ⟨w3.heap.size, 1, none⟩ = some (.int .i64 y2) := by rw [hW4]; simp [go_sem]
      have z2 : W4.cell? ⟨w3.heap.size, 2, none⟩ = some (.slice C l.length cc) := by rw [hW4]; simp [go_sem]
      have hb4 : Below w3.heap.size w3 W4 := by rw [hW4]; exact bl1 _ _
      have HS4 := hid ((hs3.sl.below hb4).more hb4.size)
      have HB4 := hid (hb3.trans (hb4.mono hz3))
      have HO4 := hid (own_kept HO2.out (fun g hg => HB4.out.block g (HO2.out.lt g hg).2))
      have HW4 := hid hW4
      have HBx := hid (HBr.out.trans ((HB2.out.trans (HB4.out.mono hz2)).mono hsb))
      have HLL := hid (show l.length ≤ 140737488355328 by have h := HLEN.out; have h2 := HO2.out.1; omega)
      have HOS := hid (Sl.of_own HO4.out)
      clear hs3 hb3 hb4 hW4
      go_upto_region 8 with (fail)
      rw [← HW4.out]
      go_wp2_with fail
      refine (sameB_any _ _ l l _ HLL.out HLL.out HOS.out HS4.out).mono ?_
      rintro e w6 ⟨rfl, hq6⟩
      rw [decide_eq_true rfl]
      have z0 := (hq6.cell _).trans z0
      have z1 := (hq6.cell _).trans z1
      have HQ6 := hid hq6
      clear hq6
      go_wp2
      go_roundw
      case rel => exact ⟨j + 1, by omega, by rw [HJ.out]; exact congrArg (Value.int .i64) (by omega), HBx.out.trans (HQ6.out.below _)⟩
      case measure => have := HJ.out; simp [intOf]; omega
    · obtain rfl : j = L.length + 2 := by omega
      have HB2 := hid hb
      clear hb
      have HN2 := hid (HN1.out.below HB2.out); have HR2 := hid (HR1.out.below HB2.out)
      have hgt : ¬ (((L.length + 2 : Nat) : Int) - 1 ≤ (L.length : Int)) := by omega
      have HBA := hid (HB.out.trans (HB2.out.mono hz1))
      clear HN HR HN1 HR1 HB HB2 HD1000
      obtain ⟨w2, hw2⟩ : ∃ w2 : World, w2 = wr := ⟨_, rfl⟩
      subst hw2
      go_wp2
      go_loopw [13, 14] (fun u f wq => GrRel L w2 u f wq) (fun _ f _ => 8 - (intOf f).toNat)
      case atStart => exact ⟨0, [], by omega, rfl, World.ownsRow_nil _ _ _ _, RowsI2.nil_ _ _, Below.refl _ _⟩
      case round =>
      obtain ⟨a, us, ha, rfl, hown, hrr, hb⟩ := hrel
      by_cases ha7 : a < 7
      · have hle : ((a : Int) + 1) ≤ 7 := by omega
        have HO := hid hown; have HRR := hid hrr; have HBQ := hid hb
        clear hown hrr hb
        obtain ⟨w3, hw3⟩ : ∃ w3 : World, w3 = wr := ⟨_, rfl⟩
        subst hw3
        go_wp2
        go_loopw [13, 15] (fun u t wq => GrRel2 L a w2 u t wq) (fun _ t _ => 8 - (intOf t).toNat)
        case atStart => exact ⟨0, us, by omega, rfl, HO.out, HRR.out, HBQ.out⟩
        case round =>
        clear HO HRR HBQ
        obtain ⟨b, us, hb7, rfl, hown, hrr, hb⟩ := hrel
        have hsb := hb.size
        by_cases hbl : b < 7
        · have hle2 : ((b : Int) + 1) ≤ 7 := by omega
          have hbk := busyK_succ L (a * 7 + b)
          rw [show (a * 7 + b) / 7 = a by omega, show (a * 7 + b) % 7 = b by omega] at hbk
          have hbkl := busyK_len L (a * 7 + b)
          have hbkl2 := busyK_len L (a * 7 + (b + 1))
          have HWR := hid (wayR_any R r L ((a : Int) + 1) ((b : Int) + 1) wr (HR2.out.below hb) (by omega))
          have HWP := hid (fun W (hbW : Below wr.heap.size wr W) => wayP_any D n L ((a : Int) + 1) ((b : Int) + 1) W ((HN2.out.below hb).below hbW) (by omega))
          have HBK := hid hbk
          generalize wayN L ((a : Int) + 1) ((b : Int) + 1) = y at *
          have HO := hid hown; have HRR := hid hrr; have HBQ := hid hb
          clear hown hrr hb hbk
          go_wp2_with fail
          refine HWR.out.mono ?_
          rintro e w4 ⟨vr, rfl, hor, hb4⟩
          have HWP4 := hid (HWP.out w4 hb4)
          obtain ⟨RA, rc, rfl⟩ := own_formN hor
          have HOR := hid hor; have HB4 := hid hb4
          clear hor hb4
          go_wp2_with fail
          refine HWP4.out.mono ?_
          rintro e w5 ⟨vp, rfl, hop, hb5⟩
          obtain ⟨PA, pc, rfl⟩ := own_formN hop
          have HSP := hid (Sl.of_own hop)
          have HSR := hid (Sl.of_own (own_kept HOR.out (fun g hg => hb5.block g (HOR.out.lt g hg).2)))
          have HB5 := hid (HB4.out.trans (hb5.mono HB4.out.size))
          clear hop hb5
          go_wp2_with fail
          refine (same8_any _ _ y y _ _ _ HSP.out HSR.out).mono ?_
          rintro e w6 ⟨rfl, hq6⟩
          rw [decide_eq_true rfl]
          have hb6 := HB5.out.trans (hq6.below _)
          have HO6 := hid (own_kept HO.out (fun g hg => hb6.block g (HO.out.lt g hg).2))
          have HRR6 := hid (HRR.out.below hb6)
          have HB6 := hid (HBQ.out.trans (hb6.mono hsb))
          have hz6 := HB6.out.size
          clear hq6 hb6 HWP HWP4 HWR HOR HB4 HSP HSR HB5
          by_cases hy : 0 < y.length
          · have hyi : (0 : Int) < (y.length : Int) := by omega
            have hbk := HBK.out
            rw [if_pos hy] at hbk
            have HBK2 := hid hbk
            obtain ⟨W6, hW6⟩ : ∃ W', W' = w6.alloc (.cells #[.int .i64 ((a : Int) + 1), .int .i64 ((b : Int) + 1)] 3) := ⟨_, rfl⟩
            have hzz6 : W6.heap.size = w6.heap.size + 1 := by rw [hW6]; simp
            have ho6 : W6.ownsRow w2.heap.size 3 1 (.slice (some ⟨w6.heap.size, 0, none⟩) 2 2) 2 (ivals [(a : Int) + 1, (b : Int) + 1]) := by
              refine ⟨rfl, .inr ⟨w6.heap.size, 2, #[.int .i64 ((a : Int) + 1), .int .i64 ((b : Int) + 1)], rfl, hz6, ?_, Nat.le_refl _, by unfold maxLen; omega, rfl, rfl⟩⟩
              rw [hW6]; exact heap_alloc_new w6 _
            have hb6 : Below w6.heap.size w6 W6 := by rw [hW6]; exact bl1 _ _
            have hown6 := own_kept HO6.out (fun g hg => hb6.block g (HO6.out.lt g hg).2)
            have hrr6 := HRR6.out.app hb6 ho6
            rw [← hbk] at hrr6
            have HO7 := hid hown6; have HR7 := hid hrr6; have HB7 := hid (HB6.out.trans (hb6.mono hz6)); have HW6 := hid hW6
            clear hown6 hrr6 hb6 ho6 hW6 hbk HO6 HRR6 HB6 hy
            go_wp2_with (at_builtin; refine stop_here ?_)
            refine go_on ?_
            rw [← HW6.out]
            refine app_own_at (.tmp 98) (.tmp 102) 36 36 rfl rfl w2.heap.size 39 i1 (.slice none 0 0) 1 24 Try.underlying36 hi1 hy0 hy1 hy2 rfl (by decide) _ _ _ rfl (HO7.out.alloc _) (.slice (some ⟨w6.heap.size + 1, 0, none⟩) 1 1) 1 [.slice (some ⟨w6.heap.size, 0, none⟩) 2 2] rfl (Src.ofSlice _ Try.underlying36 _ 1 1 _ rfl (cells_new_at _ _ _ hzz6) (by simp; rfl)) (by simp only [maxLen]; omega) (by omega) (by rw [World.size_alloc]; omega) ?_
            intro v8 w8 hown8 hg8 hb8 hat8
            have hrow8 : RowsI2 w8 w2.heap.size (us ++ [.slice (some ⟨w6.heap.size, 0, none⟩) 2 2]) (busyK L (a * 7 + (b + 1))) := by
              refine (HR7.out.below (bl1 W6 (.cells #[.slice (some ⟨w6.heap.size, 0, none⟩) 2 2] 39))).kept (fun i hi g hg => ?_)
              have hlg := ((HR7.out.2 i hi).lt g hg).2
              refine hg8.block g (by rw [World.size_alloc]; omega) (fun e => own_apart (HR7.out.2 i hi) HO7.out (by decide) g hg e.symm)
            have hl8 : (busyK L (a * 7 + (b + 1))).length = (busyK L (a * 7 + b)).length + 1 := by
              rw [show a * 7 + (b + 1) = a * 7 + b + 1 by omega, HBK2.out, List.length_append]; rfl
            have HO8 := hid (show w8.ownsRow w2.heap.size 39 1 v8 (busyK L (a * 7 + (b + 1))).length _ by rw [hl8]; exact hown8)
            have HR8 := hid hrow8
            have HB8 := hid ((HB7.out.alloc (by omega) _).trans hb8)
            clear hown8 hrow8 hg8 hb8 hat8 hl8
            go_wp2
            go_roundw
            case rel => exact ⟨b + 1, _, by omega, by go_num, HO8.out, HR8.out, HB8.out⟩
            case measure => simp [intOf]; omega
          · have hyi : ¬ (0 : Int) < (y.length : Int) := by omega
            have hbk := HBK.out
            rw [if_neg hy, List.append_nil] at hbk
            have HBK2 := hid (show busyK L (a * 7 + (b + 1)) = busyK L (a * 7 + b) from hbk)
            clear hbk hy
            go_wp2
            go_roundw
            case rel => exact ⟨b + 1, us, by omega, by go_num, by rw [HBK2.out]; exact HO6.out, by rw [HBK2.out]; exact HRR6.out, HB6.out⟩
            case measure => simp [intOf]; omega
        · obtain rfl : b = 7 := by omega
          have HO := hid hown; have HRR := hid hrr; have HBQ := hid hb
          clear hown hrr hb
          go_wp2
          go_roundw
          case rel => exact ⟨a + 1, us, by omega, by go_num, by rw [Nat.add_mul]; exact HO.out, by rw [Nat.add_mul]; exact HRR.out, HBQ.out⟩
          case measure => simp [intOf]; omega
      · obtain rfl : a = 7 := by omega
        have hall := busyK_all L (fun p hp => (HOK.out.2 p hp).1)
        rw [show 7 * 7 = 49 by omega, hall] at hown hrr
        have HBU := hid (busyP_any D n L wr (HN2.out.below hb) (by omega) (fun p hp => (HOK.out.2 p hp).1))
        have hKl : ((busyS L).map rowS).length ≤ 49 := by rw [List.length_map]; exact busyS_len L
        generalize (busyS L).map rowS = K at *
        obtain ⟨UA, uc, rfl⟩ := own_formN hown
        have HO := hid hown; have HRR := hid hrr; have HBQ := hid hb
        have hsb := hb.size
        clear hown hrr hb hall
        go_wp2_with fail
        refine HBU.out.mono ?_
        rintro e w7 ⟨vl, ls, rfl, hol, hrl2, hb7⟩
        obtain ⟨LA, lc, rfl⟩ := own_formN hol
        have hus : us.length = K.length := HRR.out.1
        have hls : ls.length = K.length := hrl2.1
        have hou := own_kept HO.out (fun g hg => hb7.block g (HO.out.lt g hg).2)
        have HRU := hid (HRR.out.below hb7)
        have HEU := hid (fun (k : Nat) (hk : k < K.length) => (by
          obtain ⟨g, off, cap, e, -, hg, hn1, hn2, hc⟩ := (RowA.of_own hou).elem (by omega)
          injection e with e1 _ e3
          refine ⟨g, off, e1, hg, ?_⟩
          rw [hc k (by omega), List.getD_eq_getElem?_getD, List.getElem?_eq_getElem (show k < us.length by omega)]; rfl : ∃ g off, UA = some ⟨g, off, none⟩ ∧ g < w7.heap.size ∧ w7.cell? ⟨g, off + k, none⟩ = some (us.getD k undef)))
        have HEL := hid (fun (k : Nat) (hk : k < K.length) => (by
          obtain ⟨g, off, cap, e, -, hg, hn1, hn2, hc⟩ := (RowA.of_own hol).elem (by omega)
          injection e with e1 _ e3
          refine ⟨g, off, e1, hg, ?_⟩
          rw [hc k (by omega), List.getD_eq_getElem?_getD, List.getElem?_eq_getElem (show k < ls.length by omega)]; rfl : ∃ g off, LA = some ⟨g, off, none⟩ ∧ g < w7.heap.size ∧ w7.cell? ⟨g, off + k, none⟩ = some (ls.getD k undef)))
        have hfu : K.length ≤ uc ∧ uc ≤ 9223372036854775807 := by
          obtain ⟨A', c', e, h6, h7⟩ := (RowA.of_own hou).form
          injection e with _ _ e3
          subst e3
          unfold maxLen at h7
          exact ⟨h6, h7⟩
        have hfl : K.length ≤ lc ∧ lc ≤ 9223372036854775807 := by
          obtain ⟨A', c', e, h6, h7⟩ := (RowA.of_own hol).form
          injection e with _ _ e3
          subst e3
          unfold maxLen at h7
          exact ⟨h6, h7⟩
        have HRL := hid hrl2; have HBF := hid (HBA.out.trans ((HBQ.out.trans (hb7.mono hsb)).mono HBA.out.size))
        clear hol hrl2 hb7 hou HO HRR HBQ HBU hus hls
        go_wp2
        go_loopw [19] (fun i wq => Lk4 K.length w7 i wq) (fun i _ => K.length - (intOf i).toNat)
        case atStart => exact ⟨0, by omega, rfl, Qu.refl _⟩
        case round =>
        obtain ⟨k, hk, rfl, hq⟩ := hrel
        by_cases hlt : k < K.length
        · obtain ⟨gu, ou, rfl, hgu, cu⟩ := HEU.out k hlt
          obtain ⟨gl, ol, rfl, hgl, cl⟩ := HEL.out k hlt
          have hru := HRU.out.2 k hlt
          have hrl3 := HRL.out.2 k hlt
          have cu := (hq.cell _).trans cu
          have cl := (hq.cell _).trans cl
          generalize us.getD k undef = u1 at *
          generalize ls.getD k undef = l1 at *
          obtain ⟨B1, b1, rfl⟩ := own_formN hru
          obtain ⟨B2, b2, rfl⟩ := own_formN hrl3
          generalize K.getD k [] = y at *
          have HSM := hid (same8_any _ _ y y wr.drew _ _ (((Sl.of_own hrl3).qu' hq).qu' ⟨1, rfl⟩) (((Sl.of_own hru).qu' hq).qu' ⟨1, rfl⟩))
          rw [decide_eq_true rfl] at HSM
          have HQ := hid hq
          clear hq hru hrl3
          go_upto_region 30 with (fail)
          go_region_held3 (fun w' => w'.cell? ⟨gu, ou + k, none⟩ = some (.slice B1 y.length b1) ∧ w'.cell? ⟨gl, ol + k, none⟩ = some (.slice B2 y.length b2)) (go_keep) (((with_reducible refine HSM.out.mono ?_); rintro e w5 ⟨rfl, hq5⟩; have cu := (hq5.cell _).trans cu; have cl := (hq5.cell _).trans cl; have HQ5 := hid ((HQ.out.drewN 1).trans hq5); clear hq5))
          all_goals
            go_wp2
            go_roundw
            case rel => exact ⟨k + 1, by omega, by go_num, HQ5.out⟩
            case measure => simp [intOf]; omega
        · obtain rfl : k = K.length := by omega
          have HQ := hid hq
          clear hq
          go_wp2
          go_ret
          exact ⟨rfl, HBF.out.trans (HQ.out.below _)⟩
end Go.Proofs.Ytkgifbnkkmeoiaa
