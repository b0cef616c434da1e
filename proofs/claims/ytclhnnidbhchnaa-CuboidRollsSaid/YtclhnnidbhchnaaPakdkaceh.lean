/- 1 text of this claim, in build order. -/
import Derived.Test.YtclhnnidbhchnaaPclfhnnhm
import Derived.Test.YtclhnnidbhchnaaPbmeihdbp
import Derived.Test.YtclhnnidbhchnaaPmjfjpmdc
import Derived.Test.YtclhnnidbhchnaaPdhkhdgfh
import Derived.Test.YtclhnnidbhchnaaPgcfndolb
import Derived.Test.YtclhnnidbhchnaaPpijoilfg
/- The reference's Roll. -/
namespace Go.Proofs.Ytclhnnidbhchnaa
open Go.ChangeShapes Go.WideShapes Go.ChangeAt Go.RowKit Go.Maps
set_option linter.unusedVariables false
set_option linter.unusedSimpArgs false

def RollRP (W M : Nat) (ups : List (List Int)) (L : List KC) (w : World) (e : Ending) (w' : World) : Prop :=
  (rollE W ups L ≠ 0 ∧ RollNP (rollE W ups L) w e w') ∨ (rollE W ups L = 0 ∧ ∃ r' R', e = .returned (.tuple #[.pointer (some ⟨r', 0, none⟩), .int .i64 0]) ∧ RefC w' R' r' W M (rollL (rollP ups L)) ∧ Below w.heap.size w w')
def Rr1 (ups : List (List Int)) (L : List KC) (w1 : World) (out i : Value) (wr : World) : Prop :=
  ∃ (j : Nat) (us : List Value), j ≤ L.length ∧ i = .int .i64 j ∧ (∀ x ∈ L.take j, upAll ups x.1 = true) ∧ wr.ownsRow w1.heap.size 23 1 out j us ∧ RowsU wr w1.heap.size us ((rollP ups (L.take j)).map Prod.fst) ∧ Below w1.heap.size w1 wr
theorem rollP_snoc (ups : List (List Int)) (L : List KC) (x : KC) : rollP ups (L ++ [x]) = rollP ups L ++ [(upL ups x.1, x.2)] := by simp [rollP]
def Rr2 (P : List KC) (W M rd : Nat) (w2 : World) (i : Value) (wr : World) : Prop :=
  ∃ (j : Nat) (Rd : Nat → Prop), j ≤ P.length ∧ i = .int .i64 j ∧ (∀ x ∈ P.take j, (sumC (gcells P x.1)).2 = 0) ∧ RefC wr Rd rd W M (rollF P (P.take j)) ∧ Upd rd w2 wr
def Rr3 (P : List KC) (key : List Int) (E : Nat → Prop) (wo : World) (l i : Value) (wr : World) : Prop :=
  ∃ j : Nat, j ≤ P.length ∧ i = .int .i64 j ∧ GRow wr E wo.heap.size l (gcells (P.take j) key) ∧ Below wo.heap.size wo wr
set_option maxRecDepth 100000 in
set_option maxHeartbeats 6400000 in
theorem rollR_any (R : Nat → Prop) (r W M : Nat) (L : List KC) (v : Value) (ups : List (List Int)) (w : World) (hr : RefC w R r W M L) (hs : OkL W M L) (h1W : 1 ≤ W) (hW : W ≤ 3) (hL : L.length ≤ 600) (hu : RowsI w w.heap.size v ups) :
    Calls Try.prog 28 #[.pointer (some ⟨r, 0, none⟩), v] w (RollRP W M ups L w) := by
  obtain ⟨i0, hi, hz0, hz1, hz2⟩ := info_parts info_cell4
  obtain ⟨i1, hi1, hy0, hy1, hy2⟩ := info_parts info_ints
  obtain ⟨h1, h2, h3, h4, h5, u, es, h6, h7, h8, h9⟩ := hr
  have hrl := h2 r h1
  obtain ⟨Au, cu, rfl⟩ := own_formN h7
  have HEL := hid (fun j (hj : j < L.length) => RefC.elem h7 h9 hj)
  have HRL := hid h2
  have hu' := hu
  obtain ⟨A, c, rfl, hcl, hcm, hrow⟩ := hu
  unfold maxLen at hcm
  have HU := hid hu'; have HS := hid hs
  have hre : rollE W ups L = if ups.length ≠ W then 1 else if L.all (fun x => upAll ups x.1) = false then 1 else if (rollP ups L).all (fun x => decide ((sumC (gcells (rollP ups L) x.1)).2 = 0)) = false then 14 else 0 := rfl
  have HRE := hid hre
  clear hu' hs hrow hre h1 h2 h3 h7 h8 h9
  go_enter Try.func28, Try.ntmps28
  by_cases hlen : ups.length = W
  · have t0 : ((ups.length : Int) != (W : Int)) = false := by simp [hlen]
    have hre := HRE.out
    rw [if_neg (by simpa using hlen)] at hre
    have HRE := hid hre
    have HLEN := hid hlen
    have hup3 : ups.length ≤ 3 := by omega
    clear hre hlen
    go_upto_region 3 with (fail)
    go_region
    obtain ⟨W1, hW1⟩ : ∃ W', W' = (w.alloc (.cells #[.int .i64 W, .int .i64 M, .slice none 0 0] 66)).drew := ⟨_, rfl⟩
    have hb1 : Below w.heap.size w W1 := by rw [hW1]; exact (bl1 _ _).drew
    have hs1 : W1.heap.size = w.heap.size + 1 := by rw [hW1]; show (w.alloc _).heap.size = _; simp
    have hrd : RefC W1 (fun k => k = w.heap.size) w.heap.size W M [] := by
      refine ⟨rfl, fun k hk => by omega, fun i hi => ?_, ?_, ?_, .slice none 0 0, [], ?_, World.ownsRow_nil _ _ _ _, (fun g hg => by cases hg), RowO.nil_ _ _⟩
      · rw [hW1]; show (w.alloc _).frozen? _ = _; simp [go_sem]
      · rw [hW1]; show (w.alloc _).cell? _ = _; simp [go_sem]
      · rw [hW1]; show (w.alloc _).cell? _ = _; simp [go_sem]
      · rw [hW1]; show (w.alloc _).cell? _ = _; simp [go_sem]
    have HB1 := hid hb1; have HW1 := hid hW1; have HRD := hid hrd
    have y2 := cellK hb1 hrl h6
    clear hb1 hW1 hrd
    rw [← HW1.out]
    go_wp2
    go_loopw [7, 8] (fun out i wr => Rr1 ups L W1 out i wr) (fun _ i _ => L.length - (intOf i).toNat)
    case atStart => exact ⟨0, [], by omega, rfl, (fun x hx => by cases hx), World.ownsRow_nil _ _ _ _, RowsU.nil_ _ _, Below.refl _ _⟩
    case round =>
      obtain ⟨j, us, hj, rfl, hall, hown, hrr, hb⟩ := hrel
      have hsb := hb.size
      have hbw := HB1.out.trans (hb.mono (by omega))
      have y2 := cellK hb (by omega) y2
      have HALL := hid hall; have HOW := hid hown; have HRR := hid hrr; have HB := hid hb; have HBW := hid hbw
      clear hall hown hrr
      by_cases hlt : j < L.length
      · obtain ⟨g, cap, K, kc, A1, c1, A2, c2, A3, c3, e1, hg0, hgl, hnc, hcm', -, q0, -, -, -, -, hsk, hce⟩ := HEL.out j hlt
        injection e1 with e1 _ e2
        subst e1; subst e2
        have q0 := cellK hbw hgl q0
        unfold maxLen at hcm'
        have hmem := getD_memK hlt
        have hkk := HS.out.key _ hmem
        have htk := take_succ_zK hlt
        have hupf : upAll ups (L.getD j zK).1 = false → L.all (fun x => upAll ups x.1) = false := fun h => by
          rw [List.all_eq_false]
          exact ⟨_, hmem, by rw [h]; decide⟩
        have hcod := fun i => code_at hkk i
        have hkl : (L.getD j zK).1.length = ups.length := hkk.1.trans HLEN.out.symm
        generalize L.getD j zK = xe at *
        obtain ⟨key, cc⟩ := xe
        simp only at hkk hcod hupf hkl q0 hsk
        have HUP := hid (refUp_any (.slice K key.length kc) (.slice A ups.length c) key ups wr ((hsk.sl.below hbw).more (by omega)) ((HU.out.below hbw).more (by omega)) hkl hup3 hcod)
        have HUF := hid hupf; have HTK := hid htk
        clear hupf htk hmem hcod hb hbw hsk hce hkk
        clear hkl
        go_wp2_with fail
        with_reducible refine HUP.out.mono ?_
        rintro e w4 (⟨hyes, lv, rfl, hlo, hb4⟩ | ⟨hno, rfl, hb4⟩)
        · have hs4 := hb4.size
          obtain ⟨Lv, lc, rfl, -, -, -⟩ := own_cells hlo
          have hown4 := own_kept HOW.out (fun g hg => hb4.block g (HOW.out.lt g hg).2)
          have hrr5 := HRR.out.app (k := upL ups key) hb4 hlo hsb
          have HO4 := hid hown4; have HR5 := hid hrr5; have HYES := hid hyes
          have HB4 := hid (HB.out.trans (hb4.mono hsb))
          have hse : (rollP ups (L.take (j + 1))).map Prod.fst = (rollP ups (L.take j)).map Prod.fst ++ [upL ups key] := by rw [HTK.out, rollP_snoc]; simp
          have HSE := hid hse
          clear hyes hlo hb4 hown4 hrr5 hse
          generalize (upL ups key).length = ul at *
          go_wp2_with (at_builtin; refine stop_here ?_)
          refine go_on ?_
          refine app_own_at (.tmp 58) (.tmp 60) 33 33 rfl rfl W1.heap.size 23 i1 (.slice none 0 0) 1 24 Try.underlying33 hi1 hy0 hy1 hy2 rfl (by decide) _ _ _ rfl (HO4.out.alloc _) (.slice (some ⟨w4.heap.size, 0, none⟩) 1 1) 1 [_] rfl (Src.ofSlice _ Try.underlying33 _ 1 1 _ rfl (cells_new_at _ _ _ rfl) (by simp; rfl)) (by simp only [maxLen]; omega) (by omega) (by rw [World.size_alloc]; omega) ?_
          intro v5 w5 hown5 hg5 hb5 hat5
          have hrow5 : RowsU w5 W1.heap.size (us ++ [.slice Lv ul lc]) ((rollP ups (L.take (j + 1))).map Prod.fst) := by
            rw [HSE.out]
            refine (HR5.out.below (bl1 w4 (.cells #[.slice Lv ul lc] 23))).kept (fun i hi g hg => ?_)
            have hlg := ((HR5.out.2.1 i hi).lt g hg).2
            refine hg5.block g (by rw [World.size_alloc]; omega) (fun e => own_apart (HR5.out.2.1 i hi) HO4.out (by decide) g hg e.symm)
          have HO5 := hid hown5; have HR6 := hid hrow5
          have HB5 := hid ((HB4.out.alloc (by omega) _).trans hb5)
          clear hown5 hrow5 hg5 hb5 hat5
          go_wp2
          go_roundw
          case rel =>
            refine ⟨j + 1, _, by omega, by go_num, fun x hx => ?_, HO5.out, HR6.out, HB5.out⟩
            rw [HTK.out, List.mem_append] at hx
            rcases hx with hx | hx
            · exact HALL.out x hx
            · rw [List.mem_singleton.1 hx]; exact HYES.out
          case measure => simp [intOf]; omega
        · have HB4 := hid (HBW.out.trans (hb4.mono (by omega)))
          have hre := HRE.out
          rw [if_pos (HUF.out hno)] at hre
          have HRE := hid hre
          clear hb4 hno hre
          go_wp2
          go_ret2
          exact .inl ⟨by rw [HRE.out]; decide, by rw [HRE.out]; rfl, HB4.out⟩
      · obtain rfl : j = L.length := by omega
        have hal := HALL.out
        have hrows := HRR.out
        rw [List.take_length] at hal hrows
        have hre := HRE.out
        rw [if_neg (by rw [Bool.not_eq_false, List.all_eq_true]; exact fun x hx => hal x hx)] at hre
        have hPat : ∀ t, t < L.length → ((rollP ups L).getD t zK).2 = (L.getD t zK).2 := fun t ht => by
          simp [rollP, List.getD_eq_getElem?_getD, ht]
        have hPl : (rollP ups L).length = L.length := by simp [rollP]
        generalize hPe : rollP ups L = P at *
        have HPE := hid hPe; have HREP := hid hre; have HPAT := hid hPat; have HRU := hid hrows
        have hown' := HOW.out
        obtain ⟨Ak, ck, rfl, hck1, hck2, hAk⟩ := own_cells HOW.out
        unfold maxLen at hck2
        have HAK := hid hAk
        have hrdl : w.heap.size < wr.heap.size := by omega
        have hrr0 := HRD.out.below HB.out
        have HRD0 := hid hrr0
        clear hal hre hPe hPat hb hbw hown' hAk hrr0
        rw [← hPl] at hck1
        obtain ⟨wK, rfl⟩ : ∃ wK : World, wK = wr := ⟨_, rfl⟩
        have HOK' := hid HOW.out
        go_wp2
        go_loopw [11] (fun i wq => Rr2 P W M w.heap.size wK i wq) (fun i _ => P.length - (intOf i).toNat)
        case atStart => exact ⟨0, _, by omega, rfl, (fun x hx => by cases hx), HRD0.out, Upd.refl _ _⟩
        case round =>
          obtain ⟨j, Rd, hj, rfl, hok, hrd, hu⟩ := hrel
          have hsu := hu.size
          have hbo := HBW.out.trans (hu.below (Nat.le_refl _) hrdl)
          have hro := HRU.out.kept (fun i hi g hg => hu.block g ((HRU.out.2.1 i hi).lt g hg).2 (fun e => by injection e with e; have := ((HRU.out.2.1 i hi).lt g hg).1; omega))
          have y2 := hu.cellAt (by omega) (by omega) y2
          have HOKS := hid hok; have HRDJ := hid hrd; have HUK := hid hu; have HBO := hid hbo; have HRO := hid hro
          by_cases hlt : j < P.length
          · obtain ⟨ga, rfl, hga1, hga2, -⟩ := HAK.out (by omega)
            have hku : us.length = P.length := by have := HRU.out.1; rw [List.length_map] at this; exact this
            have zc : ∀ t, t < P.length → wr.cell? ⟨ga, t, none⟩ = some (us.getD t undef) := fun t ht => hu.cellAt hga2 (by omega) (by
              rw [HOK'.out.cellAt t (by omega), List.getD_eq_getElem?_getD, List.getElem?_eq_getElem (by omega)]; rfl)
            have e0 : ∀ t, t < P.length → (P.map Prod.fst).getD t [] = (P.getD t zK).1 := fun t ht => by simp [List.getD_eq_getElem?_getD, ht]
            have hrt : ∀ t, t < P.length → wr.ownsRow W1.heap.size 3 1 (us.getD t undef) (P.getD t zK).1.length (ivals (P.getD t zK).1) := fun t ht => by
              have := hro.2.1 t (by rw [List.length_map]; exact ht)
              rw [e0 t ht] at this
              exact this
            have HZC := hid zc; have HRT := hid hrt
            have zj := zc j hlt
            have hrj := hrt j hlt
            have hmemj : P.getD j zK ∈ P := getD_memK hlt
            have htk := take_succ_zK hlt
            clear hok hrd hu hbo hro zc hrt e0
            generalize hPj : P.getD j zK = pj at *
            obtain ⟨key, cj⟩ := pj
            simp only at hrj
            generalize us.getD j undef = uj at *
            obtain ⟨Kj, kj, rfl, -, -, -⟩ := own_cells hrj
            have HRJ := hid hrj; have HTK := hid htk; have HMJ := hid hmemj
            clear hrj htk hmemj hPj
            obtain ⟨wo, rfl⟩ : ∃ wo : World, wo = wr := ⟨_, rfl⟩
            have hjL : j < L.length := by omega
            go_wp2
            go_loopw [12, 13] (fun l i wq => Rr3 P key (fun k => R k ∧ k ≠ r) wo l i wq) (fun _ i _ => P.length - (intOf i).toNat)
            case atStart => exact ⟨0, by omega, rfl, ⟨[], World.ownsRow_nil _ _ _ _, rfl, fun k hk => by simp [gcells] at hk⟩, Below.refl _ _⟩
            case round =>
              obtain ⟨t, ht, rfl, hg, hb⟩ := hrel
              have hsb := hb.size
              have y2 := cellK hb (by omega) y2
              have zj := cellK hb (by omega) zj
              by_cases hlt2 : t < P.length
              · have htL : t < L.length := by omega
                have hgo : ga < wo.heap.size := by omega
                have zt := cellK hb hgo (HZC.out t hlt2)
                have hrt := HRT.out t hlt2
                have hgs := gcells_snoc (P.take t) (P.getD t zK) key
                rw [← take_succ_zK hlt2] at hgs
                have hpat := HPAT.out t (by omega)
                obtain ⟨g, cap, K, kc, A1, c1, A2, c2, A3, c3, e1, hg0, hgl, hnc, hcm', -, q0, q1, q2, q3, q4, hsk, hce⟩ := HEL.out t (by omega)
                injection e1 with e1 _ e2
                subst e1; subst e2
                have hbw := HBO.out.trans (hb.mono (by omega))
                have q1 := cellK hbw hgl q1
                have q2 := cellK hbw hgl q2
                have q3 := cellK hbw hgl q3
                have q4 := cellK hbw hgl q4
                have hcew := hce.kept (w' := wr) (fun i hi => hbw.block i (HRL.out i hi.1))
                rw [← hpat] at q1 q2 q3 q4 hcew
                have hgle := gcells_len (P.take t) key
                have hptl : (P.take t).length ≤ 600 := by rw [List.length_take]; omega
                generalize P.getD t zK = pt at *
                obtain ⟨kt, ct⟩ := pt
                simp only at hrt hgs q1 q2 q3 q4 hcew
                generalize us.getD t undef = ut at *
                obtain ⟨Kt, kt', rfl, -, -, -⟩ := own_cells hrt
                have s1 : Sl wr wr.heap.size (.slice Kj key.length kj) (ivals key) := ((Sl.of_own HRJ.out).below hb).more hsb
                have s2 : Sl wr wr.heap.size (.slice Kt kt.length kt') (ivals kt) := ((Sl.of_own hrt).below hb).more hsb
                have HSM := hid (fun W' (hq : Qu wr W') => same8_any (.slice Kj key.length kj) (.slice Kt kt.length kt') key kt W' wr.heap.size wr.heap.size (s1.qu' hq) (s2.qu' hq))
                obtain ⟨bq, hbq⟩ : ∃ bq, decide (key = kt) = bq := ⟨_, rfl⟩
                rw [hbq] at HSM
                have HBQ := hid hbq; have HGS := hid hgs
                have hgw : g < wr.heap.size := by omega
                clear hsk hce hpat hrt s1 s2 hbq hgs q0 hbw
                go_upto_region 19 with (fail)
                go_quiet (first | (go_at_call 59; exact Calls.quiet_of (HSM.out _ ⟨_, rfl⟩)))
                have hq3 : Qu wr (wr.drewN nq) := ⟨nq, rfl⟩
                have hz3 : (wr.drewN nq).heap.size = wr.heap.size := rfl
                generalize wr.drewN nq = w3 at *
                have hb3 := hq3.below wr.heap.size
                have y2 : w3.cell? _ = _ := (hq3.cell _).trans y2
                have q1 : w3.cell? _ = _ := (hq3.cell _).trans q1
                have q2 : w3.cell? _ = _ := (hq3.cell _).trans q2
                have q3 : w3.cell? _ = _ := (hq3.cell _).trans q3
                have q4 : w3.cell? _ = _ := (hq3.cell _).trans q4
                have hElt : ∀ i, R i ∧ i ≠ r → i < wr.heap.size := fun i hi => by have := HRL.out i hi.1; omega
                have hg3 := hg.kept (w' := w3) (fun i hi => hb3.block i (hElt i hi)) (fun b hbb => hb3.block b (hg.lt b hbb).2)
                have hce3 := hcew.kept (w' := w3) (fun i hi => hb3.block i (hElt i hi))
                have HB3 := hid ((show Below wo.heap.size wo wr from hb).trans (hb3.mono hsb))
                have HCE3 := hid hce3
                clear hq3 hb3 hcew hg hb hce3 zt zj
                cases bq
                · have hne : ¬ kt = key := fun e => by have := HBQ.out; rw [e] at this; simp at this
                  have HG3 := hid hg3
                  have hgs := HGS.out
                  rw [if_neg hne] at hgs
                  have HGS := hid hgs
                  clear hgs hne hg3
                  go_wp2
                  go_roundw
                  case rel => exact ⟨t + 1, by omega, by go_num, by rw [HGS.out]; exact HG3.out, HB3.out⟩
                  case measure => simp [intOf]; omega
                · have he : kt = key := (of_decide_eq_true HBQ.out).symm
                  have hgs := HGS.out
                  rw [if_pos he] at hgs
                  have HGS := hid hgs
                  obtain ⟨es4, hown4, hre4⟩ := hg3
                  have HOW4 := hid hown4; have HRE4 := hid hre4
                  have hsz3 : wo.heap.size ≤ w3.heap.size := by omega
                  clear hgs he hown4 hre4
                  go_wp2_with (at_builtin; refine stop_here ?_)
                  refine go_on ?_
                  refine app_own_at (.tmp 84) (.tmp 93) 22 22 rfl rfl wo.heap.size 25 i0 (.agg #[.int .i64 0, .slice none 0 0, .slice none 0 0, .slice none 0 0]) 4 80 Try.underlying22 hi hz0 hz1 hz2 rfl (by decide) _ _ _ rfl (HOW4.out.alloc _) (.slice (some ⟨wr.heap.size, 0, none⟩) 1 1) 1 (e4 (ct.n, .slice A1 ct.s.length c1, .slice A2 ct.lo.length c2, .slice A3 ct.hi.length c3)) rfl (Src.ofSlice _ Try.underlying22 _ 1 1 _ rfl (cells_new_at _ _ _ hz3) e4_one) (by simp only [maxLen]; omega) (by omega) (by rw [World.size_alloc]; omega) ?_
                  intro v5 w5 hown5 hg5 hb5 hat5
                  have hk5 : Kept (fun i => R i ∧ i ≠ r) w3 w5 := fun i hi => by
                    have h1 := HRL.out i hi.1
                    have h2 := HBO.out.size
                    rw [hb5.block i (by omega)]
                    exact (bl1 w3 _).block i (by omega)
                  have hg6 : GRow w5 (fun i => R i ∧ i ≠ r) wo.heap.size v5 (gcells (P.take t) key ++ [ct]) := ⟨es4 ++ [(ct.n, .slice A1 ct.s.length c1, .slice A2 ct.lo.length c2, .slice A3 ct.hi.length c3)], by rw [List.length_append, List.length_singleton, flat4_snoc]; exact hown5, (HRE4.out.kept hk5).snoc (HCE3.out.kept hk5)⟩
                  have HG6 := hid hg6
                  have HB5 := hid ((HB3.out.alloc hsz3 _).trans hb5)
                  clear hown5 hg5 hb5 hat5 hk5 hg6
                  go_wp2
                  go_roundw
                  case rel => exact ⟨t + 1, by omega, by go_num, by rw [HGS.out]; exact HG6.out, HB5.out⟩
                  case measure => simp [intOf]; omega
              · obtain rfl : t = P.length := by omega
                rw [List.take_length] at hg
                have hgl := gcells_len P key
                have hrow := hg.rowC
                obtain ⟨es4, hown4, hre4⟩ := hg
                obtain ⟨Al, cl, rfl⟩ := own_formN hown4
                have HSR := hid (refSum_any (.slice Al (gcells P key).length cl) (gcells P key) wr hrow (by omega))
                have hgo : ga < wo.heap.size := by omega
                have HBR := hid hb
                have hbw := HBO.out.trans (hb.mono (by omega))
                have HBWR := hid hbw
                clear hrow hown4 hre4 hb hbw y2
                generalize hsc : sumC (gcells P key) = sm at *
                have HSC := hid hsc
                clear hsc
                obtain ⟨sc, se⟩ := sm
                generalize (gcells P key).length = gn at *
                go_wp2_with fail
                refine HSR.out.mono ?_
                rintro e w9 ⟨xv, rfl, ho9, hb9⟩
                have ho9 : OwnC w9 wr.heap.size xv sc := ho9
                have hs9 := hb9.size
                have hce := CellE.of_own ho9
                obtain ⟨F1, f1, F2, f2, F3, f3, rfl⟩ := hce.lit
                obtain ⟨W9, hW9⟩ : ∃ W', W' = w9.alloc (.cells #[.int .i64 sc.n, .slice F1 sc.s.length f1, .slice F2 sc.lo.length f2, .slice F3 sc.hi.length f3] 25) := ⟨_, rfl⟩
                have hb99 : Below w9.heap.size w9 W9 := by rw [hW9]; exact bl1 _ _
                have hz9 : W9.heap.size = w9.heap.size + 1 := by rw [hW9]; simp
                obtain ⟨b0, b1, b2, b3, -, -, -, -⟩ : Blk W9 w9.heap.size (.int .i64 sc.n) (.slice F1 sc.s.length f1) (.slice F2 sc.lo.length f2) (.slice F3 sc.hi.length f3) := by rw [hW9]; exact Blk.new _ _ _ _ _ _
                have hb9W := hb9.trans (hb99.mono hs9)
                have hboW := HBR.out.trans (hb9W.mono hsb)
                have HBWW := hid (HBWR.out.trans (hb9W.mono (by omega)))
                by_cases hse : se = 0
                · subst hse
                  have t1 : ((0 : Int) != 0) = false := rfl
                  have zj := cellK hb9W (by omega) zj
                  have hrdW := (HRDJ.out.below hboW).grow (R' := fun i => Rd i ∨ (wo.heap.size ≤ i ∧ i < W9.heap.size)) (fun i hi => .inl hi) (fun i hi => by
                    rcases hi with h | h
                    · have := HRDJ.out.2.1 i h; omega
                    · exact h.2)
                  have hceW := (hce.kept (w' := W9) (fun i hi => hb99.block i hi.2)).mono (E' := fun i => (Rd i ∨ (wo.heap.size ≤ i ∧ i < W9.heap.size)) ∧ i ≠ w.heap.size) (fun i hi => ⟨.inr ⟨by omega, by omega⟩, by omega⟩)
                  have hfl := rollF_len P (P.take j)
                  have hptl : (P.take j).length ≤ 600 := by rw [List.length_take]; omega
                  have HST := hid (setR_any (fun i => Rd i ∨ (wo.heap.size ≤ i ∧ i < W9.heap.size)) w.heap.size W M (rollF P (P.take j)) (.slice Kj key.length kj) (.agg #[.int .i64 sc.n, .slice F1 sc.s.length f1, .slice F2 sc.lo.length f2, .slice F3 sc.hi.length f3]) key sc 0 W9.drew (hrdW.qu ⟨1, rfl⟩) (rollF_sort _ _) (by omega) (by have := (rollP_key HLEN.out (by have := HALL.out; rw [List.take_length] at this; exact this) _ (by rw [HPE.out]; exact HMJ.out)).1; simp only at this; omega) ((((Sl.of_own HRJ.out).below hboW).more hboW.size).qu' ⟨1, rfl⟩) hceW)
                  have HW9 := hid hW9; have HBOW := hid hboW
                  have hwz : w9.heap.size < W9.heap.size := by omega
                  have hgW : ga < W9.heap.size := by omega
                  have hrW : w.heap.size < W9.heap.size := by omega
                  clear hrdW hceW hW9 hboW hb9W hb99 hb9 ho9 hce hfl
                  go_upto_region 25 with (fail)
                  rw [← HW9.out]
                  go_region_held3 (fun w' => w'.cell? ⟨ga, j, none⟩ = some (.slice Kj key.length kj) ∧ w'.cell? ⟨w9.heap.size, 0, none⟩ = some (.int .i64 sc.n) ∧ w'.cell? ⟨w9.heap.size, 1, none⟩ = some (.slice F1 sc.s.length f1) ∧ w'.cell? ⟨w9.heap.size, 2, none⟩ = some (.slice F2 sc.lo.length f2) ∧ w'.cell? ⟨w9.heap.size, 3, none⟩ = some (.slice F3 sc.hi.length f3)) (go_keep)
                    (((with_reducible refine HST.out.mono ?_); rintro e w10 ⟨R3, rfl, hr3, hg3, hu3⟩; have zj := hu3.cellAt (by show ga < W9.heap.size; omega) (by omega) (show W9.drew.cell? _ = _ from zj); have b0 := hu3.cellAt (by show _ < W9.heap.size; omega) (by omega) (show W9.drew.cell? _ = _ from b0); have b1 := hu3.cellAt (by show _ < W9.heap.size; omega) (by omega) (show W9.drew.cell? _ = _ from b1); have b2 := hu3.cellAt (by show _ < W9.heap.size; omega) (by omega) (show W9.drew.cell? _ = _ from b2); have b3 := hu3.cellAt (by show _ < W9.heap.size; omega) (by omega) (show W9.drew.cell? _ = _ from b3); have HR3 := hid hr3; have HU3 := hid hu3; clear hr3 hg3 hu3))
                  have HUX := hid ((HUK.out.new ((show Below wo.heap.size wo W9.drew from HBOW.out.drew).mono hsu)).trans HU3.out)
                  have hrs : rollF P (P.take (j + 1)) = setK key sc (rollF P (P.take j)) := by rw [HTK.out, rollF_snoc, HSC.out]
                  have HRS := hid hrs
                  clear hrs
                  go_wp2
                  go_roundw
                  case rel =>
                    refine ⟨j + 1, R3, by omega, by go_num, fun x hx => ?_, by rw [HRS.out]; exact HR3.out, HUX.out⟩
                    rw [HTK.out, List.mem_append] at hx
                    rcases hx with hx | hx
                    · exact HOKS.out x hx
                    · rw [List.mem_singleton.1 hx, HSC.out]
                  case measure => simp [intOf]; omega
                · have t1 : (se != 0) = true := by simpa using hse
                  have hre := HREP.out
                  rw [if_pos (by
                    rw [List.all_eq_false]
                    exact ⟨(key, cj), HMJ.out, by rw [HSC.out]; simpa using hse⟩)] at hre
                  have HREX := hid hre
                  have HW9 := hid hW9
                  clear hre hb9 hb99 hb9W hboW hW9 b0 b1 b2 b3 ho9 hce
                  go_wp2
                  go_ret2
                  exact .inl ⟨by rw [HREX.out]; decide, by rw [HREX.out]; rfl, by first | exact HBWW.out | (have h := HBWW.out; rw [HW9.out] at h; exact h) | (have h := HBWW.out; rw [HW9.out] at h; exact h.drew)⟩
          · obtain rfl : j = P.length := by omega
            rw [List.take_length] at hok hrd
            have hre := HREP.out
            rw [if_neg (by rw [Bool.not_eq_false, List.all_eq_true]; exact fun x hx => decide_eq_true (hok x hx))] at hre
            have HREX := hid hre; have HRDX := hid hrd
            clear hok hrd hu hbo hro hre
            go_wp2
            go_ret2
            exact .inr ⟨HREX.out, w.heap.size, Rd, rfl, by rw [HPE.out]; exact HRDX.out, HBO.out⟩
  · have t0 : ((ups.length : Int) != (W : Int)) = true := by rw [bne_iff_ne]; omega
    have hre := HRE.out
    rw [if_pos (by simpa using hlen)] at hre
    have HRE := hid hre
    clear hre hlen
    go_wp2
    go_ret2
    exact .inl ⟨by rw [HRE.out]; decide, by rw [HRE.out]; rfl, Below.refl _ _⟩
end Go.Proofs.Ytclhnnidbhchnaa
