/- 2 texts of this claim, in build order. -/
import Derived.Test.YtclhnnidbhchnaaPdhkhdgfh
import Derived.Test.YtclhnnidbhchnaaPpdgmeape
import Derived.Test.YtclhnnidbhchnaaPkpbafcfk
/- The walk of CuboidOwns. -/
namespace Go.Proofs.Ytclhnnidbhchnaa
open Go.ChangeShapes Go.WideShapes Go.ChangeAt Go.RowKit Go.Maps
set_option linter.unusedVariables false
set_option linter.unusedSimpArgs false

theorem ownI_set {w : World} {H g n c i : Nat} {X : List Int} (ho : w.ownsRow H 3 1 (.slice (some ⟨g, 0, none⟩) n c) n (ivals X)) (hX : X.length = n) (hi : i < n) (x : Int) :
    w.cell? ⟨g, i, none⟩ = some (.int .i64 (X.getD i 0)) ∧ w.frozen? ⟨g, i, none⟩ = false ∧ (w.setCell ⟨g, i, none⟩ (.int .i64 x)).ownsRow H 3 1 (.slice (some ⟨g, 0, none⟩) n c) n (ivals (X.set i x)) := by
  have hcell := ho.cellAt (g := g) i (by omega)
  have hxs : (ivals X)[i]? = some (.int .i64 (X.getD i 0)) := by simp [ivals, List.getElem?_eq_getElem (show i < X.length by omega)]
  have hst := (ho.stored i (.int .i64 x)).1
  rw [ivals_set] at hst
  exact ⟨hcell.trans hxs, ho.frozenAt i, hst⟩
theorem updl {X : Nat → List Int} (j i : Nat) (x : Int) (k : Nat) : (Go.Proofs.Ytclhnnidbhchnaa.upd X j ((X j).set i x) k).length = (X k).length := by
  unfold Go.Proofs.Ytclhnnidbhchnaa.upd
  split
  · rename_i h; rw [List.length_set, h]
  · rfl
/-- d's cells are added: what lies below is as it was. -/
def OwRel1 (n p m W M : Nat) (w3 : World) (i : Value) (wr : World) : Prop :=
  ∃ (k : Nat) (De : Nat → Prop) (Q : List KC), k ≤ n ∧ k ≤ 30 ∧ i = .int .i64 k ∧ CubW wr De p m W M Q ∧ OkL W M Q ∧ Q.length ≤ 60 + k ∧ (∀ k, De k → w3.heap.size ≤ k) ∧ Below w3.heap.size w3 wr
/-- The keys' rows from j on are as they were told. -/
def OwRel2 (us : List Value) (ks : List (List Int)) (H : Nat) (kv : Value) (w3 : World) (i : Value) (wr : World) : Prop :=
  ∃ j : Nat, j ≤ ks.length ∧ i = .int .i64 j ∧ wr.ownsRow H 23 1 kv ks.length us ∧ (∀ i, j ≤ i → i < ks.length → wr.ownsRow H 3 1 (us.getD i undef) (ks.getD i []).length (ivals (ks.getD i []))) ∧ Below w3.heap.size w3 wr
/-- A cell's lists are written over. -/
def SpR (wo : World) (C : Nat) (n : Int) (V : Nat → Value) (l1 l2 lj : Nat) (i : Value) (wr : World) : Prop :=
  ∃ (k : Nat) (X : Nat → List Int), i = .int .i64 k ∧ k ≤ lj ∧ Bld wr wo.heap.size C n V X ∧ (X 1).length = l1 ∧ (X 2).length = l2 ∧ Below wo.heap.size wo wr
/-- A key is written over. -/
def NiR (wo : World) (g H n : Nat) (u : Value) (i : Value) (wr : World) : Prop :=
  ∃ (k : Nat) (X : List Int), i = .int .i64 k ∧ k ≤ n ∧ X.length = n ∧ wr.ownsRow H 3 1 u n (ivals X) ∧ Upd g wo wr
set_option maxRecDepth 100000 in
set_option maxHeartbeats 6400000 in
theorem walk_CuboidOwns (w : World) (a : Int) (ha : -9223372036854775808 ≤ a ∧ a ≤ 9223372036854775807) (b : Int) (hb : -9223372036854775808 ≤ b ∧ b ≤ 9223372036854775807) (v2 : Value) (l2 : List DeedX) (s2 : rdSlice 5 rdDeed w w.heap.size [v2] l2) (v3 : Value) (l3 : List DeedX) (s3 : rdSlice 5 rdDeed w w.heap.size [v3] l3) :
    Calls Try.prog 8 #[.int .i64 a, .int .i64 b, v2, v3] w fun e w' => e = .returned (.bool true) ∧ Below w.heap.size w w' := by
  have hd := deeds_of_rd s2
  have hmo := deeds_of_rd s3
  obtain ⟨h1W, hW, -⟩ := wOf_in a
  obtain ⟨h1M, hM, -⟩ := mOf_in b
  generalize l2.map DeedX.kc = kc at *
  generalize l3.map DeedX.kc = mo at *
  have hd' := hd
  obtain ⟨A1, c1, rfl, hc1, hc1m, -⟩ := hd
  obtain ⟨A2, c2, rfl, hc2, hc2m, hel⟩ := hmo
  unfold maxLen at hc1m hc2m
  have HEL := hid hel
  generalize kc.length = n1 at *
  obtain ⟨m1, hm1⟩ : ∃ m1, m1 = min n1 30 := ⟨_, rfl⟩
  have HM1 := hid hm1
  have HD := hid (hd'.head m1 (by omega))
  have hm30 : m1 ≤ 30 := by omega
  generalize kc.take m1 = l30 at *
  have HBT := hid (both_any a b (.slice A1 m1 c1) l30 w ha hb HD.out)
  have HOK := hid (addAll_ok (wOf a) (mOf b) (l30.take 60))
  have hlen : (addAll (wOf a) (mOf b) (l30.take 60)).length ≤ 60 := by
    have := addAll_len (wOf a) (mOf b) (l30.take 60)
    rw [List.length_take] at this
    omega
  generalize addAll (wOf a) (mOf b) (l30.take 60) = L at *
  generalize wOf a = W at *
  generalize mOf b = M at *
  clear s2 s3 hd' hm1 hel
  go_enter Try.func8, Try.ntmps8
  go_upto_if 24 with (fail)
  go_cut [2] (fun s2 wx => s2 = .slice A1 m1 c1 ∧ w = wx)
  case first =>
    by_cases h1 : 30 < n1
    · have e : m1 = 30 := by have := HM1.out; omega
      have h40 : 30 ≤ c1 := by omega
      go_wp2
      go_meet
      case rel => exact ⟨by rw [e], rfl⟩
    · have e : m1 = n1 := by have := HM1.out; omega
      go_wp2
      go_meet
      case rel => exact ⟨by rw [e], rfl⟩
  case rest =>
  obtain ⟨rfl, rfl⟩ := hcut
  go_wp2_with fail
  refine HBT.out.mono ?_
  rintro e w3 ⟨p, m, r, D, R, rfl, hbo, hb3⟩
  have hz3 := hb3.size
  have HBO := hid hbo; have HB3 := hid hb3
  have HCP := hid (copyC_any D p m W M L w3 hbo.1 HOK.out h1W hW h1M hM (by omega))
  clear hbo hb3
  go_wp2_with fail
  refine HCP.out.mono ?_
  rintro e w4 ⟨p1, mm1, D1, rfl, hc4, hd4, hb4⟩
  have hz4 := hb4.size
  have HC4 := hid hc4; have HD4 := hid hd4; have HB4 := hid hb4
  clear hc4 hd4 hb4
  go_wp2
  go_loopw [13] (fun i wr => OwRel1 mo.length p1 mm1 W M w3 i wr) (fun i _ => mo.length - (intOf i).toNat)
  case atStart => exact ⟨0, D1, L, by omega, by omega, rfl, HC4.out, HOK.out, by omega, HD4.out, HB4.out⟩
  case round =>
    obtain ⟨k, De, Q, hk, hk3, rfl, hcq, hokq, hql, hde, hbr⟩ := hrel
    have hsr := hbr.size
    have hbw := HB3.out.trans (hbr.mono hz3)
    by_cases hend : k < mo.length ∧ k < 30
    · obtain ⟨hlt, h30⟩ := hend
      obtain ⟨bb, off, K, kcc, B1, d1, B2, d2, B3, d3, rfl, hbl, q0, q1, q2, q3, q4, hsk, hce⟩ := HEL.out k hlt
      have q0 := cellK hbw hbl q0
      have q1 := cellK hbw hbl q1
      have q2 := cellK hbw hbl q2
      have q3 := cellK hbw hbl q3
      have q4 := cellK hbw hbl q4
      have hmB : w3.heap.size ≤ mm1 := hde mm1 hcq.2.1
      have hmW : mm1 < wr.heap.size := hcq.2.2.2.1 mm1 hcq.2.1
      generalize (mo.getD k zK).2 = c at *
      generalize (mo.getD k zK).1 = key at *
      have HAC := hid (addC_any De p1 mm1 W M Q (.slice K key.length kcc) (.agg #[.int .i64 c.n, .slice B1 c.s.length d1, .slice B2 c.lo.length d2, .slice B3 c.hi.length d3]) key c wr.drew (hcq.qu ⟨1, rfl⟩) hokq h1W hW hM (by omega) (((hsk.below hbw).more hbw.size).qu' ⟨1, rfl⟩) (((hce.below hbw).more hbw.size).below (Below.refl _ _).drew))
      have hnx : ∀ (w5 : World) (D5 : Nat → Prop), CubW w5 D5 p1 mm1 W M (addK W M Q key c).1 → Grow wr.drew De D5 → Below w3.heap.size wr w5 → OwRel1 mo.length p1 mm1 W M w3 (.int .i64 ((k : Int) + 1)) w5 := fun w5 D5 h1 h2 h3 => by
        refine ⟨k + 1, D5, _, by omega, by omega, by go_num, h1, addK_ok hokq key c, by have := addK_len hokq key c; omega, fun i hi => ?_, hbr.trans h3⟩
        rcases h2.2 i hi with h | h
        · exact hde i h
        · exact Nat.le_trans hsr h
      have HNX := hid hnx
      clear hcq hokq hde hbr hbw hsk hce hnx
      go_upto_region 12 with (fail)
      go_region_held3 (fun w' => w'.cell? ⟨bb, off + k * 5, none⟩ = some (.slice K key.length kcc) ∧ w'.cell? ⟨bb, off + k * 5 + 1, none⟩ = some (.int .i64 c.n) ∧ w'.cell? ⟨bb, off + k * 5 + 1 + 1, none⟩ = some (.slice B1 c.s.length d1) ∧ w'.cell? ⟨bb, off + k * 5 + 1 + 2, none⟩ = some (.slice B2 c.lo.length d2) ∧ w'.cell? ⟨bb, off + k * 5 + 1 + 3, none⟩ = some (.slice B3 c.hi.length d3)) (go_keep) (((with_reducible refine HAC.out.mono ?_); rintro e w5 ⟨D5, rfl, hc5, hg5, hu5⟩; have hb5 : Below w3.heap.size wr w5 := ((Below.refl wr.heap.size wr).drew.mono hsr).trans (hu5.below hmB hmW); have hz5 := hb5.size; have q0 := cellK hb5 (by omega) q0; have q1 := cellK hb5 (by omega) q1; have q2 := cellK hb5 (by omega) q2; have q3 := cellK hb5 (by omega) q3; have q4 := cellK hb5 (by omega) q4; have HR := hid (HNX.out w5 D5 hc5 hg5 hb5); clear hc5 hg5 hu5 hb5))
      go_wp2
      go_roundw
      case rel => exact HR.out
      case measure => simp [intOf]; omega
    · have hex : (k < mo.length ∧ k = 30) ∨ k = mo.length := by omega
      have HKY := hid (keys_any D p m W M L wr (HBO.out.1.below hbr) HOK.out hW (by omega))
      have hkW : ∀ j, j < (L.map Prod.fst).length → ((L.map Prod.fst).getD j []).length = W := fun j hj => by
        rw [List.length_map] at hj
        rw [List.getD_eq_getElem?_getD, List.getElem?_map, List.getElem?_eq_getElem hj]
        exact (HOK.out.key _ (List.getElem_mem hj)).1
      have hkl : (L.map Prod.fst).length ≤ 60 := by rw [List.length_map]; exact hlen
      generalize L.map Prod.fst = ks at *
      have HKW := hid hkW; have HBR := hid hbr; have HBW := hid hbw
      clear hcq hokq hql hde hbr hbw hend hkW
      rcases hex with ⟨hlt, rfl⟩ | rfl
      all_goals
        go_wp2_with fail
        refine HKY.out.mono ?_
        rintro e w6 ⟨kv, us, rfl, hown, hrows, hb6⟩
        have hz6 := hb6.size
        have hB6 := HBR.out.trans (hb6.mono hsr)
        obtain ⟨Kv, kvc, rfl, hkc, hkm, hkg⟩ := own_cells hown
        have HKG := hid hkg
        unfold maxLen at hkm
        have hsep := hrows.2.2
        have hro := hrows.2.1
        have HSEP := hid hsep; have HOWN := hid hown; have HRO := hid hro; have HB6 := hid hB6
        have hz36 := hB6.size
        generalize hHH : wr.heap.size = H at *
        clear hown hrows hb6 hB6 hkg hsep hro
        go_wp2
        go_loopw [15] (fun i wr => OwRel2 us ks H (.slice Kv ks.length kvc) w3 i wr) (fun i _ => ks.length - (intOf i).toNat)
        case atStart => exact ⟨0, by omega, rfl, HOWN.out, fun i _ hi => HRO.out i hi, HB6.out⟩
        case round =>
          clear HOWN HRO HB6 HKY
          obtain ⟨j, hj, rfl, hown, hro, hbq⟩ := hrel
          have hzq := hbq.size
          by_cases hlt : j < ks.length
          · obtain ⟨gk, rfl, -⟩ := HKG.out (by omega)
            have hrj := hro j (Nat.le_refl _) hlt
            have hWj := HKW.out j hlt
            have hgk : H ≤ gk ∧ gk < wr.heap.size := hown.lt gk rfl
            have hcj : wr.cell? ⟨gk, j, none⟩ = some (us.getD j undef) := by
              have hul := hown.1
              refine (hown.cellAt (g := gk) j (by omega)).trans ?_
              rw [List.getD_eq_getElem?_getD, List.getElem?_eq_getElem (show j < us.length by omega)]; rfl
            have hap := own_apart hown hrj (by decide)
            generalize hu : us.getD j undef = u at hcj hrj hap
            generalize ks.getD j [] = key at hrj hWj
            obtain ⟨U, cu, rfl, hcu, hcum, hUg⟩ := own_cells hrj
            have hkp : 0 < key.length := by omega
            have hk3 : key.length ≤ 3 := by omega
            obtain ⟨g, rfl, -⟩ := hUg (by omega)
            have hgj : H ≤ g ∧ g < wr.heap.size := hrj.lt g rfl
            have hgne : gk ≠ g := fun e => hap gk rfl (by rw [e]; rfl)
            unfold maxLen at hcum
            have HG := hid (getC_all D p m W M L (.slice (some ⟨g, 0, none⟩) key.length cu) key wr (HBO.out.1.below hbq) HOK.out (Sl.of_own hrj) h1W hW hM)
            generalize (getK L key).isSome = bs at *
            generalize getC L key = cc at *
            have HU := hid hu; have HRJ := hid hrj; have HOWN := hid hown; have HRO := hid hro; have HBQ := hid hbq
            obtain ⟨wo, rfl⟩ : ∃ wo : World, wo = wr := ⟨_, rfl⟩
            clear hu hrj hown hro hbq hap hUg hWj
            go_wp2_with fail
            refine HG.out.mono ?_
            rintro e w7 ⟨xv, rfl, ho7, hb7⟩
            have hz7 := hb7.size
            have ho7' := ho7
            obtain ⟨u1, u2, u3, rfl, o1, o2, o3, -, -⟩ := ho7
            obtain ⟨X1, e1, rfl, h11, h12, h13⟩ := own_cells o1
            obtain ⟨X2, e2, rfl, h21, h22, h23⟩ := own_cells o2
            obtain ⟨X3', e3, rfl, h31, h32, h33⟩ := own_cells o3
            have hbd := ho7'.bld hz7 25 rfl
            have hbx : Below wo.heap.size wo (w7.alloc (.cells #[.int .i64 cc.n, .slice X1 cc.s.length e1, .slice X2 cc.lo.length e2, .slice X3' cc.hi.length e3] 25)) := hb7.alloc hz7 _
            generalize hV : V3 (.slice X1 cc.s.length e1) (.slice X2 cc.lo.length e2) (.slice X3' cc.hi.length e3) = V at hbd
            have hV1 : V 1 = .slice X1 cc.s.length e1 := by rw [← hV]; rfl
            have hV2 : V 2 = .slice X2 cc.lo.length e2 := by rw [← hV]; rfl
            have hX1 : (X3 cc 1).length = cc.s.length := rfl
            have hX2 : (X3 cc 2).length = cc.lo.length := rfl
            generalize X3 cc = X at *
            generalize cc.s.length = l1 at *
            generalize cc.lo.length = l2 at *
            generalize cc.hi.length = l3 at *
            generalize cc.n = cn at *
            have H1 := hid hV1; have H2 := hid hV2; have HX1 := hid hX1; have HX2 := hid hX2
            have HBD := hid hbd; have HBX := hid hbx; have HC1 := hid h13; have HC2 := hid h23
            unfold maxLen at h12 h22 h32
            clear ho7' o1 o2 o3 hV hV1 hV2 hX1 hX2 hbd hbx h13 h23 h33 hb7
            go_wp2
            go_loopw [18] (fun i wr => SpR wo w7.heap.size cn V l1 l2 l1 i wr) (fun i _ => l1 - (intOf i).toNat)
            case atStart => exact ⟨0, X, rfl, by omega, HBD.out, HX1.out, HX2.out, HBX.out⟩
            case round =>
              clear HBD HX1 HX2 HBX
              obtain ⟨k1, X, rfl, hk1, hb, q1, q2, hw⟩ := hrel
              have HB := hid hb; have HW := hid hw; have Q1 := hid q1; have Q2 := hid q2
              have mm1 : wr.cell? ⟨w7.heap.size, 1, none⟩ = some (.slice X1 l1 e1) := (hb.cj 1 (by omega) (by omega)).trans (congrArg some H1.out)
              clear hb hw q1 q2
              by_cases hlt1 : k1 < l1
              · obtain ⟨g1, rfl, -⟩ := HC1.out (by omega)
                obtain ⟨ce, fr, st, far⟩ := HB.out.setAt 1 (by omega) (by omega) H1.out (i := k1) (by rw [Q1.out]; exact hlt1) 77
                have ST := hid st; have FAR := hid (far wo.heap.size wo (Nat.le_refl _) HW.out)
                clear st far
                go_wp2
                go_roundw
                case rel => exact ⟨k1 + 1, _, by go_num, by omega, ST.out, by rw [updl]; exact Q1.out, by rw [updl]; exact Q2.out, FAR.out⟩
                case measure => simp [intOf]; omega
              · obtain rfl : k1 = l1 := by omega
                obtain ⟨wq, rfl⟩ : ∃ wq : World, wq = wr := ⟨_, rfl⟩
                go_wp2
                go_loopw [19] (fun i wr => SpR wo w7.heap.size cn V k1 l2 l2 i wr) (fun i _ => l2 - (intOf i).toNat)
                case atStart => exact ⟨0, X, rfl, by omega, HB.out, Q1.out, Q2.out, HW.out⟩
                case round =>
                  clear HB HW Q1 Q2 mm1
                  obtain ⟨k2, X, rfl, hk2, hb, q1, q2, hw⟩ := hrel
                  have HB := hid hb; have HW := hid hw; have Q1 := hid q1; have Q2 := hid q2
                  have mm1 : wr.cell? ⟨w7.heap.size, 2, none⟩ = some (.slice X2 l2 e2) := (hb.cj 2 (by omega) (by omega)).trans (congrArg some H2.out)
                  clear hb hw q1 q2
                  by_cases hlt2 : k2 < l2
                  · obtain ⟨g1, rfl, -⟩ := HC2.out (by omega)
                    obtain ⟨ce, fr, st, far⟩ := HB.out.setAt 2 (by omega) (by omega) H2.out (i := k2) (by rw [Q2.out]; exact hlt2) 77
                    have ST := hid st; have FAR := hid (far wo.heap.size wo (Nat.le_refl _) HW.out)
                    clear st far
                    go_wp2
                    go_roundw
                    case rel => exact ⟨k2 + 1, _, by go_num, by omega, ST.out, by rw [updl]; exact Q1.out, by rw [updl]; exact Q2.out, FAR.out⟩
                    case measure => simp [intOf]; omega
                  · obtain rfl : k2 = l2 := by omega
                    have hrow := own_kept HRJ.out (fun q hq => HW.out.block q (HRJ.out.lt q hq).2)
                    have hcj' := cellK HW.out hgk.2 hcj
                    have hzv := HW.out.size
                    have HROW := hid hrow
                    obtain ⟨wv, rfl⟩ : ∃ wv : World, wv = wr := ⟨_, rfl⟩
                    clear hrow hcj
                    go_wp2
                    go_loopw [20] (fun i wr => NiR wv g H key.length (.slice (some ⟨g, 0, none⟩) key.length cu) i wr) (fun i _ => key.length - (intOf i).toNat)
                    case atStart => exact ⟨0, key, rfl, by omega, rfl, HROW.out, Upd.refl _ _⟩
                    case round =>
                      clear HROW HB Q1 Q2 mm1
                      obtain ⟨k4, Y, rfl, hk4, hY, ho, hu⟩ := hrel
                      have hck := hu.cellAt (by omega) hgne hcj'
                      have hzu := hu.size
                      by_cases hlt4 : k4 < key.length
                      · obtain ⟨ce, fr, st⟩ := ownI_set ho hY hlt4 9
                        have ST := hid st; have HU2 := hid (hu.trans (Upd.setCell g k4 wr (.int .i64 9)))
                        have HY := hid hY
                        clear st ho hu hY hcj'
                        go_wp2
                        go_roundw
                        case rel => exact ⟨k4 + 1, _, by go_num, by omega, by rw [List.length_set]; exact HY.out, ST.out, HU2.out⟩
                        case measure => simp [intOf]; omega
                      · obtain rfl : k4 = key.length := by omega
                        have hnx : OwRel2 us ks H (.slice (some ⟨gk, 0, none⟩) ks.length kvc) w3 (.int .i64 ((j : Int) + 1)) wr := by
                          have hst : ∀ q, q < wo.heap.size → q ≠ g → wr.heap[q]? = wo.heap[q]? := fun q hq hne => (hu.block q (by omega) (fun e => by injection e with e; exact hne e)).trans (HW.out.block q hq)
                          refine ⟨j + 1, by omega, by go_num, own_kept HOWN.out (fun q hq => hst q (HOWN.out.lt q hq).2 (fun e => ?_)), fun i hi hi2 => own_kept (HRO.out i (by omega) hi2) (fun q hq => hst q ((HRO.out i (by omega) hi2).lt q hq).2 (fun e => ?_)), HBQ.out.trans ((HW.out.mono hzq).trans (hu.below (by omega) (by omega)))⟩
                          · have e2 : gk = q := by injection hq
                            exact hgne (e2.trans e)
                          · exact HSEP.out j i (by omega) hi2 g (by rw [HU.out]; rfl) (by rw [hq, e])
                        have HNX := hid hnx
                        clear hnx ho hu hY hcj'
                        go_wp2
                        go_roundw
                        case rel => exact HNX.out
                        case measure => simp [intOf]; omega
          · have HLK := hid (like_any D R p m r W M L wr (HBO.out.1.below hbq) (HBO.out.2.1.below hbq) HOK.out h1W hW hM (by omega))
            have HBE := hid (HB3.out.trans (hbq.mono hz3))
            clear hown hro hbq
            go_wp2_with fail
            refine HLK.out.mono ?_
            rintro e w8 ⟨rfl, hb8⟩
            have HB8 := hid (HBE.out.trans (hb8.mono HBE.out.size))
            clear hb8
            go_wp2_with fail
            refine (lives_any w8).mono ?_
            rintro e w9 ⟨rfl, hb9⟩
            have HB9 := hid (HB8.out.trans (hb9.mono HB8.out.size))
            clear hb9
            go_wp2
            go_ret
            exact ⟨rfl, HB9.out⟩
end Go.Proofs.Ytclhnnidbhchnaa
/- The statement CuboidOwns: from the walk of the law's function (it returns true, and nothing that was there has turned) to the given row. No condition. -/
namespace Go.Proofs.Ytclhnnidbhchnaa.cuboidOwns
open Go.ChangeShapes Go.WideShapes Go.ChangeAt Go.RowKit Go.WideMaps Go.WideElems Go.Joins
open Go.ChangeMaps (open_string shut_string)
set_option linter.unusedVariables false

set_option maxRecDepth 100000 in
theorem lifted (os : Os) (started : os.Started) (H : Type) (enc : TypeId × Value → H) :
    ReturnsInHanded {} Try.checked os 8 .any (Rows.cuboidOwnsSpec.pre6 enc Try.prog Try.f8 Rows.cuboidOwnsRow.domain false) (Rows.cuboidOwnsSpec.post enc Try.prog Try.f8 false true false false) := by
  refine returnsInHanded_of_change (C := Try.checked) own started (by kernel_rfl) Try.func8
    (ChangeSpec.witness6 (enc := enc) (C := Try.checked) false ⟨#[], #[.int .i64 0, .int .i64 0, .slice none 0 0, .slice none 0 0], []⟩ 8 (by kernel_rfl) (by kernel_rfl) (by kernel_rfl) (by kernel_rfl)) ?_
  intro W base args ds gs before hval0 hW hcnd _
  have hval : ∀ (j : Nat) t v, Try.f8.params[j]? = some t → args[j]? = some v → Value.okWide Try.prog W .any base t v := hval0
  have hW' := hW
  obtain ⟨p, q, hA0, hV, rfl, hfz, hnd⟩ := hW
  have hA : DataW.TrodAll enc Try.prog W 0 (fun _ => true) true Try.f8.params.toList args.toList ds p := hA0
  rw [Try.params8] at hA hval
  obtain ⟨v0, vs0, d0, ds0, p0, q0, hargs, rfl, rfl, h0, r0⟩ := trodAll_cons hA
  obtain ⟨v1, vs1, d1, ds1, p1, q1, rfl, rfl, rfl, h1, r1⟩ := trodAll_cons r0
  obtain ⟨v2, vs2, d2, ds2, p2, q2, rfl, rfl, rfl, h2, r2⟩ := trodAll_cons r1
  obtain ⟨v3, vs3, d3, ds3, p3, q3, rfl, rfl, rfl, h3, r3⟩ := trodAll_cons r2
  obtain ⟨rfl, rfl, rfl⟩ := trodAll_nil r3
  obtain rfl : args = #[v0, v1, v2, v3] := by cases args; simp_all
  obtain ⟨rfl, rfl⟩ := trodVars_none hV
  obtain ⟨a0, rfl, rfl, rfl, w0⟩ := open_int Try.underlying3 (hval 0 3 v0 rfl rfl) h0
  have b0 := bounds_i64 w0
  obtain ⟨a1, rfl, rfl, rfl, w1⟩ := open_int Try.underlying3 (hval 1 3 v1 rfl rfl) h1
  have b1 := bounds_i64 w1
  obtain ⟨l2, s2⟩ := open_read_slice Try.underlying32 opens_deeds (hval 2 32 v2 rfl rfl) h2
  obtain ⟨l3, s3⟩ := open_read_slice Try.underlying32 opens_deeds (hval 3 32 v3 rfl rfl) h3
  clear hval0
  refine (walk_CuboidOwns W a0 b0 a1 b1 v2 l2 s2 v3 l3 s3).mono fun e W' ⟨he, hb⟩ => ?_
  subst he
  exact ⟨_, rfl, post_of_below hW' (fun _ _ _ => (trodAll_cons_mk (shut_bool Try.underlying4 _) trodAll_mk0)) (fun sp hs => trodAll_stays laidOut hb (by kernel_rfl) hA0 (fun x hx => hW'.lt x (List.mem_append_left _ hx)) (fun x hx => hs x (List.mem_append_left _ hx)))
    (fun _ _ => rfl) rfl hb (ok_one (by kernel_rfl) rfl (okWide_bool_mk Try.underlying4 _))⟩

theorem over : Rows.cuboidOwnsRow.holds Try.pinned (OpenSpec.ofChange Rows.cuboidOwnsSpec) :=
  OpenClaim.holds_of_wide 8 Try.f8 rfl rfl rfl rfl rfl rfl rfl ⟨rfl, rfl, rfl, rfl, rfl⟩ rfl rfl rfl rfl rfl (by kernel_rfl) Try.func8 (by kernel_rfl)
    (of_decide_eq_true (by kernel_rfl)) (by unfold Func.isWrapper; first | (rw [if_pos (by decide +kernel)]; kernel_rfl) | (rw [if_neg (by decide +kernel)]; exact ⟨rfl, rfl⟩))
    (fun os started H enc _ => lifted os started H enc)

theorem proved : Rows.CuboidOwnsSaid :=
  over
#print axioms proved
end Go.Proofs.Ytclhnnidbhchnaa.cuboidOwns
