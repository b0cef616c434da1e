/- 1 text of this claim, in build order. -/
import Derived.Test.YtkgifbnkkmeoiaaGreatDoorPgcleackk
/- The program's Busy: the walk. -/
namespace Go.Proofs.YtkgifbnkkmeoiaaGreatDoor
open Go.ChangeShapes Go.WideShapes Go.ChangeAt Go.RowKit Go.Sort
set_option linter.unusedVariables false
set_option linter.unusedSimpArgs false

/-- Rows of different types lie apart. -/
theorem own_apart {w : World} {H H' : Nat} {e e' : TypeId} {sz sz' : Nat} {v v' : Value} {n n' : Nat} {xs xs' : List Value} (h : w.ownsRow H e sz v n xs) (h' : w.ownsRow H' e' sz' v' n' xs') (hne : e ≠ e') : ∀ g, v.ownBlock = some g → v'.ownBlock ≠ some g := by
  intro g hg hg'
  rcases h.2 with ⟨rfl, -⟩ | ⟨g1, cap, cur, rfl, -, hc, -⟩
  · cases hg
  · rcases h'.2 with ⟨rfl, -⟩ | ⟨g2, cap2, cur2, rfl, -, hc2, -⟩
    · cases hg'
    · injection hg with hg
      injection hg' with hg'
      have e1 : g1 = g := hg
      have e2 : g2 = g := hg'
      subst e1; subst e2
      rw [hc] at hc2
      injection hc2 with hc2
      injection hc2 with _ hc2 _
      exact hne hc2
theorem own_base {w : World} {base base' : Nat} {e : TypeId} {sz : Nat} {v : Value} {n : Nat} {xs : List Value} (h : w.ownsRow base e sz v n xs) (hb : base' ≤ base) : w.ownsRow base' e sz v n xs :=
  ⟨h.1, h.2.imp id (fun ⟨g, cap, cur, e, hg, r⟩ => ⟨g, cap, cur, e, Nat.le_trans hb hg, r⟩)⟩
/-- Lists of the call's own. -/
def RowsI2 (w : World) (H : Nat) (us : List Value) (ks : List (List Int)) : Prop :=
  us.length = ks.length ∧ ∀ i, i < ks.length → w.ownsRow H 3 1 (us.getD i undef) (ks.getD i []).length (ivals (ks.getD i []))
theorem RowsI2.nil_ (w : World) (H : Nat) : RowsI2 w H [] [] := ⟨rfl, fun i hi => by simp at hi⟩
theorem RowsI2.kept {w w' : World} {H : Nat} {us : List Value} {ks : List (List Int)} (h : RowsI2 w H us ks) (k : ∀ i, i < ks.length → ∀ g, (us.getD i undef).ownBlock = some g → w'.heap[g]? = w.heap[g]?) : RowsI2 w' H us ks :=
  ⟨h.1, fun i hi => own_kept (h.2 i hi) (k i hi)⟩
theorem RowsI2.below {w w' : World} {H : Nat} {us : List Value} {ks : List (List Int)} (h : RowsI2 w H us ks) (hb : Below w.heap.size w w') : RowsI2 w' H us ks :=
  h.kept fun i hi g hg => hb.block g ((h.2 i hi).lt g hg).2
theorem RowsI2.less {w : World} {H H' : Nat} {us : List Value} {ks : List (List Int)} (h : RowsI2 w H us ks) (hb : H' ≤ H) : RowsI2 w H' us ks := ⟨h.1, fun i hi => own_base (h.2 i hi) hb⟩
theorem RowsI2.app {w w' : World} {H : Nat} {us : List Value} {ks : List (List Int)} {u : Value} {k : List Int} (h : RowsI2 w H us ks) (hb : Below w.heap.size w w') (hu : w'.ownsRow H 3 1 u k.length (ivals k)) : RowsI2 w' H (us ++ [u]) (ks ++ [k]) := by
  have h' := h.below hb
  refine ⟨by simp [h.1], fun i hi => ?_⟩
  simp only [List.getD_eq_getElem?_getD]
  rcases Nat.lt_or_ge i ks.length with hlt | hge
  · rw [List.getElem?_append_left (by rw [h.1]; exact hlt), List.getElem?_append_left hlt]
    simpa only [List.getD_eq_getElem?_getD] using h'.2 i hlt
  · obtain rfl : i = ks.length := by simp at hi; omega
    rw [List.getElem?_append_right (by rw [h.1]; exact Nat.le_refl _), List.getElem?_append_right (Nat.le_refl _), h.1]
    simpa using hu
def rowS (x : GS) : List Int := [(x.1.1 : Int), (x.1.2 : Int)]
def BusyP (ks : List (List Int)) (w : World) (e : Ending) (w' : World) : Prop := ∃ v us, e = .returned v ∧ w'.ownsRow w.heap.size 43 1 v ks.length us ∧ RowsI2 w' w.heap.size us ks ∧ Below w.heap.size w w'
def BuRel (L : List PK) (m : Nat) (w : World) (all i : Value) (wr : World) : Prop :=
  ∃ (k : Nat) (V : List GS), k ≤ L.length ∧ i = .int .i64 k ∧ wr.ownsRow (m + 1) 105 1 all V.length (V.map encS) ∧ HasM wr m (V.map Subtype.val) ∧ V.Nodup ∧ (∀ x : GS, x ∈ V ↔ x.1 ∈ (L.take k).map lnkG) ∧ V.length ≤ k ∧ Below m w wr
def Bu2 (S : List GS) (w2 : World) (out i : Value) (wr : World) : Prop :=
  ∃ (j : Nat) (us : List Value), j ≤ S.length ∧ i = .int .i64 j ∧ wr.ownsRow w2.heap.size 43 1 out j us ∧ RowsI2 wr w2.heap.size us ((S.take j).map rowS) ∧ Below w2.heap.size w2 wr
theorem info_ints : (Tryz.prog.info? 43).map (fun i => (i.zero, i.size, i.bytes)) = some (some (.slice none 0 0), 1, 24) := by kernel_rfl
theorem info_cplx : (Tryz.prog.info? 105).map (fun i => (i.zero, i.size, i.bytes)) = some (some (.complex .f64 0 0), 1, 16) := by kernel_rfl
theorem sortS_len {V S : List GS} (hS : S.Pairwise fun x y => ltG x.1 y.1 = true) (hn : V.Nodup) (hm : ∀ x, x ∈ V ↔ x ∈ S) : S.length = V.length := by
  rw [← sortS hS hn hm]; exact List.length_mergeSort V
set_option maxRecDepth 100000 in
set_option maxHeartbeats 3200000 in
theorem busyP_any (D : Nat → Prop) (n : Nat) (L : List PK) (w : World) (h : NetP w D n L) (hL : L.length ≤ 1000) (hok : ∀ p ∈ L, okP p) :
    Calls Tryz.prog 36 #[.pointer (some ⟨n, 0, none⟩)] w (BusyP ((busyS L).map rowS) w) := by
  obtain ⟨i0, hi, hz0, hz1, hz2⟩ := info_parts info_cplx
  obtain ⟨i1, hi1, hy0, hy1, hy2⟩ := info_parts info_ints
  have hmm := @run_makeMap Tryz.prog
  obtain ⟨h1, h2, h3, v, es, h4, h5, -, h7⟩ := h
  have hnl := h2 n h1
  have HEL := hid (fun k (hk : k < L.length) => pk_elem (RowA.of_own h5) h7 hk)
  obtain ⟨A, c, rfl⟩ := own_formN h5
  clear h2 h5 h7
  have HOKP := hid hok
  clear hok
  obtain ⟨W0, hW0⟩ : ∃ W', W' = w.alloc (.map #[] 0) := ⟨_, rfl⟩
  have hb0 : Below w.heap.size w W0 := by rw [hW0]; exact bl1 _ _
  have hz0' : W0.heap.size = w.heap.size + 1 := by rw [hW0]; simp
  have hm0 : HasM W0 w.heap.size [] := ⟨by rw [hW0]; exact heap_alloc_new w _, fun y hy => by cases hy⟩
  have y0 := cellK hb0 hnl h4
  have HW0 := hid hW0; have HB0 := hid hb0; have HM0 := hid hm0
  clear hW0 hb0 hm0
  go_enter Tryz.func36, Tryz.ntmps36
  go_upto_region 3 with (fail)
  rw [← HW0.out]
  go_wp2
  go_loopw [4, 17] (fun all i wr => BuRel L w.heap.size w all i wr) (fun _ i _ => L.length - (intOf i).toNat)
  case atStart => exact ⟨0, [], by omega, rfl, World.ownsRow_nil _ _ _ _, HM0.out, List.nodup_nil, fun x => by simp, Nat.le_refl _, HB0.out⟩
  case round =>
    clear HM0 HB0 HW0
    obtain ⟨k, V, hk, rfl, ho, hm, hnd, hmem, hvl, hb⟩ := hrel
    have hsb := hb.size
    have hmlt : w.heap.size < wr.heap.size := (Array.getElem?_eq_some_iff.1 hm.1).1
    by_cases hlt : k < L.length
    · obtain ⟨g, off, cap, C, cc, e, -, hg, hlc, hcm, q0, q1, q2, -⟩ := HEL.out k hlt
      injection e with e1 _ e3
      subst e1; subst e3
      have q0 := cellK hb hg q0
      have q1 := cellK hb hg q1
      have q2 := cellK hb hg q2
      have hpk : L.getD k zP ∈ L := by rw [List.getD_eq_getElem?_getD, List.getElem?_eq_getElem hlt]; exact List.getElem_mem hlt
      have hokp := HOKP.out _ hpk
      have htk : (L.take (k + 1)).map lnkG = (L.take k).map lnkG ++ [lnkG (L.getD k zP)] := by
        rw [List.take_succ_eq_append_getElem hlt, List.map_append, List.getD_eq_getElem?_getD, List.getElem?_eq_getElem hlt]; rfl
      have hinG := hokp.inG
      obtain ⟨f, hf⟩ : ∃ f : Nat, (L.getD k zP).1 = (f : Int) := ⟨(L.getD k zP).1.toNat, by have := hokp.1; omega⟩
      obtain ⟨t, ht⟩ : ∃ t : Nat, (L.getD k zP).2.1 = (t : Int) := ⟨(L.getD k zP).2.1.toNat, by have := hokp.2.2.1; omega⟩
      have hlg : lnkG (L.getD k zP) = (f, t) := by unfold lnkG; rw [hf, ht]; rfl
      rw [hlg] at hinG htk
      rw [hf] at q0
      rw [ht] at q1
      generalize (L.getD k zP).2.2.length = dl at *
      clear hpk hokp hlg hf ht
      obtain ⟨W1, hW1⟩ : ∃ W', W' = wr.alloc (.cells #[.int .i64 f, .int .i64 t, .slice C dl cc] 101) := ⟨_, rfl⟩
      have y0' : W1.cell? ⟨wr.heap.size, 0, none⟩ = some (.int .i64 f) := by rw [hW1]; simp [go_sem]
      have y1' : W1.cell? ⟨wr.heap.size, 1, none⟩ = some (.int .i64 t) := by rw [hW1]; simp [go_sem]
      have y2' : W1.cell? ⟨wr.heap.size, 2, none⟩ = some (.slice C dl cc) := by rw [hW1]; simp [go_sem]
      have hb1 : Below wr.heap.size wr W1 := by rw [hW1]; exact bl1 _ _
      have HLN := hid (show Calls Tryz.prog 61 #[.agg #[.int .i64 f, .int .i64 t, .slice C dl cc]] W1 fun e w' => e = .returned (.complex .f64 (FB f) (FB t)) ∧ Below W1.heap.size W1 w' from link_any f t C dl cc W1 hinG)
      have HB1 := hid hb1; have HW1 := hid hW1; have HB := hid hb; have HO := hid ho; have HM := hid hm; have HND := hid hnd; have HMEM := hid hmem; have HTK := hid htk
      clear hb1 hW1 hb ho hm hnd hmem htk
      unfold maxLen at hcm
      go_wp2_with fail
      rw [← HW1.out]
      refine HLN.out.mono ?_
      rintro e w2 ⟨rfl, hb2⟩
      have hb12 := HB1.out.trans (hb2.mono HB1.out.size)
      have hz12 := hb12.size
      have hm2 : HasM w2 w.heap.size (V.map Subtype.val) := ⟨(hb12.block _ hmlt).trans HM.out.1, HM.out.2⟩
      have ho2 := own_kept HO.out (fun g hg => hb12.block g (HO.out.lt g hg).2)
      have hlook := hm2.look (x := (f, t)) hinG
      have hone : (Value.complex .f64 (FB f) (FB t)).oneCell' = true := rfl
      obtain ⟨y, hy⟩ : ∃ y : GS, y = ⟨(f, t), hinG⟩ := ⟨_, rfl⟩
      have henc : encS y = .complex .f64 (FB f) (FB t) := by rw [hy]; rfl
      have hyv : y.1 = (f, t) := by rw [hy]
      clear hy
      have hput := fun hn => hm2.put (x := (f, t)) hinG hn
      simp only [CV] at hlook hput
      generalize FB f = ca at *
      generalize FB t = cb at *
      have HPUT := hid hput; have HO2 := hid ho2; have HB2 := hid (HB.out.trans (hb12.mono hsb)); have HM2 := hid hm2; have HENC := hid henc
      clear hb2 hb12 hput ho2 hm2 henc
      by_cases hin : (f, t) ∈ V.map Subtype.val
      · rw [decide_eq_true hin] at hlook
        have HIN := hid hin
        clear hin
        go_wp2
        go_roundw
        case rel =>
          refine ⟨k + 1, V, by omega, by go_num, HO2.out, HM2.out, HND.out, fun x => ?_, by omega, HB2.out⟩
          rw [HTK.out, List.mem_append, HMEM.out x, List.mem_singleton]
          refine ⟨.inl, fun h => h.elim id (fun e => ?_)⟩
          obtain ⟨y, hy, e2⟩ := List.mem_map.1 HIN.out
          have := (HMEM.out y).1 hy
          rw [e2] at this
          rw [e]; exact this
        case measure => simp [intOf]; omega
      · rw [decide_eq_false hin] at hlook
        obtain ⟨w3, hrun, hm3, hu3⟩ := HPUT.out hin
        have ho3 := own_kept HO2.out (fun g hg => hu3.block g (HO2.out.lt g hg).2 (fun e => by injection e with e; have := (HO2.out.lt g hg).1; omega))
        have hb3 : Below w.heap.size w w3 := HB2.out.trans (hu3.below (Nat.le_refl _) (by omega))
        have hz3 := hu3.size
        have HO3 := hid ho3; have HB3 := hid hb3; have HM3 := hid hm3; have HIN := hid hin
        clear ho3 hb3 hm3 hu3 hin
        go_wp2_with (at_builtin; refine stop_here ?_)
        refine go_on ?_
        refine app_own_at (.tmp 29) (.tmp 31) 104 104 rfl rfl (w.heap.size + 1) 105 i0 (.complex .f64 0 0) 1 16 Tryz.underlying104 hi hz0 hz1 hz2 rfl (by decide) _ V.length (V.map encS) rfl (HO3.out.alloc _) (.slice (some ⟨w3.heap.size, 0, none⟩) 1 1) 1 [.complex .f64 ca cb] rfl (Src.ofSlice _ Tryz.underlying104 _ 1 1 _ rfl (cells_new_at _ _ _ rfl) (by intro u hu; rw [List.mem_singleton.1 hu]; exact hone)) (by simp only [maxLen]; omega) (by omega) (by rw [World.size_alloc]; omega) ?_
        intro v8 w8 hown8 hg8 hb8 hat8
        have hb38 : Below (w.heap.size + 1) w3 w8 := ((Below.refl _ w3).alloc (by omega) _).trans hb8
        have HO8 := hid (show w8.ownsRow (w.heap.size + 1) 105 1 v8 (V ++ [y]).length ((V ++ [y]).map encS) by
          rw [List.length_append, List.map_append, List.map_singleton, HENC.out]; exact hown8)
        have HM8 := hid (show HasM w8 w.heap.size ((V ++ [y]).map Subtype.val) from ⟨by rw [List.map_append, List.map_singleton, hyv, hb38.block _ (Nat.lt_succ_self _)]; exact HM3.out.1, by rw [List.map_append, List.map_singleton, hyv]; exact HM3.out.2⟩)
        have HB8 := hid (HB3.out.trans (hb38.mono (by omega)))
        clear hown8 hg8 hb8 hat8 hb38
        go_wp2
        go_roundw
        case rel =>
          refine ⟨k + 1, V ++ [y], by omega, by go_num, HO8.out, HM8.out, ?_, fun x => ?_, by rw [List.length_append, List.length_singleton]; omega, HB8.out⟩
          · rw [List.nodup_append]
            refine ⟨HND.out, List.pairwise_singleton _ _, fun a ha b hb e => ?_⟩
            rw [List.mem_singleton.1 hb] at e
            exact HIN.out (List.mem_map.2 ⟨a, ha, by rw [e, hyv]⟩)
          · rw [HTK.out, List.mem_append, List.mem_append, HMEM.out x, List.mem_singleton, List.mem_singleton]
            exact ⟨fun h => h.imp id (fun e => by rw [e, hyv]), fun h => h.imp id (fun e => Subtype.ext (e.trans hyv.symm))⟩
        case measure => simp [intOf]; omega
    · obtain rfl : k = L.length := by omega
      rw [List.take_length] at hmem
      have hmb : ∀ x, x ∈ V ↔ x ∈ busyS L := fun x => (hmem x).trans (busyS_mem L x).symm
      have hbl := sortS_len (busyS_sorted L) hnd hmb
      have hb49 := busyS_len L
      have hsrt := busyS_sorted L
      generalize busyS L = S at *
      have HB := hid hb; have HBL := hid hbl
      have hnv1000 : V.length ≤ 49 := by omega
      rcases ho.2 with ⟨rfl, h0⟩ | ⟨g, cap, cur, rfl, -⟩
      case' inl =>
        obtain ⟨A', hA'⟩ : ∃ A' : Option Addr, A' = none := ⟨_, rfl⟩
        obtain ⟨cap, hcap⟩ : ∃ cap : Nat, cap = 0 := ⟨_, rfl⟩
        have hSn := HBL.out
        rw [h0] at hSn
        obtain ⟨nn, hnn⟩ : ∃ nn : Nat, nn = 0 := ⟨_, rfl⟩
        have HNN := hid (show S.length = nn by rw [hSn, hnn])
        clear ho hm hnd hmem hmb hsrt hbl hb
        go_wp2_with fail
        refine (sortS_none wr).mono ?_
        rintro e w5 ⟨rfl, rfl⟩
        have HC := hid (show ∀ j, j < S.length → ∃ g, A' = some ⟨g, 0, none⟩ ∧ g < w5.heap.size ∧ w5.cell? ⟨g, j, none⟩ = some (encS (S.getD j default)) from fun j hj => by omega)
        have HB5 := HB
        rw [show (Value.slice none 0 0) = .slice A' nn cap by rw [hA', hnn, hcap]]
        clear hA' hcap hnn hSn h0
      case' inr =>
        obtain ⟨A', hA'⟩ : ∃ A' : Option Addr, A' = some ⟨g, 0, none⟩ := ⟨_, rfl⟩
        have HSO2 := hid (sortS_any g cap V.length V S wr (holdsS ho rfl) (ho.lt g rfl).2 rfl (by omega) hsrt hnd hmb)
        have hgl := ho.lt g rfl
        obtain ⟨nn, hnn⟩ : ∃ nn : Nat, nn = V.length := ⟨_, rfl⟩
        have HNN := hid (show S.length = nn by rw [HBL.out, hnn])
        clear ho hm hnd hmem hmb hsrt hbl hb
        go_wp2_with fail
        refine HSO2.out.mono ?_
        rintro e w5 ⟨rfl, hh5, hu5⟩
        have hz5 := hu5.size
        have HC := hid (show ∀ j, j < S.length → ∃ g, A' = some ⟨g, 0, none⟩ ∧ g < w5.heap.size ∧ w5.cell? ⟨g, j, none⟩ = some (encS (S.getD j default)) from fun j hj => by
          refine ⟨g, hA', by omega, ?_⟩
          have := (hh5 j (by simpa using hj)).1
          rw [Nat.zero_add] at this
          rw [this, List.getD_eq_getElem?_getD, List.getElem?_eq_getElem hj]
          simp [hj])
        have HB5 := hid (HB.out.trans (hu5.below (show w.heap.size ≤ g by omega) hgl.2))
        rw [show (Value.slice (some ⟨g, 0, none⟩) V.length cap) = .slice A' nn cap by rw [hA', hnn]]
        clear hA' hh5 hu5 hnn hgl
      all_goals
        go_wp2
        go_loopw [8, 38] (fun out i wq => Bu2 S w5 out i wq) (fun _ i _ => S.length - (intOf i).toNat)
        case atStart => exact ⟨0, [], by omega, rfl, World.ownsRow_nil _ _ _ _, RowsI2.nil_ _ _, Below.refl _ _⟩
        case round =>
          obtain ⟨j, us, hj, rfl, hown, hrr, hb⟩ := hrel
          have hsb := hb.size
          have hnn := HNN.out
          by_cases hltj : j < nn
          · obtain ⟨g, rfl, hg, q0⟩ := HC.out j (by omega)
            have q0 := cellK hb hg q0
            have htk : (S.take (j + 1)).map rowS = (S.take j).map rowS ++ [rowS (S.getD j default)] := by
              rw [List.take_succ_eq_append_getElem (show j < S.length by omega), List.map_append, List.getD_eq_getElem?_getD, List.getElem?_eq_getElem (show j < S.length by omega)]; rfl
            generalize S.getD j default = y at *
            obtain ⟨⟨f, t⟩, hy⟩ := y
            have hrow : rowS ⟨(f, t), hy⟩ = [(f : Int), (t : Int)] := rfl
            have henc : encS ⟨(f, t), hy⟩ = .complex .f64 (FB f) (FB t) := rfl
            have hc1 := fun w => conv_of hy.1.1 hy.1.2 w
            have hc2 := fun w => conv_of hy.2.1 hy.2.2 w
            rw [henc] at q0
            rw [hrow] at htk
            simp only at hc1 hc2
            clear hrow henc
            generalize FB f = ca at *
            generalize FB t = cb at *
            obtain ⟨W6, hW6⟩ : ∃ W', W' = wr.alloc (.cells #[.int .i64 f, .int .i64 t] 3) := ⟨_, rfl⟩
            have hz6 : W6.heap.size = wr.heap.size + 1 := by rw [hW6]; simp
            have ho6 : W6.ownsRow w5.heap.size 3 1 (.slice (some ⟨wr.heap.size, 0, none⟩) 2 2) 2 (ivals [(f : Int), (t : Int)]) := by
              refine ⟨rfl, .inr ⟨wr.heap.size, 2, #[.int .i64 f, .int .i64 t], rfl, hsb, ?_, Nat.le_refl _, by unfold maxLen; omega, rfl, rfl⟩⟩
              rw [hW6]; exact heap_alloc_new wr _
            have hb6 : Below wr.heap.size wr W6 := by rw [hW6]; exact bl1 _ _
            have hown6 := own_kept hown (fun g hg => hb6.block g (hown.lt g hg).2)
            have hrr6 := hrr.app hb6 ho6
            rw [← htk] at hrr6
            have HO6 := hid hown6; have HR6 := hid hrr6; have HB6 := hid (hb.trans (hb6.mono hsb)); have HW6 := hid hW6
            clear hown hrr hb hown6 hrr6 hb6 ho6 htk hW6
            go_wp2_with (first | (at_builtin; refine stop_here ?_) | simp only [hc1, hc2])
            refine go_on ?_
            rw [← HW6.out]
            refine app_own_at (.tmp 42) (.tmp 50) 69 69 rfl rfl w5.heap.size 43 i1 (.slice none 0 0) 1 24 Tryz.underlying69 hi1 hy0 hy1 hy2 rfl (by decide) _ _ _ rfl (HO6.out.alloc _) (.slice (some ⟨wr.heap.size + 1, 0, none⟩) 1 1) 1 [.slice (some ⟨wr.heap.size, 0, none⟩) 2 2] rfl (Src.ofSlice _ Tryz.underlying69 _ 1 1 _ rfl (cells_new_at _ _ _ hz6) (by simp; rfl)) (by simp only [maxLen]; omega) (by omega) (by rw [World.size_alloc]; omega) ?_
            intro v8 w8 hown8 hg8 hb8 hat8
            have hrow8 : RowsI2 w8 w5.heap.size (us ++ [.slice (some ⟨wr.heap.size, 0, none⟩) 2 2]) ((S.take (j + 1)).map rowS) := by
              refine (HR6.out.below (bl1 W6 (.cells #[.slice (some ⟨wr.heap.size, 0, none⟩) 2 2] 43))).kept (fun i hi g hg => ?_)
              have hlg := ((HR6.out.2 i hi).lt g hg).2
              refine hg8.block g (by rw [World.size_alloc]; omega) (fun e => own_apart (HR6.out.2 i hi) HO6.out (by decide) g hg e.symm)
            have HO8 := hid hown8; have HR8 := hid hrow8
            have HB8 := hid ((HB6.out.alloc (by omega) _).trans hb8)
            clear hown8 hrow8 hg8 hb8 hat8 hc1 hc2
            go_wp2
            go_roundw
            case rel => exact ⟨j + 1, _, by omega, by go_num, HO8.out, HR8.out, HB8.out⟩
            case measure => simp [intOf]; omega
          · obtain rfl : j = nn := by omega
            have hz5 := HB5.out.size
            have hks : (S.take j).map rowS = S.map rowS := by rw [List.take_of_length_le (by omega)]
            rw [hks] at hrr
            have HP := hid (show wr.ownsRow w.heap.size 43 1 _ (S.map rowS).length us ∧ RowsI2 wr w.heap.size us (S.map rowS) ∧ Below w.heap.size w wr from ⟨by rw [List.length_map, hnn]; exact own_base hown hz5, hrr.less hz5, HB5.out.trans (hb.mono hz5)⟩)
            clear hown hrr hb hks
            go_wp2
            go_ret
            exact ⟨_, us, rfl, HP.out⟩
end Go.Proofs.YtkgifbnkkmeoiaaGreatDoor
