/- 2 texts of this claim, in build order. -/
import Derived.Test.YtclhnnidbhchnaaPocbplgoj
import Derived.Test.YtclhnnidbhchnaaPcpikjcje
import Derived.Test.YtclhnnidbhchnaaPojocfkgf
/- The program's Keys, Len. -/
namespace Go.Proofs.Ytclhnnidbhchnaa
open Go.ChangeShapes Go.WideShapes Go.ChangeAt Go.RowKit Go.Maps
set_option linter.unusedVariables false
set_option linter.unusedSimpArgs false

/-- Lists of the call's own, each in a block of its own. -/
def RowsU (w : World) (H : Nat) (us : List Value) (ks : List (List Int)) : Prop :=
  us.length = ks.length ∧ (∀ i, i < ks.length → w.ownsRow H 3 1 (us.getD i undef) (ks.getD i []).length (ivals (ks.getD i []))) ∧
  ∀ i j, i < j → j < ks.length → ∀ g, (us.getD i undef).ownBlock = some g → (us.getD j undef).ownBlock ≠ some g
theorem RowsU.nil_ (w : World) (H : Nat) : RowsU w H [] [] := ⟨rfl, fun i hi => by simp at hi, fun i j _ hj => by simp at hj⟩
theorem RowsU.kept {w w' : World} {H : Nat} {us : List Value} {ks : List (List Int)} (h : RowsU w H us ks) (k : ∀ i, i < ks.length → ∀ g, (us.getD i undef).ownBlock = some g → w'.heap[g]? = w.heap[g]?) : RowsU w' H us ks :=
  ⟨h.1, fun i hi => own_kept (h.2.1 i hi) (k i hi), h.2.2⟩
theorem RowsU.below {w w' : World} {H : Nat} {us : List Value} {ks : List (List Int)} (h : RowsU w H us ks) (hb : Below w.heap.size w w') : RowsU w' H us ks :=
  h.kept fun i hi g hg => hb.block g ((h.2.1 i hi).lt g hg).2
theorem RowsU.app {w w' : World} {H : Nat} {us : List Value} {ks : List (List Int)} {u : Value} {k : List Int} (h : RowsU w H us ks) (hb : Below w.heap.size w w') (hu : w'.ownsRow w.heap.size 3 1 u k.length (ivals k)) (hH : H ≤ w.heap.size) : RowsU w' H (us ++ [u]) (ks ++ [k]) := by
  have h' := h.below hb
  have el : ∀ i, i < ks.length → (us ++ [u]).getD i undef = us.getD i undef ∧ (ks ++ [k]).getD i [] = ks.getD i [] := fun i hi => by
    simp only [List.getD_eq_getElem?_getD]
    rw [List.getElem?_append_left (by rw [h.1]; exact hi), List.getElem?_append_left hi]
    exact ⟨rfl, rfl⟩
  have er : (us ++ [u]).getD ks.length undef = u ∧ (ks ++ [k]).getD ks.length [] = k := by
    simp only [List.getD_eq_getElem?_getD]
    rw [List.getElem?_append_right (by rw [h.1]; exact Nat.le_refl _), List.getElem?_append_right (Nat.le_refl _), h.1]
    simp
  refine ⟨by simp [h.1], fun i hi => ?_, fun i j hij hj g hg => ?_⟩
  · rcases Nat.lt_or_ge i ks.length with hlt | hge
    · rw [(el i hlt).1, (el i hlt).2]; exact h'.2.1 i hlt
    · obtain rfl : i = ks.length := by simp at hi; omega
      rw [er.1, er.2]; exact own_base hu hH
  · rcases Nat.lt_or_ge j ks.length with hlt | hge
    · rw [(el j hlt).1]
      rw [(el i (by omega)).1] at hg
      exact h.2.2 i j hij hlt g hg
    · obtain rfl : j = ks.length := by simp at hj; omega
      rw [er.1]
      rw [(el i hij).1] at hg
      intro e
      have a := ((h.2.1 i hij).lt g hg).2
      have b := (hu.lt g e).1
      omega
/-- Rows of different types lie apart. -/
theorem own_apart {w : World} {H H' : Nat} {e e' : TypeId} {sz sz' : Nat} {v v' : Value} {n n' : Nat} {xs xs' : List Value} (h : w.ownsRow H e sz v n xs) (h' : w.ownsRow H' e' sz' v' n' xs') (hne : e ≠ e') : ∀ g, v.ownBlock = some g → v'.ownBlock ≠ some g := by
  intro g hg hg'
  rcases h.2 with ⟨rfl, -⟩ | ⟨g1, cap, cur, rfl, -, hc, -⟩
  · cases hg
  · rcases h'.2 with ⟨rfl, -⟩ | ⟨g2, cap2, cur2, rfl, -, hc2, -⟩
    · cases hg'
    · injection hg with hg
      injection hg' with hg'
      have e1 : g1 = g := hg
      have e2 : g2 = g := hg'
      subst e1; subst e2
      rw [hc] at hc2
      injection hc2 with hc2
      injection hc2 with _ hc2 _
      exact hne hc2
def KysP (ks : List (List Int)) (w : World) (e : Ending) (w' : World) : Prop := ∃ v us, e = .returned v ∧ w'.ownsRow w.heap.size 23 1 v ks.length us ∧ RowsU w' w.heap.size us ks ∧ Below w.heap.size w w'
def KyRel (L : List KC) (w1 : World) (l i : Value) (wr : World) : Prop :=
  ∃ (k : Nat) (us : List Value), k ≤ L.length ∧ i = .int .i64 k ∧ wr.ownsRow w1.heap.size 23 1 l k us ∧ RowsU wr w1.heap.size us ((L.take k).map Prod.fst) ∧ Below w1.heap.size w1 wr
theorem info_ints : (Try.prog.info? 23).map (fun i => (i.zero, i.size, i.bytes)) = some (some (.slice none 0 0), 1, 24) := by kernel_rfl
theorem getD_memK {L : List KC} {k : Nat} (h : k < L.length) : L.getD k zK ∈ L := by
  rw [List.getD_eq_getElem?_getD, List.getElem?_eq_getElem h]; exact List.getElem_mem h
theorem take_fst {L : List KC} {k : Nat} (h : k < L.length) : (L.take (k + 1)).map Prod.fst = (L.take k).map Prod.fst ++ [(L.getD k zK).1] := by
  rw [take_succ_zK h, List.map_append]; rfl
theorem sl_key {w : World} {k : List Int} {W : Nat} (hk : k.length = W) (hW : W ≤ 3) : Sl (w.alloc (.cells #[.int .i64 (k.getD 0 0), .int .i64 (k.getD 1 0), .int .i64 (k.getD 2 0)] 99)) (w.heap.size + 1) (.slice (some ⟨w.heap.size, 0, none⟩) W 3) (ivals k) := by
  refine Sl.take_ (by omega) hk.symm hW (by simp [maxLen]) fun j hj => ?_
  rw [Nat.zero_add]
  obtain rfl | rfl | rfl : j = 0 ∨ j = 1 ∨ j = 2 := by omega
  · simp [go_sem]
  · simp [go_sem]
  · simp [go_sem]
theorem slice_key (N W : Nat) (hW : W ≤ 3) (w : World) : (Instr.sliceAt 99 (.pointer (some ⟨N, 0, none⟩)) none (some (.int .i64 W)) none).run Try.prog w = .ok (.slice (some ⟨N, 0, none⟩) W 3) w := by
  obtain rfl | rfl | rfl | rfl : W = 0 ∨ W = 1 ∨ W = 2 ∨ W = 3 := by omega
  · kernel_rfl
  · kernel_rfl
  · kernel_rfl
  · kernel_rfl
set_option maxRecDepth 100000 in
set_option maxHeartbeats 3200000 in
theorem keys_any (D : Nat → Prop) (p m W M : Nat) (L : List KC) (w : World) (hc : CubW w D p m W M L) (hs : OkL W M L) (hW : W ≤ 3) (hL : L.length ≤ 70000) :
    Calls Try.prog 30 #[.pointer (some ⟨p, 0, none⟩)] w (KysP (L.map Prod.fst) w) := by
  obtain ⟨i0, hi, hz0, hz1, hz2⟩ := info_parts info_ints
  have hpl := hc.2.2.2.1 p hc.1
  have y0 := hc.2.2.2.2.1
  have HO := hid (order_any D p m W M L w hc hs hW hL)
  have HKY := hid hs.key
  clear hc hs
  go_enter Try.func30, Try.ntmps30
  go_wp2_with fail
  refine HO.out.mono ?_
  rintro e w1 ⟨v, rfl, ⟨A, cap, rfl, h1, h2, h3⟩, hb1⟩
  have y0 := cellK hb1 hpl y0
  have hs1 := hb1.size
  unfold maxLen at h2
  have HB1 := hid hb1; have H3 := hid h3
  clear hb1 h3
  go_wp2
  go_loopw [3, 9] (fun l i wr => KyRel L w1 l i wr) (fun _ i _ => L.length - (intOf i).toNat)
  case atStart => exact ⟨0, [], by omega, rfl, World.ownsRow_nil _ _ _ _, RowsU.nil_ _ _, Below.refl _ _⟩
  case round =>
    obtain ⟨k, us, hk, rfl, hown, hrows, hb⟩ := hrel
    have hsb := hb.size
    by_cases hlt : k < L.length
    · obtain ⟨g, rfl, hg, hcells⟩ := H3.out (by omega)
      obtain ⟨q0, q1, q2⟩ := hcells k hlt
      have q0 := cellK hb hg q0
      have q1 := cellK hb hg q1
      have q2 := cellK hb hg q2
      have y0 := cellK hb (by omega) y0
      have hkl := (HKY.out _ (getD_memK hlt)).1
      have e1 := take_fst hlt
      generalize (L.getD k zK).1 = key at *
      have hsl := sl_key (w := wr) hkl hW
      have hpw : p < wr.heap.size := by omega
      generalize key.getD 0 0 = x0 at *
      generalize key.getD 1 0 = x1 at *
      generalize key.getD 2 0 = x2 at *
      have hslk := slice_key wr.heap.size W hW
      obtain ⟨W0, hW0⟩ : ∃ W', W' = wr.alloc (.cells #[.int .i64 x0, .int .i64 x1, .int .i64 x2] 99) := ⟨_, rfl⟩
      rw [← hW0] at hsl
      have hz0' : W0.heap.size = wr.heap.size + 1 := by rw [hW0]; simp
      have hb0 : Below wr.heap.size wr W0 := by rw [hW0]; exact bl1 _ _
      have HCL := hid (cloneI_any _ key W0 (hsl.more (by omega)) (by omega))
      have HB := hid hb; have HOW := hid hown; have HRO := hid hrows; have E1 := hid e1; have HW0 := hid hW0; have HB0 := hid hb0
      clear hb hown hrows e1 hcells hsl hW0 hb0
      go_wp2_with fail
      rw [← HW0.out]
      refine HCL.out.mono ?_
      rintro e w2 ⟨u, rfl, hu, hb2⟩
      rw [hkl] at hu
      obtain ⟨U, cu, rfl, -, -, -⟩ := own_cells hu
      have hs2 := hb2.size
      have hb02 : Below wr.heap.size wr w2 := HB0.out.trans (hb2.mono (by omega))
      have hown2 := own_kept HOW.out (fun g hg => hb02.block g (HOW.out.lt g hg).2)
      have hrow2 := HRO.out.app (k := key) hb02 (by rw [hkl]; exact own_base hu (by omega)) (by omega)
      rw [← E1.out] at hrow2
      have HO2 := hid hown2; have HR2 := hid hrow2; have HB02 := hid hb02
      have HKL := hid hkl
      clear hown2 hrow2 hb02 hu hb2 hkl
      go_wp2_with (at_builtin; refine stop_here ?_)
      refine go_on ?_
      refine app_own_at (.tmp 13) (.tmp 20) 33 33 rfl rfl w1.heap.size 23 i0 (.slice none 0 0) 1 24 Try.underlying33 hi hz0 hz1 hz2 rfl (by decide) _ _ _ rfl (HO2.out.alloc _) (.slice (some ⟨w2.heap.size, 0, none⟩) 1 1) 1 [_] rfl (Src.ofSlice _ Try.underlying33 _ 1 1 _ rfl (cells_new_at _ _ _ rfl) (by simp; rfl)) (by simp only [maxLen]; omega) (by omega) (by rw [World.size_alloc]; omega) ?_
      intro v3 w3 hown3 hg3 hb3 hat3
      have hrow3 : RowsU w3 w1.heap.size (us ++ [.slice U W cu]) ((L.take (k + 1)).map Prod.fst) := by
        refine (HR2.out.below (bl1 w2 (.cells #[.slice U W cu] 23))).kept (fun i hi g hg => ?_)
        have hlg := ((HR2.out.2.1 i hi).lt g hg).2
        refine hg3.block g (by rw [World.size_alloc]; omega) (fun e => own_apart (HR2.out.2.1 i hi) HO2.out (by decide) g hg e.symm)
      have hb3' := hid (((HB.out.trans (HB02.out.mono hsb)).alloc (by omega) _).trans hb3)
      have HO3 := hid hown3; have HR3 := hid hrow3
      clear hown3 hrow3 hg3 hb3 hat3
      go_wp2
      go_roundw
      case rel => exact ⟨k + 1, _, by omega, by go_num, HO3.out, HR3.out, hb3'.out⟩
      case measure => simp [intOf]; omega
    · obtain rfl : k = L.length := by omega
      rw [List.take_length] at hrows
      have HOW := hid hown; have HRO := hid hrows; have HB := hid hb
      clear hown hrows hb
      go_wp2
      go_ret
      exact ⟨_, us, rfl, by rw [List.length_map]; exact own_base HOW.out hs1, ⟨HRO.out.1, fun i hi => own_base (HRO.out.2.1 i hi) hs1, HRO.out.2.2⟩, HB1.out.trans (HB.out.mono hs1)⟩
set_option maxRecDepth 100000 in
theorem len_any (D : Nat → Prop) (p m W M : Nat) (L : List KC) (w : World) (hc : CubW w D p m W M L) :
    Calls Try.prog 56 #[.pointer (some ⟨p, 0, none⟩)] w (Stays (.int .i64 L.length) w) := by
  have hpl := hc.2.2.2.1 p hc.1
  have y2 := hc.2.2.2.2.2.2.1
  obtain ⟨Dm, h1, h2, -⟩ := hc.2.2.2.2.2.2.2
  have H2 := hid h2
  clear hc h2
  go_enter Try.func56, Try.ntmps56
  go_wp2_with (first
    | (at_len; refine wpList_len_own _ rfl _ 92 rfl 99 25 Try.underlying92 _ m L.length Dm rfl h1 ?_)
    | go_in)
  rw [H2.out]
  go_ret
  exact ⟨rfl, Qu.refl _⟩
end Go.Proofs.Ytclhnnidbhchnaa
/- The reference's Empty: what it gives is the call's own. -/
namespace Go.Proofs.Ytclhnnidbhchnaa
open Go.ChangeShapes Go.WideShapes Go.ChangeAt Go.RowKit
set_option linter.unusedVariables false
set_option linter.unusedSimpArgs false

set_option maxRecDepth 100000 in
set_option maxHeartbeats 1600000 in
theorem refEmptyO_any (m : Int) (w : World) :
    Calls Try.prog 47 #[.int .i64 m] w (OwnPost (emptyC (emN m)) w) := by
  obtain ⟨i0, hi, hz0, hz1, hz2⟩ := info_parts info_int
  go_enter Try.func47, Try.ntmps47
  go_wp2
  go_loopw [4] (fun i wr => EmptyRel m (w.alloc (.cells #[.int .i64 0, .slice none 0 0, .slice none 0 0, .slice none 0 0] 25)) (w.heap.size + 1) i wr) (fun i _ => 2 - (intOf i).toNat)
  case atStart => exact ⟨0, _, by omega, rfl, Bld.start (by simp), (Below.refl _ _).alloc (by simp) _⟩
  case round =>
    obtain ⟨k, V, hk, rfl, hb, hw⟩ := hrel
    have h2 : emN m ≤ 2 := by unfold emN; split <;> (try split) <;> omega
    have HB := hid hb; have HW := hid hw; clear hb hw
    by_cases hlt : k < emN m
    · have hm : (k : Int) < m ∧ (k : Int) < 2 := by unfold emN at hlt; split at hlt <;> (try split at hlt) <;> omega
      obtain ⟨hm1, hm2⟩ := hm
      have sz1 : w.heap.size + 1 + 1 ≤ (wr).heap.size := HB.out.hs
      have o1 : (wr).ownsRow (w.heap.size + 1 + 1) 3 1 (V 1) (k) (ivals (List.replicate k (0 : Int))) := by have h : (wr).ownsRow (w.heap.size + 1 + 1) 3 1 (V 1) (List.replicate k (0 : Int)).length (ivals (List.replicate k (0 : Int))) := HB.out.own 1 (by omega) (by omega); rwa [show (List.replicate k (0 : Int)).length = k from by simp] at h
      obtain ⟨a1, d1, sh1, hc1, hm1, -⟩ := own_cells o1
      have q1 : (wr).cell? ⟨w.heap.size + 1, 1, none⟩ = some (V 1) := (HB.out.cj 1 (by omega) (by omega))
      rw [sh1] at q1 o1; clear hc1 hm1
      go_wp2_with (at_builtin; refine stop_here ?_)
      refine go_on ?_
      refine app_own_at (.tmp 16) (.tmp 17) 23 23 rfl rfl (w.heap.size + 1 + 1) 3 i0 (.int .i64 0) 1 8 Try.underlying23 hi hz0 hz1 hz2 rfl (by decide) (.slice a1 (k) d1) _ _ rfl (o1.alloc _) (.slice (some ⟨wr.heap.size, 0, none⟩) 1 1) 1 (ivals [0]) rfl (Src.ofSlice _ Try.underlying23 _ 1 1 _ rfl (cell_one_at _ _ _ rfl) (by simp [ivals]; rfl)) (by first | omega | (simp only [maxLen]; omega)) (by first | omega | (simp only [maxLen]; omega)) (by rw [World.size_alloc]; omega) ?_
      intro v1 w1 hown1 hg1 _ hat1
      rw [← sh1] at hg1 hat1
      obtain ⟨mm1, ff1, st1, far1⟩ := HB.out.step 1 (by omega) (by omega) (bl1 _ _) hown1 hg1 hat1
      obtain ⟨b1, e1, rfl, -, -, -⟩ := own_cells hown1
      replace mm1 : w1.cell? ⟨w.heap.size + 1, 1, none⟩ = some (.slice a1 (k) d1) := mm1.trans (congrArg some sh1)
      have HB1 := hid st1; have HF1 := hid far1; clear st1 far1 hown1 hg1 hat1 q1 o1 sh1
      have sz2 : w.heap.size + 1 + 1 ≤ (w1.setCell ⟨w.heap.size + 1, 1, none⟩ (.slice b1 (k + 1) e1)).heap.size := HB1.out.hs
      have o2 : (w1.setCell ⟨w.heap.size + 1, 1, none⟩ (.slice b1 (k + 1) e1)).ownsRow (w.heap.size + 1 + 1) 3 1 (V 2) (k) (ivals (List.replicate k (0 : Int))) := by have h : (w1.setCell ⟨w.heap.size + 1, 1, none⟩ (.slice b1 (k + 1) e1)).ownsRow (w.heap.size + 1 + 1) 3 1 (V 2) (List.replicate k (0 : Int)).length (ivals (List.replicate k (0 : Int))) := HB1.out.own 2 (by omega) (by omega); rwa [show (List.replicate k (0 : Int)).length = k from by simp] at h
      obtain ⟨a2, d2, sh2, hc2, hm2, -⟩ := own_cells o2
      have q2 : (w1.setCell ⟨w.heap.size + 1, 1, none⟩ (.slice b1 (k + 1) e1)).cell? ⟨w.heap.size + 1, 2, none⟩ = some (V 2) := (HB1.out.cj 2 (by omega) (by omega))
      rw [sh2] at q2 o2; clear hc2 hm2
      go_wp2_with (at_builtin; refine stop_here ?_)
      refine go_on ?_
      refine app_own_at (.tmp 21) (.tmp 22) 23 23 rfl rfl (w.heap.size + 1 + 1) 3 i0 (.int .i64 0) 1 8 Try.underlying23 hi hz0 hz1 hz2 rfl (by decide) (.slice a2 (k) d2) _ _ rfl (o2.alloc _) (.slice (some ⟨w1.heap.size, 0, none⟩) 1 1) 1 (ivals [0]) rfl (Src.ofSlice _ Try.underlying23 _ 1 1 _ rfl (cell_one_at _ _ _ (by simp [World.setCell])) (by simp [ivals]; rfl)) (by first | omega | (simp only [maxLen]; omega)) (by first | omega | (simp only [maxLen]; omega)) (by rw [World.size_alloc]; omega) ?_
      intro v2 w2 hown2 hg2 _ hat2
      rw [← sh2] at hg2 hat2
      obtain ⟨mm2, ff2, st2, far2⟩ := HB1.out.step 2 (by omega) (by omega) (bl1 _ _) hown2 hg2 hat2
      obtain ⟨b2, e2, rfl, -, -, -⟩ := own_cells hown2
      replace mm2 : w2.cell? ⟨w.heap.size + 1, 2, none⟩ = some (.slice a2 (k) d2) := mm2.trans (congrArg some sh2)
      have HB2 := hid st2; have HF2 := hid far2; clear st2 far2 hown2 hg2 hat2 q2 o2 sh2
      have sz3 : w.heap.size + 1 + 1 ≤ (w2.setCell ⟨w.heap.size + 1, 2, none⟩ (.slice b2 (k + 1) e2)).heap.size := HB2.out.hs
      have o3 : (w2.setCell ⟨w.heap.size + 1, 2, none⟩ (.slice b2 (k + 1) e2)).ownsRow (w.heap.size + 1 + 1) 3 1 (V 3) (k) (ivals (List.replicate k (0 : Int))) := by have h : (w2.setCell ⟨w.heap.size + 1, 2, none⟩ (.slice b2 (k + 1) e2)).ownsRow (w.heap.size + 1 + 1) 3 1 (V 3) (List.replicate k (0 : Int)).length (ivals (List.replicate k (0 : Int))) := HB2.out.own 3 (by omega) (by omega); rwa [show (List.replicate k (0 : Int)).length = k from by simp] at h
      obtain ⟨a3, d3, sh3, hc3, hm3, -⟩ := own_cells o3
      have q3 : (w2.setCell ⟨w.heap.size + 1, 2, none⟩ (.slice b2 (k + 1) e2)).cell? ⟨w.heap.size + 1, 3, none⟩ = some (V 3) := (HB2.out.cj 3 (by omega) (by omega))
      rw [sh3] at q3 o3; clear hc3 hm3
      go_wp2_with (at_builtin; refine stop_here ?_)
      refine go_on ?_
      refine app_own_at (.tmp 26) (.tmp 27) 23 23 rfl rfl (w.heap.size + 1 + 1) 3 i0 (.int .i64 0) 1 8 Try.underlying23 hi hz0 hz1 hz2 rfl (by decide) (.slice a3 (k) d3) _ _ rfl (o3.alloc _) (.slice (some ⟨w2.heap.size, 0, none⟩) 1 1) 1 (ivals [0]) rfl (Src.ofSlice _ Try.underlying23 _ 1 1 _ rfl (cell_one_at _ _ _ (by simp [World.setCell])) (by simp [ivals]; rfl)) (by first | omega | (simp only [maxLen]; omega)) (by first | omega | (simp only [maxLen]; omega)) (by rw [World.size_alloc]; omega) ?_
      intro v3 w3 hown3 hg3 _ hat3
      rw [← sh3] at hg3 hat3
      obtain ⟨mm3, ff3, st3, far3⟩ := HB2.out.step 3 (by omega) (by omega) (bl1 _ _) hown3 hg3 hat3
      obtain ⟨b3, e3, rfl, -, -, -⟩ := own_cells hown3
      replace mm3 : w3.cell? ⟨w.heap.size + 1, 3, none⟩ = some (.slice a3 (k) d3) := mm3.trans (congrArg some sh3)
      have HB3 := hid st3; have HF3 := hid far3; clear st3 far3 hown3 hg3 hat3 q3 o3 sh3
      go_wp2
      go_roundw
      case rel => exact ⟨k + 1, _, by omega, by go_num, bld_same HB3.out (fun _ _ _ => rfl) (three_of (rep_snoc k) (rep_snoc k) (rep_snoc k)), HF3.out _ _ (by omega) (by omega) (HF2.out _ _ (by omega) (by omega) (HF1.out _ _ (by omega) (by omega) HW.out))⟩
      case measure => simp [intOf]; omega
    · have hm : ¬ ((k : Int) < m ∧ (k : Int) < 2) := by unfold emN at hlt; split at hlt <;> (try split at hlt) <;> omega
      obtain rfl : k = emN m := by omega
      have k0 := HB.out.c0
      have k1 := HB.out.cj 1 (by omega) (by omega)
      have k2 := HB.out.cj 2 (by omega) (by omega)
      have k3 := HB.out.cj 3 (by omega) (by omega)
      obtain ⟨z0, z1, z2, z3, f0, f1, f2, f3⟩ := (Blk.new w (.int .i64 0) (.slice none 0 0) (.slice none 0 0) (.slice none 0 0) 25).below HW.out (by omega)
      obtain ⟨a1, d1, sh1, -, -, -⟩ := own_cells (show wr.ownsRow (w.heap.size + 1 + 1) 3 1 (V 1) (emN m) (ivals (List.replicate (emN m) 0)) by have h := HB.out.own 1 (by omega) (by omega); rwa [List.length_replicate] at h)
      obtain ⟨a2, d2, sh2, -, -, -⟩ := own_cells (show wr.ownsRow (w.heap.size + 1 + 1) 3 1 (V 2) (emN m) (ivals (List.replicate (emN m) 0)) by have h := HB.out.own 2 (by omega) (by omega); rwa [List.length_replicate] at h)
      obtain ⟨a3, d3, sh3, -, -, -⟩ := own_cells (show wr.ownsRow (w.heap.size + 1 + 1) 3 1 (V 3) (emN m) (ivals (List.replicate (emN m) 0)) by have h := HB.out.own 3 (by omega) (by omega); rwa [List.length_replicate] at h)
      have hres : ∀ v0, OwnC (((((wr.setCell ⟨w.heap.size, 0, none⟩ v0).setCell ⟨w.heap.size, 1, none⟩ (V 1)).setCell ⟨w.heap.size, 2, none⟩ (V 2)).setCell ⟨w.heap.size, 3, none⟩ (V 3))) w.heap.size (.agg #[.int .i64 0, V 1, V 2, V 3]) (emptyC (emN m)) := fun v0 => ((HB.out.upd (upd4 w.heap.size wr v0 (V 1) (V 2) (V 3)) (by omega) (by omega)).ownC).le (by omega)
      have hbel : ∀ v0, Below w.heap.size w (((((wr.setCell ⟨w.heap.size, 0, none⟩ v0).setCell ⟨w.heap.size, 1, none⟩ (V 1)).setCell ⟨w.heap.size, 2, none⟩ (V 2)).setCell ⟨w.heap.size, 3, none⟩ (V 3))) := fun v0 => (((bl1 w _).trans (HW.out.mono (by omega))).trans ((upd4 w.heap.size wr v0 (V 1) (V 2) (V 3)).below (Nat.le_refl _) (by have := HW.out.size; rw [World.size_alloc] at this; omega)))
      rw [sh1, sh2, sh3] at hres hbel
      rw [sh1] at k1
      rw [sh2] at k2
      rw [sh3] at k3
      have HRES := hid hres; have HBL := hid hbel; clear hres hbel sh1 sh2 sh3
      by_cases hm1 : (emN m : Int) < m
      · have hm2 : ¬ (emN m : Int) < 2 := by omega
        go_wp2
        exact bodyPost_ret (v := .agg #[.int .i64 0, Value.slice a1 (emN m) d1, .slice a2 (emN m) d2, .slice a3 (emN m) d3]) (by simp [results, Try.results47, go_sem, z0, z1, z2, z3]; done) rfl ⟨_, rfl, HRES.out (.int .i64 0), HBL.out (.int .i64 0)⟩
      · go_wp2
        exact bodyPost_ret (v := .agg #[.int .i64 0, Value.slice a1 (emN m) d1, .slice a2 (emN m) d2, .slice a3 (emN m) d3]) (by simp [results, Try.results47, go_sem, z0, z1, z2, z3]; done) rfl ⟨_, rfl, HRES.out (.int .i64 0), HBL.out (.int .i64 0)⟩
end Go.Proofs.Ytclhnnidbhchnaa
