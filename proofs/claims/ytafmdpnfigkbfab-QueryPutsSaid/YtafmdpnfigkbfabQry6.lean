/- query.Key: a row of one's own, of lists of one's own. -/
import Derived.Test.YtafmdpnfigkbfabQry5
namespace Go.Proofs.Ytafmdpnfigkbfab
open Go.ChangeShapes Go.WideShapes Go.ChangeAt Go.RowKit
set_option linter.unusedVariables false
set_option linter.unusedSimpArgs false

theorem info_strsQ : (Try.prog.info? 23).map (fun i => (i.zero, i.size, i.bytes)) = some (some (.slice none 0 0), 1, 24) := by kernel_rfl
theorem own_lessQ {w : World} {base base' n : Nat} {e : TypeId} {sz : Nat} {v : Value} {xs : List Value} (h : w.ownsRow base e sz v n xs) (hb : base' ≤ base) : w.ownsRow base' e sz v n xs := by
  obtain ⟨h1, h2⟩ := h
  refine ⟨h1, ?_⟩
  rcases h2 with h2 | ⟨g, cap, cur, rfl, hbg, r⟩
  · exact .inl h2
  · exact .inr ⟨g, cap, cur, rfl, by omega, r⟩
theorem own_stays {w w' : World} {base n : Nat} {e : TypeId} {sz : Nat} {v : Value} {xs : List Value} (h : w.ownsRow base e sz v n xs) (hb : Below w.heap.size w w') : w'.ownsRow base e sz v n xs :=
  own_kept h (fun g hg => hb.block g (h.lt g hg).2)
/-- A row of one's own, of lists of texts of one's own. -/
def RowL (w : World) (base : Nat) (out : Value) (M : List (List ByteArray)) : Prop :=
  ∃ vs : List Value, vs.length = M.length ∧ w.ownsRow base 23 1 out M.length vs ∧
    ∀ j, j < M.length → w.ownsRow base 9 1 (vs.getD j undef) (M.getD j []).length (svals (M.getD j [])) ∧ ∀ g, (vs.getD j undef).ownBlock = some g → out.ownBlock ≠ some g
theorem RowL.nil_ (w : World) (base : Nat) : RowL w base (.slice none 0 0) [] := ⟨[], rfl, World.ownsRow_nil _ _ _ _, fun j hj => by simp at hj⟩
theorem RowL.stays {w w' : World} {base : Nat} {out : Value} {M : List (List ByteArray)} (h : RowL w base out M) (hb : Below w.heap.size w w') : RowL w' base out M := by
  obtain ⟨vs, h1, h2, h3⟩ := h
  exact ⟨vs, h1, own_stays h2 hb, fun j hj => ⟨own_stays (h3 j hj).1 hb, (h3 j hj).2⟩⟩
theorem RowL.less {w : World} {base base' : Nat} {out : Value} {M : List (List ByteArray)} (h : RowL w base out M) (hb : base' ≤ base) : RowL w base' out M := by
  obtain ⟨vs, h1, h2, h3⟩ := h
  exact ⟨vs, h1, own_lessQ h2 hb, fun j hj => ⟨own_lessQ (h3 j hj).1 hb, (h3 j hj).2⟩⟩
/-- One more list is appended; it has come behind the row. -/
theorem RowL.app {w w1 w2 : World} {base : Nat} {out v' u : Value} {M : List (List ByteArray)} {x : List ByteArray} {t : TypeId} {vs : List Value} (hvs : vs.length = M.length) (ho0 : w.ownsRow base 23 1 out M.length vs)
    (h3 : ∀ j, j < M.length → w.ownsRow base 9 1 (vs.getD j undef) (M.getD j []).length (svals (M.getD j [])) ∧ ∀ g, (vs.getD j undef).ownBlock = some g → out.ownBlock ≠ some g)
    (hb : Below w.heap.size w w1) (hu : w1.ownsRow w.heap.size 9 1 u x.length (svals x)) (hbase : base ≤ w.heap.size)
    (ho : w2.ownsRow base 23 1 v' (M.length + 1) (vs ++ [u])) (hg : (w1.alloc (.cells #[u] t)).grownBy w2 out.ownBlock) (hat : v'.ownBlock = out.ownBlock ∨ v'.ownBlock = some (w1.alloc (.cells #[u] t)).heap.size) : RowL w2 base v' (M ++ [x]) := by
  have hsz := hb.size
  have hlast : ∀ g, out.ownBlock = some g → g < w.heap.size := fun g hg' => (ho0.lt g hg').2
  have hkeep : ∀ (y : Value) (l : List Value) (b : Nat), w1.ownsRow b 9 1 y l.length l → (∀ g, y.ownBlock = some g → out.ownBlock ≠ some g) → w2.ownsRow b 9 1 y l.length l := fun y l b hy hn =>
    own_kept (hy.alloc _) (fun g hgy => hg.block g (by have := (hy.lt g hgy).2; simp; omega) (fun e => hn g hgy e.symm))
  refine ⟨vs ++ [u], by simp [hvs], by rw [List.length_append]; exact ho, fun j hj => ?_⟩
  rw [List.length_append] at hj
  rcases Nat.lt_or_ge j M.length with hlt | hge
  · have e1 : (vs ++ [u]).getD j undef = vs.getD j undef := by rw [List.getD_eq_getElem?_getD, List.getElem?_append_left (by omega), ← List.getD_eq_getElem?_getD]
    have e2 : (M ++ [x]).getD j [] = M.getD j [] := by rw [List.getD_eq_getElem?_getD, List.getElem?_append_left hlt, ← List.getD_eq_getElem?_getD]
    rw [e1, e2]
    obtain ⟨k1, k2⟩ := h3 j hlt
    have k1' := own_stays k1 hb
    refine ⟨by have := hkeep _ (svals (M.getD j [])) base (by rw [svals_len]; exact k1') k2; rwa [svals_len] at this, fun g hgy => ?_⟩
    rcases hat with e | e
    · rw [e]; exact k2 g hgy
    · rw [e]; intro h; injection h with h; have := (k1'.lt g hgy).2; rw [World.size_alloc] at h; omega
  · obtain rfl : j = M.length := by simp at hj; omega
    have e1 : (vs ++ [u]).getD M.length undef = u := by rw [List.getD_eq_getElem?_getD, List.getElem?_append_right (by omega), hvs, Nat.sub_self]; rfl
    have e2 : (M ++ [x]).getD M.length [] = x := by rw [List.getD_eq_getElem?_getD, List.getElem?_append_right (by omega), Nat.sub_self]; rfl
    rw [e1, e2]
    have hn : ∀ g, u.ownBlock = some g → out.ownBlock ≠ some g := fun g hgu e => by have := hlast g e; have := (hu.lt g hgu).1; omega
    refine ⟨by have := hkeep _ (svals x) w.heap.size (by rw [svals_len]; exact hu) hn; rw [svals_len] at this; exact own_lessQ this hbase, fun g hgu => ?_⟩
    rcases hat with e | e
    · rw [e]; exact hn g hgu
    · rw [e]; intro h; injection h with h; have := (hu.lt g hgu).2; rw [World.size_alloc] at h; omega
/-- Such a row reads as lists of texts. -/
theorem RowL.rows {w : World} {base : Nat} {out : Value} {M : List (List ByteArray)} (h : RowL w base out M) (hs : ∀ p ∈ M, ∀ s ∈ p, s.size ≤ maxLen) : rdSlice 1 rdStrs w w.heap.size [out] M := by
  obtain ⟨vs, h1, h2, h3⟩ := h
  obtain ⟨A, c, rfl, g1, g2, g3⟩ := own_cells h2
  refine ⟨A, c, rfl, g1, g2, fun h0 => ?_⟩
  obtain ⟨g, rfl, -, hg, -⟩ := g3 h0
  refine ⟨g, 0, rfl, hg, fun i x hx => ?_⟩
  have hil := (List.getElem?_eq_some_iff.1 hx).1
  have hgd : M.getD i [] = x := by rw [List.getD_eq_getElem?_getD, hx]; rfl
  have hc2 := h2.cellAt (g := g) i (by omega)
  refine ⟨[vs.getD i undef], rfl, fun j u hu => ?_, ?_⟩
  · cases j with
    | succ j => simp at hu
    | zero =>
      simp at hu; subst hu
      rw [Nat.mul_one, Nat.add_zero, Nat.zero_add, hc2, List.getElem?_eq_getElem (show i < vs.length by omega)]; rfl
  · have := (h3 i hil).1
    rw [hgd] at this
    exact rdStrs_of_own rfl this (hs x (List.mem_of_getElem? hx))
def keyAt (q : QueryX) (ps : List (List ByteArray)) (i : Nat) : List ByteArray := if i < ps.length then upS (ps.getD i []) (q.1.getD i 0) else []
def keyN (q : QueryX) (ps : List (List ByteArray)) (k : Nat) : List (List ByteArray) := (List.range k).map (keyAt q ps)
theorem keyN_succ (q : QueryX) (ps : List (List ByteArray)) (k : Nat) : keyN q ps (k + 1) = keyN q ps k ++ [keyAt q ps k] := by unfold keyN; rw [List.range_succ, List.map_append]; rfl
theorem keyN_len (q : QueryX) (ps : List (List ByteArray)) (k : Nat) : (keyN q ps k).length = k := by simp [keyN]
theorem keyN_all (q : QueryX) (ps : List (List ByteArray)) : keyN q ps q.1.length = keyQ q ps := rfl
def KyRel (q : QueryX) (ps : List (List ByteArray)) (W0 : World) (out i : Value) (wr : World) : Prop := ∃ k : Nat, k ≤ q.1.length ∧ i = .int .i64 k ∧ RowL wr W0.heap.size out (keyN q ps k) ∧ Below W0.heap.size W0 wr
def KeyPost (l : List (List ByteArray)) (w : World) (e : Ending) (w' : World) : Prop := ∃ r, e = .returned r ∧ RowL w' w.heap.size r l ∧ Below w.heap.size w w'
set_option maxRecDepth 100000 in
set_option maxHeartbeats 1600000 in
theorem key_any (v x : Value) (q : QueryX) (ps : List (List ByteArray)) (w : World) (hv : QueryV w w.heap.size v q) (hx : rdSlice 1 rdStrs w w.heap.size [x] ps) (hq : q.1.length ≤ 1000) (hp : ∀ p ∈ ps, p.length ≤ 1000) :
    Calls Try.prog 18 #[v, x] w (KeyPost (keyQ q ps) w) := by
  obtain ⟨i0, hi, hz0, hz1, hz2⟩ := info_parts info_strsQ
  obtain ⟨A1, c1, A2, c2, rfl, h1, h2⟩ := hv
  obtain ⟨hc1, hm1⟩ := h1.cap
  obtain ⟨P, cp, e, hcp, hmp⟩ := hx.open_
  simp only [List.cons.injEq, and_true] at e
  subst e
  obtain ⟨W0, hW0⟩ : ∃ W, W = w.alloc (.cells #[.slice A1 q.1.length c1, .slice A2 q.2.length c2] 30) := ⟨_, rfl⟩
  have g0 : Below w.heap.size w W0 := by rw [hW0]; exact bl1 _ _
  have z0 : W0.heap.size = w.heap.size + 1 := by rw [hW0]; simp
  have HW0 := hid hW0
  have G0 := hid g0
  have H1 := hid (good_ints.on h1 g0)
  have HP := hid (good_paths.on hx g0)
  have HPL := hid hp
  clear hW0 g0 h1 h2 hx hp
  go_enter Try.func18, Try.ntmps18
  go_wp2
  rw [← HW0.out]
  go_loopw [5, 12] (fun out i wr => KyRel q ps W0 out i wr) (fun _ i _ => q.1.length - (intOf i).toNat)
  case atStart => exact ⟨0, by omega, rfl, RowL.nil_ _ _, Below.refl _ _⟩
  case round =>
    obtain ⟨k, hk, rfl, hrow, hb⟩ := hrel
    have hs := hb.size
    have HB := hid hb; have HRW := hid hrow
    clear hb hrow
    by_cases hlt : k < q.1.length
    · obtain ⟨b, off, rfl, hbl, hcell, hii⟩ := ints_at H1.out hlt
      have hcw := cellK HB.out hbl hcell
      have e1 := keyN_succ q ps k
      have hln := keyN_len q ps k
      have hka : keyAt q ps k = if k < ps.length then upS (ps.getD k []) (q.1.getD k 0) else [] := rfl
      generalize q.1.getD k 0 = lv at *
      generalize keyAt q ps k = ka at *
      have E1 := hid e1
      clear e1 hcell hii
      by_cases hkp : k < ps.length
      · obtain ⟨b2, o2, AP, cP, rfl, hb2, hc2, hpp⟩ := paths_at HP.out hkp
        have hc2' := cellK HB.out hb2 hc2
        have hgd : ps.getD k [] = ps[k] := by rw [List.getD_eq_getElem?_getD, List.getElem?_eq_getElem hkp]; rfl
        have hple := HPL.out _ (List.getElem_mem hkp)
        rw [if_pos hkp, hgd] at hka
        generalize ps[k] = p at *
        have HUP := hid (up_any _ lv p wr (good_strs.on hpp HB.out) (by omega))
        rw [← hka] at HUP
        have hkl : ka.length ≤ p.length := by rw [hka]; unfold upS; rw [List.length_take]; omega
        generalize hpl : p.length = pl at *
        clear hpp hc2 hgd hka
        go_wp2_with fail
        refine HUP.out.mono ?_
        rintro e w2 ⟨u, rfl, hu, hb2⟩
        have HU := hid hu; have HB2 := hid hb2
        have z2 := hb2.size
        clear hu hb2
        obtain ⟨vs, r1, r2, r3⟩ := HRW.out
        obtain ⟨Au, cu, rfl, -, -, -⟩ := own_cells HU.out
        go_wp2_with (at_builtin; refine stop_here ?_)
        refine go_on ?_
        refine app_own_at (.tmp 27) (.tmp 29) 41 41 rfl rfl W0.heap.size 23 i0 (.slice none 0 0) 1 24 Try.underlying41 hi hz0 hz1 hz2 rfl (by decide) _ (keyN q ps k).length vs rfl ((own_stays r2 HB2.out).alloc _) (.slice (some ⟨w2.heap.size, 0, none⟩) 1 1) 1 [_] rfl (Src.ofSlice _ Try.underlying41 _ 1 1 _ rfl (cell_one_at' _ _ _ rfl) (by simp; rfl)) (by rw [hln]; simp only [maxLen]; omega) (by rw [hln]; omega) (by rw [World.size_alloc]; omega) ?_
        intro v' w3 ho' hg' hb3 hat
        have hrow' := RowL.app r1 r2 r3 HB2.out HU.out hs ho' hg' hat
        rw [← E1.out] at hrow'
        have HR' := hid hrow'
        have HB3 := hid (((HB.out.trans (HB2.out.mono hs)).alloc (by omega) _).trans hb3)
        clear ho' hg' hb3 hat hrow' r1 r2 r3
        go_wp2
        go_roundw
        case rel => exact ⟨k + 1, by omega, by go_num, HR'.out, HB3.out⟩
        case measure => simp [intOf]; omega
      · rw [if_neg hkp] at hka
        subst hka
        obtain ⟨vs, r1, r2, r3⟩ := HRW.out
        have t1 : decide ((k : Int) < (ps.length : Int)) = false := by rw [decide_eq_false_iff_not]; omega
        go_wp2_with (at_builtin; refine stop_here ?_)
        refine go_on ?_
        refine app_own_at (.tmp 27) (.tmp 29) 41 41 rfl rfl W0.heap.size 23 i0 (.slice none 0 0) 1 24 Try.underlying41 hi hz0 hz1 hz2 rfl (by decide) _ (keyN q ps k).length vs rfl (r2.alloc _) (.slice (some ⟨wr.heap.size, 0, none⟩) 1 1) 1 [_] rfl (Src.ofSlice _ Try.underlying41 _ 1 1 _ rfl (cell_one_at' _ _ _ rfl) (by simp; rfl)) (by rw [hln]; simp only [maxLen]; omega) (by rw [hln]; omega) (by rw [World.size_alloc]; omega) ?_
        intro v' w3 ho' hg' hb3 hat
        have hrow' := RowL.app (x := []) r1 r2 r3 (Below.refl _ _) (World.ownsRow_nil _ _ _ _) hs ho' hg' hat
        rw [← E1.out] at hrow'
        have HR' := hid hrow'
        have HB3 := hid ((HB.out.alloc hs _).trans hb3)
        clear ho' hg' hb3 hat hrow' r1 r2 r3
        go_wp2
        go_roundw
        case rel => exact ⟨k + 1, by omega, by go_num, HR'.out, HB3.out⟩
        case measure => simp [intOf]; omega
    · obtain rfl : k = q.1.length := by omega
      have hfin := HRW.out
      rw [keyN_all] at hfin
      have HF := hid (hfin.less (show w.heap.size ≤ W0.heap.size by omega))
      clear hfin HRW
      go_wp2
      go_ret
      exact ⟨_, rfl, HF.out, G0.out.trans (HB.out.mono (by omega))⟩
end Go.Proofs.Ytafmdpnfigkbfab
