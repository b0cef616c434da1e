/- 3 texts of this claim, in build order. -/
import Derived.Test.YtkgifbnkkmeoiaaGreatDoorPjkhkmabk
import Derived.Test.YtkgifbnkkmeoiaaGreatDoorPcononjpe
import Derived.Test.YtkgifbnkkmeoiaaGreatDoorPanpecdlh
import Derived.Test.YtkgifbnkkmeoiaaGreatDoorPodkhkmbg
/- Rows of one's own, of lists of texts of one's own. -/
namespace Go.Proofs.YtkgifbnkkmeoiaaGreatDoor
open Go.ChangeShapes Go.WideShapes Go.ChangeAt Go.RowKit
set_option linter.unusedVariables false
set_option linter.unusedSimpArgs false

theorem info_strsQ : (Tryz.prog.info? 129).map (fun i => (i.zero, i.size, i.bytes)) = some (some (.slice none 0 0), 1, 24) := by kernel_rfl
theorem own_lessQ {w : World} {base base' n : Nat} {e : TypeId} {sz : Nat} {v : Value} {xs : List Value} (h : w.ownsRow base e sz v n xs) (hb : base' ≤ base) : w.ownsRow base' e sz v n xs := by
  obtain ⟨h1, h2⟩ := h
  refine ⟨h1, ?_⟩
  rcases h2 with h2 | ⟨g, cap, cur, rfl, hbg, r⟩
  · exact .inl h2
  · exact .inr ⟨g, cap, cur, rfl, by omega, r⟩
theorem own_stays {w w' : World} {base n : Nat} {e : TypeId} {sz : Nat} {v : Value} {xs : List Value} (h : w.ownsRow base e sz v n xs) (hb : Below w.heap.size w w') : w'.ownsRow base e sz v n xs :=
  own_kept h (fun g hg => hb.block g (h.lt g hg).2)
/-- A row of one's own, of lists of texts of one's own. -/
def RowL (w : World) (base : Nat) (out : Value) (M : List (List ByteArray)) : Prop :=
  ∃ vs : List Value, vs.length = M.length ∧ w.ownsRow base 129 1 out M.length vs ∧
    ∀ j, j < M.length → w.ownsRow base 9 1 (vs.getD j undef) (M.getD j []).length (svals (M.getD j [])) ∧ ∀ g, (vs.getD j undef).ownBlock = some g → out.ownBlock ≠ some g
theorem RowL.nil_ (w : World) (base : Nat) : RowL w base (.slice none 0 0) [] := ⟨[], rfl, World.ownsRow_nil _ _ _ _, fun j hj => by simp at hj⟩
theorem RowL.stays {w w' : World} {base : Nat} {out : Value} {M : List (List ByteArray)} (h : RowL w base out M) (hb : Below w.heap.size w w') : RowL w' base out M := by
  obtain ⟨vs, h1, h2, h3⟩ := h
  exact ⟨vs, h1, own_stays h2 hb, fun j hj => ⟨own_stays (h3 j hj).1 hb, (h3 j hj).2⟩⟩
theorem RowL.less {w : World} {base base' : Nat} {out : Value} {M : List (List ByteArray)} (h : RowL w base out M) (hb : base' ≤ base) : RowL w base' out M := by
  obtain ⟨vs, h1, h2, h3⟩ := h
  exact ⟨vs, h1, own_lessQ h2 hb, fun j hj => ⟨own_lessQ (h3 j hj).1 hb, (h3 j hj).2⟩⟩
/-- One more list is appended; it has come behind the row. -/
theorem RowL.app {w w1 w2 : World} {base : Nat} {out v' u : Value} {M : List (List ByteArray)} {x : List ByteArray} {t : TypeId} {vs : List Value} (hvs : vs.length = M.length) (ho0 : w.ownsRow base 129 1 out M.length vs)
    (h3 : ∀ j, j < M.length → w.ownsRow base 9 1 (vs.getD j undef) (M.getD j []).length (svals (M.getD j [])) ∧ ∀ g, (vs.getD j undef).ownBlock = some g → out.ownBlock ≠ some g)
    (hb : Below w.heap.size w w1) (hu : w1.ownsRow w.heap.size 9 1 u x.length (svals x)) (hbase : base ≤ w.heap.size)
    (ho : w2.ownsRow base 129 1 v' (M.length + 1) (vs ++ [u])) (hg : (w1.alloc (.cells #[u] t)).grownBy w2 out.ownBlock) (hat : v'.ownBlock = out.ownBlock ∨ v'.ownBlock = some (w1.alloc (.cells #[u] t)).heap.size) : RowL w2 base v' (M ++ [x]) := by
  have hsz := hb.size
  have hlast : ∀ g, out.ownBlock = some g → g < w.heap.size := fun g hg' => (ho0.lt g hg').2
  have hkeep : ∀ (y : Value) (l : List Value) (b : Nat), w1.ownsRow b 9 1 y l.length l → (∀ g, y.ownBlock = some g → out.ownBlock ≠ some g) → w2.ownsRow b 9 1 y l.length l := fun y l b hy hn =>
    own_kept (hy.alloc _) (fun g hgy => hg.block g (by have := (hy.lt g hgy).2; simp; omega) (fun e => hn g hgy e.symm))
  refine ⟨vs ++ [u], by simp [hvs], by rw [List.length_append]; exact ho, fun j hj => ?_⟩
  rw [List.length_append] at hj
  rcases Nat.lt_or_ge j M.length with hlt | hge
  · have e1 : (vs ++ [u]).getD j undef = vs.getD j undef := by rw [List.getD_eq_getElem?_getD, List.getElem?_append_left (by omega), ← List.getD_eq_getElem?_getD]
    have e2 : (M ++ [x]).getD j [] = M.getD j [] := by rw [List.getD_eq_getElem?_getD, List.getElem?_append_left hlt, ← List.getD_eq_getElem?_getD]
    rw [e1, e2]
    obtain ⟨k1, k2⟩ := h3 j hlt
    have k1' := own_stays k1 hb
    refine ⟨by have := hkeep _ (svals (M.getD j [])) base (by rw [svals_len]; exact k1') k2; rwa [svals_len] at this, fun g hgy => ?_⟩
    rcases hat with e | e
    · rw [e]; exact k2 g hgy
    · rw [e]; intro h; injection h with h; have := (k1'.lt g hgy).2; rw [World.size_alloc] at h; omega
  · obtain rfl : j = M.length := by simp at hj; omega
    have e1 : (vs ++ [u]).getD M.length undef = u := by rw [List.getD_eq_getElem?_getD, List.getElem?_append_right (by omega), hvs, Nat.sub_self]; rfl
    have e2 : (M ++ [x]).getD M.length [] = x := by rw [List.getD_eq_getElem?_getD, List.getElem?_append_right (by omega), Nat.sub_self]; rfl
    rw [e1, e2]
    have hn : ∀ g, u.ownBlock = some g → out.ownBlock ≠ some g := fun g hgu e => by have := hlast g e; have := (hu.lt g hgu).1; omega
    refine ⟨by have := hkeep _ (svals x) w.heap.size (by rw [svals_len]; exact hu) hn; rw [svals_len] at this; exact own_lessQ this hbase, fun g hgu => ?_⟩
    rcases hat with e | e
    · rw [e]; exact hn g hgu
    · rw [e]; intro h; injection h with h; have := (hu.lt g hgu).2; rw [World.size_alloc] at h; omega
/-- Such a row reads as lists of texts. -/
theorem RowL.rows {w : World} {base : Nat} {out : Value} {M : List (List ByteArray)} (h : RowL w base out M) (hs : ∀ p ∈ M, ∀ s ∈ p, s.size ≤ maxLen) : rdSlice 1 rdStrs w w.heap.size [out] M := by
  obtain ⟨vs, h1, h2, h3⟩ := h
  obtain ⟨A, c, rfl, g1, g2, g3⟩ := own_cells h2
  refine ⟨A, c, rfl, g1, g2, fun h0 => ?_⟩
  obtain ⟨g, rfl, -, hg, -⟩ := g3 h0
  refine ⟨g, 0, rfl, hg, fun i x hx => ?_⟩
  have hil := (List.getElem?_eq_some_iff.1 hx).1
  have hgd : M.getD i [] = x := by rw [List.getD_eq_getElem?_getD, hx]; rfl
  have hc2 := h2.cellAt (g := g) i (by omega)
  refine ⟨[vs.getD i undef], rfl, fun j u hu => ?_, ?_⟩
  · cases j with
    | succ j => simp at hu
    | zero =>
      simp at hu; subst hu
      rw [Nat.mul_one, Nat.add_zero, Nat.zero_add, hc2, List.getElem?_eq_getElem (show i < vs.length by omega)]; rfl
  · have := (h3 i hil).1
    rw [hgd] at this
    exact rdStrs_of_own rfl this (hs x (List.mem_of_getElem? hx))
theorem own_formB {w : World} {base n : Nat} {e : TypeId} {sz : Nat} {v : Value} {xs : List Value} (h : w.ownsRow base e sz v n xs) : ∃ A c, v = .slice A n c := by
  rcases h.2 with ⟨rfl, rfl⟩ | ⟨g, cap, cur, rfl, _⟩
  · exact ⟨none, 0, rfl⟩
  · exact ⟨_, _, rfl⟩
theorem cell2_new (w : World) (x y : Value) (t : TypeId) {N : Nat} (hN : w.heap.size = N) : ∀ j u, [x, y][j]? = some u → (w.alloc (.cells #[x, y] t)).cell? ((⟨N, 0, none⟩ : Addr).add j) = some u := by
  subst hN
  intro j u hu
  rw [show ((⟨w.heap.size, 0, none⟩ : Addr).add j) = ⟨w.heap.size, j, none⟩ by simp [Addr.add]; exact fun h => h.symm, World.cell?_alloc_at _ _ _ _ rfl]
  rcases j with _ | _ | j <;> simp at hu <;> subst hu <;> rfl
end Go.Proofs.YtkgifbnkkmeoiaaGreatDoor
/- The walk of the laws' few (facts). -/
namespace Go.Proofs.YtkgifbnkkmeoiaaGreatDoor
open Go.ChangeShapes Go.WideShapes Go.ChangeAt Go.RowKit
set_option linter.unusedVariables false
set_option linter.unusedSimpArgs false

theorem info_fact : (Tryz.prog.info? 127).map (fun i => (i.zero, i.size, i.bytes)) = some (some (.agg #[.slice none 0 0, .slice none 0 0]), 2, 48) := by kernel_rfl
theorem RowP.app_n {w w' : World} {base B n : Nat} {v' u : Value} {M : List (List ByteArray)} {vs : List Value} {x : List ByteArray} (hn : n = M.length) (h1 : vs.length = M.length) (h3 : ∀ j, j < M.length → rdStrs w B [vs.getD j undef] (M.getD j []))
    (hu : rdStrs w B [u] x) (hb : Below B w w') (ho : w'.ownsRow base 129 1 v' (n + 1) (vs ++ [u])) : RowP w' base B v' (M ++ [x]) := by
  subst hn
  exact RowP.app h1 h3 hu hb ho
end Go.Proofs.YtkgifbnkkmeoiaaGreatDoor
/- slices.IndexFunc and slices.ContainsFunc with any function value. Printed by wip/idx.py. -/
namespace Go.Proofs.YtkgifbnkkmeoiaaGreatDoor
open Go.ChangeShapes Go.WideShapes Go.ChangeAt Go.RowKit
set_option linter.unusedVariables false
set_option linter.unusedSimpArgs false

set_option maxRecDepth 100000 in
set_option maxHeartbeats 800000 in
theorem idxI_any (F : FuncId) (caps : Array Value) (p : Int → Bool) (v : Value) (l : List Int) (w : World) (hv : rdSlice 1 rdInt w w.heap.size [v] l) (hg : Good (rdSlice 1 rdInt)) (hE : Enters F) (hF : Tells rdInt F caps p l w) :
    Calls Tryz.prog 125 #[v, .func (Fn.func F) #[] caps] w (IdxG p l w) := by
  obtain ⟨A, c, e0, hc1, hc2, -⟩ := id hv
  obtain rfl : v = .slice A l.length c := by simpa using e0
  unfold maxLen at hc2
  have HV := hid hv; have HF := hid hF
  clear hv hF e0
  go_enter Tryz.func125, Tryz.ntmps125
  go_wp2
  go_loopw [8] (fun i wr => IdxRelG p l w i wr) (fun i _ => l.length - (intOf i).toNat)
  case atStart => exact ⟨0, by omega, rfl, by simp, Below.refl _ _⟩
  case round =>
    obtain ⟨k, hk, rfl, hall, hb⟩ := hrel
    have HALL := hid hall; have HB := hid hb
    have hs := hb.size
    clear hall hb
    by_cases hlt : k < l.length
    · obtain ⟨b, off, rfl, hbl, es, hel, hcell, hr⟩ := (hg.stays HV.out HB.out).at_ hlt
      obtain ⟨u, rfl⟩ := List.length_eq_one_iff.1 hel
      have hcell := hcell 0 u rfl
      rw [Nat.mul_one, Nat.add_zero] at hcell
      have hin : l[k] ∈ l := List.getElem_mem hlt
      have e1 := any_take_succ (p := p) hlt
      have e2 := any_of_at (p := p) hlt
      have hr := (good_int).more hr hs
      generalize l[k] = x at *
      have HC := hid (HF.out x u wr hin hr HB.out)
      have E1 := hid e1; have E2 := hid e2
      clear e1 e2 hr hel hin
      go_wp2_with fail
      rw [hE]
      refine HC.out.mono ?_
      rintro e w1 ⟨rfl, hb1⟩
      have HB1 := hid (HB.out.trans (hb1.mono hs)); clear hb1
      cases hp : p x with
      | false =>
        have HP := hid hp; clear hp
        go_wp2
        go_roundw
        case rel => exact ⟨k + 1, by omega, by go_num, by rw [E1.out, HALL.out, HP.out]; rfl, HB1.out⟩
        case measure => simp [intOf]; omega
      | true =>
        have HP := hid (E2.out hp); clear hp
        go_wp2
        go_ret
        exact ⟨(k : Int), rfl, by rw [HP.out]; simp, HB1.out⟩
    · have hall : l.any p = false := by
        have := HALL.out
        rwa [List.take_of_length_le (by omega)] at this
      have HP := hid hall; clear hall
      go_wp2
      go_ret
      exact ⟨-1, rfl, by rw [HP.out]; decide, HB.out⟩
theorem hasI_any (F : FuncId) (caps : Array Value) (p : Int → Bool) (v : Value) (l : List Int) (w : World) (hv : rdSlice 1 rdInt w w.heap.size [v] l) (hg : Good (rdSlice 1 rdInt)) (hE : Enters F) (hF : Tells rdInt F caps p l w) :
    Calls Tryz.prog 107 #[v, .func (Fn.func F) #[] caps] w (Gives (.bool (l.any p)) w) := by
  have HI := hid (idxI_any F caps p v l w hv hg hE hF)
  clear hv hF
  go_enter Tryz.func107, Tryz.ntmps107
  go_wp2_with fail
  refine HI.out.mono ?_
  rintro e w1 ⟨i, rfl, hi, hb⟩
  go_wp2
  go_ret
  exact ⟨rfl, hb⟩

set_option maxRecDepth 100000 in
set_option maxHeartbeats 800000 in
theorem idxS_any (F : FuncId) (caps : Array Value) (p : ByteArray → Bool) (v : Value) (l : List ByteArray) (w : World) (hv : rdSlice 1 rdStr w w.heap.size [v] l) (hg : Good (rdSlice 1 rdStr)) (hE : Enters F) (hF : Tells rdStr F caps p l w) :
    Calls Tryz.prog 133 #[v, .func (Fn.func F) #[] caps] w (IdxG p l w) := by
  obtain ⟨A, c, e0, hc1, hc2, -⟩ := id hv
  obtain rfl : v = .slice A l.length c := by simpa using e0
  unfold maxLen at hc2
  have HV := hid hv; have HF := hid hF
  clear hv hF e0
  go_enter Tryz.func133, Tryz.ntmps133
  go_wp2
  go_loopw [8] (fun i wr => IdxRelG p l w i wr) (fun i _ => l.length - (intOf i).toNat)
  case atStart => exact ⟨0, by omega, rfl, by simp, Below.refl _ _⟩
  case round =>
    obtain ⟨k, hk, rfl, hall, hb⟩ := hrel
    have HALL := hid hall; have HB := hid hb
    have hs := hb.size
    clear hall hb
    by_cases hlt : k < l.length
    · obtain ⟨b, off, rfl, hbl, es, hel, hcell, hr⟩ := (hg.stays HV.out HB.out).at_ hlt
      obtain ⟨u, rfl⟩ := List.length_eq_one_iff.1 hel
      have hcell := hcell 0 u rfl
      rw [Nat.mul_one, Nat.add_zero] at hcell
      have hin : l[k] ∈ l := List.getElem_mem hlt
      have e1 := any_take_succ (p := p) hlt
      have e2 := any_of_at (p := p) hlt
      have hr := (good_str).more hr hs
      generalize l[k] = x at *
      have HC := hid (HF.out x u wr hin hr HB.out)
      have E1 := hid e1; have E2 := hid e2
      clear e1 e2 hr hel hin
      go_wp2_with fail
      rw [hE]
      refine HC.out.mono ?_
      rintro e w1 ⟨rfl, hb1⟩
      have HB1 := hid (HB.out.trans (hb1.mono hs)); clear hb1
      cases hp : p x with
      | false =>
        have HP := hid hp; clear hp
        go_wp2
        go_roundw
        case rel => exact ⟨k + 1, by omega, by go_num, by rw [E1.out, HALL.out, HP.out]; rfl, HB1.out⟩
        case measure => simp [intOf]; omega
      | true =>
        have HP := hid (E2.out hp); clear hp
        go_wp2
        go_ret
        exact ⟨(k : Int), rfl, by rw [HP.out]; simp, HB1.out⟩
    · have hall : l.any p = false := by
        have := HALL.out
        rwa [List.take_of_length_le (by omega)] at this
      have HP := hid hall; clear hall
      go_wp2
      go_ret
      exact ⟨-1, rfl, by rw [HP.out]; decide, HB.out⟩
theorem hasS_any (F : FuncId) (caps : Array Value) (p : ByteArray → Bool) (v : Value) (l : List ByteArray) (w : World) (hv : rdSlice 1 rdStr w w.heap.size [v] l) (hg : Good (rdSlice 1 rdStr)) (hE : Enters F) (hF : Tells rdStr F caps p l w) :
    Calls Tryz.prog 122 #[v, .func (Fn.func F) #[] caps] w (Gives (.bool (l.any p)) w) := by
  have HI := hid (idxS_any F caps p v l w hv hg hE hF)
  clear hv hF
  go_enter Tryz.func122, Tryz.ntmps122
  go_wp2_with fail
  refine HI.out.mono ?_
  rintro e w1 ⟨i, rfl, hi, hb⟩
  go_wp2
  go_ret
  exact ⟨rfl, hb⟩

set_option maxRecDepth 100000 in
set_option maxHeartbeats 800000 in
theorem idxP_any (F : FuncId) (caps : Array Value) (p : (List ByteArray) → Bool) (v : Value) (l : List (List ByteArray)) (w : World) (hv : rdSlice 1 (rdSlice 1 rdStr) w w.heap.size [v] l) (hg : Good (rdSlice 1 (rdSlice 1 rdStr))) (hE : Enters F) (hF : Tells (rdSlice 1 rdStr) F caps p l w) :
    Calls Tryz.prog 121 #[v, .func (Fn.func F) #[] caps] w (IdxG p l w) := by
  obtain ⟨A, c, e0, hc1, hc2, -⟩ := id hv
  obtain rfl : v = .slice A l.length c := by simpa using e0
  unfold maxLen at hc2
  have HV := hid hv; have HF := hid hF
  clear hv hF e0
  go_enter Tryz.func121, Tryz.ntmps121
  go_wp2
  go_loopw [8] (fun i wr => IdxRelG p l w i wr) (fun i _ => l.length - (intOf i).toNat)
  case atStart => exact ⟨0, by omega, rfl, by simp, Below.refl _ _⟩
  case round =>
    obtain ⟨k, hk, rfl, hall, hb⟩ := hrel
    have HALL := hid hall; have HB := hid hb
    have hs := hb.size
    clear hall hb
    by_cases hlt : k < l.length
    · obtain ⟨b, off, rfl, hbl, es, hel, hcell, hr⟩ := (hg.stays HV.out HB.out).at_ hlt
      obtain ⟨u, rfl⟩ := List.length_eq_one_iff.1 hel
      have hcell := hcell 0 u rfl
      rw [Nat.mul_one, Nat.add_zero] at hcell
      have hin : l[k] ∈ l := List.getElem_mem hlt
      have e1 := any_take_succ (p := p) hlt
      have e2 := any_of_at (p := p) hlt
      have hr := (good_slice good_str).more hr hs
      generalize l[k] = x at *
      have HC := hid (HF.out x u wr hin hr HB.out)
      have E1 := hid e1; have E2 := hid e2
      clear e1 e2 hr hel hin
      go_wp2_with fail
      rw [hE]
      refine HC.out.mono ?_
      rintro e w1 ⟨rfl, hb1⟩
      have HB1 := hid (HB.out.trans (hb1.mono hs)); clear hb1
      cases hp : p x with
      | false =>
        have HP := hid hp; clear hp
        go_wp2
        go_roundw
        case rel => exact ⟨k + 1, by omega, by go_num, by rw [E1.out, HALL.out, HP.out]; rfl, HB1.out⟩
        case measure => simp [intOf]; omega
      | true =>
        have HP := hid (E2.out hp); clear hp
        go_wp2
        go_ret
        exact ⟨(k : Int), rfl, by rw [HP.out]; simp, HB1.out⟩
    · have hall : l.any p = false := by
        have := HALL.out
        rwa [List.take_of_length_le (by omega)] at this
      have HP := hid hall; clear hall
      go_wp2
      go_ret
      exact ⟨-1, rfl, by rw [HP.out]; decide, HB.out⟩
theorem hasP_any (F : FuncId) (caps : Array Value) (p : (List ByteArray) → Bool) (v : Value) (l : List (List ByteArray)) (w : World) (hv : rdSlice 1 (rdSlice 1 rdStr) w w.heap.size [v] l) (hg : Good (rdSlice 1 (rdSlice 1 rdStr))) (hE : Enters F) (hF : Tells (rdSlice 1 rdStr) F caps p l w) :
    Calls Tryz.prog 104 #[v, .func (Fn.func F) #[] caps] w (Gives (.bool (l.any p)) w) := by
  have HI := hid (idxP_any F caps p v l w hv hg hE hF)
  clear hv hF
  go_enter Tryz.func104, Tryz.ntmps104
  go_wp2_with fail
  refine HI.out.mono ?_
  rintro e w1 ⟨i, rfl, hi, hb⟩
  go_wp2
  go_ret
  exact ⟨rfl, hb⟩

end Go.Proofs.YtkgifbnkkmeoiaaGreatDoor
