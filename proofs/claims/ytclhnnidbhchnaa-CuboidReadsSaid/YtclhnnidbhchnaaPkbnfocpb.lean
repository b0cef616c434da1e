/- 2 texts of this claim, in build order. -/
import Derived.Test.YtclhnnidbhchnaaPeccdcknl
import Derived.Test.YtclhnnidbhchnaaPhefibfjc
import Derived.Test.YtclhnnidbhchnaaPmcbaoioa
import Derived.Test.YtclhnnidbhchnaaPngbjgpmb
import Derived.Laws.IdiomCopy
/- The program's up. -/
namespace Go.Proofs.Ytclhnnidbhchnaa
open Go.ChangeShapes Go.WideShapes Go.ChangeAt Go.RowKit Go.Maps
set_option linter.unusedVariables false
set_option linter.unusedSimpArgs false

def UpP (ups : List (List Int)) (k : List Int) (w : World) (e : Ending) (w' : World) : Prop :=
  (upAll ups k = true ∧ ∃ v, e = .returned (.tuple #[v, .bool true]) ∧ w'.ownsRow w.heap.size 3 1 v (upL ups k).length (ivals (upL ups k)) ∧ Below w.heap.size w w') ∨
  (upAll ups k = false ∧ e = .returned (.tuple #[.slice none 0 0, .bool false]) ∧ Below w.heap.size w w')
def UpRel (ups : List (List Int)) (k : List Int) (w W0 : World) (out i : Value) (wr : World) : Prop :=
  ∃ j : Nat, j ≤ ups.length ∧ i = .int .i64 j ∧ (∀ t, t < j → upOk ups k t = true) ∧ wr.ownsRow W0.heap.size 3 1 out j (ivals ((List.range j).map (upV ups k))) ∧ Below W0.heap.size W0 wr
theorem range_map_succ {α : Type} (f : Nat → α) (j : Nat) : (List.range (j + 1)).map f = (List.range j).map f ++ [f j] := by rw [List.range_succ, List.map_append]; rfl
set_option maxRecDepth 100000 in
set_option maxHeartbeats 3200000 in
theorem up_any (p : Nat) (v : Value) (ups : List (List Int)) (k : List Int) (w : World) (hu : RowsI w w.heap.size v ups) (h3 : ups.length ≤ 3) (hk : ∀ i, 0 ≤ k.getD i 0 ∧ k.getD i 0 ≤ 40) :
    Calls Try.prog 54 #[.pointer (some ⟨p, 0, none⟩), keyT k, v] w (UpP ups k w) := by
  obtain ⟨i0, hi, hz0, hz1, hz2⟩ := info_parts info_int
  obtain ⟨A, c, rfl, hcl, hcm, hrow⟩ := hu
  unfold maxLen at hcm
  have HROW := hid hrow; have HK := hid hk
  clear hrow hk
  unfold keyT keyV
  generalize hx0 : k.getD 0 0 = x0 at *
  generalize hx1 : k.getD 1 0 = x1 at *
  generalize hx2 : k.getD 2 0 = x2 at *
  obtain ⟨W0, hW0⟩ : ∃ W', W' = w.alloc (.cells #[.int .i64 x0, .int .i64 x1, .int .i64 x2] 99) := ⟨_, rfl⟩
  have hz0' : W0.heap.size = w.heap.size + 1 := by rw [hW0]; simp
  have hb0 : Below w.heap.size w W0 := by rw [hW0]; exact bl1 _ _
  have hcx : ∀ i, i < 3 → W0.cell? ⟨w.heap.size, i, none⟩ = some (.int .i64 (k.getD i 0)) := fun i hi3 => by
    rw [hW0]
    obtain rfl | rfl | rfl : i = 0 ∨ i = 1 ∨ i = 2 := by omega
    · rw [hx0]; simp [go_sem]
    · rw [hx1]; simp [go_sem]
    · rw [hx2]; simp [go_sem]
  have HCX := hid hcx; have HW0 := hid hW0; have HB0 := hid hb0
  clear hcx hW0 hb0 hx0 hx1 hx2
  go_enter Try.func54, Try.ntmps54
  go_wp2
  rw [← HW0.out]
  go_loopw [8, 13] (fun out i wr => UpRel ups k w W0 out i wr) (fun _ i _ => ups.length - (intOf i).toNat)
  case atStart => exact ⟨0, by omega, rfl, fun t h => by omega, World.ownsRow_nil _ _ _ _, Below.refl _ _⟩
  case round =>
    obtain ⟨j, hj, rfl, hall, hown, hb⟩ := hrel
    have hsb := hb.size
    have HALL := hid hall; have HOW := hid hown; have HB := hid hb
    clear hall hown
    by_cases hlt : j < ups.length
    · obtain ⟨b, off, u, rfl, hbl, hcu, hsu⟩ := HROW.out j hlt
      have hcw := cellK (HB0.out.trans (hb.mono (by omega))) hbl hcu
      have hck := cellK hb (by omega) (HCX.out j (by omega))
      obtain ⟨Al, cl, rfl, hcl2, hcm2⟩ := hsu.formI
      unfold maxLen at hcm2
      have hj3 : j < 3 := by omega
      obtain ⟨k0, k40⟩ := HK.out j
      have hok : upOk ups k j = (decide (k.getD j 0 < ((ups.getD j []).length : Int)) && codeB (upV ups k j)) := rfl
      have huv : upV ups k j = (ups.getD j []).getD (k.getD j 0).toNat 0 := rfl
      have hrs := range_map_succ (upV ups k) j
      have HSU := hid (hsu.below (HB0.out.trans (hb.mono (by omega))))
      generalize ups.getD j [] = l at *
      generalize k.getD j 0 = kj at *
      generalize upV ups k j = uv at *
      have HOK := hid hok; have HUV := hid huv; have HRS := hid hrs
      clear hok huv hrs hb hcu hsu
      by_cases hge : (l.length : Int) ≤ kj
      · have HN := hid (upAll_no hlt (show upOk ups k j = false by rw [HOK.out, decide_eq_false (by omega)]; rfl))
        go_wp2
        go_ret2
        exact .inr ⟨HN.out, rfl, HB0.out.trans (HB.out.mono (by omega))⟩
      · obtain ⟨kn, rfl⟩ : ∃ n : Nat, kj = (n : Int) := ⟨kj.toNat, by omega⟩
        rw [Int.toNat_natCast] at HUV
        have hkn : kn < l.length := by omega
        obtain ⟨b2, o2, rfl, hb2, hx2⟩ := HSU.out.int hkn
        rw [← HUV.out] at hx2
        have HCD := hid (fun W => code_any uv W)
        cases hcb : codeB uv
        · rw [hcb] at HCD
          have HN := hid (upAll_no hlt (show upOk ups k j = false by rw [HOK.out, hcb, Bool.and_false]))
          clear hcb
          go_wp2_with fail
          refine (HCD.out _).mono ?_
          rintro e w2 ⟨rfl, hq⟩
          have HQ := hid (hq.below w.heap.size)
          clear hq
          go_wp2
          go_ret2
          exact .inr ⟨HN.out, rfl, (HB0.out.trans (HB.out.mono (by omega))).trans HQ.out⟩
        · rw [hcb] at HCD
          have HY := hid (show upOk ups k j = true by rw [HOK.out, hcb, decide_eq_true (by omega)]; rfl)
          clear hcb
          go_wp2_with fail
          refine (HCD.out _).mono ?_
          rintro e w2 ⟨rfl, hq⟩
          have hcw : w2.cell? _ = _ := (hq.cell _).trans hcw
          have hck : w2.cell? _ = _ := (hq.cell _).trans hck
          have hx2 : w2.cell? _ = _ := (hq.cell _).trans hx2
          have HOQ := hid (own_kept HOW.out (fun g hg => (hq.below wr.heap.size).block g (HOW.out.lt g hg).2))
          have HBQ := hid (HB.out.trans ((hq.below wr.heap.size).mono hsb))
          have hsq := HBQ.out.size
          clear hq
          go_wp2_with (at_builtin; refine stop_here ?_)
          refine go_on ?_
          refine app_own_at (.tmp 34) (.tmp 41) 23 23 rfl rfl W0.heap.size 3 i0 (.int .i64 0) 1 8 Try.underlying23 hi hz0 hz1 hz2 rfl (by decide) _ _ _ rfl (HOQ.out.alloc _) (.slice (some ⟨w2.heap.size, 0, none⟩) 1 1) 1 [.int .i64 uv] rfl (Src.ofSlice _ Try.underlying23 _ 1 1 _ rfl (cells_new_at _ _ _ rfl) (by simp; rfl)) (by simp only [maxLen]; omega) (by omega) (by rw [World.size_alloc]; omega) ?_
          intro v3 w3 hown3 hg3 hb3 hat3
          rw [show ivals ((List.range j).map (upV ups k)) ++ [.int .i64 uv] = ivals ((List.range (j + 1)).map (upV ups k)) by rw [HRS.out]; simp [ivals]] at hown3
          have HO3 := hid hown3
          have HB3 := hid ((HBQ.out.alloc hsq _).trans hb3)
          clear hown3 hg3 hb3 hat3
          go_wp2
          go_roundw
          case rel =>
            refine ⟨j + 1, by omega, by go_num, fun t ht => ?_, HO3.out, HB3.out⟩
            rcases Nat.lt_or_ge t j with h | h
            · exact HALL.out t h
            · obtain rfl : t = j := by omega
              exact HY.out
          case measure => simp [intOf]; omega
    · obtain rfl : j = ups.length := by omega
      have HY := hid (upAll_yes HALL.out)
      go_wp2
      go_ret2
      exact .inl ⟨HY.out, _, rfl, by rw [upL_len]; exact own_base HOW.out (by omega), HB0.out.trans (HB.out.mono (by omega))⟩
end Go.Proofs.Ytclhnnidbhchnaa
/- The program's cuboid: the key of codes. -/
namespace Go.Proofs.Ytclhnnidbhchnaa
open Go.ChangeShapes Go.WideShapes Go.ChangeAt Go.RowKit Go.Maps
set_option linter.unusedVariables false
set_option linter.unusedSimpArgs false

def KeyP (v : Value) (b : Bool) (w : World) (e : Ending) (w' : World) : Prop := e = .returned (.tuple #[v, .bool b]) ∧ Below w.heap.size w w'
theorem upd_setCellsN (b : Nat) : ∀ (zs : List Value) (o : Nat) (w : World), Upd b w (w.setCells b o zs)
  | [], _, w => Upd.refl _ _
  | v :: zs, o, w => (Upd.setCell b o w v).trans (upd_setCellsN b zs (o + 1) _)
/-- Codes written over three noughts. -/
theorem three_copied {w : World} {N : Nat} {k : List Int} (hk : k.length ≤ 3) (h : ∀ i, i < 3 → w.cell? ⟨N, i, none⟩ = some (.int .i64 0)) : ∀ i, i < 3 → (w.setCells N 0 (ivals k)).cell? ⟨N, i, none⟩ = some (.int .i64 (k.getD i 0)) := by
  intro i hi
  rcases Nat.lt_or_ge i k.length with hlt | hge
  · have := World.cell?_setCells_in N (ivals k) 0 w (fun j hj => by rw [Nat.zero_add, h j (by rw [ivals_len] at hj; omega)]; rfl) i (by rw [ivals_len]; exact hlt)
    rw [Nat.zero_add] at this
    rw [this]
    simp [ivals, List.getD_eq_getElem?_getD, List.getElem?_eq_getElem hlt]
  · rw [World.cell?_setCells_out N (ivals k) 0 w ⟨N, i, none⟩ (fun _ _ => .inr (by rw [ivals_len]; simp only; omega)), h i hi, List.getD_eq_getElem?_getD, List.getElem?_eq_none hge]
    rfl
set_option maxRecDepth 100000 in
set_option maxHeartbeats 1600000 in
theorem keyC_yes (D : Nat → Prop) (p m W M : Nat) (L : List KC) (v : Value) (k : List Int) (w : World) (hc : CubW w D p m W M L) (hv : Sl w w.heap.size v (ivals k)) (h1 : 1 ≤ W) (h3 : W ≤ 3) (hk : okB W k = true) :
    Calls Try.prog 55 #[.pointer (some ⟨p, 0, none⟩), v] w (KeyP (keyT k) true w) := by
  obtain ⟨K, kc, rfl, hkc, hkm⟩ := hv.formI
  unfold maxLen at hkm
  have hkl : k.length = W := (of_decide_eq_true hk : okK W k).1
  obtain ⟨b, off, rfl, hb, hx0⟩ := hv.int (show 0 < k.length by omega)
  have hall : (!(k.all codeB)) = false := by
    rw [okB_codes] at hk
    simp at hk
    simpa using hk.2
  have hsrc : ∀ W', Below w.heap.size w W' → ∀ j u, (ivals k)[j]? = some u → W'.cell? ((⟨b, off, none⟩ : Addr).add j) = some u := fun W' h => by
    obtain ⟨A, c, e, _, _, hh⟩ := hv.below h
    injection e with e _ _
    subst e
    obtain ⟨b2, o2, e, _, hcells⟩ := hh (by rw [ivals_len]; omega)
    injection e with e; injection e with e1 e2 _; subst e1 e2
    exact cells_add hcells
  have hpl := hc.2.2.2.1 p hc.1
  have hpw := hc.2.2.2.2.1
  have HSRC := hid hsrc
  have HCI := hid (fun W' (h : Below w.heap.size w W') => containsKI_any (.slice (some ⟨b, off, none⟩) k.length kc) k W' w.heap.size (hv.below h))
  rw [hall] at HCI
  have t0 : ((k.length : Int) != (W : Int)) = false := by simp [hkl]
  have t1 : (k.length != W) = false := by simp [hkl]
  have HKL := hid hkl
  clear hc hv hk hall hsrc hx0 hkl
  go_enter Try.func55, Try.ntmps55
  obtain ⟨W0, hW0⟩ : ∃ W', W' = (w.alloc (.cells #[.int .i64 0, .int .i64 0, .int .i64 0] 99)).alloc (.cells #[.int .i64 0, .int .i64 0, .int .i64 0] 99) := ⟨_, rfl⟩
  have hb0 : Below w.heap.size w W0 := by rw [hW0]; exact (by repeat' first | with_reducible exact Below.refl _ _ | assumption | (with_reducible refine Below.alloc ?_ ?_ _) | (with_reducible refine Below.setCell ?_ ?_ _) | (with_reducible refine Below.drew ?_) | (with_reducible refine below_drewN ?_ _) | (with_reducible refine Below.trans ?_ (Below.mono ‹_› ?_)) | omega | (with_reducible refine le_alloc ?_) | (with_reducible refine le_setCell ?_) | (with_reducible refine le_drew ?_) | (with_reducible refine le_drewN ?_) | (with_reducible refine Nat.le_trans ?_ (Below.size ‹_›)) | (simp <;> omega))
  have hs0 : W0.heap.size = w.heap.size + 1 + 1 := by rw [hW0]; simp
  have hr : ∀ i, i < 3 → W0.cell? ⟨w.heap.size, i, none⟩ = some (.int .i64 0) ∧ W0.frozen? ⟨w.heap.size, i, none⟩ = false ∧ W0.cell? ⟨w.heap.size + 1, i, none⟩ = some (.int .i64 0) ∧ W0.frozen? ⟨w.heap.size + 1, i, none⟩ = false := by
    intro i hi
    rw [hW0]
    obtain rfl | rfl | rfl : i = 0 ∨ i = 1 ∨ i = 2 := by omega
    all_goals simp [go_sem]
  have HW0 := hid hW0; have HB0 := hid hb0; have HR := hid hr
  clear hW0 hb0 hr
  go_wp2_with fail
  rw [← HW0.out]
  refine (HCI.out _ HB0.out).mono ?_
  rintro e w1 ⟨rfl, n1, rfl⟩
  have hz1 : (W0.drewN n1).heap.size = w.heap.size + 1 + 1 := hs0
  have HB1 := hid (below_drewN HB0.out n1)
  have HR1 := hid (fun i (hi : i < 3) => show (W0.drewN n1).cell? ⟨w.heap.size, i, none⟩ = some (.int .i64 0) ∧ (W0.drewN n1).frozen? ⟨w.heap.size, i, none⟩ = false ∧ (W0.drewN n1).cell? ⟨w.heap.size + 1, i, none⟩ = some (.int .i64 0) ∧ (W0.drewN n1).frozen? ⟨w.heap.size + 1, i, none⟩ = false from HR.out i hi)
  generalize W0.drewN n1 = w1 at *
  have hcp := fun ty => run_copy_cells (P := Try.prog) w1 23 23 ty 3 (w.heap.size + 1) 0 3 3 ⟨b, off, none⟩ k.length kc (ivals k) Try.underlying23 (by kernel_rfl) (by rw [ivals_len]; exact (Nat.min_eq_left (by have := HKL.out; omega)).symm) (HSRC.out _ HB1.out) (fun j hj => by rw [Nat.zero_add, (HR1.out j (by rw [ivals_len] at hj; have := HKL.out; omega)).2.2.1]; rfl) (fun j hj => by rw [Nat.zero_add]; exact (HR1.out j (by rw [ivals_len] at hj; have := HKL.out; omega)).2.2.2) (ivals_one k)
  have h3c := three_copied (w := w1) (N := w.heap.size + 1) (k := k) (by have := HKL.out; omega) (fun i hi => (HR1.out i hi).2.2.1)
  have hfar : ∀ i, i < 3 → (w1.setCells (w.heap.size + 1) 0 (ivals k)).cell? ⟨w.heap.size, i, none⟩ = some (.int .i64 0) := fun i hi => by
    rw [World.cell?_setCells_out (w.heap.size + 1) (ivals k) 0 w1 ⟨w.heap.size, i, none⟩ (fun h _ => by simp only at h; omega)]
    exact (HR1.out i hi).1
  have hfz : ∀ i, i < 3 → (w1.setCells (w.heap.size + 1) 0 (ivals k)).frozen? ⟨w.heap.size, i, none⟩ = false := fun i hi => by
    rw [World.frozen?_setCells]; exact (HR1.out i hi).2.1
  have hbW : Below w.heap.size w (w1.setCells (w.heap.size + 1) 0 (ivals k)) := HB1.out.trans ((upd_setCellsN (w.heap.size + 1) (ivals k) 0 w1).below (by omega) (by omega))
  have hsW : w.heap.size < (w1.setCells (w.heap.size + 1) 0 (ivals k)).heap.size := by have := (upd_setCellsN (w.heap.size + 1) (ivals k) 0 w1).size; omega
  generalize w1.setCells (w.heap.size + 1) 0 (ivals k) = wc at *
  have c0 := h3c 0 (by omega); have c1 := h3c 1 (by omega); have c2 := h3c 2 (by omega)
  have r0 := hfar 0 (by omega); have r1 := hfar 1 (by omega); have r2 := hfar 2 (by omega)
  have f0 := hfz 0 (by omega); have f1 := hfz 1 (by omega); have f2 := hfz 2 (by omega)
  have HBW := hid hbW
  clear h3c hfar hfz hbW
  unfold goInt at hcp
  have HBL := hid (fun v0 v1 v2 => HBW.out.trans ((((Upd.setCell w.heap.size 0 wc v0).trans (Upd.setCell w.heap.size 1 _ v1)).trans (Upd.setCell w.heap.size 2 _ v2)).below (Nat.le_refl _) hsW))
  go_wp2
  exact bodyPost_ret (v := .tuple #[keyT k, .bool true]) (by simp [results, Try.results55, go_sem, keyT, keyV, r0, r1, r2]; done) rfl ⟨rfl, HBL.out _ _ _⟩
set_option maxRecDepth 100000 in
set_option maxHeartbeats 1600000 in
theorem keyC_no (D : Nat → Prop) (p m W M : Nat) (L : List KC) (v : Value) (k : List Int) (w : World) (hc : CubW w D p m W M L) (hv : Sl w w.heap.size v (ivals k)) (hk : okB W k = false) :
    Calls Try.prog 55 #[.pointer (some ⟨p, 0, none⟩), v] w (KeyP (keyT []) false w) := by
  obtain ⟨K, kc, rfl, hkc, hkm⟩ := hv.formI
  unfold maxLen at hkm
  have hpl := hc.2.2.2.1 p hc.1
  have hpw := hc.2.2.2.2.1
  have HCI := hid (fun W' (h : Below w.heap.size w W') => containsKI_any (.slice K k.length kc) k W' w.heap.size (hv.below h))
  have hway : k.length ≠ W ∨ (k.length = W ∧ (!(k.all codeB)) = true) := by
    rw [okB_codes] at hk
    by_cases h : k.length = W
    · rw [decide_eq_true h, Bool.true_and] at hk
      exact .inr ⟨h, by rw [hk]; rfl⟩
    · exact .inl h
  clear hc hv hk
  go_enter Try.func55, Try.ntmps55
  obtain ⟨W0, hW0⟩ : ∃ W', W' = (w.alloc (.cells #[.int .i64 0, .int .i64 0, .int .i64 0] 99)).alloc (.cells #[.int .i64 0, .int .i64 0, .int .i64 0] 99) := ⟨_, rfl⟩
  have hb0 : Below w.heap.size w W0 := by rw [hW0]; exact (by repeat' first | with_reducible exact Below.refl _ _ | assumption | (with_reducible refine Below.alloc ?_ ?_ _) | (with_reducible refine Below.setCell ?_ ?_ _) | (with_reducible refine Below.drew ?_) | (with_reducible refine below_drewN ?_ _) | (with_reducible refine Below.trans ?_ (Below.mono ‹_› ?_)) | omega | (with_reducible refine le_alloc ?_) | (with_reducible refine le_setCell ?_) | (with_reducible refine le_drew ?_) | (with_reducible refine le_drewN ?_) | (with_reducible refine Nat.le_trans ?_ (Below.size ‹_›)) | (simp <;> omega))
  have hs0 : W0.heap.size = w.heap.size + 1 + 1 := by rw [hW0]; simp
  have hr : ∀ i, i < 3 → W0.cell? ⟨w.heap.size, i, none⟩ = some (.int .i64 0) ∧ W0.frozen? ⟨w.heap.size, i, none⟩ = false ∧ W0.cell? ⟨w.heap.size + 1, i, none⟩ = some (.int .i64 0) ∧ W0.frozen? ⟨w.heap.size + 1, i, none⟩ = false := by
    intro i hi
    rw [hW0]
    obtain rfl | rfl | rfl : i = 0 ∨ i = 1 ∨ i = 2 := by omega
    all_goals simp [go_sem]
  have HW0 := hid hW0; have HB0 := hid hb0; have HR := hid hr
  clear hW0 hb0 hr
  rcases hway with hl | ⟨hl, hall⟩
  · have t0 : ((k.length : Int) != (W : Int)) = true := by rw [bne_iff_ne]; omega
    have t1 : (k.length != W) = true := by simpa using hl
    clear hl
    have HBL := hid (fun v0 v1 v2 => HB0.out.trans ((((Upd.setCell w.heap.size 0 W0 v0).trans (Upd.setCell w.heap.size 1 _ v1)).trans (Upd.setCell w.heap.size 2 _ v2)).below (Nat.le_refl _) (by omega)))
    rw [HW0.out] at HBL
    go_wp2
    exact bodyPost_ret (v := .tuple #[keyT [], .bool false]) (by simp [results, Try.results55, go_sem, keyT, keyV]; done) rfl ⟨rfl, (by repeat' first | with_reducible exact Below.refl _ _ | assumption | (with_reducible refine Below.alloc ?_ ?_ _) | (with_reducible refine Below.setCell ?_ ?_ _) | (with_reducible refine Below.drew ?_) | (with_reducible refine below_drewN ?_ _) | (with_reducible refine Below.trans ?_ (Below.mono ‹_› ?_)) | omega | (with_reducible refine le_alloc ?_) | (with_reducible refine le_setCell ?_) | (with_reducible refine le_drew ?_) | (with_reducible refine le_drewN ?_) | (with_reducible refine Nat.le_trans ?_ (Below.size ‹_›)) | (simp <;> omega))⟩
  · rw [hall] at HCI
    have t0 : ((k.length : Int) != (W : Int)) = false := by simp [hl]
    have t1 : (k.length != W) = false := by simp [hl]
    clear hl hall
    go_wp2_with fail
    rw [← HW0.out]
    refine (HCI.out _ HB0.out).mono ?_
    rintro e w1 ⟨rfl, n1, rfl⟩
    have HBL := hid (fun v0 v1 v2 => (below_drewN HB0.out n1).trans ((((Upd.setCell w.heap.size 0 (W0.drewN n1) v0).trans (Upd.setCell w.heap.size 1 _ v1)).trans (Upd.setCell w.heap.size 2 _ v2)).below (Nat.le_refl _) (show w.heap.size < W0.heap.size by omega)))
    obtain ⟨r0, f0, c0, -⟩ := HR.out 0 (by omega)
    obtain ⟨r1, f1, c1, -⟩ := HR.out 1 (by omega)
    obtain ⟨r2, f2, c2, -⟩ := HR.out 2 (by omega)
    go_wp2
    exact bodyPost_ret (v := .tuple #[keyT [], .bool false]) (by simp [results, Try.results55, go_sem, keyT, keyV, r0, r1, r2]; done) rfl ⟨rfl, HBL.out _ _ _⟩
end Go.Proofs.Ytclhnnidbhchnaa
