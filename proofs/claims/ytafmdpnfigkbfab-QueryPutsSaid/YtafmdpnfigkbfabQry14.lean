/- The walk of QueryPasses. -/
import Derived.Test.YtafmdpnfigkbfabQry7
import Derived.Test.YtafmdpnfigkbfabQry10
import Derived.Test.YtafmdpnfigkbfabQry12
import Derived.Test.YtafmdpnfigkbfabQry13
namespace Go.Proofs.Ytafmdpnfigkbfab
open Go.ChangeShapes Go.WideShapes Go.ChangeAt Go.RowKit Go.Deep
set_option linter.unusedVariables false
set_option linter.unusedSimpArgs false

theorem opens_strsQ : Opens Try.prog 23 1 rdStrs := opens_slice (e := 9) good_str Try.underlying23 (opens_str Try.underlying9 (by kernel_rfl)) (by kernel_rfl) (by omega)
theorem opens_intsQ : Opens Try.prog 27 1 rdInts := opens_slice (e := 3) good_int Try.underlying27 (opens_int Try.underlying3 (by kernel_rfl)) (by kernel_rfl) (by omega)
theorem opens_pathsQ : Opens Try.prog 41 1 (rdSlice 1 rdStrs) := opens_slice (e := 23) good_strs Try.underlying41 opens_strsQ (by kernel_rfl) (by omega)
theorem opens_rowsQ : Opens Try.prog 24 1 (rdSlice 1 rdInts) := opens_slice (e := 27) good_ints Try.underlying24 opens_intsQ (by kernel_rfl) (by omega)
theorem opens_dim : Opens Try.prog 58 2 rdDim := by
  refine opens_struct (k := 2) Try.underlying58 (by kernel_rfl) ?_
  exact opensF_cons (k2 := 1) (by rfl) (opens_str Try.underlying9 (by kernel_rfl)) (opensF_one (by rfl) opens_strsQ)
theorem opens_dims : Opens Try.prog 22 1 (rdSlice 2 rdDim) := opens_slice (e := 58) good_dim Try.underlying22 opens_dim (by kernel_rfl) (by omega)
theorem opens_filter : Opens Try.prog 54 3 rdFilter := by
  refine opens_struct (k := 3) Try.underlying54 (by kernel_rfl) ?_
  exact opensF_cons (k2 := 2) (by rfl) (opens_int Try.underlying3 (by kernel_rfl)) (opensF_cons (k2 := 1) (by rfl) (opens_int Try.underlying3 (by kernel_rfl)) (opensF_one (by rfl) opens_pathsQ))
theorem opens_filters : Opens Try.prog 28 1 (rdSlice 3 rdFilter) := opens_slice (e := 54) good_filter Try.underlying28 opens_filter (by kernel_rfl) (by omega)
theorem opens_query : Opens Try.prog 30 2 rdQuery := by
  refine opens_struct (k := 2) Try.underlying30 (by kernel_rfl) ?_
  exact opensF_cons (k2 := 1) (by rfl) opens_intsQ (opensF_one (by rfl) opens_filters)
theorem opens_schema : Opens Try.prog 26 3 rdSchema := by
  refine opens_struct (k := 3) Try.underlying26 (by kernel_rfl) ?_
  exact opensF_cons (k2 := 2) (by rfl) opens_dims (opensF_cons (k2 := 1) (by rfl) opens_strsQ (opensF_one (by rfl) opens_rowsQ))
theorem strs_sz {w : World} {B : Nat} {cs : List Value} {p : List ByteArray} (h : rdStrs w B cs p) : ∀ s ∈ p, s.size ≤ maxLen := by
  intro s hs
  obtain ⟨i, hi, rfl⟩ := List.mem_iff_getElem.1 hs
  obtain ⟨A, c, e, -, -⟩ := h.open_
  rw [e] at h
  exact (strs_at h hi).elim fun b h => h.elim fun off h => h.2.2.2
theorem paths_sz {w : World} {B : Nat} {cs : List Value} {l : List (List ByteArray)} (h : rdSlice 1 rdStrs w B cs l) : ∀ p ∈ l, ∀ s ∈ p, s.size ≤ maxLen := by
  intro p hp
  obtain ⟨i, hi, rfl⟩ := List.mem_iff_getElem.1 hp
  obtain ⟨A, c, e, -, -⟩ := h.open_
  rw [e] at h
  obtain ⟨b, off, AM, cM, -, -, -, h3⟩ := paths_at h hi
  exact strs_sz h3
theorem key_sz {q : QueryX} {ps : List (List ByteArray)} (h : ∀ p ∈ ps, ∀ s ∈ p, s.size ≤ maxLen) : ∀ p ∈ keyQ q ps, ∀ s ∈ p, s.size ≤ maxLen := by
  intro p hp s hs
  unfold keyQ at hp
  obtain ⟨i, -, rfl⟩ := List.mem_map.1 hp
  split at hs
  · rename_i hi
    unfold upS at hs
    refine h (ps.getD i []) ?_ s (List.mem_of_mem_take hs)
    rw [List.getD_eq_getElem?_getD, List.getElem?_eq_getElem hi]; exact List.getElem_mem hi
  · cases hs
theorem few_v {w1 W1 : World} {base B : Nat} {q : QueryX} {A1 A2 : Option Addr} {c1 c2 : Nat} (hr : rdInts w1 B [.slice A1 q.1.length c1] q.1) (hf : FRow w1 base B (.slice A2 q.2.length c2) q.2) (hi : ∀ f ∈ q.2, InI64 f.1 ∧ InI64 f.2.1)
    (hb : Below B w1 W1) (k : ∀ g, base ≤ g → g < w1.heap.size → W1.heap[g]? = w1.heap[g]?) (hB : B ≤ W1.heap.size) : QueryV W1 W1.heap.size (.agg #[.slice A1 q.1.length c1, .slice A2 q.2.length c2]) q :=
  ⟨A1, c1, A2, c2, rfl, good_ints.more (good_ints.stays hr hb) hB, ((hf.kept hb k).rows hB (Nat.le_refl _) hi).1⟩
theorem few_len (q : QueryX) : (fewQ q).1.length ≤ 6 ∧ (fewQ q).2.length ≤ 5 := by
  unfold fewQ; simp only [List.length_take, List.length_map]; omega
set_option maxRecDepth 100000 in
set_option maxHeartbeats 3200000 in
theorem walk_QueryPasses (w : World) (cs0 : Array Value) (x0 : QueryX) (z0 : cs0.size = 2) (h0 : rdQuery w w.heap.size cs0.toList x0) (v : Value) (l : List (List ByteArray)) (hl : rdSlice 1 rdStrs w w.heap.size [v] l) :
    Calls Try.prog 4 #[.agg cs0, v] w (Gives (.bool true) w) := by
  have hv := query_of_rd h0
  have hv0 := hv
  obtain ⟨A1, c1, A2, c2, e, -, -⟩ := hv
  simp only [Value.agg.injEq] at e
  subst e
  have HF := hid (fun W (hb : Below w.heap.size w W) => few_any _ x0 W w.heap.size hb.size (hv0.below hb))
  have HC := hid (fun W (hb : Below w.heap.size w W) => cut_any v l W w.heap.size hb.size (good_paths.stays hl hb))
  have hl6 := few_len x0
  have hcl := @cutL_mem l
  have HCL := hid hcl
  clear h0 hv0 z0 hl hcl
  generalize fewQ x0 = q at *
  generalize cutL l = ps at *
  obtain ⟨hq1, hq2⟩ := hl6
  obtain ⟨W0, hW0⟩ : ∃ W, W = w.alloc (.cells #[.slice A1 x0.1.length c1, .slice A2 x0.2.length c2] 30) := ⟨_, rfl⟩
  have g0 : Below w.heap.size w W0 := by rw [hW0]; exact bl1 _ _
  have z0 : W0.heap.size = w.heap.size + 1 := by rw [hW0]; simp
  have y0 : W0.cell? ⟨w.heap.size, 0, none⟩ = some (.slice A1 x0.1.length c1) := by rw [hW0]; simp [go_sem]
  have y1 : W0.cell? ⟨w.heap.size, 1, none⟩ = some (.slice A2 x0.2.length c2) := by rw [hW0]; simp [go_sem]
  have f0 : W0.frozen? ⟨w.heap.size, 0, none⟩ = false := by rw [hW0]; simp [go_sem]
  have f1 : W0.frozen? ⟨w.heap.size, 1, none⟩ = false := by rw [hW0]; simp [go_sem]
  have HW0 := hid hW0; have G0 := hid g0
  clear hW0 g0
  go_enter Try.func4, Try.ntmps4
  go_wp2_with fail
  rw [← HW0.out]
  refine (HF.out _ G0.out).mono ?_
  rintro e w1 ⟨F1, d1, F2, d2, rfl, hr, hf, hi, hb1⟩
  have z1 := hb1.size
  have k0 := cellK hb1 (by omega) y0
  have k1 := cellK hb1 (by omega) y1
  have n0 := frozenK hb1 (by omega) f0
  have n1 := frozenK hb1 (by omega) f1
  obtain ⟨W1, hW1⟩ : ∃ W, W = (w1.setCell ⟨w.heap.size, 0, none⟩ (.slice F1 q.1.length d1)).setCell ⟨w.heap.size, 1, none⟩ (.slice F2 q.2.length d2) := ⟨_, rfl⟩
  have b1 : Below w.heap.size w1 W1 := by rw [hW1]; exact Below.setCell (Below.setCell (Below.refl _ w1) (show w.heap.size ≤ w.heap.size from Nat.le_refl _) _) (show w.heap.size ≤ w.heap.size from Nat.le_refl _) _
  have zW1 : W1.heap.size = w1.heap.size := by rw [hW1]; simp [World.setCell]
  have hqv : QueryV W1 W1.heap.size (.agg #[.slice F1 q.1.length d1, .slice F2 q.2.length d2]) q := few_v hr hf hi b1 (fun g h1 h2 => by rw [hW1]; exact (Below.heap_setCell _ _ _ g (by simp; omega)).trans (Below.heap_setCell _ _ _ g (by simp; omega))) (by omega)
  have m0 : W1.cell? ⟨w.heap.size, 0, none⟩ = some (.slice F1 q.1.length d1) := by rw [hW1]; exact cell_beside (by omega) (cell_here k0)
  have m1 : W1.cell? ⟨w.heap.size, 1, none⟩ = some (.slice F2 q.2.length d2) := by rw [hW1]; exact cell_here (cell_beside (by omega) k1)
  have GW1 := hid (G0.out.trans ((hb1.mono (by omega)).trans b1))
  have HQV := hid hqv; have HW1 := hid hW1; have M0 := hid m0; have M1 := hid m1
  clear hr hf hi hb1 b1 hqv hW1 m0 m1 y0 y1 f0 f1
  go_wp2_with fail
  rw [← HW1.out]
  refine (HC.out _ GW1.out).mono ?_
  rintro e w2 ⟨pv, rfl, hrow, hb2⟩
  have z2 := hb2.size
  have hpv := hrow.rows (N := w2.heap.size) (by have := GW1.out.size; omega) (Nat.le_refl _)
  have HPV := hid hpv; have HQ2 := hid (HQV.out.on hb2); have GW2 := hid (GW1.out.trans (hb2.mono GW1.out.size))
  have m0 := cellK hb2 (by omega) M0.out
  have m1 := cellK hb2 (by omega) M1.out
  have MM0 := hid m0; have MM1 := hid m1
  have HKS := hid (key_sz (q := q) (paths_sz hpv))
  clear hrow hb2 hpv k0 k1 n0 n1
  have hlb : w.heap.size < w2.heap.size := by omega
  have HK := hid (fun W (hb : Below w2.heap.size w2 W) => key_any _ pv q ps W (HQ2.out.on hb) (good_paths.on HPV.out hb) (by omega) (fun p hp => by have := HCL.out p hp; omega))
  have HRK := hid (fun W (hb : Below w2.heap.size w2 W) => refKey_any _ pv q ps W (HQ2.out.on hb) (good_paths.on HPV.out hb) (by omega) (fun p hp => by have := HCL.out p hp; omega))
  have hsm := fun v x W => samePaths_any v x (keyQ q ps) (keyQ q ps) W
  rw [decide_eq_true (show keyQ q ps = keyQ q ps from rfl)] at hsm
  have HSM := hid hsm
  have HP := hid (fun W (hb : Below w2.heap.size w2 W) => passes_any _ pv q ps W (HQ2.out.on hb) (good_paths.on HPV.out hb))
  have HRP := hid (fun W (hb : Below w2.heap.size w2 W) => refPasses_any _ pv q ps W (HQ2.out.on hb) (good_paths.on HPV.out hb))
  clear hsm
  generalize keyQ q ps = ky at *
  generalize passesB q ps = pb at *
  have tpb : (pb == pb) = true := by simp
  go_wp2
  go_region_held3 (fun w' => w'.cell? ⟨w.heap.size, 0, none⟩ = some (.slice F1 q.1.length d1) ∧ w'.cell? ⟨w.heap.size, 1, none⟩ = some (.slice F2 q.2.length d2)) (go_keep)
    (first
      | (go_at_call 18; refine (HK.out _ (Below.refl _ _).drew).mono ?_; rintro e w3 ⟨r3, rfl, hr3, hb3⟩; have B3 := hid ((Below.refl w2.heap.size w2).drew.trans hb3); have R3 := hid (hr3.rows HKS.out); have m2 := cellK B3.out hlb MM0.out; have m3 := cellK B3.out hlb MM1.out; clear hr3 hb3)
      | (go_at_call 19; refine (HRK.out _ B3.out).mono ?_; rintro e w4 ⟨r4, rfl, hr4, hb4⟩; have B4 := hid (B3.out.trans (hb4.mono B3.out.size)); have B34 := hid hb4; have R4 := hid (hr4.rows HKS.out); have m4 := cellK B4.out hlb MM0.out; have m5 := cellK B4.out hlb MM1.out; clear hr4 hb4)
      | (go_at_call 17; refine (HSM.out _ _ _ (good_paths.on R3.out B34.out) R4.out).mono ?_; rintro e w5 ⟨rfl, hq5⟩; have B5 := hid (B4.out.trans (hq5.below _)); have m6 := cellK B5.out hlb MM0.out; have m7 := cellK B5.out hlb MM1.out; clear hq5))
  go_wp2
  go_region_held3 (fun w' => w'.cell? ⟨w.heap.size, 0, none⟩ = some (.slice F1 q.1.length d1) ∧ w'.cell? ⟨w.heap.size, 1, none⟩ = some (.slice F2 q.2.length d2)) (go_keep)
    (first
      | (go_at_call 20; refine (HP.out _ B5.out.drew).mono ?_; rintro e w6 ⟨rfl, hb6⟩; have B6 := hid (B5.out.trans ((Below.refl w5.heap.size w5).drew.trans hb6 |>.mono B5.out.size)); have m8 := cellK B6.out hlb MM0.out; have m9 := cellK B6.out hlb MM1.out; clear hb6)
      | (go_at_call 21; refine (HRP.out _ B6.out).mono ?_; rintro e w7 ⟨rfl, hb7⟩; have B7 := hid (B6.out.trans (hb7.mono B6.out.size)); have m10 := cellK B7.out hlb MM0.out; have m11 := cellK B7.out hlb MM1.out; clear hb7)
      | (go_at_call 13; refine (lives_true _).mono ?_; rintro e w8 ⟨rfl, hb8⟩; have B8 := hid (B7.out.trans (hb8.mono B7.out.size)); have m12 := cellK B8.out hlb MM0.out; have m13 := cellK B8.out hlb MM1.out; clear hb8))
  go_wp2
  go_ret
  exact ⟨rfl, GW2.out.trans (B8.out.mono GW2.out.size)⟩
end Go.Proofs.Ytafmdpnfigkbfab
