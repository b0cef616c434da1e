/- 2 texts of this claim, in build order. -/
import Derived.Test.YtgoapnkdcfcjgaaGreatPkmkdkamd
import Derived.Test.YtgoapnkdcfcjgaaGreatPcfnpendp
import Derived.Test.YtgoapnkdcfcjgaaGreatPalebmkhi
import Derived.Test.YtgoapnkdcfcjgaaGreatPnghpmiek
import Derived.Test.YtgoapnkdcfcjgaaGreatPnpppdpic
import Derived.Test.YtgoapnkdcfcjgaaGreatPcmjggjjf
namespace Go.Proofs.YtgoapnkdcfcjgaaGreat
open Go.ChangeShapes Go.WideShapes Go.ChangeAt Go.RowKit
set_option linter.unusedVariables false
set_option linter.unusedSimpArgs false
theorem setMax_in {l : List Int} {f : FilterX} (h1 : ∀ x ∈ l, InI64 x) (h2 : InI64 f.2.1) : ∀ x ∈ setMax l f, InI64 x := by
 intro x hx
 unfold setMax at hx
 obtain ⟨k, hk, rfl⟩ := List.mem_iff_getElem.1 hx
 rw [List.length_set] at hk
 rw [List.getElem_set]
 split
 ·next e =>
  subst e
  rw [List.getD_eq_getElem?_getD, List.getElem?_eq_getElem hk]
  have := h1 _ (List.getElem_mem hk)
  simp only [Option.getD_some]
  rcases Int.le_total l[f.1.toNat] f.2.1 with h | h
  ·rw [Int.max_eq_right h]; exact h2
  ·rw [Int.max_eq_left h]; exact this
 ·exact h1 _ (List.getElem_mem hk)
theorem need_in {w : World} {B : Nat} {x : Value} {q : QueryX} (h : QueryV w B x q) : ∀ n ∈ needQ q, InI64 n := by
 obtain ⟨A1, c1, A2, c2, rfl, h1, h2⟩ := h
 have a : ∀ n ∈ q.1, InI64 n := fun n hn => by
  obtain ⟨k, hk, rfl⟩ := List.mem_iff_getElem.1 hn
  obtain ⟨_, _, _, _, _, h⟩ := ints_at' h1 hk
  exact h
 have b : ∀ f ∈ q.2, InI64 f.2.1 := fun f hf => by
  obtain ⟨k, hk, rfl⟩ := List.mem_iff_getElem.1 hf
  obtain ⟨_, _, _, _, _, _, _, _, _, _, h, _⟩ := filters_at h2 hk
  exact h
 unfold needQ
 generalize q.1 = l at *
 generalize q.2 = fs at *
 clear h1 h2
 induction fs generalizing l with
 | nil => exact a
 | cons f fs ih => exact ih _ (setMax_in a (b f List.mem_cons_self)) (fun g hg => b g (List.mem_cons_of_mem _ hg))
def coverI (vs : List (List Int)) (need : List Int) (k : Nat) : List Int := ((List.range k).filter fun i => coversB (vs.getD i []) need).map (fun i : Nat => (i : Int))
theorem coverI_succ (vs : List (List Int)) (need : List Int) (k : Nat) : coverI vs need (k + 1) = if coversB (vs.getD k []) need = true then coverI vs need k ++ [(k : Int)] else coverI vs need k := by
 unfold coverI
 rw [List.range_succ, List.filter_append, List.map_append]
 by_cases h : coversB (vs.getD k []) need = true
 ·rw [if_pos h, List.filter_cons, if_pos h]; rfl
 ·rw [if_neg h, List.filter_cons, if_neg h]; simp
theorem coverI_len (vs : List (List Int)) (need : List Int) (k : Nat) : (coverI vs need k).length ≤ k := by
 induction k with
 | zero => exact Nat.le_refl _
 | succ k ih =>
   rw [coverI_succ]
   split
   ·rw [List.length_append]; simp; omega
   ·omega
def covX (s : SchemaX) (q : QueryX) : List Int × Int := if mayQ s q = 0 then (coverI (viewsX s) (needQ q) (viewsX s).length, 0) else ([], mayQ s q)
def CovP (r : List Int × Int) (w : World) (e : Ending) (w' : World) : Prop :=
 ∃ v, e = .returned (.tuple #[v, .int .i64 r.2]) ∧ w'.ownsRow w.heap.size 3 1 v r.1.length (ivals r.1) ∧ Below w.heap.size w w'
theorem mayS_views {s : SchemaX} (h : mayS s = true) : s.2.2.length ≤ 6 ∧ ∀ x ∈ s.2.2, x.length = s.1.length := by
 unfold mayS at h
 rw [Bool.and_eq_true, Bool.and_eq_true, Bool.and_eq_true, Bool.and_eq_true] at h
 obtain ⟨⟨-, -, h3⟩, h4⟩ := h
 refine ⟨of_decide_eq_true h3, fun x hx => ?_⟩
 obtain ⟨j, hj, rfl⟩ := List.mem_iff_getElem.1 hx
 have := List.all_eq_true.1 h4 j (List.mem_range.2 hj)
 rw [Bool.and_eq_true, Bool.and_eq_true] at this
 have h5 := corner_len this.1.1
 rwa [List.getD_eq_getElem?_getD, List.getElem?_eq_getElem hj] at h5
theorem ints_inV {w : World} {B : Nat} {v : Value} {l : List Int} (h : rdInts w B [v] l) : ∀ x ∈ l, InI64 x := by
 obtain ⟨A, c, e, -, -⟩ := h.open_
 rw [e] at h
 intro x hx
 obtain ⟨k, hk, rfl⟩ := List.mem_iff_getElem.1 hx
 obtain ⟨_, _, _, _, _, h⟩ := ints_at' h hk
 exact h
theorem views_in {w : World} {B : Nat} {v : Value} {s : SchemaX} (h : SchemaV w B v s) : ∀ l ∈ viewsX s, ∀ x ∈ l, InI64 x := by
 obtain ⟨A1, c1, A2, c2, A3, c3, rfl, h1, h2, h3⟩ := h
 intro l hl x hx
 rcases List.mem_cons.1 hl with rfl | hl
 ·obtain ⟨d, hd, rfl⟩ := List.mem_map.1 hx
  obtain ⟨k, hk, rfl⟩ := List.mem_iff_getElem.1 hd
  obtain ⟨b, off, -, -, es, -, -, hr⟩ := h1.at_ hk
  obtain ⟨-, -, hlv⟩ := hr
  obtain ⟨AL, cL, -, g1, g2⟩ := hlv.open_
  exact ⟨by omega, by omega⟩
 ·obtain ⟨k, hk, rfl⟩ := List.mem_iff_getElem.1 hl
  obtain ⟨_, _, _, _, _, _, _, hr⟩ := row_at h3 hk
  exact ints_inV hr x hx
def CvRel (vs : List (List Int)) (need : List Int) (W : World) (out i : Value) (wr : World) : Prop :=
 ∃ k : Nat, k ≤ vs.length ∧ i = .int .i64 k ∧ wr.ownsRow W.heap.size 3 1 out (coverI vs need k).length (ivals (coverI vs need k)) ∧ Below W.heap.size W wr
set_option maxRecDepth 100000 in
set_option maxHeartbeats 1600000 in
theorem covering_any (v x : Value) (s : SchemaX) (q : QueryX) (w : World) (hv : SchemaV w w.heap.size v s) (hx : QueryV w w.heap.size x q) (hl : s.1.length ≤ 1000) (hq : q.1.length ≤ 1000) :
  Calls Tryz.prog 9 #[v, x] w (CovP (covX s q) w) := by
 obtain ⟨i0, hi, hz0, hz1, hz2⟩ := info_parts info_int
 have hv0 := hv; have hx0 := hx
 obtain ⟨A1, c1, A2, c2, A3, c3, rfl, -, -, -⟩ := hv
 obtain ⟨X1, d1, X2, d2, rfl, -, -⟩ := hx
 obtain ⟨W1, hW1⟩ : ∃ W, W = (w.alloc (.cells #[.slice A1 s.1.length c1, .slice A2 s.2.1.length c2, .slice A3 s.2.2.length c3] 26)).alloc (.cells #[.slice X1 q.1.length d1, .slice X2 q.2.length d2] 30) := ⟨_, rfl⟩
 obtain ⟨H, hH⟩ : ∃ H, H = w.heap.size := ⟨_, rfl⟩
 have g1 : Below H w W1 := by rw [hW1, hH]; exact (bl1 w _).alloc (by simp) _
 have z1 : W1.heap.size = H + 1 + 1 := by rw [hW1, hH]; simp
 have q0 : W1.cell? ⟨H, 0, none⟩ = some (.slice A1 s.1.length c1) := by rw [hW1, hH]; simp [go_sem]
 have q1 : W1.cell? ⟨H, 1, none⟩ = some (.slice A2 s.2.1.length c2) := by rw [hW1, hH]; simp [go_sem]
 have q2 : W1.cell? ⟨H, 2, none⟩ = some (.slice A3 s.2.2.length c3) := by rw [hW1, hH]; simp [go_sem]
 have q3 : W1.cell? ⟨H + 1, 0, none⟩ = some (.slice X1 q.1.length d1) := by rw [hW1, hH]; simp [go_sem]
 have q4 : W1.cell? ⟨H + 1, 1, none⟩ = some (.slice X2 q.2.length d2) := by rw [hW1, hH]; simp [go_sem]
 rw [← hH] at hv0 hx0
 have HN := hid (need_any _ _ s q W1 ((hv0.below g1).more (by omega)) ((hx0.below g1).more (by omega)) hl hq)
 have HVW := hid (fun (W : World) (hb : Below H w W) (hz : H ≤ W.heap.size) (hms : mayS s = true) => views_any (.agg #[.slice A1 s.1.length c1, .slice A2 s.2.1.length c2, .slice A3 s.2.2.length c3]) s W ((hv0.below hb).more hz) hl (by have := (mayS_views hms).1; omega) (fun y hy => by rw [(mayS_views hms).2 y hy]; exact hl))
 have HVI := hid (views_in hv0)
 have HNI := hid (need_in hx0)
 have HVL := hid (fun (hms : mayS s = true) => show (viewsX s).length ≤ 1000 by unfold viewsX; rw [List.length_cons]; have := (mayS_views hms).1; omega)
 have HMS := hid (fun (h : mayQ s q = 0) => (mayQ_yes h).1)
 have HW1 := hid hW1; have G1 := hid g1; have HH := hid hH; have Z1 := hid z1
 have HRY := hid (fun (h : mayQ s q = 0) => show covX s q = (coverI (viewsX s) (needQ q) (viewsX s).length, 0) from if_pos h)
 have HRN := hid (fun (h : mayQ s q ≠ 0) => show covX s q = ([], mayQ s q) from if_neg h)
 generalize covX s q = R at *
 unfold CovP
 rw [← hH]
 clear hv0 hx0 hW1 g1 hH z1
 generalize mayQ s q = mq at *
 generalize needQ q = need at *
 generalize s.2.2.length = n3 at *
 generalize s.1.length = n1 at *
 generalize s.2.1.length = n2 at *
 generalize q.1.length = m1 at *
 generalize q.2.length = m2 at *
 go_enter Tryz.func9, Tryz.ntmps9
 go_upto_region 1 with (fail)
 rw [← HW1.out, ← HH.out]
 go_wp2_with fail
 (with_reducible refine HN.out.mono ?_)
 rintro e w2 (⟨rfl, r, rfl, hr, hb2⟩ | ⟨hne, rfl, hb2⟩)
 ·obtain ⟨Ar, cr, rfl, -, -, -⟩ := own_cells hr
  have k0 := cellK hb2 (show H < W1.heap.size by rw [Z1.out]; omega) q0
  have k1 := cellK hb2 (show H < W1.heap.size by rw [Z1.out]; omega) q1
  have k2 := cellK hb2 (show H < W1.heap.size by rw [Z1.out]; omega) q2
  have B2 := hid (G1.out.trans (hb2.mono (by rw [Z1.out]; omega)))
  have Z2 := hid (show H ≤ w2.heap.size by have := Z1.out; have := hb2.size; omega)
  have HRD := hid (rdInts_of_own rfl hr HNI.out)
  have HVV := hid (HVW.out w2 B2.out Z2.out (HMS.out rfl))
  unfold VwP at HVV
  have HVL2 := hid (HVL.out (HMS.out rfl))
  generalize hvs : viewsX s = vs at *
  clear q0 q1 q2 q3 q4 hr hb2 hvs
  obtain rfl := HRY.out rfl
  go_wp2_with fail
  (with_reducible refine HVV.out.mono ?_)
  rintro e w3 ⟨rv, rfl, hrv, hb3⟩
  have HRV := hid (hrv.rows HVI.out)
  obtain ⟨us, -, hrv2, -⟩ := hrv
  obtain ⟨Av, cv, rfl, hcv1, hcv2, -⟩ := own_cells hrv2
  unfold maxLen at hcv2
  have HRN3 := hid (good_ints.on HRD.out hb3)
  have B3 := hid (B2.out.trans (hb3.mono Z2.out))
  have Z3 := hid (show H ≤ w3.heap.size from Nat.le_trans Z2.out hb3.size)
  clear hrv2 hb3
  go_wp2
  go_loopw [8, 23] (fun out i wr => CvRel vs need w3 out i wr) (fun _ i _ => vs.length - (intOf i).toNat)
  case atStart => exact ⟨0, by omega, rfl, World.ownsRow_nil _ _ _ _, Below.refl _ _⟩
  case round =>
   obtain ⟨k, hk, rfl, hown, hb⟩ := hrel
   have HB := hid hb; have HOW := hid hown
   have hs := hb.size
   clear hb hown
   by_cases hlt : k < vs.length
   ·obtain ⟨b, off, AV, cV, rfl, hbl, p0, r0⟩ := row_at (good_rows.stays HRV.out HB.out) hlt
    have HC := hid (covers_any (.slice AV vs[k].length cV) (.slice Ar need.length cr) vs[k] need wr (good_ints.more r0 hs) (good_ints.on HRN3.out HB.out))
    have e1 := coverI_succ vs need k
    rw [List.getD_eq_getElem?_getD, List.getElem?_eq_getElem hlt, Option.getD_some] at e1
    generalize vs[k] = ns at *
    obtain ⟨hnc, hnm⟩ := r0.cap
    have hcl := coverI_len vs need k
    have hvl := HVL2.out
    have E1 := hid e1; have HCL := hid hcl
    clear e1 r0 hcl
    cases hcb : coversB ns need
    ·rw [hcb] at HC E1
     rw [if_neg (by decide)] at E1
     go_wp2_with fail
     (with_reducible refine HC.out.mono ?_)
     rintro e w4 ⟨rfl, hq4⟩
     have HN4 := hid (show CvRel vs need w3 _ (.int .i64 ((k : Int) + 1)) w4 from ⟨k + 1, by omega, by go_num, by rw [E1.out]; exact own_kept HOW.out (fun g hg => (hq4.below wr.heap.size).block g (HOW.out.lt g hg).2), HB.out.trans (hq4.below _)⟩)
     clear hq4
     go_wp2
     go_roundw
     case rel => exact HN4.out
     case measure => simp [intOf]; omega
    ·rw [hcb] at HC E1
     rw [if_pos rfl] at E1
     go_wp2_with fail
     (with_reducible refine HC.out.mono ?_)
     rintro e w4 ⟨rfl, hq4⟩
     have HO4 := hid (own_kept HOW.out (fun g hg => (hq4.below wr.heap.size).block g (HOW.out.lt g hg).2))
     have HB4 := hid (HB.out.trans (hq4.below _))
     have hs4 := HB4.out.size
     have hcl := HCL.out
     clear hq4
     go_wp2_with (at_builtin; refine stop_here ?_)
     refine go_on ?_
     refine app_own (.tmp 31) (.tmp 33) 27 27 rfl rfl w3.heap.size 3 i0 (.int .i64 0) 1 8 Tryz.underlying27 hi hz0 hz1 hz2 rfl (by decide) _ _ _ rfl (HO4.out.alloc _) (.slice (some ⟨w4.heap.size, 0, none⟩) 1 1) 1 (ivals [(k : Int)]) rfl (Src.ofSlice _ Tryz.underlying27 _ 1 1 _ rfl (cell_one_at' _ _ _ rfl) (by simp [ivals]; rfl)) (by simp only [maxLen]; omega) (by omega) (by rw [World.size_alloc]; omega) ?_
     intro v' w5 hown' hg' hb'
     have HN5 := hid (show CvRel vs need w3 v' (.int .i64 ((k : Int) + 1)) w5 from ⟨k + 1, by omega, by go_num, by rw [E1.out, ivals_snoc, List.length_append]; exact hown', ((HB4.out.alloc hs4 _).trans hb')⟩)
     clear hown' hg' hb'
     go_wp2
     go_roundw
     case rel => exact HN5.out
     case measure => simp [intOf]; omega
   ·obtain rfl : k = vs.length := by omega
    go_wp2
    go_ret2
    exact ⟨_, rfl, own_lessQ HOW.out Z3.out, B3.out.trans (HB.out.mono Z3.out)⟩
 ·have B2 := hid (G1.out.trans (hb2.mono (by rw [Z1.out]; omega)))
  obtain rfl := HRN.out hne
  have hne' : (mq != 0) = true := by simpa using hne
  have HNE := hid hne
  clear q0 q1 q2 q3 q4 hb2 hne
  go_wp2
  go_ret2
  exact ⟨_, rfl, World.ownsRow_nil _ _ _ _, B2.out⟩
end Go.Proofs.YtgoapnkdcfcjgaaGreat
namespace Go.Proofs.YtgoapnkdcfcjgaaGreat
open Go.ChangeShapes Go.WideShapes Go.ChangeAt Go.RowKit Go.Deep
set_option linter.unusedVariables false
set_option linter.unusedSimpArgs false
theorem info_pd : (Tryz.prog.info? 88).map (fun i => (i.zero, i.size, i.bytes)) = some (some (.pointer none), 1, 8) := by kernel_rfl
theorem info_pc : (Tryz.prog.info? 79).map (fun i => (i.zero, i.size, i.bytes)) = some (some (.pointer none), 1, 8) := by kernel_rfl
def NewLP (s : SchemaX) (w : World) (e : Ending) (w' : World) : Prop :=
 ∃ p Y, e = .returned (.tuple #[.pointer (some ⟨p, 0, none⟩), .int .i64 0]) ∧ LatW w' w.heap.size p Y (lat0 s) ∧ (∀ g, Y.R g → w.heap.size ≤ g) ∧ Below w.heap.size w w'
def nils {α β : Type} (l : List α) (k : Nat) : List (List β) := (l.take k).map fun _ => []
theorem nils_len {α β : Type} (l : List α) (k : Nat) (h : k ≤ l.length) : (nils (β := β) l k).length = k := by unfold nils; rw [List.length_map, List.length_take]; omega
theorem nils_succ {α β : Type} (l : List α) (k : Nat) (h : k < l.length) : nils (β := β) l (k + 1) = nils l k ++ [[]] := by unfold nils; rw [List.take_succ_eq_append_getElem h, List.map_append]; rfl
theorem nils_all {α β : Type} (l : List α) : nils (β := β) l l.length = l.map fun _ => [] := by unfold nils; rw [List.take_length]
def MadeL (s : SchemaX) (H : Nat) (w : World) (s4 : Value) (wx : World) : Prop :=
 ∃ p Y, s4 = .pointer (some ⟨p, 0, none⟩) ∧ LatW wx H p Y ⟨s, [], [], 0⟩ ∧ Y.DS = .slice none 0 0 ∧ Y.CS = .slice none 0 0 ∧ (∀ g, Y.R g → H ≤ g) ∧ Below H w wx ∧ ∃ AV cV, Y.V = .slice AV (viewsX s).length cV
def NlRel (s : SchemaX) (H p : Nat) (w : World) (i : Value) (wr : World) : Prop :=
 ∃ (k : Nat) (Y : Lay), k ≤ s.1.length ∧ i = .int .i64 k ∧ LatW wr H p Y ⟨s, nils s.1 k, [], 0⟩ ∧ Y.CS = .slice none 0 0 ∧ (∀ g, Y.R g → H ≤ g) ∧ Below H w wr ∧ ∃ AV cV, Y.V = .slice AV (viewsX s).length cV
def NcRel (s : SchemaX) (H p : Nat) (w : World) (i : Value) (wr : World) : Prop :=
 ∃ (k : Nat) (Y : Lay), k ≤ (viewsX s).length ∧ i = .int .i64 k ∧ LatW wr H p Y ⟨s, s.1.map (fun _ => []), nils (viewsX s) k, 0⟩ ∧ (∀ g, Y.R g → H ≤ g) ∧ Below H w wr
theorem LatW.less {w : World} {H H' p : Nat} {Y : Lay} {l : LatX} (h : LatW w H p Y l) (hh : H' ≤ H) : LatW w H' p Y l :=
 { h with hp := Nat.le_trans hh h.hp, ds := own_lessQ h.ds hh, cs := own_lessQ h.cs hh, dA := fun i hi g hg => ⟨Nat.le_trans hh (h.dA i hi g hg).1, (h.dA i hi g hg).2⟩ }
theorem named_len {l : List ByteArray} {m : Nat} (h : namedB l m = true) : 1 ≤ l.length ∧ l.length ≤ m := by
 unfold namedB at h
 rw [Bool.and_eq_true, Bool.and_eq_true, Bool.and_eq_true] at h
 exact ⟨of_decide_eq_true h.1.1.1, of_decide_eq_true h.1.1.2⟩
theorem mayS_sizes {s : SchemaX} (h : mayS s = true) : (1 ≤ s.1.length ∧ s.1.length ≤ 3) ∧ (1 ≤ s.2.1.length ∧ s.2.1.length ≤ 2) ∧ ∀ d ∈ s.1, 1 ≤ d.2.length ∧ d.2.length ≤ 3 := by
 unfold mayS at h
 rw [Bool.and_eq_true, Bool.and_eq_true, Bool.and_eq_true, Bool.and_eq_true] at h
 obtain ⟨⟨h1, ⟨h2, h3⟩, -⟩, -⟩ := h
 have a := named_len h2
 rw [List.length_map] at a
 exact ⟨a, named_len h3, fun d hd => named_len (List.all_eq_true.1 h1 d hd)⟩
theorem LatW.made {w4 : World} {H a b : Nat} {n : Int} {S1 S2 S3 V : Value} {s : SchemaX} {w3 : World} (hs : SchO w3 a S1 S2 S3 s) (hin : SchIn s) (hb3 : Below w3.heap.size w3 w4) (ha : H ≤ a) (hr : RowI w4 b V (viewsX s)) (hbb : H ≤ b) (hw4 : H ≤ w4.heap.size) :
  LatW (w4.alloc (.cells #[S1, S2, S3, V, .slice none 0 0, .slice none 0 0, .int .i64 n] 78)) H w4.heap.size ⟨fun g => H ≤ g ∧ g < w4.heap.size, S1, S2, S3, V, .slice none 0 0, .slice none 0 0, fun _ => 0, fun _ _ => False, fun _ => 0, fun _ => 0, fun _ _ => False⟩ ⟨s, [], [], n⟩ := by
 have hbl : Below w4.heap.size w4 (w4.alloc (.cells #[S1, S2, S3, V, .slice none 0 0, .slice none 0 0, .int .i64 n] 78)) := bl1 _ _
 refine ⟨hw4, by simp, fun i hi => by simp [go_sem], by simp [go_sem], by simp [go_sem], by simp [go_sem], by simp [go_sem], by simp [go_sem], by simp [go_sem], by simp [go_sem], ?_, hin, ?_, World.ownsRow_nil _ _ _ _, World.ownsRow_nil _ _ _ _, fun i hi => absurd hi (by simp), fun i hi => absurd hi (by simp), ?_, ?_, ?_, fun i hi => absurd hi (by simp), ?_, fun i hi => absurd hi (by simp), fun i j hi => absurd hi (by simp)⟩
 ·exact ⟨w3, a, hs, fun g g1 g2 => ⟨⟨by omega, Nat.lt_of_lt_of_le g2 hb3.size⟩, (hbl.block g (Nat.lt_of_lt_of_le g2 hb3.size)).trans (hb3.block g g2)⟩⟩
 ·exact ⟨w4, b, hr, fun g g1 g2 => ⟨⟨by omega, g2⟩, hbl.block g g2⟩⟩
 ·exact fun g hg => ⟨by simp; omega, by omega, by simp [Value.ownBlock], fun i hi => absurd hi (by simp)⟩
 ·exact fun g hg => by simp [Value.ownBlock]
 ·exact fun g hg => by simp [Value.ownBlock] at hg
 ·exact fun g hg => by simp [Value.ownBlock] at hg
set_option maxRecDepth 100000 in
set_option maxHeartbeats 3200000 in
theorem newL_yes (v : Value) (s : SchemaX) (w : World) (hv : SchemaV w w.heap.size v s) (hm : mayS s = true) : Calls Tryz.prog 24 #[v] w (NewLP s w) := by
 obtain ⟨i0, hi, hz0, hz1, hz2⟩ := info_parts info_pd
 obtain ⟨i1, hi', hz0', hz1', hz2'⟩ := info_parts info_pc
 obtain ⟨⟨hd1, hd3⟩, ⟨hm1, hm2⟩, hdl⟩ := mayS_sizes hm
 obtain ⟨hv6, hvl⟩ := mayS_views hm
 have hin := hv.in_
 have hv0 := hv
 obtain ⟨A1, c1, A2, c2, A3, c3, rfl, h1, h2', h3⟩ := hv
 obtain ⟨W1, hW1⟩ : ∃ W, W = w.alloc (.cells #[.slice A1 s.1.length c1, .slice A2 s.2.1.length c2, .slice A3 s.2.2.length c3] 26) := ⟨_, rfl⟩
 obtain ⟨H, hH⟩ : ∃ H, H = w.heap.size := ⟨_, rfl⟩
 have g1 : Below H w W1 := by rw [hW1, hH]; exact bl1 _ _
 have z1 : W1.heap.size = H + 1 := by rw [hW1, hH]; simp
 have q0 : W1.cell? ⟨H, 0, none⟩ = some (.slice A1 s.1.length c1) := by rw [hW1, hH]; simp [go_sem]
 have q1 : W1.cell? ⟨H, 1, none⟩ = some (.slice A2 s.2.1.length c2) := by rw [hW1, hH]; simp [go_sem]
 have q2 : W1.cell? ⟨H, 2, none⟩ = some (.slice A3 s.2.2.length c3) := by rw [hW1, hH]; simp [go_sem]
 obtain ⟨K, hK⟩ : ∃ K, K = W1.heap.size := ⟨_, rfl⟩
 have hHK : H < K := by omega
 rw [← hH] at h1 h2' h3 hv0
 obtain ⟨hc1, hcm1⟩ := h1.cap
 obtain ⟨hc2, hcm2⟩ := h2'.cap
 have hv1 : SchemaV W1 K _ s := (hv0.below g1).more (Nat.le_of_lt hHK)
 have hd1' : rdSlice 2 rdDim W1 K [.slice A1 s.1.length c1] s.1 := good_dims.more (good_dims.stays h1 g1) (Nat.le_of_lt hHK)
 have hmay := schemaMay_any _ s W1 (by rw [← hK]; exact hv1) (by omega)
 rw [hm] at hmay
 have HMAY := hid hmay
 have HOWN := hid (fun (W : World) (hb : Below K W1 W) (hz : K ≤ W.heap.size) => own_any _ s W ((hv1.below hb).more hz) (by omega) (by omega) (fun x hx => by rw [hvl x hx]; omega) (by omega) (fun d hd => by have := hdl d hd; omega))
 have HVW := hid (fun (W : World) (hb : Below K W1 W) (hz : K ≤ W.heap.size) => views_any _ s W ((hv1.below hb).more hz) (by omega) (by omega) (fun x hx => by rw [hvl x hx]; omega))
 have HD := hid hd1'; have HDL := hid hdl; have HIN := hid hin
 have HVN := hid (show (viewsX s).length ≤ 7 by unfold viewsX; rw [List.length_cons]; omega)
 have HW1 := hid hW1; have G1 := hid g1; have HH := hid hH; have HK := hid hK
 have Q0 := hid q0; have Q1 := hid q1
 unfold NewLP
 rw [← hH]
 clear h1 h2' h3 hv0 hW1 g1 hH z1 hmay hdl hin hvl hm hv1 hd1' hK
 go_enter Tryz.func24, Tryz.ntmps24
 go_upto_region 1 with (fail)
 rw [← HW1.out, ← HH.out]
 go_wp2_with fail
 (with_reducible refine HMAY.out.mono ?_)
 rintro e w2 ⟨rfl, hb2⟩
 rw [← HK.out] at hb2
 have q0 := cellK hb2 hHK q0; have q1 := cellK hb2 hHK q1; have q2 := cellK hb2 hHK q2
 have B2 := hid hb2
 have Z2 := hid (show K ≤ w2.heap.size by have := hb2.size; have h := HK.out; rw [← h] at this; exact this)
 clear hb2
 go_upto_region 3 with (fail)
 go_cut [4] from 10 to 15 (fun s4 wx => MadeL s K W1 s4 wx)
 case first =>
  go_wp2
  go_region_law (first
   | (go_simp; go_at_call 41; refine (HOWN.out _ B2.out.drew Z2.out).mono ?_; rintro e w3 ⟨O1, d1, O2, d2, O3, d3, rfl, ho3, hb3⟩; have HO3 := hid ho3; have B3 := hid (B2.out.drew.trans (hb3.mono Z2.out)); have Z3 := hid (show K ≤ w3.heap.size from Nat.le_trans Z2.out hb3.size); have k0 := cellK hb3 (Nat.lt_of_lt_of_le hHK Z2.out) q0; have k1 := cellK hb3 (Nat.lt_of_lt_of_le hHK Z2.out) q1; have k2 := cellK hb3 (Nat.lt_of_lt_of_le hHK Z2.out) q2; have HV3 := hid (HVW.out w3 B3.out Z3.out); clear ho3 hb3)
   | (go_simp; go_at_call 18; refine HV3.out.mono ?_; rintro e w4 ⟨rv, rfl, hr4, hb4⟩; obtain ⟨us, -, hr4', -⟩ := id hr4; obtain ⟨Av, cv, rfl⟩ := own_formB hr4'; have HR4 := hid hr4; have H34 := hid hb4; have B4 := hid (B3.out.trans (hb4.mono Z3.out)); have Z4 := hid (show K ≤ w4.heap.size from Nat.le_trans Z3.out hb4.size); clear hr4 hb4 hr4'))
  all_goals
   have hmade := hid (LatW.made (n := 0) HO3.out HIN.out H34.out (show K ≤ w2.drew.heap.size from Z2.out) HR4.out Z3.out Z4.out)
   go_wp2
   go_meet
   case rel => exact ⟨w4.heap.size, _, rfl, hmade.out, rfl, rfl, fun g hg => hg.1, B4.out.alloc Z4.out _, _, _, rfl⟩
 case rest =>
  obtain ⟨p, Y, rfl, hlat, hDS, hCS, hR, hb, AV, cV, hV⟩ := hcut
  obtain ⟨wA, rfl⟩ : ∃ W', W' = wc := ⟨_, rfl⟩
  have HLAT := hid hlat; have HR := hid hR; have HBA := hid hb; have HCS := hid hCS; have HVV := hid (show ∃ AV cV, Y.V = .slice AV (viewsX s).length cV from ⟨AV, cV, hV⟩)
  have q0 := cellK hb hHK Q0.out
  clear hlat hDS hCS hR hb q1 q2 hV B2 Z2
  go_wp2
  go_loopw [19] (fun i wr => NlRel s K p W1 i wr) (fun i _ => s.1.length - (intOf i).toNat)
  case atStart => exact ⟨0, Y, by omega, rfl, HLAT.out, HCS.out, HR.out, HBA.out, HVV.out⟩
  case round =>
   obtain ⟨k, Y, hk, rfl, hlat, hCS, hR, hb, AV, cV, hV⟩ := hrel
   have HB := hid hb
   have hs1 := hb.size
   rw [← HK.out] at hs1
   have HR := hid hR
   by_cases hlt : k < s.1.length
   ·obtain ⟨b, off, AL, cL, rfl, hbl, d0, d1, rl⟩ := dims_at (good_dims.stays HD.out HB.out) hlt
    have hdl := HDL.out _ (List.getElem_mem hlt)
    have hdim : dimL s k = ((s.1[k].2.length : Nat) : Int) := by unfold dimL; rw [List.getD_eq_getElem?_getD, List.getElem?_eq_getElem hlt]; rfl
    have E1 := hid (nils_succ (β := DNode) s.1 k hlt)
    have hds := nils_len (β := DNode) s.1 k (Nat.le_of_lt hlt)
    generalize nils (β := DNode) s.1 k = ds0 at *
    generalize s.1[k] = dd at *
    obtain ⟨nm, ls⟩ := dd
    simp only at d0 d1 rl hdl hdim
    obtain ⟨hlc, hlm⟩ := rl.cap
    obtain ⟨Wd, hWd⟩ : ∃ W, W = wr.alloc (.cells #[.string nm, .slice AL ls.length cL] 54) := ⟨_, rfl⟩
    have gd : Below wr.heap.size wr Wd := by rw [hWd]; exact bl1 _ _
    have zd : Wd.heap.size = wr.heap.size + 1 := by rw [hWd]; simp
    have w1 : Wd.cell? ⟨wr.heap.size, 1, none⟩ = some (.slice AL ls.length cL) := by rw [hWd]; simp [go_sem]
    have hl := hlat.on gd
    obtain ⟨R, S1, S2, S3, V, DS, CS, dp, dD, cq, cm, cD⟩ := Y
    simp only at hCS hV
    subst hCS; subst hV
    have u2 : Wd.ownsRow K 88 1 DS ds0.length (ptrs dp ds0.length) := hl.ds
    rw [hds] at u2
    obtain ⟨AD, cDD, rfl⟩ := own_formB u2
    have c4 := hl.c4; have f4 := hl.fz 4 (by omega); have hpl := hl.pl
    simp only at c4
    have HND := hid (fun W => newD_yes (ls.length : Int) W (by omega) (by omega))
    have HL := hid hl; have HWd := hid hWd; have GD := hid gd; have HDS := hid hds; have HDM := hid hdim
    have hpn : p ≠ wr.heap.size := by have := hlat.pl; omega
    clear hlat hl hb rl hWd gd hds hdim hR
    go_upto_region 7 with (fail)
    rw [← HWd.out]
    clear d0 d1
    go_region_law (first
     | (refine step_append_lies _ (by rfl) (.tmp 27) (.tmp 32) 75 (by rfl) K 88 i0 (.pointer none) 1 8 Tryz.underlying75 hi hz0 hz1 hz2 rfl (by omega) _ k (ptrs dp k) (by rfl) ((own_stays u2 B5.out).alloc _) ⟨w5.heap.size, 0, none⟩ 1 1 _ (by rfl) rfl (cell_one_at' _ _ _ rfl) (by simp; rfl) (by omega) (by unfold maxLen; omega) (by omega) (by simp; omega) (w5.heap.size + 1) (by simp) ?_; intro g cap w6 ho6 hg6 hat6 hlt6; have m3 := (World.grownBy.cell_far hg6 ⟨p, 4, none⟩ (by simp; omega) (fun e => hpd e.symm)).trans (cell_alloc (by omega) k4); have m5 := (World.grownBy.frozen_far hg6 ⟨p, 4, none⟩ (by simp; omega) (fun e => hpd e.symm)).trans (frozen_alloc (by omega) k5))
     | (go_simp; go_at_call 42; refine (HND.out _).mono ?_; rintro e w5 ⟨d, D, rfl, hd5, hD5, hb5⟩; have HD5 := hid hd5; have HDN := hid hD5; have B5 := hid ((Below.refl Wd.heap.size Wd).drew.trans hb5); have z5 := B5.out.size; have k4 := cellK B5.out hpl c4; have k5 := frozenK B5.out hpl f4; have hpd := fun e => (HL.out.dsA p e).1 rfl; have k6 := cell_alloc (o := .cells #[.pointer (some ⟨d, 0, none⟩)] 88) (show p < w5.heap.size by omega) k4; clear hd5 hD5 hb5))
    all_goals
     have z6 := ((Below.refl K (w5.alloc (.cells #[.pointer (some ⟨d, 0, none⟩)] 88))).grown hg6 (by simp; omega) (fun j hj => (u2.lt j hj).1)).size
     rw [World.size_alloc] at z6
     have hnew : LatW (w6.setCell ⟨p, 4, none⟩ (.slice (some ⟨g, 0, none⟩) (k + 1) cap)) K p ⟨R, S1, S2, S3, .slice AV (viewsX s).length cV, .slice (some ⟨g, 0, none⟩) (k + 1) cap, .slice none 0 0, fun j => if j = ds0.length then d else dp j, fun j => if j = ds0.length then D else dD j, cq, cm, cD⟩ ⟨s, ds0 ++ [[]], [], 0⟩ :=
      LatW.dictAdd (o := .cells #[.pointer (some ⟨d, 0, none⟩)] 88) (H4 := w5.heap.size + 1) HL.out B5.out (by rw [HDS.out, HDM.out]; exact HD5.out) HDN.out (by rw [HDS.out]; exact ho6) hg6 (by omega) (hat6.elim (fun h => .inl h.symm) (fun h => .inr (congrArg some h))) (by omega) ⟨_, m3⟩
     have hbn : Below K W1 (w6.setCell ⟨p, 4, none⟩ (.slice (some ⟨g, 0, none⟩) (k + 1) cap)) :=
      ((HB.out.trans ((GD.out.mono hs1).trans ((B5.out.mono (show K ≤ Wd.heap.size by omega)).trans (((Below.refl K w5).alloc (by omega) (.cells #[.pointer (some ⟨d, 0, none⟩)] 88)).trans ((Below.refl K _).grown hg6 (by simp; omega) (fun j hj => (u2.lt j hj).1)))))).setCell (show K ≤ p from HL.out.hp) _)
     have HNX := hid (show NlRel s K p W1 (.int .i64 ((k : Int) + 1)) (w6.setCell ⟨p, 4, none⟩ (.slice (some ⟨g, 0, none⟩) (k + 1) cap)) from ⟨k + 1, ⟨R, S1, S2, S3, .slice AV (viewsX s).length cV, .slice (some ⟨g, 0, none⟩) (k + 1) cap, .slice none 0 0, fun j => if j = ds0.length then d else dp j, fun j => if j = ds0.length then D else dD j, cq, cm, cD⟩, by omega, by go_num, by rw [E1.out]; exact hnew, rfl, HR.out, hbn, _, _, rfl⟩)
     clear ho6 hg6 hat6 hlt6 hnew hbn u2 m3 m5 k4 k5 k6 c4 f4
     go_wp2
     go_roundw
     case rel => exact HNX.out
     case measure => simp [intOf]; omega
   ·obtain rfl : k = s.1.length := by omega
    rw [nils_all] at hlat
    have q0 := cellK hb hHK Q0.out
    have q1 := cellK hb hHK Q1.out
    obtain ⟨R, S1, S2, S3, V, DS, CS, dp, dD, cq, cm, cD⟩ := Y
    simp only at hCS hV
    subst hCS; subst hV
    have c3 := hlat.c3
    simp only at c3
    have hn : nils (β := KC) (viewsX s) 0 = [] := rfl
    have HL0 := hid (show NcRel s K p W1 (.int .i64 0) wr from ⟨0, _, by omega, rfl, hlat, HR.out, HB.out⟩)
    clear hlat hb hn hR
    obtain ⟨W5, hW5⟩ : ∃ W, W = wr := ⟨_, rfl⟩
    rw [← hW5] at HL0 q0 q1 c3 ⊢
    clear hW5 HB
    go_wp2
    go_loopw [42] (fun i wr => NcRel s K p W1 i wr) (fun i _ => (viewsX s).length - (intOf i).toNat)
    case atStart => exact HL0.out
    case round =>
     obtain ⟨k, Y, hk, rfl, hlat, hR, hb⟩ := hrel
     have HB := hid hb; have HR2 := hid hR
     have hs1 := hb.size
     rw [← HK.out] at hs1
     by_cases hlt : k < (viewsX s).length
     ·have E1 := hid (nils_succ (β := KC) (viewsX s) k hlt)
      have hds := nils_len (β := KC) (viewsX s) k (Nat.le_of_lt hlt)
      generalize nils (β := KC) (viewsX s) k = cs0 at *
      obtain ⟨R, S1, S2, S3, V, DS, CS, dp, dD, cq, cm, cD⟩ := Y
      have u2 : wr.ownsRow K 79 1 CS cs0.length (ptrs cq cs0.length) := hlat.cs
      rw [hds] at u2
      obtain ⟨AD, cDD, rfl⟩ := own_formB u2
      have c5 := hlat.c5; have f5 := hlat.fz 5 (by omega); have hpl := hlat.pl
      simp only at c5
      have q0 := cellK hb hHK Q0.out
      have q1 := cellK hb hHK Q1.out
      have hv7 := HVN.out
      have HND := hid (fun W => newC_yes s.1.length s.2.1.length W hd1 hd3 hm1 hm2)
      have HL := hid hlat; have HDS := hid hds
      clear hlat hb hds hR c3
      go_upto_region 11 with (fail)
      go_region_law (first
       | (refine step_append_lies _ (by rfl) (.tmp 48) (.tmp 56) 76 (by rfl) K 79 i1 (.pointer none) 1 8 Tryz.underlying76 hi' hz0' hz1' hz2' rfl (by omega) _ k (ptrs cq k) (by rfl) ((own_stays u2 B5.out).alloc _) ⟨w5.heap.size, 0, none⟩ 1 1 _ (by rfl) rfl (cell_one_at' _ _ _ rfl) (by simp; rfl) (by omega) (by unfold maxLen; omega) (by omega) (by simp; omega) (w5.heap.size + 1) (by simp) ?_; intro g cap w6 ho6 hg6 hat6 hlt6; have m3 := (World.grownBy.cell_far hg6 ⟨p, 5, none⟩ (by simp; omega) (fun e => hpd e.symm)).trans (cell_alloc (by omega) k4); have m5 := (World.grownBy.frozen_far hg6 ⟨p, 5, none⟩ (by simp; omega) (fun e => hpd e.symm)).trans (frozen_alloc (by omega) k5))
       | (go_simp; go_at_call 43; refine (HND.out _).mono ?_; rintro e w5 ⟨d, m, D, rfl, hd5, hD5, hb5⟩; have HD5 := hid hd5; have HDN := hid hD5; have B5 := hid ((Below.refl wr.heap.size wr).drew.trans hb5); have z5 := B5.out.size; have k4 := cellK B5.out hpl c5; have k5 := frozenK B5.out hpl f5; have hpd := fun e => (HL.out.csA p e).1 rfl; have k6 := cell_alloc (o := .cells #[.pointer (some ⟨d, 0, none⟩)] 79) (show p < w5.heap.size by omega) k4; have k8 := cellK B5.out (Nat.lt_of_lt_of_le hHK hs1) q0; have k9 := cellK B5.out (Nat.lt_of_lt_of_le hHK hs1) q1; clear hd5 hD5 hb5))
      all_goals
       have z6 := ((Below.refl K (w5.alloc (.cells #[.pointer (some ⟨d, 0, none⟩)] 79))).grown hg6 (by simp; omega) (fun j hj => (u2.lt j hj).1)).size
       rw [World.size_alloc] at z6
       have hnew : LatW (w6.setCell ⟨p, 5, none⟩ (.slice (some ⟨g, 0, none⟩) (k + 1) cap)) K p ⟨fun g => R g ∨ D g, S1, S2, S3, V, DS, .slice (some ⟨g, 0, none⟩) (k + 1) cap, dp, dD, fun j => if j = cs0.length then d else cq j, fun j => if j = cs0.length then m else cm j, fun j => if j = cs0.length then D else cD j⟩ ⟨s, s.1.map (fun _ => []), cs0 ++ [[]], 0⟩ :=
        LatW.cubAdd (o := .cells #[.pointer (some ⟨d, 0, none⟩)] 79) (H4 := w5.heap.size + 1) HL.out B5.out HD5.out HDN.out (by rw [HDS.out]; exact ho6) hg6 (by omega) (hat6.elim (fun h => .inl h.symm) (fun h => .inr (congrArg some h))) (by omega) ⟨_, m3⟩
       have hbn : Below K W1 (w6.setCell ⟨p, 5, none⟩ (.slice (some ⟨g, 0, none⟩) (k + 1) cap)) :=
        ((HB.out.trans ((B5.out.mono hs1).trans (((Below.refl K w5).alloc (by omega) (.cells #[.pointer (some ⟨d, 0, none⟩)] 79)).trans ((Below.refl K _).grown hg6 (by simp; omega) (fun j hj => (u2.lt j hj).1))))).setCell (show K ≤ p from HL.out.hp) _)
       have HNX := hid (show NcRel s K p W1 (.int .i64 ((k : Int) + 1)) (w6.setCell ⟨p, 5, none⟩ (.slice (some ⟨g, 0, none⟩) (k + 1) cap)) from ⟨k + 1, ⟨fun g => R g ∨ D g, S1, S2, S3, V, DS, .slice (some ⟨g, 0, none⟩) (k + 1) cap, dp, dD, fun j => if j = cs0.length then d else cq j, fun j => if j = cs0.length then m else cm j, fun j => if j = cs0.length then D else cD j⟩, by omega, by go_num, by rw [E1.out]; exact hnew, fun g hg => hg.elim (HR2.out g) (fun h => Nat.le_trans hs1 (HDN.out g h)), hbn⟩)
       clear ho6 hg6 hat6 hlt6 hnew hbn u2 m3 m5 k4 k5 k6 k8 k9 c5 f5
       go_wp2
       go_roundw
       case rel => exact HNX.out
       case measure => simp [intOf]; omega
     ·obtain rfl : k = (viewsX s).length := by omega
      rw [nils_all] at hlat
      have HL := hid hlat
      clear hlat hb hR c3
      go_wp2
      go_ret2
      exact ⟨p, Y, rfl, HL.out.less (Nat.le_of_lt hHK), fun g hg => Nat.le_trans (Nat.le_of_lt hHK) (HR2.out g hg), G1.out.trans (HB.out.mono (Nat.le_of_lt hHK))⟩
end Go.Proofs.YtgoapnkdcfcjgaaGreat
