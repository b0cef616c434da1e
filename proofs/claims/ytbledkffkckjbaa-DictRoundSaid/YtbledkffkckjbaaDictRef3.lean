/- The reference's dictionary: Add. -/
import Derived.Test.YtbledkffkckjbaaDictRef2
namespace Go.Proofs.Ytbledkffkckjbaa
open Go.ChangeShapes Go.WideShapes Go.ChangeAt Go.RowKit
set_option linter.unusedVariables false

theorem SlE.lt {w : World} {E : Nat → Prop} {v : Value} {xs : List Value} (h : SlE w E v xs) : SlE w (fun g => E g ∧ g < w.heap.size) v xs := by
  obtain ⟨A, c, h1, h2, h3, h4⟩ := h
  refine ⟨A, c, h1, h2, h3, fun h => ?_⟩
  obtain ⟨b, off, e, hE, hc⟩ := h4 h
  exact ⟨b, off, e, ⟨hE, World.block_lt_of_cell? w ⟨b, off + 0, none⟩ (hc 0 _ (List.getElem?_eq_getElem h))⟩, hc⟩
theorem info_strs : (Try.prog.info? 30).map (fun i => (i.zero, i.size, i.bytes)) = some (some (.slice none 0 0), 1, 24) := by kernel_rfl
theorem info_str : (Try.prog.info? 9).map (fun i => (i.zero, i.size, i.bytes)) = some (some (.string ByteArray.empty), 1, 16) := by kernel_rfl
/-- Those of p's first k beginnings that are not there. -/
def moreK (pl : List (List ByteArray)) (p : List ByteArray) (k : Nat) : List (List ByteArray) :=
  ((List.range k).map fun n => p.take (n + 1)).filter fun q => code pl q = 0
theorem moreK_succ (pl : List (List ByteArray)) (p : List ByteArray) (k : Nat) : moreK pl p (k + 1) = if code pl (p.take (k + 1)) = 0 then moreK pl p k ++ [p.take (k + 1)] else moreK pl p k := by
  unfold moreK
  rw [List.range_succ, List.map_append, List.filter_append]
  simp only [List.map_cons, List.map_nil, List.filter_cons, List.filter_nil]
  split <;> simp_all
theorem moreK_len (pl : List (List ByteArray)) (p : List ByteArray) (k : Nat) : (moreK pl p k).length ≤ k := by
  unfold moreK
  have := List.length_filter_le (fun q => decide (code pl q = 0)) ((List.range k).map fun n => p.take (n + 1))
  simpa using this
theorem svals_one (p : List ByteArray) : ∀ u ∈ svals p, u.oneCell' = true := by
  intro u hu
  obtain ⟨_, _, rfl⟩ := List.mem_map.1 hu
  rfl
/-- Rows of texts whose headers are vs; all new from H on, none in the block of v. -/
def RowsS (w : World) (H : Nat) (v : Value) (vs : List Value) (ms : List (List ByteArray)) : Prop :=
  vs.length = ms.length ∧ (∀ u ∈ vs, u.oneCell' = true) ∧ ∀ (i : Nat) (x : List ByteArray), ms[i]? = some x → ∃ u, vs[i]? = some u ∧ SlE w (fun g => H ≤ g ∧ g < w.heap.size ∧ v.ownBlock ≠ some g) u (svals x)
theorem SlE.grown {w w' : World} {E E' : Nat → Prop} {v : Value} {xs : List Value} {row : Option Nat} (h : SlE w E v xs) (hg : w.grownBy w' row) (hE : ∀ g, E g → g < w.heap.size ∧ row ≠ some g) (hE' : ∀ g, E g → E' g) : SlE w' E' v xs :=
  (h.kept (fun k hk => hg.block k (hE k hk).1 (fun e => (hE k hk).2 e.symm))).mono hE'
theorem own_one (v : Value) {n : Nat} {w : World} {base : Nat} {e : TypeId} {sz : Nat} {xs : List Value} (h : w.ownsRow base e sz v n xs) : v.oneCell' = true := by
  rcases h.2 with ⟨rfl, _⟩ | ⟨g, cap, cur, rfl, _⟩ <;> rfl
theorem RowsS.snoc {w w2 : World} {H : Nat} {v v2 u : Value} {vs : List Value} {ms : List (List ByteArray)} {x : List ByteArray}
    (h : RowsS w H v vs ms) (hk : Kept (fun g => H ≤ g ∧ g < w.heap.size ∧ v.ownBlock ≠ some g) w w2) (hs : w.heap.size ≤ w2.heap.size) (hv : ∀ g, g < w.heap.size → v.ownBlock ≠ some g → v2.ownBlock ≠ some g)
    (hu : u.oneCell' = true) (hx : SlE w2 (fun g => H ≤ g ∧ g < w2.heap.size ∧ v2.ownBlock ≠ some g) u (svals x)) : RowsS w2 H v2 (vs ++ [u]) (ms ++ [x]) := by
  obtain ⟨h1, h2, h3⟩ := h
  refine ⟨by simp [h1], ?_, fun i y hy => ?_⟩
  · intro y hy
    rcases List.mem_append.1 hy with h | h
    · exact h2 y h
    · simp at h; subst h; exact hu
  · rcases Nat.lt_or_ge i ms.length with hi | hi
    · rw [List.getElem?_append_left hi] at hy
      obtain ⟨z, hz, hsl⟩ := h3 i y hy
      refine ⟨z, by rw [List.getElem?_append_left (by omega)]; exact hz, (hsl.kept hk).mono fun g hg => ⟨hg.1, by omega, hv g hg.2.1 hg.2.2⟩⟩
    · rw [List.getElem?_append_right hi] at hy
      have h0 : i - ms.length = 0 := by
        rcases Nat.eq_zero_or_pos (i - ms.length) with h | h
        · exact h
        · rw [List.getElem?_eq_none (by simp; omega)] at hy; cases hy
      rw [h0] at hy; simp at hy; subst hy
      exact ⟨u, by rw [List.getElem?_append_right (by omega), h1, h0]; rfl, hx⟩
theorem RowsS.kept {w w2 : World} {H : Nat} {v : Value} {vs : List Value} {ms : List (List ByteArray)} (h : RowsS w H v vs ms) (hk : Below w.heap.size w w2) : RowsS w2 H v vs ms := by
  obtain ⟨h1, h2, h3⟩ := h
  refine ⟨h1, h2, fun i y hy => ?_⟩
  obtain ⟨z, hz, hsl⟩ := h3 i y hy
  exact ⟨z, hz, (hsl.kept (fun g hg => hk.block g hg.2.1)).mono fun g hg => ⟨hg.1, Nat.lt_of_lt_of_le hg.2.1 hk.size, hg.2.2⟩⟩
/-- One more row of texts, and its header behind the others. -/
theorem more_step {w wr w2 w3 w4 : World} {H len : Nat} {u7 v3 v4 : Value} {vs : List Value} {ms : List (List ByteArray)} {x : List ByteArray} {o : Obj} {n3 : Nat} {xs3 : List Value}
    (hH : w.heap.size = H) (hown : wr.ownsRow H 30 1 u7 len vs) (hro : RowsS wr H u7 vs ms) (hb : Below H w wr) (hq : Qu wr w2) (ho3 : w2.heap.size ≤ w3.heap.size ∧ w3.ownsRow w2.heap.size 9 1 v3 n3 xs3) (hx3 : xs3 = svals x) (hb3 : Below w2.heap.size w2 w3)
    (hg4 : (w3.alloc o).grownBy w4 u7.ownBlock) (hat : v4.ownBlock = u7.ownBlock ∨ v4.ownBlock = some (w3.alloc o).heap.size) : RowsS w4 H v4 (vs ++ [v3]) (ms ++ [x]) ∧ Below H w w4 := by
  subst hx3
  obtain ⟨_, ho3⟩ := ho3
  have hs2 : w2.heap.size = wr.heap.size := Qu.size hq
  have hB := hb.size
  have hu7 : ∀ g, u7.ownBlock = some g → H ≤ g ∧ g < wr.heap.size := fun g hg => hown.lt g hg
  have h3s := hb3.size
  have h4s := hg4.size
  simp only [World.size_alloc] at h4s hat
  have b23 : Below wr.heap.size wr w3 := (hq.below _).trans (hs2 ▸ hb3)
  have b3a : Below wr.heap.size wr (w3.alloc o) := b23.alloc (by omega) o
  have hne : ∀ g, g < wr.heap.size → u7.ownBlock ≠ some g → v4.ownBlock ≠ some g := fun g hg h h' => by
    rcases hat with h1 | h1
    · exact h (h1 ▸ h')
    · rw [h1] at h'; injection h' with h'; omega
  refine ⟨hro.snoc ?_ (by omega) hne (own_one v3 ho3) ?_, ?_⟩
  · intro g hg
    exact (hg4.block g (by simp; omega) (fun e => hg.2.2 e.symm)).trans (b3a.block g hg.2.1)
  · have h1 : SlE w3 (fun g => w2.heap.size ≤ g ∧ g < w3.heap.size) v3 (svals x) := SlE.of_own ho3 (fun g hg => ho3.lt g hg)
    refine (h1.kept fun g hg => ?_).mono fun g hg => ⟨by omega, by omega, fun h' => ?_⟩
    · have e1 : (w3.alloc o).heap[g]? = w3.heap[g]? := ((Below.refl w3.heap.size w3).alloc (Nat.le_refl _) o).block g hg.2
      exact (hg4.block g (by simp; omega) (fun e => by have := hu7 g e.symm; omega)).trans e1
    · rcases hat with h1 | h1
      · have := hu7 g (h1 ▸ h'); omega
      · rw [h1] at h'; injection h' with h'; omega
  · exact (hb.trans (b3a.mono (hH ▸ hB))).grown hg4 (by simp; omega) (fun j hj => (hu7 j hj).1)
/-- The list of paths grown by new ones: what holds once its header is stored. -/
theorem ref_grow {w wr w5 : World} {R E : Nat → Prop} {r H : Nat} {L : Int} {pl ms : List (List ByteArray)} {vL vm v5 : Value} {vsL vs : List Value} (hH : w.heap.size = H) (h1 : R r) (h2 : ∀ k, R k → k < H) (hb : Below H w wr)
    (h3 : ∀ i, i < 2 → wr.frozen? ⟨r, i, none⟩ = false) (h4 : wr.cell? ⟨r, 0, none⟩ = some (.int .i64 L)) (h5 : wr.cell? ⟨r, 1, none⟩ = some vL)
    (h6 : wr.ownsRow 0 30 1 vL pl.length vsL) (h7 : ∀ g, vL.ownBlock = some g → R g ∧ g ≠ r) (h8 : ∀ k, E k → R k ∧ k ≠ r ∧ vL.ownBlock ≠ some k) (h9 : ∀ (i : Nat) (x : List ByteArray), pl[i]? = some x → ∃ u, vsL[i]? = some u ∧ SlE wr E u (svals x))
    (hro : RowsS wr H vm vs ms) (ho5 : w5.ownsRow 0 30 1 v5 (pl.length + ms.length) (vsL ++ vs)) (hg : wr.grownBy w5 vL.ownBlock) (hat : v5.ownBlock = vL.ownBlock ∨ v5.ownBlock = some wr.heap.size) :
    w5.cell? ⟨r, 1, none⟩ = some vL ∧ (∀ i, i < 2 → w5.frozen? ⟨r, i, none⟩ = false) ∧
    RefW (w5.setCell ⟨r, 1, none⟩ v5) (fun k => R k ∨ (H ≤ k ∧ k < w5.heap.size)) r L (pl ++ ms) ∧ Chg R w (w5.setCell ⟨r, 1, none⟩ v5) := by
  have hB := hb.size
  have hs := hg.size
  have hrH := h2 r h1
  have hv7 : ∀ g, vL.ownBlock = some g → g < H := fun g hg => h2 g (h7 g hg).1
  have hkeep : ∀ g, g < wr.heap.size → vL.ownBlock ≠ some g → w5.heap[g]? = wr.heap[g]? := fun g hg' hn => hg.block g hg' (fun e => hn e.symm)
  have hrb : w5.heap[r]? = wr.heap[r]? := hkeep r (by omega) (fun e => (h7 r e).2 rfl)
  have c5 : w5.cell? ⟨r, 1, none⟩ = some vL := (World.cell?_of_block (a := ⟨r, 1, none⟩) hrb).trans h5
  have c4 : w5.cell? ⟨r, 0, none⟩ = some (.int .i64 L) := (World.cell?_of_block (a := ⟨r, 0, none⟩) hrb).trans h4
  have f5 : ∀ i, i < 2 → w5.frozen? ⟨r, i, none⟩ = false := fun i hi => (World.frozen?_of_block (a := ⟨r, i, none⟩) hrb).trans (h3 i hi)
  have hsc : (w5.setCell ⟨r, 1, none⟩ v5).heap.size = w5.heap.size := by simp [World.setCell]
  have hfar : ∀ g, g ≠ r → (w5.setCell ⟨r, 1, none⟩ v5).heap[g]? = w5.heap[g]? := fun g hg => Below.heap_setCell _ _ _ g (by simpa using hg)
  have hne5 : ∀ g, g < wr.heap.size → vL.ownBlock ≠ some g → v5.ownBlock ≠ some g := fun g hg h h' => by
    rcases hat with e | e
    · exact h (e ▸ h')
    · rw [e] at h'; injection h' with h'; omega
  refine ⟨c5, f5, ⟨.inl h1, ?_, fun i hi => frozen_far (f5 i hi), cell_beside (by decide) c4, v5, vsL ++ vs, (fun k => E k ∨ (H ≤ k ∧ k < wr.heap.size ∧ vm.ownBlock ≠ some k)), cell_here c5, ?_, ?_, ?_, ?_⟩, ?_⟩
  · rintro k (hk | hk)
    · have := h2 k hk; omega
    · omega
  · rw [List.length_append]
    refine own_kept ho5 (fun g hg' => hfar g ?_)
    rcases hat with e | e
    · exact (h7 g (e ▸ hg')).2
    · rw [e] at hg'; injection hg' with hg'; omega
  · intro g hg'
    rcases hat with e | e
    · exact ⟨.inl (h7 g (e ▸ hg')).1, (h7 g (e ▸ hg')).2⟩
    · have := (ho5.lt g hg').2
      rw [e] at hg'; injection hg' with hg'
      exact ⟨.inr ⟨by omega, this⟩, by omega⟩
  · rintro k (hk | hk)
    · obtain ⟨q1, q2, q3⟩ := h8 k hk
      exact ⟨.inl q1, q2, hne5 k (by have := h2 k q1; omega) q3⟩
    · refine ⟨.inr ⟨hk.1, by omega⟩, by omega, hne5 k hk.2.1 (fun e => by have := hv7 k e; omega)⟩
  · intro i x hx
    rcases Nat.lt_or_ge i pl.length with hi | hi
    · rw [List.getElem?_append_left hi] at hx
      obtain ⟨u, hu, hsl⟩ := h9 i x hx
      refine ⟨u, by rw [List.getElem?_append_left (by have := (List.getElem?_eq_some_iff.1 hu).1; omega)]; exact hu, (hsl.kept (fun g hg' => ?_)).mono fun g hg' => .inl hg'⟩
      obtain ⟨q1, q2, q3⟩ := h8 g hg'
      exact (hfar g q2).trans (hkeep g (by have := h2 g q1; omega) q3)
    · rw [List.getElem?_append_right hi] at hx
      obtain ⟨u, hu, hsl⟩ := hro.2.2 _ x hx
      have hl : vsL.length = pl.length := by have := h6.1; omega
      refine ⟨u, by rw [List.getElem?_append_right (by omega), hl]; exact hu, (hsl.kept (fun g hg' => ?_)).mono fun g hg' => .inr hg'⟩
      exact (hfar g (by omega)).trans (hkeep g hg'.2.1 (fun e => by have := hv7 g e; omega))
  · refine ⟨hg.os.trans hb.os, hg.tape.trans hb.tape, hg.output.trans hb.output, by omega, fun k hk hn => ?_⟩
    rw [hfar k (fun e => hn (e ▸ h1))]
    exact (hkeep k (by omega) (fun e => hn (h7 k e).1)).trans (hb.block k (by omega))
def nvals (l : List Nat) : List Value := l.map fun (n : Nat) => Value.int .i64 (n : Int)
def outK (pl : List (List ByteArray)) (p : List ByteArray) (k : Nat) : List Nat := (List.range k).map fun n => code pl (p.take (n + 1))
theorem outK_succ (pl : List (List ByteArray)) (p : List ByteArray) (k : Nat) : nvals (outK pl p (k + 1)) = nvals (outK pl p k) ++ [.int .i64 ((code pl (p.take (k + 1)) : Nat) : Int)] := by
  simp [outK, nvals, List.range_succ]
def OutSRel (pl : List (List ByteArray)) (p : List ByteArray) (w : World) (v i : Value) (wr : World) : Prop :=
  ∃ k : Nat, i = .int .i64 ((k : Int) + 1) ∧ k ≤ p.length ∧ wr.ownsRow w.heap.size 3 1 v k (nvals (outK pl p k)) ∧ Below w.heap.size w wr
def MoreRel (pl : List (List ByteArray)) (p : List ByteArray) (w : World) (v i : Value) (wr : World) : Prop :=
  ∃ (k : Nat) (vs : List Value), i = .int .i64 ((k : Int) + 1) ∧ k ≤ p.length ∧ wr.ownsRow w.heap.size 30 1 v (moreK pl p k).length vs ∧ RowsS wr w.heap.size v vs (moreK pl p k) ∧ Below w.heap.size w wr
def addR (pl : List (List ByteArray)) (L : Int) (p : List ByteArray) : List (List ByteArray) × List Nat × Int :=
  if mayB p = false ∨ (p.length : Int) ≠ L then (pl, [], 10) else if 40 < pl.length + (moreR pl p).length then (pl, [], 15) else (pl ++ moreR pl p, outR (pl ++ moreR pl p) p, 0)
theorem nvals_nil {w : World} {B : Nat} : Sl w B (.slice none 0 0) (nvals []) := Sl.nil_
def RefAddPost (R : Nat → Prop) (r : Nat) (L : Int) (res : List (List ByteArray) × List Nat × Int) (w : World) (e : Ending) (w' : World) : Prop :=
  ∃ v R', e = .returned (.tuple #[v, .int .i64 res.2.2]) ∧ Sl w' w'.heap.size v (nvals res.2.1) ∧ Grow w R R' ∧ RefW w' R' r L res.1 ∧ Chg R w w'
set_option maxRecDepth 100000 in
set_option maxHeartbeats 1600000 in
theorem refAdd_no (R : Nat → Prop) (r : Nat) (L : Int) (pl : List (List ByteArray)) (v : Value) (p : List ByteArray) (w : World) (h : RefW w R r L pl) (hpl : pl.length ≤ 1000) (hv : Sl w w.heap.size v (svals p)) (hno : mayB p = false ∨ (p.length : Int) ≠ L) :
    Calls Try.prog 15 #[.pointer (some ⟨r, 0, none⟩), v] w (RefAddPost R r L (addR pl L p) w) := by
  have hr : addR pl L p = (pl, [], 10) := if_pos hno
  rw [hr]; clear hr
  have HM := hid (refMay_any v p w hv)
  obtain ⟨A, c, rfl, hc1, hc2⟩ := hv.formS
  have hcL := h.2.2.2.1
  have HH := hid h; clear h hv
  go_enter Try.func15, Try.ntmps15
  go_wp2_with fail
  refine HM.out.mono ?_
  rintro e w1 ⟨rfl, hq1⟩
  have HQ1 := hid hq1; clear hq1
  have hcL1 : w1.cell? ⟨r, 0, none⟩ = _ := (HQ1.out.cell _).trans hcL
  cases hmb : mayB p with
  | false =>
    clear hno hmb
    go_wp2
    go_ret2
    exact ⟨.slice none 0 0, R, rfl, nvals_nil, Grow.refl _ _, HH.out.below (HQ1.out.below _), Chg.of_qu HQ1.out⟩
  | true =>
    have hL : (p.length : Int) ≠ L := by
      rcases hno with h | h
      · rw [hmb] at h; cases h
      · exact h
    have t0 : ((p.length : Int) != L) = true := by rw [bne_iff_ne]; exact hL
    clear hno hmb hL
    go_wp2
    go_ret2
    exact ⟨.slice none 0 0, R, rfl, nvals_nil, Grow.refl _ _, HH.out.below (HQ1.out.below _), Chg.of_qu HQ1.out⟩
set_option maxRecDepth 100000 in
set_option maxHeartbeats 1600000 in
theorem refAdd_yes (R : Nat → Prop) (r : Nat) (L : Int) (pl : List (List ByteArray)) (v : Value) (p : List ByteArray) (w : World) (h : RefW w R r L pl) (hpl : pl.length ≤ 1000) (hvE : SlE w (fun g => ¬ R g) v (svals p)) (hmb : mayB p = true) (hL : (p.length : Int) = L) :
    Calls Try.prog 15 #[.pointer (some ⟨r, 0, none⟩), v] w (RefAddPost R r L (addR pl L p) w) := by
  obtain ⟨i0, hi, hz0, hz1, hz2⟩ := info_parts info_str
  have hv := hvE.sl
  obtain ⟨i1, hi1, hy0, hy1, hy2⟩ := info_parts info_strs
  have hr : addR pl L p = if 40 < pl.length + (moreR pl p).length then (pl, [], 15) else (pl ++ moreR pl p, outR (pl ++ moreR pl p) p, 0) := if_neg (by rw [hmb]; simp [hL])
  have hp3 : p.length ≤ 3 := by unfold mayB at hmb; simp at hmb; exact hmb.1
  have hm := refMay_any v p w hv
  rw [hmb] at hm
  have HM := hid hm; clear hm
  obtain ⟨A, c, rfl, hc1, hc2⟩ := hv.formS
  have hcL := h.2.2.2.1
  have hrl := h.2.1 r h.1
  have t0 : ((p.length : Int) != L) = false := by rw [bne_eq_false_iff_eq]; exact hL
  have HH := hid h; have HV := hid hv; have HVE := hid hvE.lt; clear hvE; have HR := hid hr; clear h hv hr hmb hL
  unfold maxLen at hc2
  go_enter Try.func15, Try.ntmps15
  go_wp2_with fail
  refine HM.out.mono ?_
  rintro e w1 ⟨rfl, hq1⟩
  have HQ1 := hid hq1; clear hq1
  have hcL1 : w1.cell? ⟨r, 0, none⟩ = _ := (HQ1.out.cell _).trans hcL
  go_wp2
  have HH1 := hid (HH.out.below (HQ1.out.below _))
  have HV1 := hid (Sl.qu' HV.out HQ1.out)
  have hz1' : w1.heap.size = w.heap.size := Qu.size HQ1.out
  go_loopw [7, 8, 9] (fun v i _ wr => MoreRel pl p w v i wr) (fun _ i _ _ => p.length + 1 - (intOf i).toNat)
  case atStart => exact ⟨0, [], rfl, by omega, World.ownsRow_nil _ _ _ _, ⟨rfl, by simp, by simp [moreK]⟩, HQ1.out.below _⟩
  case round =>
    obtain ⟨k, vs, rfl, hk, hown, hrows, hb⟩ := hrel
    have HOW := hid hown; have HRO := hid hrows; have HB := hid hb; clear hown hrows hb
    by_cases hlt : k < p.length
    · have hsh := Sl.head (k + 1) HV.out (by omega)
      rw [← svals_take] at hsh
      have hf := refFind_any R r L pl _ _ wr (HH.out.below HB.out) hpl ((hsh.below HB.out).more HB.out.size)
      have hms := moreK_succ pl p k
      have hml := moreK_len pl p k
      have hcl := code_le pl (p.take (k + 1))
      have htl : (p.take (k + 1)).length = k + 1 := by rw [List.length_take]; omega
      generalize code pl (p.take (k + 1)) = m at *
      have HF := hid hf; have HMS := hid hms; have HSH := hid hsh; clear hf hms hsh
      go_wp2_with fail
      refine HF.out.mono ?_
      rintro e w2 ⟨rfl, hq2⟩
      have HQ2 := hid hq2; clear hq2
      have hs2 : w2.heap.size = wr.heap.size := Qu.size HQ2.out
      by_cases hm0 : m = 0
      · have hms := HMS.out
        rw [if_pos hm0] at hms
        have t1 : ((m : Int) == 0) = true := by simp [hm0]
        have HMS2 := hid hms; clear hms hm0
        have HTL := hid htl; clear htl
        go_wp2_with (at_builtin; refine stop_here ?_)
        refine go_on ?_
        refine app_own (.tmp 37) (.tmp 40) 30 30 rfl rfl w2.heap.size 9 i0 (.string ByteArray.empty) 1 16 Try.underlying30 hi hz0 hz1 hz2 rfl (by omega) _ 0 [] rfl (World.ownsRow_nil _ _ _ _) _ (k + 1) (svals (p.take (k + 1))) rfl (by
          have := src_sl w2 Try.underlying30 ((HSH.out.below HB.out).qu' HQ2.out) (svals_one _)
          rwa [svals_len, HTL.out] at this) (by simp [maxLen]; omega) (by omega) (Nat.le_refl _) ?_
        intro v3 w3 ho3 hg3 hb3
        rw [Nat.zero_add, List.nil_append] at ho3
        obtain ⟨A3, c3, rfl, -, -, -⟩ := own_cells ho3
        have HO3 := hid ho3; have HB3 := hid hb3; clear ho3 hg3 hb3
        have hsz3 := HB3.out.size
        have ho7 : w3.ownsRow w.heap.size 30 1 u7 (moreK pl p k).length vs := own_kept HOW.out (fun g hg => by
          have := (HOW.out.lt g hg).2
          exact (HB3.out.block g (by omega)).trans ((HQ2.out.below wr.heap.size).block g this))
        have HO7 := hid ho7; clear ho7
        have hsB := HB.out.size
        go_wp2_with (at_builtin; refine stop_here ?_)
        refine go_on ?_
        refine app_own_at (.tmp 42) (.tmp 44) 22 22 rfl rfl w.heap.size 30 i1 (.slice none 0 0) 1 24 Try.underlying22 hi1 hy0 hy1 hy2 rfl (by omega) u7 _ _ rfl (HO7.out.alloc _) (.slice (some ⟨w3.heap.size, 0, none⟩) 1 1) 1 [.slice A3 (k + 1) c3] rfl (Src.ofSlice _ Try.underlying22 _ 1 1 _ rfl (cell_one_new _ _ _) (by simp; rfl)) (by unfold maxLen; omega) (by omega) (by simp; omega) ?_
        intro v4 w4 ho4 hg4 hb4 hat4
        obtain ⟨hrows4, hbel4⟩ := more_step rfl HOW.out HRO.out HB.out HQ2.out ⟨hsz3, HO3.out⟩ rfl HB3.out hg4 hat4
        have HO4 := hid ho4; have HR4 := hid hrows4; have HB4 := hid hbel4; clear ho4 hg4 hb4 hat4 hrows4 hbel4
        go_wp2
        go_roundw
        case rel =>
          refine ⟨k + 1, vs ++ [.slice A3 (k + 1) c3], by go_num, by omega, ?_, ?_, HB4.out⟩
          · rw [HMS2.out, List.length_append, List.length_singleton]; exact HO4.out
          · rw [HMS2.out]; exact HR4.out
        case measure => simp [intOf]; omega
      · have hms := HMS.out
        rw [if_neg hm0] at hms
        have t1 : ((m : Int) == 0) = false := by rw [beq_eq_false_iff_ne]; omega
        have HMS2 := hid hms; clear hms hm0 htl
        go_wp2
        go_roundw
        case rel =>
          refine ⟨k + 1, vs, by go_num, by omega, ?_, ?_, HB.out.trans (HQ2.out.below _)⟩
          · rw [HMS2.out]; exact own_kept HOW.out (fun g hg => (HQ2.out.below wr.heap.size).block g (HOW.out.lt g hg).2)
          · rw [HMS2.out]; exact HRO.out.kept (HQ2.out.below _)
        case measure => simp [intOf]; omega
    · obtain rfl : k = p.length := by omega
      have hmr : moreK pl p p.length = moreR pl p := rfl
      have hml := moreK_len pl p p.length
      rw [hmr] at hml
      have HOW' : Hid (wr.ownsRow w.heap.size 30 1 u7 (moreR pl p).length vs) := HOW
      have HRO' : Hid (RowsS wr w.heap.size u7 vs (moreR pl p)) := HRO
      clear HOW HRO hmr
      generalize moreR pl p = ms at *
      obtain ⟨k1, k2, k3, k4, vL, vsL, E, k5, k6, k7, k8, k9⟩ := HH.out.below HB.out
      have HK6 := hid k6
      obtain ⟨AL, cL, rfl, hcL1', hcL2', -⟩ := own_cells k6
      have HK := hid (And.intro k3 (And.intro k4 (And.intro k5 (And.intro k7 (And.intro k8 k9))))); clear k6 k7 k8 k9 k4
      have k3a := k3 1 (by omega); clear k3 k2
      obtain ⟨Am, cm, rfl, hcm1, hcm2, -⟩ := own_cells HOW'.out
      unfold maxLen at hcL2' hcm2
      by_cases hgt : 40 < pl.length + ms.length
      · have hr := HR.out
        rw [if_pos hgt] at hr
        have HR2 := hid hr; clear hr
        have t1 : decide ((40 : Int) < (pl.length : Int) + (ms.length : Int)) = true := by rw [decide_eq_true_eq]; omega
        go_wp2
        go_ret2
        exact ⟨.slice none 0 0, R, by rw [HR2.out]; rfl, by rw [HR2.out]; exact nvals_nil, Grow.refl _ _, by rw [HR2.out]; exact HH.out.below HB.out, Chg.of_below HB.out⟩
      · have hr := HR.out
        rw [if_neg hgt] at hr
        have HR2 := hid hr; clear hr
        have t1 : decide ((40 : Int) < (pl.length : Int) + (ms.length : Int)) = false := by rw [decide_eq_false_iff_not]; omega
        obtain ⟨i2, hi2, hx0, hx1, hx2⟩ := info_parts info_int
        have hvl : vs.length = ms.length := HRO'.out.1
        go_wp2_with (at_builtin; refine stop_here ?_)
        refine go_on ?_
        refine app_own_at (.tmp 59) (.tmp 60) 22 22 rfl rfl 0 30 i1 (.slice none 0 0) 1 24 Try.underlying22 hi1 hy0 hy1 hy2 rfl (by omega) (.slice AL pl.length cL) pl.length vsL rfl HK6.out (.slice Am ms.length cm) ms.length vs rfl (by
          have := src_sl wr Try.underlying22 (Sl.of_own HOW'.out) HRO'.out.2.1
          rwa [hvl] at this) (by unfold maxLen; omega) (by omega) (by omega) ?_
        intro v5 w5 ho5 hg5 hb5 hat5
        obtain ⟨A5, c5', rfl, -, -, -⟩ := own_cells ho5
        obtain ⟨q3, q4, q5, q7, q8, q9⟩ := HK.out
        obtain ⟨c5, f5, hrw5, hchg5⟩ := ref_grow rfl HH.out.1 HH.out.2.1 HB.out q3 q4 q5 HK6.out q7 q8 q9 HRO'.out ho5 hg5 hat5
        have f51 := f5 1 (by omega)
        have HRW := hid hrw5; have HCH := hid hchg5; have hs5 := hg5.size
        clear ho5 hg5 hb5 hat5 q3 q4 q5 q7 q8 q9 hrw5 hchg5 f5
        go_wp2
        have hz6 : (w5.setCell ⟨r, 1, none⟩ (.slice A5 (pl.length + ms.length) c5')).heap.size = w5.heap.size := by simp [World.setCell]
        obtain ⟨w6, hw6⟩ : ∃ w6, w6 = w5.setCell ⟨r, 1, none⟩ (.slice A5 (pl.length + ms.length) c5') := ⟨_, rfl⟩
        rw [← hw6] at HRW HCH hz6 ⊢
        clear hw6 c5 f51
        obtain ⟨wo, rfl⟩ : ∃ wo : World, wo = wr := ⟨_, rfl⟩
        have hv6 : SlE w6 (fun g => ¬ R g ∧ g < w.heap.size) (.slice A p.length c) (svals p) := HVE.out.kept (HCH.out.kept (fun g hg => ⟨hg.2, hg.1⟩))
        have HV6 := hid hv6.sl; clear hv6
        have hpl2 : (pl ++ ms).length ≤ 1000 := by rw [List.length_append]; omega
        go_loopw [10, 11] (fun v i wr => OutSRel (pl ++ ms) p w6 v i wr) (fun _ i _ => p.length + 1 - (intOf i).toNat)
        case atStart => exact ⟨0, rfl, by omega, World.ownsRow_nil _ _ _ _, Below.refl _ _⟩
        case round =>
          obtain ⟨k, rfl, hk, hown, hb⟩ := hrel
          have HOW2 := hid hown; have HB2 := hid hb; clear hown hb
          have hsB2 := HB2.out.size
          by_cases hlt : k < p.length
          · have hsh := Sl.head (k + 1) HV6.out (by omega)
            rw [← svals_take] at hsh
            have hf := refFind_any _ r L (pl ++ ms) _ _ wr (HRW.out.below HB2.out) hpl2 ((hsh.below HB2.out).more HB2.out.size)
            have hos := outK_succ (pl ++ ms) p k
            have hcl := code_le (pl ++ ms) (p.take (k + 1))
            generalize code (pl ++ ms) (p.take (k + 1)) = m at *
            have HF := hid hf; have HOS := hid hos; clear hf hos hsh
            go_wp2_with fail
            refine HF.out.mono ?_
            rintro e w7 ⟨rfl, hq7⟩
            have HQ7 := hid hq7; clear hq7
            have hs7 : w7.heap.size = wr.heap.size := Qu.size HQ7.out
            have ho7 : w7.ownsRow w6.heap.size 3 1 u10 k (nvals (outK (pl ++ ms) p k)) := own_kept HOW2.out (fun g hg => (HQ7.out.below wr.heap.size).block g (HOW2.out.lt g hg).2)
            have hs7' : w6.heap.size ≤ w7.heap.size := by omega
            have HO7 := hid ho7; clear ho7 hs7
            go_wp2_with (at_builtin; refine stop_here ?_)
            refine go_on ?_
            refine app_own (.tmp 70) (.tmp 76) 35 35 rfl rfl w6.heap.size 3 i2 (.int .i64 0) 1 8 Try.underlying35 hi2 hx0 hx1 hx2 rfl (by omega) _ _ _ rfl (HO7.out.alloc _) (.slice (some ⟨w7.heap.size, 0, none⟩) 1 1) 1 [_] rfl (Src.ofSlice _ Try.underlying35 _ 1 1 _ rfl (cell_one_new _ _ _) (by simp; rfl)) (by unfold maxLen; omega) (by omega) (by simp; omega) ?_
            intro v8 w8 ho8 hg8 hb8
            have HO8 := hid ho8; have HB8 := hid (((HB2.out.trans (HQ7.out.below _)).alloc (by omega) _).trans hb8); clear ho8 hg8 hb8
            go_wp2
            go_roundw
            case rel => exact ⟨k + 1, by go_num, by omega, by rw [HOS.out]; exact HO8.out, HB8.out⟩
            case measure => simp [intOf]; omega
          · obtain rfl : k = p.length := by omega
            go_wp2
            go_ret2
            refine ⟨_, _, by rw [HR2.out]; rfl, by rw [HR2.out]; exact Sl.of_own HOW2.out, ?_, by rw [HR2.out]; exact HRW.out.below HB2.out, HCH.out.trans (Chg.of_below (D := R) HB2.out) (fun _ h => .inl h)⟩
            exact ⟨fun _ h => .inl h, fun k hk => hk.elim .inl (fun h => .inr h.1)⟩
theorem refAdd_any (R : Nat → Prop) (r : Nat) (L : Int) (pl : List (List ByteArray)) (v : Value) (p : List ByteArray) (w : World) (h : RefW w R r L pl) (hpl : pl.length ≤ 1000) (hv : SlE w (fun g => ¬ R g) v (svals p)) :
    Calls Try.prog 15 #[.pointer (some ⟨r, 0, none⟩), v] w (RefAddPost R r L (addR pl L p) w) := by
  by_cases hno : mayB p = false ∨ (p.length : Int) ≠ L
  · exact refAdd_no R r L pl v p w h hpl hv.sl hno
  · refine refAdd_yes R r L pl v p w h hpl hv ?_ ?_
    · cases hm : mayB p with
      | true => rfl
      | false => exact absurd (.inl hm) hno
    · by_cases hl : (p.length : Int) = L
      · exact hl
      · exact absurd (.inr hl) hno
end Go.Proofs.Ytbledkffkckjbaa
