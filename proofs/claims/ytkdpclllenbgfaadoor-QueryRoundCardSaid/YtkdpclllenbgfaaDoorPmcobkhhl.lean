/- 2 texts of this claim, in build order. -/
import Derived.Test.YtkdpclllenbgfaaDoorPnpoaplpa
import Derived.Test.YtkdpclllenbgfaaDoorPklllhldg
import Derived.Test.YtkdpclllenbgfaaDoorPijljgnfk
/- The laws' cut: rows of one's own, of lists of texts that were handed in. -/
namespace Go.Proofs.YtkdpclllenbgfaaDoor
open Go.ChangeShapes Go.WideShapes Go.ChangeAt Go.RowKit
set_option linter.unusedVariables false
set_option linter.unusedSimpArgs false

def cutQ (l : List (List ByteArray)) : List (List ByteArray) := (l.take 8).map fun p => p.take 5
theorem cutQ_len (l : List (List ByteArray)) : (cutQ l).length = min 8 l.length := by simp [cutQ]
theorem cutQ_mem {l : List (List ByteArray)} : ∀ p ∈ cutQ l, p.length ≤ 5 := by
  intro p hp
  unfold cutQ at hp
  obtain ⟨x, hx, rfl⟩ := List.mem_map.1 hp
  rw [List.length_take]; omega
def CutRel (l : List (List ByteArray)) (B : Nat) (w : World) (out i : Value) (wr : World) : Prop := ∃ k : Nat, k ≤ (cutQ l).length ∧ i = .int .i64 k ∧ RowP wr w.heap.size B out ((cutQ l).take k) ∧ Below w.heap.size w wr
def CutPost (M : List (List ByteArray)) (B : Nat) (w : World) (e : Ending) (w' : World) : Prop := ∃ r, e = .returned r ∧ RowP w' w.heap.size B r M ∧ Below w.heap.size w w'
set_option maxRecDepth 100000 in
set_option maxHeartbeats 1600000 in
theorem cut_any (v : Value) (l : List (List ByteArray)) (w : World) (B : Nat) (hB : B ≤ w.heap.size) (hv : rdSlice 1 rdStrs w B [v] l) :
    Calls Tryd.prog 32 #[v] w (CutPost (cutQ l) B w) := by
  obtain ⟨i0, hi, hz0, hz1, hz2⟩ := info_parts info_strsQ
  obtain ⟨A, c, e, hc, hm⟩ := hv.open_
  simp only [List.cons.injEq, and_true] at e
  subst e
  have HV := hid hv
  have x1 : (cutQ l).length ≤ 8 := by rw [cutQ_len]; omega
  have x2 : (cutQ l).length ≤ l.length := by rw [cutQ_len]; omega
  have x3 : 8 ≤ (cutQ l).length ∨ l.length ≤ (cutQ l).length := by rw [cutQ_len]; omega
  clear hv
  go_enter Tryd.func32, Tryd.ntmps32
  go_wp2
  go_loopw [3, 4] (fun out i wr => CutRel l B w out i wr) (fun _ i _ => (cutQ l).length - (intOf i).toNat)
  case atStart => exact ⟨0, by omega, rfl, RowP.nil_ _ _ _, Below.refl _ _⟩
  case round =>
    obtain ⟨k, hk, rfl, hrow, hb⟩ := hrel
    have hs := hb.size
    have HB := hid hb; have HRW := hid hrow
    clear hb hrow
    by_cases hlt : k < (cutQ l).length
    · have hl1 : k < l.length := by omega
      have hl2 : k < 8 := by omega
      have d1 : decide ((k : Int) < (l.length : Int)) = true := by rw [decide_eq_true_eq]; omega
      have d2 : decide ((k : Int) < 8) = true := by rw [decide_eq_true_eq]; omega
      obtain ⟨b, off, AM, cM, rfl, hbl, hc0, hp⟩ := paths_at HV.out hl1
      have hcw := cellK HB.out (by omega) hc0
      have e1 : (cutQ l).take (k + 1) = (cutQ l).take k ++ [(l[k]).take 5] := by
        rw [List.take_succ_eq_append_getElem hlt]; simp [cutQ]
      have hln : ((cutQ l).take k).length = k := by rw [List.length_take]; omega
      generalize l[k] = p at *
      obtain ⟨hpc, hpm⟩ := hp.cap
      have hways : ((5 : Int) < (p.length : Int) ∧ 5 ≤ p.length ∧ rdStrs w B [.slice AM 5 cM] (p.take 5)) ∨ (¬ (5 : Int) < (p.length : Int) ∧ rdStrs w B [.slice AM p.length cM] (p.take 5)) := by
        by_cases h : 5 < p.length
        · exact .inl ⟨by omega, by omega, hp.head_ (by omega)⟩
        · exact .inr ⟨by omega, by rw [List.take_of_length_le (by omega)]; exact hp⟩
      generalize p.take 5 = p5 at *
      generalize hpl : p.length = pl at *
      have E1 := hid e1
      clear hp hc0 e1
      rcases hways with ⟨y, y5, hx⟩ | ⟨y, hx⟩
      all_goals
        have HX := hid (good_strs.stays hx (HB.out.mono hB))
        obtain ⟨vs, r1, r2, r3⟩ := HRW.out
        clear hx
        go_wp2_with (at_builtin; refine stop_here ?_)
        refine go_on ?_
        refine app_own (.tmp 25) (.tmp 27) 55 55 rfl rfl w.heap.size 41 i0 (.slice none 0 0) 1 24 Tryd.underlying55 hi hz0 hz1 hz2 rfl (by decide) _ ((cutQ l).take k).length vs rfl (r2.alloc _) (.slice (some ⟨wr.heap.size, 0, none⟩) 1 1) 1 [_] rfl (Src.ofSlice _ Tryd.underlying55 _ 1 1 _ rfl (cell_one_at' _ _ _ rfl) (by simp; rfl)) (by rw [hln]; simp only [maxLen]; omega) (by rw [hln]; omega) (by rw [World.size_alloc]; omega) ?_
        intro v' w3 ho' hg' hb3
        have hb4 : Below w.heap.size wr w3 := ((Below.refl _ _).alloc hs _).trans hb3
        have hrow' := RowP.app r1 r3 HX.out (hb4.mono hB) ho'
        rw [← E1.out] at hrow'
        have HR' := hid hrow'
        have HB3 := hid (HB.out.trans hb4)
        clear ho' hg' hb3 hb4 hrow' r1 r2 r3
        go_wp2
        go_roundw
        case rel => exact ⟨k + 1, by omega, by go_num, HR'.out, HB3.out⟩
        case measure => simp [intOf]; omega
    · have hke : k = (cutQ l).length := by omega
      have hfin := HRW.out
      rw [List.take_of_length_le (by omega)] at hfin
      have HF := hid hfin
      clear hfin HRW
      have hways : ¬ k < l.length ∨ (k < l.length ∧ ¬ k < 8) := by
        omega
      clear hlt hke hk
      rcases hways with y1 | ⟨y1, y2⟩
      · go_wp2
        go_ret
        exact ⟨_, rfl, HF.out, HB.out⟩
      · go_wp2
        go_ret
        exact ⟨_, rfl, HF.out, HB.out⟩
end Go.Proofs.YtkdpclllenbgfaaDoor
/- The laws' few: a query with few of all. -/
namespace Go.Proofs.YtkdpclllenbgfaaDoor
open Go.ChangeShapes Go.WideShapes Go.ChangeAt Go.RowKit
set_option linter.unusedVariables false
set_option linter.unusedSimpArgs false

def fewF (f : FilterX) : FilterX := (f.1, f.2.1, cutQ f.2.2)
def fewQ (q : QueryX) : QueryX := (q.1.take 6, (q.2.take 5).map fewF)
/-- A row of one's own, of filters whose members are rows of one's own. -/
def FRow (w : World) (base B : Nat) (fv : Value) (M : List FilterX) : Prop :=
  ∃ mvs : List Value, mvs.length = M.length ∧ w.ownsRow base 57 3 fv M.length (fvals M mvs) ∧
    ∀ j (h : j < M.length), RowP w base B (mvs.getD j undef) M[j].2.2 ∧ ∀ g, (mvs.getD j undef).ownBlock = some g → fv.ownBlock ≠ some g
theorem FRow.nil_ (w : World) (base B : Nat) : FRow w base B (.slice none 0 0) [] := ⟨[], rfl, World.ownsRow_nil _ _ _ _, fun j hj => by simp at hj⟩
theorem FRow.kept {w w' : World} {base B : Nat} {fv : Value} {M : List FilterX} (h : FRow w base B fv M) (hb : Below B w w') (k : ∀ g, base ≤ g → g < w.heap.size → w'.heap[g]? = w.heap[g]?) : FRow w' base B fv M := by
  obtain ⟨mvs, h1, h2, h3⟩ := h
  exact ⟨mvs, h1, own_kept h2 (fun g hg => k g (h2.lt g hg).1 (h2.lt g hg).2), fun j hj => ⟨(h3 j hj).1.kept hb (fun g hg => k g ((h3 j hj).1.lt g hg).1 ((h3 j hj).1.lt g hg).2), (h3 j hj).2⟩⟩
theorem FRow.app {wa w4 : World} {base B : Nat} {fv v' mv : Value} {M : List FilterX} {f : FilterX} {mvs : List Value} (h1 : mvs.length = M.length)
    (h3 : ∀ j (h : j < M.length), RowP wa base B (mvs.getD j undef) M[j].2.2 ∧ ∀ g, (mvs.getD j undef).ownBlock = some g → fv.ownBlock ≠ some g)
    (hm : RowP wa base B mv f.2.2) (hn : ∀ g, mv.ownBlock = some g → fv.ownBlock ≠ some g) (hb : Below B wa w4)
    (ho : w4.ownsRow base 57 3 v' (M.length + 1) (fvals M mvs ++ fval f mv)) (hg : wa.grownBy w4 fv.ownBlock) (hat : v'.ownBlock = fv.ownBlock ∨ v'.ownBlock = some wa.heap.size) : FRow w4 base B v' (M ++ [f]) := by
  have hv : ∀ (y : Value) (l : List (List ByteArray)), RowP wa base B y l → (∀ g, y.ownBlock = some g → fv.ownBlock ≠ some g) → RowP w4 base B y l ∧ ∀ g, y.ownBlock = some g → v'.ownBlock ≠ some g := fun y l hy hny =>
    ⟨hy.kept hb (fun g hgy => hg.block g (hy.lt g hgy).2 (fun e => hny g hgy e.symm)), fun g hgy e => by
      rcases hat with h | h
      · exact hny g hgy (h ▸ e)
      · rw [h] at e; injection e with e; have := (hy.lt g hgy).2; omega⟩
  refine ⟨mvs ++ [mv], by simp [h1], by rw [List.length_append, fvals_snoc h1]; exact ho, fun j hj => ?_⟩
  rcases Nat.lt_or_ge j M.length with hlt | hge
  · have e1 : (mvs ++ [mv]).getD j undef = mvs.getD j undef := by rw [List.getD_eq_getElem?_getD, List.getElem?_append_left (by omega), ← List.getD_eq_getElem?_getD]
    have e2 : (M ++ [f])[j] = M[j] := List.getElem_append_left hlt
    rw [e1, e2]
    exact hv _ _ (h3 j hlt).1 (h3 j hlt).2
  · obtain rfl : j = M.length := by rw [List.length_append] at hj; simp at hj; omega
    have e1 : (mvs ++ [mv]).getD M.length undef = mv := by rw [List.getD_eq_getElem?_getD, List.getElem?_append_right (by omega), h1, Nat.sub_self]; rfl
    have e2 : (M ++ [f])[M.length] = f := by rw [List.getElem_append_right (by omega)]; simp
    rw [e1, e2]
    exact hv _ _ hm hn
theorem FRow.rows {w : World} {base B N : Nat} {fv : Value} {M : List FilterX} (h : FRow w base B fv M) (hB : B ≤ N) (hN : w.heap.size ≤ N) (hi : ∀ f ∈ M, InI64 f.1 ∧ InI64 f.2.1) : rdSlice 3 rdFilter w N [fv] M ∧ ∃ A c, fv = .slice A M.length c := by
  obtain ⟨mvs, h1, h2, h3⟩ := h
  have hown := h2
  rcases h2.2 with ⟨rfl, e0⟩ | ⟨g, cap, cur, rfl, hb, hg, hnc, hcm, hcs, htk⟩
  · have : M = [] := List.length_eq_zero_iff.1 e0
    subst this
    exact ⟨⟨none, 0, rfl, Nat.le_refl _, by simp [maxLen], fun h => by simp at h⟩, none, 0, rfl⟩
  · refine ⟨⟨_, cap, rfl, hnc, hcm, fun h0 => ⟨g, 0, rfl, by have := (hown.lt g rfl).2; omega, fun i x hx => ?_⟩⟩, _, _, rfl⟩
    have hil := (List.getElem?_eq_some_iff.1 hx).1
    have hxe : M[i] = x := by rw [List.getElem?_eq_getElem hil] at hx; injection hx
    have hrow := (h3 i hil).1
    rw [hxe] at hrow
    refine ⟨fval x (mvs.getD i undef), rfl, fun j u hu => ?_, rfl, ⟨rfl, (hi x (List.mem_of_getElem? hx)).1⟩, rfl, ⟨rfl, (hi x (List.mem_of_getElem? hx)).2⟩, hrow.rows hB hN⟩
    have hj : j < 3 := (List.getElem?_eq_some_iff.1 hu).1
    have hc := hown.cellAt (g := g) (i * 3 + j) (by omega)
    rw [Nat.zero_add, hc, fvals_at h1 i hil j hj, hxe, hu]
end Go.Proofs.YtkdpclllenbgfaaDoor
