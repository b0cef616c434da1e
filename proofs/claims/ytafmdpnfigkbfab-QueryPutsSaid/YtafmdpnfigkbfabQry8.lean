/- The laws' cut: rows of one's own, of lists of texts that were handed in. -/
import Derived.Test.YtafmdpnfigkbfabQry6
namespace Go.Proofs.Ytafmdpnfigkbfab
open Go.ChangeShapes Go.WideShapes Go.ChangeAt Go.RowKit
set_option linter.unusedVariables false
set_option linter.unusedSimpArgs false

/-- A row of one's own, from base on; its lists lie below B. -/
def RowP (w : World) (base B : Nat) (out : Value) (M : List (List ByteArray)) : Prop :=
  ∃ vs : List Value, vs.length = M.length ∧ w.ownsRow base 23 1 out M.length vs ∧ ∀ j, j < M.length → rdStrs w B [vs.getD j undef] (M.getD j [])
theorem RowP.nil_ (w : World) (base B : Nat) : RowP w base B (.slice none 0 0) [] := ⟨[], rfl, World.ownsRow_nil _ _ _ _, fun j hj => by simp at hj⟩
theorem RowP.kept {w w' : World} {base B : Nat} {out : Value} {M : List (List ByteArray)} (h : RowP w base B out M) (hb : Below B w w') (k : ∀ g, out.ownBlock = some g → w'.heap[g]? = w.heap[g]?) : RowP w' base B out M := by
  obtain ⟨vs, h1, h2, h3⟩ := h
  exact ⟨vs, h1, own_kept h2 k, fun j hj => good_strs.stays (h3 j hj) hb⟩
theorem RowP.lt {w : World} {base B : Nat} {out : Value} {M : List (List ByteArray)} (h : RowP w base B out M) : ∀ g, out.ownBlock = some g → base ≤ g ∧ g < w.heap.size := by
  obtain ⟨vs, h1, h2, h3⟩ := h
  exact h2.lt
theorem RowP.app {w w' : World} {base B : Nat} {v' u : Value} {M : List (List ByteArray)} {vs : List Value} {x : List ByteArray} (h1 : vs.length = M.length) (h3 : ∀ j, j < M.length → rdStrs w B [vs.getD j undef] (M.getD j []))
    (hu : rdStrs w B [u] x) (hb : Below B w w') (ho : w'.ownsRow base 23 1 v' (M.length + 1) (vs ++ [u])) : RowP w' base B v' (M ++ [x]) := by
  refine ⟨vs ++ [u], by simp [h1], by rw [List.length_append]; exact ho, fun j hj => ?_⟩
  rw [List.length_append] at hj
  rcases Nat.lt_or_ge j M.length with hlt | hge
  · rw [List.getD_eq_getElem?_getD, List.getElem?_append_left (by omega), ← List.getD_eq_getElem?_getD, List.getD_eq_getElem?_getD (l := M ++ [x]), List.getElem?_append_left hlt, ← List.getD_eq_getElem?_getD]
    exact good_strs.stays (h3 j hlt) hb
  · obtain rfl : j = M.length := by simp at hj; omega
    rw [List.getD_eq_getElem?_getD, List.getElem?_append_right (by omega), List.getD_eq_getElem?_getD (l := M ++ [x]), List.getElem?_append_right (by omega), h1, Nat.sub_self]
    exact good_strs.stays hu hb
theorem RowP.rows {w : World} {base B N : Nat} {out : Value} {M : List (List ByteArray)} (h : RowP w base B out M) (hB : B ≤ N) (hN : w.heap.size ≤ N) : rdSlice 1 rdStrs w N [out] M := by
  obtain ⟨vs, h1, h2, h3⟩ := h
  obtain ⟨A, c, rfl, g1, g2, g3⟩ := own_cells h2
  refine ⟨A, c, rfl, g1, g2, fun h0 => ?_⟩
  obtain ⟨g, rfl, -, hg, -⟩ := g3 h0
  refine ⟨g, 0, rfl, by omega, fun i x hx => ?_⟩
  have hil := (List.getElem?_eq_some_iff.1 hx).1
  have hgd : M.getD i [] = x := by rw [List.getD_eq_getElem?_getD, hx]; rfl
  have hc2 := h2.cellAt (g := g) i (by omega)
  refine ⟨[vs.getD i undef], rfl, fun j u hu => ?_, ?_⟩
  · cases j with
    | succ j => simp at hu
    | zero =>
      simp at hu; subst hu
      rw [Nat.mul_one, Nat.add_zero, Nat.zero_add, hc2, List.getElem?_eq_getElem (show i < vs.length by omega)]; rfl
  · have := h3 i hil
    rw [hgd] at this
    exact good_strs.more this hB
def cutL (l : List (List ByteArray)) : List (List ByteArray) := (l.take 8).map fun p => p.take 5
theorem cutL_len (l : List (List ByteArray)) : (cutL l).length = min 8 l.length := by simp [cutL]
theorem cutL_mem {l : List (List ByteArray)} : ∀ p ∈ cutL l, p.length ≤ 5 := by
  intro p hp
  unfold cutL at hp
  obtain ⟨x, hx, rfl⟩ := List.mem_map.1 hp
  rw [List.length_take]; omega
def CutRel (l : List (List ByteArray)) (B : Nat) (w : World) (out i : Value) (wr : World) : Prop := ∃ k : Nat, k ≤ (cutL l).length ∧ i = .int .i64 k ∧ RowP wr w.heap.size B out ((cutL l).take k) ∧ Below w.heap.size w wr
def CutPost (M : List (List ByteArray)) (B : Nat) (w : World) (e : Ending) (w' : World) : Prop := ∃ r, e = .returned r ∧ RowP w' w.heap.size B r M ∧ Below w.heap.size w w'
set_option maxRecDepth 100000 in
set_option maxHeartbeats 1600000 in
theorem cut_any (v : Value) (l : List (List ByteArray)) (w : World) (B : Nat) (hB : B ≤ w.heap.size) (hv : rdSlice 1 rdStrs w B [v] l) :
    Calls Try.prog 16 #[v] w (CutPost (cutL l) B w) := by
  obtain ⟨i0, hi, hz0, hz1, hz2⟩ := info_parts info_strsQ
  obtain ⟨A, c, e, hc, hm⟩ := hv.open_
  simp only [List.cons.injEq, and_true] at e
  subst e
  have HV := hid hv
  have x1 : (cutL l).length ≤ 8 := by rw [cutL_len]; omega
  have x2 : (cutL l).length ≤ l.length := by rw [cutL_len]; omega
  have x3 : 8 ≤ (cutL l).length ∨ l.length ≤ (cutL l).length := by rw [cutL_len]; omega
  clear hv
  go_enter Try.func16, Try.ntmps16
  go_wp2
  go_loopw [3, 4] (fun out i wr => CutRel l B w out i wr) (fun _ i _ => (cutL l).length - (intOf i).toNat)
  case atStart => exact ⟨0, by omega, rfl, RowP.nil_ _ _ _, Below.refl _ _⟩
  case round =>
    obtain ⟨k, hk, rfl, hrow, hb⟩ := hrel
    have hs := hb.size
    have HB := hid hb; have HRW := hid hrow
    clear hb hrow
    by_cases hlt : k < (cutL l).length
    · have hl1 : k < l.length := by omega
      have hl2 : k < 8 := by omega
      have d1 : decide ((k : Int) < (l.length : Int)) = true := by rw [decide_eq_true_eq]; omega
      have d2 : decide ((k : Int) < 8) = true := by rw [decide_eq_true_eq]; omega
      obtain ⟨b, off, AM, cM, rfl, hbl, hc0, hp⟩ := paths_at HV.out hl1
      have hcw := cellK HB.out (by omega) hc0
      have e1 : (cutL l).take (k + 1) = (cutL l).take k ++ [(l[k]).take 5] := by
        rw [List.take_succ_eq_append_getElem hlt]; simp [cutL]
      have hln : ((cutL l).take k).length = k := by rw [List.length_take]; omega
      generalize l[k] = p at *
      obtain ⟨hpc, hpm⟩ := hp.cap
      have hways : ((5 : Int) < (p.length : Int) ∧ 5 ≤ p.length ∧ rdStrs w B [.slice AM 5 cM] (p.take 5)) ∨ (¬ (5 : Int) < (p.length : Int) ∧ rdStrs w B [.slice AM p.length cM] (p.take 5)) := by
        by_cases h : 5 < p.length
        · exact .inl ⟨by omega, by omega, hp.head_ (by omega)⟩
        · exact .inr ⟨by omega, by rw [List.take_of_length_le (by omega)]; exact hp⟩
      generalize p.take 5 = p5 at *
      generalize hpl : p.length = pl at *
      have E1 := hid e1
      clear hp hc0 e1
      rcases hways with ⟨y, y5, hx⟩ | ⟨y, hx⟩
      all_goals
        have HX := hid (good_strs.stays hx (HB.out.mono hB))
        obtain ⟨vs, r1, r2, r3⟩ := HRW.out
        clear hx
        go_wp2_with (at_builtin; refine stop_here ?_)
        refine go_on ?_
        refine app_own (.tmp 25) (.tmp 27) 41 41 rfl rfl w.heap.size 23 i0 (.slice none 0 0) 1 24 Try.underlying41 hi hz0 hz1 hz2 rfl (by decide) _ ((cutL l).take k).length vs rfl (r2.alloc _) (.slice (some ⟨wr.heap.size, 0, none⟩) 1 1) 1 [_] rfl (Src.ofSlice _ Try.underlying41 _ 1 1 _ rfl (cell_one_at' _ _ _ rfl) (by simp; rfl)) (by rw [hln]; simp only [maxLen]; omega) (by rw [hln]; omega) (by rw [World.size_alloc]; omega) ?_
        intro v' w3 ho' hg' hb3
        have hb4 : Below w.heap.size wr w3 := ((Below.refl _ _).alloc hs _).trans hb3
        have hrow' := RowP.app r1 r3 HX.out (hb4.mono hB) ho'
        rw [← E1.out] at hrow'
        have HR' := hid hrow'
        have HB3 := hid (HB.out.trans hb4)
        clear ho' hg' hb3 hb4 hrow' r1 r2 r3
        go_wp2
        go_roundw
        case rel => exact ⟨k + 1, by omega, by go_num, HR'.out, HB3.out⟩
        case measure => simp [intOf]; omega
    · have hke : k = (cutL l).length := by omega
      have hfin := HRW.out
      rw [List.take_of_length_le (by omega)] at hfin
      have HF := hid hfin
      clear hfin HRW
      have hways : ¬ k < l.length ∨ (k < l.length ∧ ¬ k < 8) := by
        omega
      clear hlt hke hk
      rcases hways with y1 | ⟨y1, y2⟩
      · go_wp2
        go_ret
        exact ⟨_, rfl, HF.out, HB.out⟩
      · go_wp2
        go_ret
        exact ⟨_, rfl, HF.out, HB.out⟩
end Go.Proofs.Ytafmdpnfigkbfab
