/- The program's dictionary: slices.Reverse at texts, Path, size, Up. -/
import Derived.Test.YtbledkffkckjbaaDictPut
namespace Go.Proofs.Ytbledkffkckjbaa
open Go.ChangeShapes Go.WideShapes Go.ChangeAt Go.RowKit Go.Maps
set_option linter.unusedVariables false

theorem DictW.rows {w : World} {D : Nat → Prop} {d : Nat} {L : Int} {ns : List DNode} (h : DictW w D d L ns) :
    ∃ A c, w.cell? ⟨d, 1, none⟩ = some (.slice A ns.length c) ∧ ns.length ≤ c ∧ c ≤ maxLen ∧ ∀ k (hk : k < ns.length), ∃ g, A = some ⟨g, 0, none⟩ ∧ g < w.heap.size ∧ w.cell? ⟨g, k * 2, none⟩ = some (.int .i64 (ns[k].1 : Int)) ∧ w.cell? ⟨g, k * 2 + 1, none⟩ = some (.string ns[k].2) := by
  obtain ⟨h1, h2, h3, h4, v, m, h5, h6, h7, h8, h9, h10, h11, h12⟩ := h
  have hx := h10
  rcases h10.2 with ⟨rfl, e⟩ | ⟨g, cap, cur, rfl, _, _, g1, g2, _⟩
  · exact ⟨none, 0, by rw [h5, e], by omega, by simp [maxLen], fun k hk => by omega⟩
  · refine ⟨_, cap, h5, g1, g2, fun k hk => ⟨g, rfl, (hx.lt g rfl).2, ?_, ?_⟩⟩
    · rw [hx.cellAt (g := g) (k * 2) (by omega)]; exact (nodeVals_at ns k hk).1
    · rw [hx.cellAt (g := g) (k * 2 + 1) (by omega)]; exact (nodeVals_at ns k hk).2
def swap {α : Type} (l : List α) (i j : Nat) : List α := match l[i]?, l[j]? with
  | some a, some b => (l.set i b).set j a
  | _, _ => l
def RevRel (p : List ByteArray) (base : Nat) (v : Value) (w : World) (i j : Value) (wr : World) : Prop :=
  ∃ (k : Nat) (q : List ByteArray), i = .int .i64 k ∧ j = .int .i64 ((p.length : Int) - 1 - k) ∧ k ≤ p.length ∧ q.length = p.length ∧ wr.ownsRow base 9 1 v p.length (svals q) ∧ w.grownBy wr v.ownBlock ∧
    ∀ n, n < p.length → q[n]? = if n < k ∨ p.length - 1 - n < k then p[p.length - 1 - n]? else p[n]?
def RevPost (p : List ByteArray) (base : Nat) (v : Value) (w : World) (e : Ending) (w' : World) : Prop := e = .returned (.tuple #[]) ∧ w'.ownsRow base 9 1 v p.length (svals p.reverse) ∧ w.grownBy w' v.ownBlock
theorem rev_step (p q : List ByteArray) (k m : Nat) (sk sm : ByteArray) (hql : q.length = p.length) (hm : m = p.length - 1 - k) (hkm : k < m) (hml : m < p.length) (hk : q[k]? = some sk) (hs : q[m]? = some sm)
    (hq : ∀ n, n < p.length → q[n]? = if n < k ∨ p.length - 1 - n < k then p[p.length - 1 - n]? else p[n]?) :
    ∀ n, n < p.length → ((q.set k sm).set m sk)[n]? = if n < k + 1 ∨ p.length - 1 - n < k + 1 then p[p.length - 1 - n]? else p[n]? := by
  intro n hn
  have e1 : p[k]? = some sk := by rw [← hk, hq k (by omega), if_neg (by omega)]
  have e2 : p[m]? = some sm := by rw [← hs, hq m (by omega), if_neg (by omega)]
  rw [List.getElem?_set, List.getElem?_set]
  by_cases h1 : m = n
  · subst h1
    rw [if_pos rfl, if_pos (by simpa [hql] using hml), if_pos (by omega), show p.length - 1 - m = k by omega, e1]
  · rw [if_neg h1]
    by_cases h2 : k = n
    · subst h2
      rw [if_pos rfl, if_pos (by omega), if_pos (by omega), ← hm, e2]
    · rw [if_neg h2, hq n hn]
      by_cases h3 : n < k ∨ p.length - 1 - n < k
      · rw [if_pos h3, if_pos (by omega)]
      · rw [if_neg h3, if_neg (by omega)]
theorem rev_end (p q : List ByteArray) (k : Nat) (hql : q.length = p.length) (hk : ¬ k < p.length - 1 - k)
    (hq : ∀ n, n < p.length → q[n]? = if n < k ∨ p.length - 1 - n < k then p[p.length - 1 - n]? else p[n]?) : q = p.reverse := by
  apply List.ext_getElem?
  intro n
  rcases Nat.lt_or_ge n p.length with hn | hn
  · rw [hq n hn, List.getElem?_reverse hn]
    split
    · rfl
    · congr 1; omega
  · rw [List.getElem?_eq_none (by omega), List.getElem?_eq_none (by simpa using hn)]
set_option maxHeartbeats 1600000 in
theorem reverse_any (v : Value) (p : List ByteArray) (base : Nat) (w : World) (h : w.ownsRow base 9 1 v p.length (svals p)) (hl : p.length ≤ 1000000) :
    Calls Try.prog 38 #[v] w (RevPost p base v w) := by
  obtain ⟨A, c, rfl, hc1, hc2, hA⟩ := own_cells h
  unfold maxLen at hc2
  have HO := hid h; have HA := hid hA; clear h hA
  go_enter Try.func38, Try.ntmps38
  go_wp2
  go_loopw [2, 3] (fun i j wr => RevRel p base (.slice A p.length c) w i j wr) (fun i _ _ => p.length - (intOf i).toNat)
  case atStart => exact ⟨0, p, rfl, by simp, by omega, rfl, HO.out, World.grownBy.refl _ _, fun n hn => by rw [if_neg (by omega)]⟩
  case round =>
    obtain ⟨k, q, rfl, rfl, hk, hql, hown, hg, hq⟩ := hrel
    have HQ := hid hq; have HG := hid hg; have HOW := hid hown; clear hq hg hown
    by_cases hlt : k < p.length - 1 - k
    · obtain ⟨m, hm⟩ : ∃ m, m = p.length - 1 - k := ⟨_, rfl⟩
      have ej : (p.length : Int) - 1 - (k : Int) = (m : Int) := by omega
      rw [ej]
      obtain ⟨g, rfl, -, -, -⟩ := HA.out (by omega)
      obtain ⟨sk, hsk⟩ : ∃ s, q[k]? = some s := ⟨_, List.getElem?_eq_getElem (by omega)⟩
      obtain ⟨sm, hsm⟩ : ∃ s, q[m]? = some s := ⟨_, List.getElem?_eq_getElem (by omega)⟩
      have ck : wr.cell? ⟨g, k, none⟩ = some (.string sk) := by
        rw [HOW.out.cellAt k (by omega)]; simp [svals, hsk]
      have cm : wr.cell? ⟨g, m, none⟩ = some (.string sm) := by
        rw [HOW.out.cellAt m (by omega)]; simp [svals, hsm]
      have fk := HOW.out.frozenAt k
      have fm := HOW.out.frozenAt m
      have hkm : k < m := by omega
      have hml : m < p.length := by omega
      have HSK := hid hsk; have HSM := hid hsm; have HM := hid hm
      have c1 := cell_beside (w := wr) (b := g) (i := k) (j := m) (u := .string sm) (by omega) cm
      have f1 := frozen_far (w := wr) (B := g) (i := k) (b := g) (j := m) (u := .string sm) fm
      clear hsk hsm hm ej hlt
      go_wp2
      go_region
      have hst := HOW.out.stored k (.string sm)
      have hst2 := hst.1.stored m (.string sk)
      have hsv : ((svals q).set k (.string sm)).set m (.string sk) = svals ((q.set k sm).set m sk) := by simp [svals, List.map_set]
      rw [hsv] at hst2
      have HS1 := hid (hst.2.trans hst2.2); have HS2 := hid hst2.1; clear hst hst2 hsv
      go_wp2
      go_roundw
      case rel =>
        refine ⟨k + 1, (q.set k sm).set m sk, by go_num, ?_, by omega, by simp [hql], own_kept HS2.out (fun _ _ => rfl), HG.out.trans (HS1.out.trans ⟨rfl, rfl, rfl, Nat.le_refl _, fun _ _ _ => rfl⟩), rev_step p q k m sk sm hql HM.out hkm hml HSK.out HSM.out HQ.out⟩
        have := HM.out
        congr 1; omega
      case measure => simp [intOf]; omega
    · have he := rev_end p q k hql hlt HQ.out
      have t1 : decide ((k : Int) < (p.length : Int) - 1 - (k : Int)) = false := by rw [decide_eq_false_iff_not]; omega
      have HE := hid he; clear he
      go_wp2
      refine bodyPost_ret (v := .tuple #[]) (by simp [results, Try.results38, go_sem]) rfl ?_
      exact ⟨rfl, by rw [← HE.out]; exact HOW.out, HG.out⟩
/-- What holds at each jump back: the names so far, the last first; c is the path that is still to be told. -/
def PathJ (d : Nat) (ns : List DNode) (c0 : Nat) (w : World) (a : Act) (wr : World) : Prop :=
  ∃ (v : Value) (done : List ByteArray) (c : Nat) (x2 x3 x7 x8 x9 x10 x11 x12 x13 x14 x15 x16 x17 x18 x19 x20 x21 x22 x23 x24 x25 x26 x27 x28 x29 x30 x31 x32 x33 x34 x35 : Value), a = { tmps := #[.pointer (some ⟨d, 0, none⟩), .int .i64 (c : Int), x2, x3, .slice none 0 0, .int .i64 0, v, x7, x8, x9, x10, x11, x12, x13, x14, x15, x16, x17, x18, x19, x20, x21, x22, x23, x24, x25, x26, x27, x28, x29, x30, x31, x32, x33, x34, x35], defers := [] } ∧
    wr.ownsRow w.heap.size 9 1 v done.length (svals done) ∧ Below w.heap.size w wr ∧ c ≤ ns.length ∧ c + done.length ≤ ns.length ∧ pathOf ns c0 = pathOf ns c ++ done.reverse
def PathDPost (p : List ByteArray) (err : Int) (w : World) (e : Ending) (w' : World) : Prop :=
  ∃ v, e = .returned (.tuple #[v, .int .i64 err]) ∧ w'.ownsRow w.heap.size 9 1 v p.length (svals p) ∧ Below w.heap.size w w'
set_option maxRecDepth 100000 in
set_option maxHeartbeats 1600000 in
theorem pathD_in (D : Nat → Prop) (d : Nat) (L : Int) (ns : List DNode) (c0 : Nat) (w : World) (h : DictW w D d L ns) (hi : DInv ns) (hl : ns.length ≤ 1000) (hc : c0 ≤ ns.length) :
    Calls Try.prog 18 #[.pointer (some ⟨d, 0, none⟩), .int .i64 (c0 : Int)] w (PathDPost (pathOf ns c0) 0 w) := by
  obtain ⟨i0, hi0, hz0, hz1, hz2⟩ := info_parts info_str
  obtain ⟨A, cc, h5, hc1, hc2, hrows⟩ := h.rows
  have hd := h.2.1 d h.1
  have HL := hid (lenD_any D d L ns w h)
  have HR := hid hrows; have HI := hid hi; clear hrows h hi
  unfold maxLen at hc2
  go_enter Try.func18, Try.ntmps18
  go_wp2_with fail
  refine wp_scope_jumps 0 (PathJ d ns c0 w) (fun a' _ => (intOf (a'.tmps.getD 1 undef)).toNat) rfl ?_ ?_
  · go_wp2_with fail
    refine HL.out.mono ?_
    rintro e w1 ⟨rfl, hq1⟩
    have HB := hid (hq1.below w.heap.size)
    have HOW := hid (World.ownsRow_nil w1 w.heap.size 9 1)
    have hsz1 : w1.heap.size = w.heap.size := Qu.size hq1
    have HSZ := hid hsz1; clear hq1 hsz1
    by_cases hz : c0 = 0
    · subst hz
      have hrev := reverse_any (.slice none 0 0) ([] : List ByteArray) w.heap.size w1 HOW.out (by first | omega | simp)
      have HREV := hid hrev; clear hrev
      go_wp2_with fail
      go_step3
      go_wp2_with fail
      refine HREV.out.mono ?_
      rintro e w2 ⟨rfl, ho2, hg2⟩
      have HO2 := hid ho2; have HG2 := hid hg2; clear ho2 hg2
      go_wp2
      simp only [Exit.jump]
      go_ret2
      have hp : pathOf ns 0 = ([] : List ByteArray).reverse := rfl
      refine ⟨_, rfl, ?_, HB.out.grown HG2.out HB.out.size (fun j hj => (HOW.out.lt j hj).1)⟩
      rw [hp, List.length_reverse]
      exact HO2.out
    · obtain ⟨e, rfl⟩ : ∃ e, c0 = e + 1 := ⟨c0 - 1, by omega⟩
      have he : e < ns.length := by omega
      obtain ⟨g, rfl, hg, q1, q2⟩ := HR.out e he
      have hup := HI.out.up e ns[e] (List.getElem?_eq_getElem he)
      have hps := pathOf_succ HI.out (List.getElem?_eq_getElem he)
      replace q1 := cellK HB.out hg q1
      replace q2 := cellK HB.out hg q2
      replace h5 := cellK HB.out hd h5
      have hwB := HB.out.size
      have HPS := hid hps; clear hps hz
      have ee : ((e + 1 : Nat) : Int) = (e : Int) + 1 := by omega
      rw [ee]; clear ee
      go_wp2_with fail
      go_step3
      go_wp2_with (at_builtin; refine stop_here ?_)
      refine go_on ?_
      refine app_own (.tmp 26) (.tmp 29) 30 30 rfl rfl w.heap.size 9 i0 (.string ByteArray.empty) 1 16 Try.underlying30 hi0 hz0 hz1 hz2 rfl (by omega) _ ([] : List ByteArray).length (svals ([] : List ByteArray)) rfl ((HOW.out.alloc _).alloc _) (.slice (some ⟨w1.heap.size + 1, 0, none⟩) 1 1) 1 [_] rfl (Src.ofSlice _ Try.underlying30 _ 1 1 _ rfl (cells_new (by simp)) (by simp; rfl)) (by unfold maxLen; first | omega | (simp <;> omega)) (by first | omega | (simp <;> omega)) (by simp; omega) ?_
      intro v1 w2 ho2 hg2 hb2
      have HO2 := hid ho2; have HB1 := hid (((HB.out.alloc hwB _).alloc (by simp; omega) _).trans hb2)
      have q3 : w2.cell? ⟨w1.heap.size, 0, none⟩ = some (.int .i64 (ns[e].1 : Int)) := (World.grownBy.cell_far hg2 ⟨w1.heap.size, 0, none⟩ (by simp; omega) (fun e' => by have := (HOW.out.lt _ e'.symm).2; simp at this)).trans (cell_alloc (by simp) (by simp [go_sem]))
      clear ho2 hg2 hb2 q1 q2
      go_wp2
      go_step3
      simp only [Exit.then, Exit.jump]
      refine ⟨trivial, v1, ([] : List ByteArray) ++ [ns[e].2], ns[e].1, _, _, _, _, _, _, _, _, _, _, _, _, _, _, _, _, _, _, _, _, _, _, _, _, _, _, _, _, _, _, _, rfl, ?_, HB1.out, by omega, by simp; omega, ?_⟩
      · rw [List.length_append, List.length_singleton]
        have := HO2.out
        simpa [svals] using this
      · rw [HPS.out]; simp
  · rintro a' wr ⟨v, done, c, _, _, _, _, _, _, _, _, _, _, _, _, _, _, _, _, _, _, _, _, _, _, _, _, _, _, _, _, _, _, _, rfl, hown, hb, hc, hcd, heq⟩
    have HOW := hid hown; have HB := hid hb; have HEQ := hid heq; clear hown hb heq
    by_cases hz : c = 0
    · subst hz
      have hrev := reverse_any v done w.heap.size wr HOW.out (by first | omega | simp)
      have HREV := hid hrev; clear hrev
      skip
      skip
      go_wp2_with fail
      refine HREV.out.mono ?_
      rintro e w2 ⟨rfl, ho2, hg2⟩
      have HO2 := hid ho2; have HG2 := hid hg2; clear ho2 hg2
      go_wp2
      simp only [Exit.jump]
      go_ret2
      have hp : pathOf ns c0 = done.reverse := HEQ.out
      refine ⟨_, rfl, ?_, HB.out.grown HG2.out HB.out.size (fun j hj => (HOW.out.lt j hj).1)⟩
      rw [hp, List.length_reverse]
      exact HO2.out
    · obtain ⟨e, rfl⟩ : ∃ e, c = e + 1 := ⟨c - 1, by omega⟩
      have he : e < ns.length := by omega
      obtain ⟨g, rfl, hg, q1, q2⟩ := HR.out e he
      have hup := HI.out.up e ns[e] (List.getElem?_eq_getElem he)
      have hps := pathOf_succ HI.out (List.getElem?_eq_getElem he)
      replace q1 := cellK HB.out hg q1
      replace q2 := cellK HB.out hg q2
      replace h5 := cellK HB.out hd h5
      have hwB := HB.out.size
      have HPS := hid hps; clear hps hz
      have ee : ((e + 1 : Nat) : Int) = (e : Int) + 1 := by omega
      rw [ee]; clear ee
      skip
      skip
      go_wp2_with (at_builtin; refine stop_here ?_)
      refine go_on ?_
      refine app_own (.tmp 26) (.tmp 29) 30 30 rfl rfl w.heap.size 9 i0 (.string ByteArray.empty) 1 16 Try.underlying30 hi0 hz0 hz1 hz2 rfl (by omega) _ done.length (svals done) rfl ((HOW.out.alloc _).alloc _) (.slice (some ⟨wr.heap.size + 1, 0, none⟩) 1 1) 1 [_] rfl (Src.ofSlice _ Try.underlying30 _ 1 1 _ rfl (cells_new (by simp)) (by simp; rfl)) (by unfold maxLen; first | omega | (simp <;> omega)) (by first | omega | (simp <;> omega)) (by simp; omega) ?_
      intro v1 w2 ho2 hg2 hb2
      have HO2 := hid ho2; have HB1 := hid (((HB.out.alloc hwB _).alloc (by simp; omega) _).trans hb2)
      have q3 : w2.cell? ⟨wr.heap.size, 0, none⟩ = some (.int .i64 (ns[e].1 : Int)) := (World.grownBy.cell_far hg2 ⟨wr.heap.size, 0, none⟩ (by simp; omega) (fun e' => by have := (HOW.out.lt _ e'.symm).2; simp at this)).trans (cell_alloc (by simp) (by simp [go_sem]))
      clear ho2 hg2 hb2 q1 q2
      go_wp2
      go_step3
      simp only [Exit.then]
      refine ⟨rfl, ⟨v1, done ++ [ns[e].2], ns[e].1, _, _, _, _, _, _, _, _, _, _, _, _, _, _, _, _, _, _, _, _, _, _, _, _, _, _, _, _, _, _, _, rfl, ?_, HB1.out, by omega, by simp; omega, ?_⟩, ?_⟩
      · rw [List.length_append, List.length_singleton]
        have := HO2.out
        simpa [svals] using this
      · rw [HEQ.out, HPS.out]; simp
      · simp [intOf]; omega
end Go.Proofs.Ytbledkffkckjbaa
