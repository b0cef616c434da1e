/- The reference's apart, Base, Corner (layer 8). -/
import Derived.Test.YtompjcadhodapaaRef8a
import Derived.Test.YtompjcadhodapaaSch4
import Derived.BigQuiet
namespace Go.Proofs.Ytompjcadhodapaa
open Go.ChangeShapes Go.WideShapes Go.ChangeAt Go.RowKit
set_option linter.unusedVariables false
set_option linter.unusedSimpArgs false

theorem base_at {s : SchemaX} {k : Nat} (h : k < s.1.length) : (baseX s).getD k 0 = (s.1[k].2.length : Int) := by
  unfold baseX
  rw [List.getD_eq_getElem?_getD, List.getElem?_map, List.getElem?_eq_getElem h]; rfl
theorem dim_at {w : World} {B : Nat} {A : Option Addr} {n c : Nat} {l : List DimX} (h : rdSlice 2 rdDim w B [.slice A n c] l) {k : Nat} (hk : k < l.length) :
    ∃ b off AL cL, A = some ⟨b, off, none⟩ ∧ b < B ∧ w.cell? ⟨b, off + k * 2, none⟩ = some (.string l[k].1) ∧ w.cell? ⟨b, off + k * 2 + 1, none⟩ = some (.slice AL l[k].2.length cL) ∧ rdStrs w B [.slice AL l[k].2.length cL] l[k].2 ∧ l[k].1.size ≤ maxLen := by
  obtain ⟨b, off, rfl, hb, es, hel, hcell, hl1, ⟨ex, hsz⟩, hlv⟩ := h.at_ hk
  obtain ⟨AL, cL, eL, -, -⟩ := hlv.open_
  obtain rfl : es = [.string l[k].1, .slice AL l[k].2.length cL] := by
    rw [← List.take_append_drop 1 es, ex, eL]; rfl
  exact ⟨b, off, AL, cL, rfl, hb, hcell 0 _ rfl, hcell 1 _ rfl, hlv, hsz⟩
set_option maxRecDepth 100000 in
set_option maxHeartbeats 800000 in
theorem refBase_any (v : Value) (s : SchemaX) (w : World) (hv : SchemaV w w.heap.size v s) (hl : s.1.length ≤ 1000) :
    Calls Try.prog 43 #[v] w (RowPost (baseX s) w) := by
  obtain ⟨i0, hi, hz0, hz1, hz2⟩ := info_parts info_int
  obtain ⟨A1, c1, A2, c2, A3, c3, rfl, h1, h2, h3⟩ := hv
  obtain ⟨hc1, hm1⟩ := h1.cap
  have hbl : (baseX s).length = s.1.length := by simp [baseX]
  obtain ⟨W0, hW0⟩ : ∃ W, W = w.alloc (.cells #[.slice A1 s.1.length c1, .slice A2 s.2.1.length c2, .slice A3 s.2.2.length c3] 26) := ⟨_, rfl⟩
  have g0 : Below w.heap.size w W0 := by rw [hW0]; exact bl1 _ _
  have z0 : W0.heap.size = w.heap.size + 1 := by rw [hW0]; simp
  have y0 : W0.cell? ⟨w.heap.size, 0, none⟩ = some (.slice A1 s.1.length c1) := by rw [hW0]; simp [go_sem]
  have HW0 := hid hW0; have G0 := hid g0; have Y0 := hid y0; have H1 := hid (good_dims.on h1 g0)
  clear hW0 g0 y0 h1 h2 h3
  go_enter Try.func43, Try.ntmps43
  go_wp2
  rw [← HW0.out]
  go_loopw [3, 4] (fun out i wr => BaseRel s W0 out i wr) (fun _ i _ => s.1.length - (intOf i).toNat)
  case atStart => exact ⟨0, by omega, rfl, World.ownsRow_nil _ _ _ _, Below.refl _ _⟩
  case round =>
    obtain ⟨k, hk, rfl, hown, hb⟩ := hrel
    have hs := hb.size
    have HB := hid hb; have HOW := hid hown
    have y0 := cellK hb (by omega) Y0.out
    clear hb hown
    by_cases hlt : k < s.1.length
    · obtain ⟨b, off, AL, cL, rfl, hbl2, q0, q1, hlv, -⟩ := dim_at H1.out hlt
      have e1 : (baseX s).take (k + 1) = (baseX s).take k ++ [((s.1[k].2.length : Nat) : Int)] := by
        rw [List.take_succ_eq_append_getElem (by simp [baseX]; omega)]; simp [baseX]
      have q1' := cellK HB.out hbl2 q1
      generalize s.1[k].2.length = n at *
      have E1 := hid e1
      clear e1 q0 q1 hlv
      go_wp2_with (at_builtin; refine stop_here ?_)
      refine go_on ?_
      refine app_own (.tmp 12) (.tmp 20) 32 32 rfl rfl W0.heap.size 3 i0 (.int .i64 0) 1 8 Try.underlying32 hi hz0 hz1 hz2 rfl (by decide) _ k (ivals ((baseX s).take k)) rfl (HOW.out.alloc _) (.slice (some ⟨wr.heap.size, 0, none⟩) 1 1) 1 (ivals [(n : Int)]) rfl (Src.ofSlice _ Try.underlying32 _ 1 1 _ rfl (cell_one_at' _ _ _ rfl) (by simp [ivals]; rfl)) (by first | omega | (simp only [maxLen]; omega)) (by first | omega | (simp only [maxLen]; omega)) (by simp; omega) ?_
      intro v' w' hown' hg' hb'
      have hr : BaseRel s W0 v' (.int .i64 ((k : Int) + 1)) w' := ⟨k + 1, by omega, by go_num, by rw [E1.out, ivals_snoc]; exact hown', ((HB.out.alloc hs _).trans hb')⟩
      have HR := hid hr
      clear hr hown' hg' hb'
      go_wp2
      go_roundw
      case rel => exact HR.out
      case measure => simp [intOf]; omega
    · obtain rfl : k = s.1.length := by omega
      have hfin : wr.ownsRow w.heap.size 3 1 u3 (baseX s).length (ivals (baseX s)) := by
        have := HOW.out
        rw [List.take_of_length_le (by omega)] at this
        rw [hbl]
        obtain ⟨h1, h2⟩ := this
        refine ⟨h1, ?_⟩
        rcases h2 with h2 | ⟨g, cap, cur, e, hbg, r⟩
        · exact .inl h2
        · exact .inr ⟨g, cap, cur, e, by omega, r⟩
      have HF := hid hfin
      clear hfin HOW
      go_wp2
      go_ret
      exact ⟨_, rfl, HF.out, G0.out.trans (HB.out.mono (by omega))⟩
theorem corner_iff {s : SchemaX} {v : List Int} : cornerB s v = true ↔ v.length = s.1.length ∧ ∀ j, j < v.length → 0 ≤ v.getD j 0 ∧ v.getD j 0 ≤ (baseX s).getD j 0 := by
  have hbl : (baseX s).length = s.1.length := by simp [baseX]
  unfold cornerB
  rw [Bool.and_eq_true]
  have hneg : ((!(v.any fun n => decide (n < 0))) = true) ↔ ∀ j, j < v.length → 0 ≤ v.getD j 0 := by
    rw [Bool.not_eq_true', List.any_eq_false]
    constructor
    · intro h j hj
      have := h _ (List.getElem_mem hj)
      rw [List.getD_eq_getElem?_getD, List.getElem?_eq_getElem hj]
      simp at this ⊢; omega
    · intro h x hx
      obtain ⟨j, hj, rfl⟩ := List.mem_iff_getElem.1 hx
      have := h j hj
      rw [List.getD_eq_getElem?_getD, List.getElem?_eq_getElem hj] at this
      simp at this ⊢; omega
  rw [hneg]
  by_cases hl : (baseX s).length = v.length
  · rw [covers_iff hl]
    exact ⟨fun ⟨h1, h2⟩ => ⟨by omega, fun j hj => ⟨h2 j hj, h1 j (by omega)⟩⟩, fun ⟨h1, h2⟩ => ⟨fun j hj => (h2 j (by omega)).2, fun j hj => (h2 j hj).1⟩⟩
  · constructor
    · rintro ⟨h1, -⟩
      unfold coversB at h1
      rw [decide_eq_false hl] at h1
      simp at h1
    · rintro ⟨h1, -⟩; omega
def CrRel (s : SchemaX) (v : List Int) (W0 : World) (i : Value) (wr : World) : Prop := ∃ k : Nat, k ≤ v.length ∧ i = .int .i64 k ∧ (∀ j, j < k → 0 ≤ v.getD j 0 ∧ v.getD j 0 ≤ (baseX s).getD j 0) ∧ Below W0.heap.size W0 wr
set_option maxRecDepth 100000 in
set_option maxHeartbeats 1600000 in
theorem refCorner_any (v x : Value) (s : SchemaX) (l : List Int) (w : World) (hv : SchemaV w w.heap.size v s) (hl : s.1.length ≤ 1000) (hx : rdInts w w.heap.size [x] l) :
    Calls Try.prog 44 #[v, x] w (Gives (.bool (cornerB s l)) w) := by
  obtain ⟨A1, c1, A2, c2, A3, c3, rfl, h1, h2, h3⟩ := hv
  obtain ⟨hc1, hm1⟩ := h1.cap
  obtain ⟨X, cx, e, hcx, hmx⟩ := hx.open_
  simp only [List.cons.injEq, and_true] at e
  subst e
  obtain ⟨W0, hW0⟩ : ∃ W, W = w.alloc (.cells #[.slice A1 s.1.length c1, .slice A2 s.2.1.length c2, .slice A3 s.2.2.length c3] 26) := ⟨_, rfl⟩
  have g0 : Below w.heap.size w W0 := by rw [hW0]; exact bl1 _ _
  have z0 : W0.heap.size = w.heap.size + 1 := by rw [hW0]; simp
  have y0 : W0.cell? ⟨w.heap.size, 0, none⟩ = some (.slice A1 s.1.length c1) := by rw [hW0]; simp [go_sem]
  have HW0 := hid hW0; have G0 := hid g0; have Y0 := hid y0; have H1 := hid (good_dims.on h1 g0); have HX := hid (good_ints.on hx g0)
  have HCI := hid (corner_iff (s := s) (v := l))
  generalize cornerB s l = res at *
  clear hW0 g0 y0 h1 h2 h3 hx
  go_enter Try.func44, Try.ntmps44
  by_cases hlen : l.length = s.1.length
  · have t0 : ((l.length : Int) != (s.1.length : Int)) = false := by simp [hlen]
    have HLEN := hid hlen
    clear hlen
    go_wp2
    rw [← HW0.out]
    go_loopw [5] (fun i wr => CrRel s l W0 i wr) (fun i _ => l.length - (intOf i).toNat)
    case atStart => exact ⟨0, by omega, rfl, fun j hj => by omega, Below.refl _ _⟩
    case round =>
      obtain ⟨k, hk, rfl, hall, hb⟩ := hrel
      have hs := hb.size
      have HB := hid hb; have HALL := hid hall
      have y0 := cellK hb (by omega) Y0.out
      clear hb hall
      by_cases hlt : k < l.length
      · have hld : k < s.1.length := by have := HLEN.out; omega
        obtain ⟨bx, ox, rfl, hbx, hcx0, -⟩ := ints_at HX.out hlt
        obtain ⟨b, off, AL, cL, rfl, hbl2, q0, q1, hlv, -⟩ := dim_at H1.out hld
        have q1' := cellK HB.out hbl2 q1
        have q2' := cellK HB.out hbx hcx0
        have hba := base_at hld
        have hno : ¬ (0 ≤ l.getD k 0 ∧ l.getD k 0 ≤ (baseX s).getD k 0) → res = false := fun h => by
          rw [Bool.eq_false_iff]; exact fun h' => h ((HCI.out.1 h').2 k hlt)
        have hyes : (0 ≤ l.getD k 0 ∧ l.getD k 0 ≤ (baseX s).getD k 0) → ∀ j, j < k + 1 → 0 ≤ l.getD j 0 ∧ l.getD j 0 ≤ (baseX s).getD j 0 := fun h j hj => by
          by_cases e : j = k
          · subst e; exact h
          · exact HALL.out j (by omega)
        rw [hba] at hno hyes
        generalize l.getD k 0 = x0 at *
        generalize s.1[k].2.length = n at *
        have HNO := hid hno; have HYES := hid hyes
        have t5 : k < s.1.length := hld
        clear hno hyes hba q0 q1 hcx0 hlv
        have hways : (x0 < 0) ∨ (0 ≤ x0 ∧ (n : Int) < x0) ∨ (0 ≤ x0 ∧ x0 ≤ (n : Int)) := by omega
        rcases hways with a | ⟨a, a'⟩ | ⟨a, a'⟩
        · have t1 : decide (x0 < 0) = true := decide_eq_true a
          have HN := hid (HNO.out (by omega))
          clear a
          go_wp2
          go_quiet (fail)
          go_wp2
          go_ret
          exact ⟨by rw [HN.out]; rfl, G0.out.trans ((below_drewN HB.out _).mono (by omega))⟩
        · have t1 : decide (x0 < 0) = false := by rw [decide_eq_false_iff_not]; omega
          have t2 : decide ((n : Int) < x0) = true := decide_eq_true a'
          have HN := hid (HNO.out (by omega))
          clear a a'
          go_wp2
          go_quiet (fail)
          go_wp2
          go_ret
          exact ⟨by rw [HN.out]; rfl, G0.out.trans ((below_drewN HB.out _).mono (by omega))⟩
        · have t1 : decide (x0 < 0) = false := by rw [decide_eq_false_iff_not]; omega
          have t2 : decide ((n : Int) < x0) = false := by rw [decide_eq_false_iff_not]; omega
          have HY := hid (HYES.out ⟨a, a'⟩)
          clear a a'
          go_wp2
          go_quiet (fail)
          go_wp2
          go_roundw
          case rel => exact ⟨k + 1, by omega, by go_num, HY.out, below_drewN HB.out _⟩
          case measure => simp [intOf]; omega
      · have HN := hid (HCI.out.2 ⟨HLEN.out, fun j hj => HALL.out j (by omega)⟩)
        go_wp2
        go_ret
        exact ⟨by rw [HN.out]; rfl, G0.out.trans (HB.out.mono (by omega))⟩
  · have t0 : ((l.length : Int) != (s.1.length : Int)) = true := by simp; omega
    have hn : res = false := by rw [Bool.eq_false_iff]; exact fun h => hlen (HCI.out.1 h).1
    have HN := hid hn
    clear hn hlen
    go_wp2
    rw [← HW0.out]
    go_ret
    exact ⟨by rw [HN.out]; rfl, G0.out⟩
end Go.Proofs.Ytompjcadhodapaa
