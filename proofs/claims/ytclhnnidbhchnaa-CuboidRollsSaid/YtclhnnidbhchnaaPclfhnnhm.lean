/- 1 text of this claim, in build order. -/
import Derived.Test.YtclhnnidbhchnaaPdhfgmdak
import Derived.BigQuiet
import Derived.Deep.QuietTactic
/- The reference's up. -/
namespace Go.Proofs.Ytclhnnidbhchnaa
open Go.ChangeShapes Go.WideShapes Go.ChangeAt Go.RowKit Go.Maps
set_option linter.unusedVariables false
set_option linter.unusedSimpArgs false

def UpRelR (ups : List (List Int)) (k : List Int) (w : World) (out i : Value) (wr : World) : Prop :=
  ∃ j : Nat, j ≤ ups.length ∧ i = .int .i64 j ∧ (∀ t, t < j → upOk ups k t = true) ∧ wr.ownsRow w.heap.size 3 1 out j (ivals ((List.range j).map (upV ups k))) ∧ Below w.heap.size w wr
set_option maxRecDepth 100000 in
set_option maxHeartbeats 3200000 in
theorem refUp_any (kv v : Value) (k : List Int) (ups : List (List Int)) (w : World) (hv : Sl w w.heap.size kv (ivals k)) (hu : RowsI w w.heap.size v ups) (hl : k.length = ups.length) (h3 : ups.length ≤ 3) (hk : ∀ i, 0 ≤ k.getD i 0 ∧ k.getD i 0 ≤ 40) :
    Calls Try.prog 61 #[kv, v] w (UpP ups k w) := by
  obtain ⟨i0, hi, hz0, hz1, hz2⟩ := info_parts info_int
  obtain ⟨K, kc, rfl, hkc, hkm⟩ := hv.formI
  obtain ⟨A, c, rfl, hcl, hcm, hrow⟩ := hu
  unfold maxLen at hcm hkm
  have HROW := hid hrow; have HK := hid hk; have SV := hid hv
  clear hrow hk hv
  rw [hl]
  go_enter Try.func61, Try.ntmps61
  go_wp2
  go_loopw [6, 7] (fun out i wr => UpRelR ups k w out i wr) (fun _ i _ => ups.length - (intOf i).toNat)
  case atStart => exact ⟨0, by omega, rfl, fun t h => by omega, World.ownsRow_nil _ _ _ _, Below.refl _ _⟩
  case round =>
    obtain ⟨j, hj, rfl, hall, hown, hb⟩ := hrel
    have hsb := hb.size
    have HALL := hid hall; have HOW := hid hown; have HB := hid hb
    clear hall hown
    by_cases hlt : j < ups.length
    · obtain ⟨b, off, u, rfl, hbl, hcu, hsu⟩ := HROW.out j hlt
      have hcw := cellK hb hbl hcu
      obtain ⟨bk, ok, rfl, hbk, hck⟩ := SV.out.int (show j < k.length by omega)
      have hck := cellK hb hbk hck
      obtain ⟨Al, cl, rfl, hcl2, hcm2⟩ := hsu.formI
      unfold maxLen at hcm2
      obtain ⟨k0, k40⟩ := HK.out j
      have hok : upOk ups k j = (decide (k.getD j 0 < ((ups.getD j []).length : Int)) && codeB (upV ups k j)) := rfl
      have huv : upV ups k j = (ups.getD j []).getD (k.getD j 0).toNat 0 := rfl
      have hrs := range_map_succ (upV ups k) j
      have HSU := hid (hsu.below hb)
      generalize ups.getD j [] = l at *
      generalize k.getD j 0 = kj at *
      generalize upV ups k j = uv at *
      have HOK := hid hok; have HUV := hid huv; have HRS := hid hrs
      clear hok huv hrs hb hcu hsu
      by_cases hge : (l.length : Int) ≤ kj
      · have HN := hid (upAll_no hlt (show upOk ups k j = false by rw [HOK.out, decide_eq_false (by omega)]; rfl))
        go_wp2
        go_quiet (fail)
        go_wp2
        go_ret2
        exact .inr ⟨HN.out, rfl, (HB.out.trans (below_drewN (Below.refl _ _) _))⟩
      · obtain ⟨kn, rfl⟩ : ∃ n : Nat, kj = (n : Int) := ⟨kj.toNat, by omega⟩
        rw [Int.toNat_natCast] at HUV
        have hkn : kn < l.length := by omega
        obtain ⟨b2, o2, rfl, hb2, hx2⟩ := HSU.out.int hkn
        rw [← HUV.out] at hx2
        go_wp2
        go_quiet (fail)
        have hq1 : Qu wr (wr.drewN nq) := ⟨nq, rfl⟩
        have hcw : (wr.drewN nq).cell? _ = _ := hcw
        have hck : (wr.drewN nq).cell? _ = _ := hck
        have hx2 : (wr.drewN nq).cell? _ = _ := hx2
        generalize wr.drewN nq = w1 at *
        have HOQ := hid (own_kept HOW.out (fun g hg => (hq1.below wr.heap.size).block g (HOW.out.lt g hg).2))
        have HBQ := hid (HB.out.trans ((hq1.below wr.heap.size).mono hsb))
        clear hq1
        have hcc : (uv < 0 ∧ codeB uv = false) ∨ (¬ uv < 0 ∧ 40 < uv ∧ codeB uv = false) ∨ (¬ uv < 0 ∧ ¬ 40 < uv ∧ codeB uv = true) := by
          unfold codeB
          by_cases h1 : uv < 0
          · exact .inl ⟨h1, by rw [decide_eq_false (by omega)]; rfl⟩
          · by_cases h2 : 40 < uv
            · exact .inr (.inl ⟨h1, h2, by rw [decide_eq_false (show ¬ uv ≤ 40 by omega), Bool.and_false]⟩)
            · exact .inr (.inr ⟨h1, h2, by rw [decide_eq_true (by omega), decide_eq_true (by omega)]; rfl⟩)
        go_wp2
        go_quiet (fail)
        have hq2 : Qu w1 (w1.drewN nq) := ⟨nq, rfl⟩
        generalize w1.drewN nq = w2 at *
        have HOQ2 := hid (own_kept HOQ.out (fun g hg => (hq2.below w1.heap.size).block g (HOQ.out.lt g hg).2))
        have HBQ2 := hid (HBQ.out.trans ((hq2.below w1.heap.size).mono HBQ.out.size))
        have hsq := HBQ2.out.size
        clear hq2 hcw hck hx2
        rcases hcc with ⟨h1, hcb⟩ | ⟨h1, h2, hcb⟩ | ⟨h1, h2, hcb⟩
        · have HN := hid (upAll_no hlt (show upOk ups k j = false by rw [HOK.out, hcb, Bool.and_false]))
          clear hcb
          go_wp2
          go_ret2
          exact .inr ⟨HN.out, rfl, HBQ2.out⟩
        · have HN := hid (upAll_no hlt (show upOk ups k j = false by rw [HOK.out, hcb, Bool.and_false]))
          clear hcb
          go_wp2
          go_ret2
          exact .inr ⟨HN.out, rfl, HBQ2.out⟩
        · have HY := hid (show upOk ups k j = true by rw [HOK.out, hcb, decide_eq_true (by omega)]; rfl)
          clear hcb
          go_wp2_with (at_builtin; refine stop_here ?_)
          refine go_on ?_
          refine app_own_at (.tmp 41) (.tmp 43) 23 23 rfl rfl w.heap.size 3 i0 (.int .i64 0) 1 8 Try.underlying23 hi hz0 hz1 hz2 rfl (by decide) _ _ _ rfl (HOQ2.out.alloc _) (.slice (some ⟨w2.heap.size, 0, none⟩) 1 1) 1 [.int .i64 uv] rfl (Src.ofSlice _ Try.underlying23 _ 1 1 _ rfl (cells_new_at _ _ _ rfl) (by simp; rfl)) (by simp only [maxLen]; omega) (by omega) (by rw [World.size_alloc]; omega) ?_
          intro v3 w3 hown3 hg3 hb3 hat3
          rw [show ivals ((List.range j).map (upV ups k)) ++ [.int .i64 uv] = ivals ((List.range (j + 1)).map (upV ups k)) by rw [HRS.out]; simp [ivals]] at hown3
          have HO3 := hid hown3
          have HB3 := hid ((HBQ2.out.alloc hsq _).trans hb3)
          clear hown3 hg3 hb3 hat3
          go_wp2
          go_roundw
          case rel =>
            refine ⟨j + 1, by omega, by go_num, fun t ht => ?_, HO3.out, HB3.out⟩
            rcases Nat.lt_or_ge t j with h | h
            · exact HALL.out t h
            · obtain rfl : t = j := by omega
              exact HY.out
          case measure => simp [intOf]; omega
    · obtain rfl : j = ups.length := by omega
      have HY := hid (upAll_yes HALL.out)
      go_wp2
      go_ret2
      exact .inl ⟨HY.out, _, rfl, by rw [upL_len]; exact HOW.out, HB.out⟩
end Go.Proofs.Ytclhnnidbhchnaa
