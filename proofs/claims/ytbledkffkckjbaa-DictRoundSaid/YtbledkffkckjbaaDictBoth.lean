/- The laws' helpers of layer 7: both. -/
import Derived.Test.YtbledkffkckjbaaDictLives
namespace Go.Proofs.Ytbledkffkckjbaa
open Go.ChangeShapes Go.WideShapes Go.ChangeAt Go.RowKit Go.Maps
set_option linter.unusedVariables false

/-- A list of paths as it was handed in: its memory lies below B. -/
abbrev PathsW (w : World) (B : Nat) (v : Value) (ll : List (List ByteArray)) : Prop := rdSlice 1 (rdSlice 1 rdStr) w B [v] ll
theorem sl_of_rd {w : World} {B : Nat} {u : Value} {p : List ByteArray} (h : rdSlice 1 rdStr w B [u] p) : SlE w (fun g => g < B) u (svals p) ∧ StrOk p ∧ p.length ≤ 9223372036854775807 := by
  obtain ⟨A, c, e, h1, h2, h3⟩ := h
  injection e with e _
  unfold maxLen at h2
  refine ⟨⟨A, c, by rw [e, svals_len], by rw [svals_len]; exact h1, by unfold maxLen; omega, fun h0 => ?_⟩, ?_, by omega⟩
  · rw [svals_len] at h0
    obtain ⟨b, off, e1, hb, h4⟩ := h3 h0
    refine ⟨b, off, e1, hb, fun j u hu => ?_⟩
    unfold svals at hu
    rw [List.getElem?_map] at hu
    cases hj : p[j]? with
    | none => rw [hj] at hu; cases hu
    | some s =>
      rw [hj] at hu
      injection hu with hu
      obtain ⟨es, g1, g2, g3, _⟩ := h4 j s hj
      have := g2 0 (.string s) (by rw [g3]; rfl)
      rw [Nat.mul_one, Nat.add_zero] at this
      rw [this, ← hu]
  · intro s hs
    obtain ⟨j, hj, rfl⟩ := List.mem_iff_getElem.1 hs
    obtain ⟨b, off, e1, hb, h4⟩ := h3 (by omega)
    obtain ⟨es, g1, g2, g3, g4⟩ := h4 j _ (List.getElem?_eq_getElem hj)
    exact g4
theorem PathsW.at {w : World} {B : Nat} {v : Value} {ll : List (List ByteArray)} (h : PathsW w B v ll) :
    ∃ A c, v = .slice A ll.length c ∧ ll.length ≤ c ∧ c ≤ 9223372036854775807 ∧ ∀ i (hi : i < ll.length), ∃ b off u, A = some ⟨b, off, none⟩ ∧ b < B ∧ w.cell? ⟨b, off + i, none⟩ = some u ∧ SlE w (fun g => g < B) u (svals ll[i]) ∧ StrOk ll[i] ∧ ll[i].length ≤ 9223372036854775807 := by
  obtain ⟨A, c, e, h1, h2, h3⟩ := h
  injection e with e _
  unfold maxLen at h2
  refine ⟨A, c, e, h1, by omega, fun i hi => ?_⟩
  obtain ⟨b, off, e1, hb, h4⟩ := h3 (by omega)
  obtain ⟨es, g1, g2, g3⟩ := h4 i _ (List.getElem?_eq_getElem hi)
  obtain ⟨u, rfl⟩ : ∃ u, es = [u] := List.length_eq_one_iff.1 g1
  have := g2 0 u rfl
  rw [Nat.mul_one, Nat.add_zero] at this
  obtain ⟨k1, k2, k3⟩ := sl_of_rd g3
  exact ⟨b, off, u, e1, hb, this, k1, k2, k3⟩
theorem PathsW.below {w w' : World} {B : Nat} {v : Value} {ll : List (List ByteArray)} (h : PathsW w B v ll) (hb : Below B w w') : PathsW w' B v ll := (good_slice (good_slice good_str)).stays h hb
/-- The nodes after some paths. -/
def addMany (L : Int) (ns : List DNode) (ll : List (List ByteArray)) : List DNode := ll.foldl (fun ns p => (addDR ns L p).1) ns
theorem addMany_snoc (L : Int) (ns : List DNode) (ll : List (List ByteArray)) (p : List ByteArray) : addMany L ns (ll ++ [p]) = (addDR (addMany L ns ll) L p).1 := by simp [addMany]
theorem addMany_ok {L : Int} {ns : List DNode} (h : DOk ns) (ll : List (List ByteArray)) : DOk (addMany L ns ll) := by
  induction ll generalizing ns with
  | nil => exact h
  | cons p ll ih => exact ih (link_add h L p).2
theorem addDR_few {ns : List DNode} (h : DOk ns) (L : Int) (p : List ByteArray) : (addDR ns L p).2.1.length ≤ 3 := by
  unfold addDR
  by_cases hno : mayB p = false ∨ (p.length : Int) ≠ L
  · rw [if_pos hno]; simp
  · rw [if_neg hno]
    by_cases h40 : 40 < ns.length + (p.length - (known ns 0 p).1.length)
    · rw [if_pos h40]; simp
    · rw [if_neg h40]
      have hm : mayB p = true := by
        cases hm : mayB p with
        | true => rfl
        | false => exact absurd (.inl hm) hno
      obtain ⟨a1, a2, a3, a4, a5⟩ := addD_says h.inv p
      have := (may_short hm).1
      show (addD ns p).2.length ≤ 3
      rw [a3]; simp [outR]; omega
/-- A path added to both: what stands behind it. -/
theorem both_step {B : Nat} {D R D' R' : Nat → Prop} {d r : Nat} {L : Int} {ns ns' : List DNode} {w w1 w2 : World} {v1 : Value} {cs : List Nat} (h : BothW w B D R d r L ns) (hok : DOk ns')
    (hg1 : Grow w D D') (hd1 : DictW w1 D' d L ns') (hc1 : Chg D w w1) (ho1 : w1.ownsRow w.heap.size 3 1 v1 cs.length (nvals cs)) (hn1 : ∀ g, v1.ownBlock = some g → ¬ D' g)
    (hg2 : Grow w1 R R') (hr2 : RefW w2 R' r L (paths ns')) (hc2 : Chg R w1 w2) (hB : B ≤ w.heap.size) :
    BothW w2 B D' R' d r L ns' ∧ Below B w w2 ∧ w2.ownsRow w.heap.size 3 1 v1 cs.length (nvals cs) ∧ (∀ g, v1.ownBlock = some g → ¬ D' g ∧ ¬ R' g) := by
  obtain ⟨q1, q2, q3, q4, q5, q6⟩ := h
  have hs1 := hc1.size
  have hs2 := hc2.size
  have hRlt : ∀ k, R k → k < w.heap.size := q2.2.1
  have hD'R : ∀ k, D' k → ¬ R k := fun k hk hr => by
    rcases hg1.2 k hk with h | h
    · exact q4 k h hr
    · have := hRlt k hr; omega
  have b1 : Below B w w1 := hc1.below hB q5
  refine ⟨⟨hd1.kept (hc2.kept (fun k hk => ⟨hd1.2.1 k hk, hD'R k hk⟩)) hs2, hr2, hok, fun k hk hr => ?_, fun k hk => ?_, fun k hk => ?_⟩, b1.trans (hc2.below (by omega) q6), own_kept ho1 (fun g hg => hc2.block g (ho1.lt g hg).2 (fun hr => ?_)), fun g hg => ⟨hn1 g hg, fun hr => ?_⟩⟩
  · rcases hg2.2 k hr with h | h
    · exact hD'R k hk h
    · have := hd1.2.1 k hk; omega
  · rcases hg1.2 k hk with h | h
    · exact q5 k h
    · omega
  · rcases hg2.2 k hk with h | h
    · exact q6 k h
    · omega
  · have := (ho1.lt g hg).1
    have := hRlt g hr
    omega
  · rcases hg2.2 g hr with h | h
    · have := (ho1.lt g hg).1
      have := hRlt g h
      omega
    · have := (ho1.lt g hg).2; omega
/-- A reference without paths. -/
theorem refNew {w : World} {L : Int} {t : TypeId} : RefW (w.alloc (.cells #[.int .i64 L, .slice none 0 0] t)) (fun k => k = w.heap.size) w.heap.size L (paths []) := by
  refine ⟨rfl, fun k hk => by subst hk; simp, fun i hi => by simp [go_sem], by simp [go_sem], .slice none 0 0, [], fun _ => False, by simp [go_sem], World.ownsRow_nil _ _ _ _, fun g hg => by simp [Value.ownBlock] at hg, fun k hk => hk.elim, fun i x hx => by simp [paths] at hx⟩
def bothN (levels : Int) : Int := 1 + pickN levels 3
def BothPost (L : Int) (ns : List DNode) (w : World) (e : Ending) (w' : World) : Prop :=
  ∃ d r D R, e = .returned (.tuple #[.pointer (some ⟨d, 0, none⟩), .pointer (some ⟨r, 0, none⟩), .bool true]) ∧ BothW w' w.heap.size D R d r L ns ∧ Below w.heap.size w w'
set_option maxRecDepth 100000 in
set_option maxHeartbeats 1600000 in
theorem both_any (levels : Int) (v : Value) (ll : List (List ByteArray)) (w : World) (hlv : InI64 levels) (hv : PathsW w w.heap.size v ll) :
    Calls Try.prog 8 #[.int .i64 levels, v] w (BothPost (bothN levels) (addMany (bothN levels) [] (ll.take 60)) w) := by
  have HPK := hid (pick_any levels 3 w hlv (by omega) (by omega))
  have hpn := pickN_in levels 3 (by omega)
  unfold bothN
  generalize pickN levels 3 = P at *
  obtain ⟨A, c, rfl, hc1, hc2, hrow⟩ := hv.at
  have HROW := hid hrow; have HV := hid hv; clear hrow hv
  go_enter Try.func8, Try.ntmps8
  go_wp2_with fail
  refine HPK.out.mono ?_
  rintro e w1 ⟨rfl, hq1⟩
  have HQ1 := hid hq1; clear hq1
  generalize hL : 1 + P = L at *
  have HN := hid (newD_yes L w1 (by omega) (by omega))
  have hL1 : 1 ≤ L := by omega
  have hL2 : L ≤ 3 := by omega
  clear hpn
  go_wp2_with fail
  refine HN.out.mono ?_
  rintro e w2 ⟨d, D, rfl, hd2, hD2, hb2⟩
  have hz : w1.heap.size = w.heap.size := Qu.size HQ1.out
  rw [hz] at hb2 hD2
  have HB2 := hid ((HQ1.out.below w.heap.size).trans hb2)
  have HBO := hid (show BothW (w2.alloc (.cells #[.int .i64 L, .slice none 0 0] 50)) w.heap.size D (fun k => k = w2.heap.size) d w2.heap.size L (addMany L [] (ll.take 0)) from
    ⟨hd2.below (bl1 _ _), refNew, dok_nil, fun k hk e => by subst e; have := hd2.2.1 _ hk; omega, hD2, fun k e => by subst e; exact HB2.out.size⟩)
  have HB3 := hid (HB2.out.alloc HB2.out.size (.cells #[.int .i64 L, .slice none 0 0] 50))
  clear hd2 hD2 hb2 hz HN HPK
  go_wp2
  go_loopw [10] (fun i wr => ∃ (k : Nat) (D R : Nat → Prop), i = .int .i64 k ∧ k ≤ ll.length ∧ k ≤ 60 ∧ BothW wr w.heap.size D R d w2.heap.size L (addMany L [] (ll.take k)) ∧ Below w.heap.size w wr) (fun i _ => 60 - (intOf i).toNat)
  case atStart => exact ⟨0, D, _, rfl, by omega, by omega, HBO.out, HB3.out⟩
  case round =>
    obtain ⟨k, D, R, rfl, hk, hk60, hbo, hb⟩ := hrel
    have HBO := hid hbo; have HB := hid hb; clear hbo hb
    by_cases hlt : k < ll.length
    · by_cases h60 : k < 60
      · obtain ⟨b, off, u, rfl, hbl, hcell, hsl, hso, hpl⟩ := HROW.out k hlt
        replace hcell := cellK HB.out hbl hcell
        have e1 : ll.take (k + 1) = ll.take k ++ [ll[k]] := List.take_succ_eq_append_getElem hlt
        generalize ll[k] = p at *
        have hdok := HBO.out.2.2.1
        generalize hns : addMany L [] (ll.take k) = ns at *
        obtain ⟨la, ld⟩ := link_add hdok L p
        have lf := addDR_few hdok L p
        have hslr : SlE wr (fun g => g < w.heap.size) u (svals p) := hsl.kept (fun g hg => HB.out.block g hg)
        have ad := addD_any D d L ns u p wr HBO.out.1 hdok.inv hdok.len (hslr.mono (fun g hg hD => by have := HBO.out.2.2.2.2.1 g hD; omega)) hso hpl
        have hns2 : addMany L [] (ll.take (k + 1)) = (addDR ns L p).1 := by rw [e1, addMany_snoc, hns]
        generalize hres : addDR ns L p = res at *
        obtain ⟨ns', cs, er⟩ := res
        simp only at la ld lf hns2
        have HAD := hid ad; have HLA := hid la; have HLD := hid ld; have HN2 := hid hns2; have HSL := hid hslr; have HOK := hid hdok
        clear ad la ld hns2 hslr hdok hres e1 hns hsl hso hpl
        go_wp2_with fail
        refine HAD.out.mono ?_
        rintro e w4 ⟨v1, D', rfl, ho1, hn1, hg1, hd1, hc1'⟩
        have HO1 := hid ho1; have HNN1 := hid hn1; have HG1 := hid hg1; have HDD1 := hid hd1; have HCC1 := hid hc1'
        clear ho1 hn1 hg1 hd1 hc1'
        simp only at HO1
        have hs4 := HCC1.out.size
        have hs0 := HB.out.size
        have b4 : Below w.heap.size wr w4 := HCC1.out.below hs0 HBO.out.2.2.2.2.1
        have hcell4 := cellK b4 hbl hcell
        have hsl4 : SlE w4 (fun g => ¬ R g) u (svals p) := (HSL.out.kept (fun g hg => b4.block g hg)).mono (fun g hg hR => by have := HBO.out.2.2.2.2.2 g hR; omega)
        have hrw4 : RefW w4 R w2.heap.size L (paths ns) := HBO.out.2.1.kept (HCC1.out.kept (fun g hg => ⟨HBO.out.2.1.2.1 g hg, fun hD => HBO.out.2.2.2.1 g hD hg⟩)) hs4
        have ra := refAdd_any R w2.heap.size L (paths ns) u p w4 hrw4 (by rw [paths_len]; have := HOK.out.len; omega) hsl4
        rw [HLA.out] at ra
        have HRA := hid ra
        clear ra hrw4 hsl4 b4
        go_wp2_with fail
        refine HRA.out.mono ?_
        rintro e w5 ⟨v2, R', rfl, hs5, hg2, hr2, hc2'⟩
        have HS5 := hid hs5
        have HST := hid (both_step HBO.out HLD.out HG1.out HDD1.out HCC1.out HO1.out HNN1.out hg2 hr2 hc2' hs0)
        clear hs5 hg2 hr2 hc2' hcell4 hcell
        have HIN := hid (ints_yes v1 v2 cs w5 (Sl.of_own (by simpa using HST.out.2.2.1)) HS5.out (by omega))
        have t1 : (er != er) = false := by simp
        go_wp2_with fail
        refine HIN.out.mono ?_
        rintro e w6 ⟨rfl, hq6⟩
        have HQ6 := hid hq6; clear hq6
        go_wp2
        go_roundw
        case rel => exact ⟨k + 1, D', R', by go_num, by omega, by omega, by rw [HN2.out]; exact HST.out.1.below (HQ6.out.below _), HB.out.trans (HST.out.2.1.trans (HQ6.out.below _))⟩
        case measure => simp [intOf]; omega
      · obtain rfl : k = 60 := by omega
        go_wp2
        go_ret3
        exact ⟨d, w2.heap.size, D, R, rfl, HBO.out, HB.out⟩
    · obtain rfl : k = ll.length := by omega
      have e1 : ll.take ll.length = ll.take 60 := by rw [List.take_of_length_le (Nat.le_refl _), List.take_of_length_le hk60]
      go_wp2
      go_ret3
      exact ⟨d, w2.heap.size, D, R, rfl, by rw [← e1]; exact HBO.out, HB.out⟩
end Go.Proofs.Ytbledkffkckjbaa
