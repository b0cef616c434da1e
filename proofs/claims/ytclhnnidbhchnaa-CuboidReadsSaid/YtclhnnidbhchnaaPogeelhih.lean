/- 3 texts of this claim, in build order. -/
import Derived.Test.YtclhnnidbhchnaaPcjopmobf
import Derived.Test.YtclhnnidbhchnaaPpanpdidk
import Derived.Test.YtclhnnidbhchnaaPnkobkehe
/- The law's both. -/
namespace Go.Proofs.Ytclhnnidbhchnaa
open Go.ChangeShapes Go.WideShapes Go.ChangeAt Go.RowKit Go.Maps
set_option linter.unusedVariables false
set_option linter.unusedSimpArgs false

/-- Both cuboids hold the same cells, apart from one another; the program's owns blocks from B on; the reference's all blocks below B too. -/
def BothC (w : World) (B : Nat) (D R : Nat → Prop) (p m r W M : Nat) (L : List KC) : Prop :=
  CubW w D p m W M L ∧ RefC w R r W M L ∧ (∀ k, D k → ¬ R k) ∧ (∀ k, D k → B ≤ k) ∧ (∀ k, k < B → R k) ∧ B ≤ r
theorem BothC.below {w w' : World} {B : Nat} {D R : Nat → Prop} {p m r W M : Nat} {L : List KC} (h : BothC w B D R p m r W M L) (hb : Below w.heap.size w w') : BothC w' B D R p m r W M L :=
  ⟨h.1.below hb, h.2.1.below hb, h.2.2⟩
/-- Behind the program's Add: the reference's is as it was. -/
theorem afterC {w w' : World} {B : Nat} {D R D' : Nat → Prop} {p m r W M : Nat} {L L' : List KC} (h : BothC w B D R p m r W M L) (hc : CubW w' D' p m W M L') (hg : Grow w.drew D D') (hu : Upd m w.drew w') (hB : B ≤ w.heap.size := by omega) :
    RefC w' R r W M L ∧ (CubW w' D' p m W M L' ∧ (∀ k, D' k → ¬ R k) ∧ (∀ k, D' k → B ≤ k) ∧ (∀ k, k < B → R k) ∧ B ≤ r) ∧ ∀ k, k < B → R k ∧ k ≠ r := by
  obtain ⟨h1, h2, h3, h4, h5, h6⟩ := h
  have hl := h2.2.1
  refine ⟨h2.kept (fun k hk => hu.block k (hl k hk) (fun e => by injection e with e; exact h3 m h1.2.1 (e ▸ hk))) hu.size, ⟨hc, fun k hk hr => ?_, fun k hk => ?_, h5, h6⟩, fun k hk => ⟨h5 k hk, by omega⟩⟩
  · rcases hg.2 k hk with h | h
    · exact h3 k h hr
    · have : w.heap.size ≤ k := h
      have := hl k hr; omega
  · rcases hg.2 k hk with h | h
    · exact h4 k h
    · have : w.heap.size ≤ k := h
      omega
theorem afterCR {w w' : World} {B : Nat} {R R' D' : Nat → Prop} {p m r W M : Nat} {L L' : List KC} (h : RefC w R r W M L ∧ (CubW w D' p m W M L' ∧ (∀ k, D' k → ¬ R k) ∧ (∀ k, D' k → B ≤ k) ∧ (∀ k, k < B → R k) ∧ B ≤ r) ∧ ∀ k, k < B → R k ∧ k ≠ r) (hr : RefC w' R' r W M L') (hg : Grow w R R') (hu : Upd r w w') :
    ∃ D R, BothC w' B D R p m r W M L' := by
  obtain ⟨h1, ⟨h2, h3, h4, h5, h6⟩, -⟩ := h
  have hl := h2.2.2.2.1
  refine ⟨D', R', h2.kept (fun k hk => hu.block k (hl k hk) (fun e => by injection e with e; exact h3 k hk (e ▸ h1.1))) hu.size, hr, fun k hk hk' => ?_, h4, fun k hk => hg.1 k (h5 k hk), h6⟩
  rcases hg.2 k hk' with h | h
  · exact h3 k hk h
  · have := hl k hk; omega
theorem afterR {w w' : World} {B : Nat} {D R R' : Nat → Prop} {p m r W M : Nat} {L L' : List KC} (h : BothC w B D R p m r W M L) (hr : RefC w' R' r W M L') (hg : Grow w.drew R R') (hu : Upd r w.drew w') :
    CubW w' D p m W M L ∧ RefC w' R' r W M L' ∧ (∀ k, D k → ¬ R' k) ∧ (∀ k, D k → B ≤ k) ∧ (∀ k, k < B → R' k) ∧ B ≤ r := by
  obtain ⟨h1, h2, h3, h4, h5, h6⟩ := h
  have hl := h1.2.2.2.1
  refine ⟨h1.kept (fun k hk => hu.block k (hl k hk) (fun e => by injection e with e; exact h3 k hk (e ▸ h2.1))) hu.size, hr, fun k hk hk' => ?_, h4, fun k hk => hg.1 k (h5 k hk), h6⟩
  rcases hg.2 k hk' with h | h
  · exact h3 k hk h
  · have : w.heap.size ≤ k := h
    have := hl k hk; omega
theorem afterRC {w w' : World} {B : Nat} {D R' D' : Nat → Prop} {p m r W M : Nat} {L L' : List KC} (h : CubW w D p m W M L ∧ RefC w R' r W M L' ∧ (∀ k, D k → ¬ R' k) ∧ (∀ k, D k → B ≤ k) ∧ (∀ k, k < B → R' k) ∧ B ≤ r) (hc : CubW w' D' p m W M L') (hg : Grow w D D') (hu : Upd m w w') (hB : B ≤ w.heap.size := by omega) :
    ∃ D R, BothC w' B D R p m r W M L' := by
  obtain ⟨h1, h2, h3, h4, h5, h6⟩ := h
  have hl := h2.2.1
  refine ⟨D', R', hc, h2.kept (fun k hk => hu.block k (hl k hk) (fun e => by injection e with e; exact h3 m h1.2.1 (e ▸ hk))) hu.size, fun k hk hr => ?_, fun k hk => ?_, h5, h6⟩
  · rcases hg.2 k hk with h | h
    · exact h3 k h hr
    · have := hl k hr; omega
  · rcases hg.2 k hk with h | h
    · exact h4 k h
    · omega
def wOf (n : Int) : Nat := (pickN n 3).toNat + 1
def mOf (n : Int) : Nat := (pickN n 2).toNat + 1
theorem wOf_in (n : Int) : 1 ≤ wOf n ∧ wOf n ≤ 3 ∧ (1 : Int) + pickN n 3 = (wOf n : Int) := by
  have := pickN_in n 3 (by omega); unfold wOf; omega
theorem mOf_in (n : Int) : 1 ≤ mOf n ∧ mOf n ≤ 2 ∧ (1 : Int) + pickN n 2 = (mOf n : Int) := by
  have := pickN_in n 2 (by omega); unfold mOf; omega
def BothP (W M : Nat) (L : List KC) (w : World) (e : Ending) (w' : World) : Prop :=
  ∃ p m r D R, e = .returned (.tuple #[.pointer (some ⟨p, 0, none⟩), .pointer (some ⟨r, 0, none⟩), .bool true]) ∧ BothC w' w.heap.size D R p m r W M L ∧ Below w.heap.size w w'
def BoRel (l : List KC) (W M p m r : Nat) (w : World) (i : Value) (wr : World) : Prop :=
  ∃ (k : Nat) (D R : Nat → Prop), k ≤ l.length ∧ k ≤ 60 ∧ i = .int .i64 k ∧ BothC wr w.heap.size D R p m r W M (addAll W M (l.take k)) ∧ OkL W M (addAll W M (l.take k)) ∧ (addAll W M (l.take k)).length ≤ k ∧ Below w.heap.size w wr
theorem addAll_ok (W M : Nat) (l : List KC) : OkL W M (addAll W M l) := by
  unfold addAll
  suffices h : ∀ (l L : List KC), OkL W M L → OkL W M (l.foldl (fun L x => (addK W M L x.1 x.2).1) L) from h l [] (OkL.nil_ W M)
  intro l
  induction l with
  | nil => exact fun L h => h
  | cons x l ih => exact fun L h => ih _ (addK_ok h x.1 x.2)
theorem addAll_len (W M : Nat) (l : List KC) : (addAll W M l).length ≤ l.length := by
  unfold addAll
  suffices h : ∀ (l L : List KC), OkL W M L → (l.foldl (fun L x => (addK W M L x.1 x.2).1) L).length ≤ L.length + l.length by
    have := h l [] (OkL.nil_ W M); simpa using this
  intro l
  induction l with
  | nil => exact fun L h => by simp
  | cons x l ih =>
    intro L h
    have h1 := ih _ (addK_ok h x.1 x.2)
    have h2 := addK_len h x.1 x.2
    rw [List.foldl_cons, List.length_cons]
    omega
set_option maxRecDepth 100000 in
set_option maxHeartbeats 6400000 in
theorem both_any (a b : Int) (v : Value) (l : List KC) (w : World) (ha : InI64 a) (hb : InI64 b) (hv : DeedsV w w.heap.size v l) :
    Calls Try.prog 16 #[.int .i64 a, .int .i64 b, v] w (BothP (wOf a) (mOf b) (addAll (wOf a) (mOf b) (l.take 60)) w) := by
  obtain ⟨A, ca, rfl, hla, hca, hel⟩ := hv
  unfold maxLen at hca
  have HP1 := hid (fun W' => pick_any a 3 W' ha (by omega) (by omega))
  have HP2 := hid (fun W' => pick_any b 2 W' hb (by omega) (by omega))
  obtain ⟨h1W, hW, ew⟩ := wOf_in a
  obtain ⟨h1M, hM, em⟩ := mOf_in b
  have hpa := pickN_in a 3 (by omega)
  have hpb := pickN_in b 2 (by omega)
  generalize wOf a = W at *
  generalize mOf b = M at *
  generalize pickN a 3 = pa at *
  generalize pickN b 2 = pb at *
  have HEL := hid hel
  clear hel ha hb
  go_enter Try.func16, Try.ntmps16
  go_wp2_with fail
  refine (HP1.out _).mono ?_
  rintro e w1 ⟨rfl, hq1⟩
  have HB1 := hid (hq1.below w.heap.size)
  clear hq1
  go_wp2_with fail
  refine (HP2.out _).mono ?_
  rintro e w2 ⟨rfl, hq2⟩
  have HB2 := hid (HB1.out.trans (hq2.below w.heap.size))
  have hz2 := HB2.out.size
  clear hq2
  have HNW := hid (newC_yes W M w2 h1W hW h1M hM)
  go_wp2_with fail
  refine HNW.out.mono ?_
  rintro e w3 ⟨p, m, D, rfl, hc3, hd3, hb3⟩
  have hz3 := hb3.size
  obtain ⟨W3, hW3⟩ : ∃ W', W' = w3.alloc (.cells #[.int .i64 W, .int .i64 M, .slice none 0 0] 66) := ⟨_, rfl⟩
  have hbW3 : Below w3.heap.size w3 W3 := by rw [hW3]; exact bl1 _ _
  have hzW3 : W3.heap.size = w3.heap.size + 1 := by rw [hW3]; simp
  have hmB : w.heap.size ≤ m := Nat.le_trans hz2 (hd3 m hc3.2.1)
  have hbo : BothC W3 w.heap.size D (fun k => k < w.heap.size ∨ k = w3.heap.size) p m w3.heap.size W M [] := by
    have hd := hc3.2.2.2.1
    refine ⟨hc3.below hbW3, ⟨.inr rfl, fun k hk => by rcases hk with h | h <;> omega, fun i hi => ?_, by rw [hW3]; simp [go_sem], by rw [hW3]; simp [go_sem], .slice none 0 0, [], by rw [hW3]; simp [go_sem], World.ownsRow_nil _ _ _ _, (fun g hg => by cases hg), RowO.nil_ _ _⟩, fun k hk hk' => ?_, fun k hk => Nat.le_trans hz2 (hd3 k hk), fun k hk => .inl hk, by omega⟩
    · rw [hW3]; simp [go_sem]
    · have h1 := hd k hk
      have h2 := hd3 k hk
      rcases hk' with h | h <;> omega
  have HBO3 := hid hbo
  have HB3 := hid ((HB2.out.trans (hb3.mono hz2)).trans (hbW3.mono (by omega)))
  have HW3 := hid hW3
  clear hc3 hd3 hb3 hbW3 hbo hW3
  generalize hrr : w3.heap.size = r at *
  go_wp2
  rw [← HW3.out]
  have hrB : w.heap.size ≤ r := by omega
  go_loopw [13] (fun i wr => BoRel l W M p m r w i wr) (fun i _ => l.length - (intOf i).toNat)
  case atStart => exact ⟨0, _, _, by omega, by omega, rfl, HBO3.out, OkL.nil_ W M, Nat.le_refl _, HB3.out⟩
  case round =>
    obtain ⟨k, D, R, hk, hk6, rfl, hbo, hok, hlen, hbw⟩ := hrel
    have hsr := hbw.size
    by_cases hlt : k < l.length
    · by_cases h60 : k < 60
      · obtain ⟨b, off, K, kc, A1, c1, A2, c2, A3, c3, rfl, hbl, q0, q1, q2, q3, q4, hsk, hce⟩ := HEL.out k hlt
        have q0 := cellK hbw hbl q0
        have q1 := cellK hbw hbl q1
        have q2 := cellK hbw hbl q2
        have q3 := cellK hbw hbl q3
        have q4 := cellK hbw hbl q4
        have hmW : m < wr.heap.size := hbo.1.2.2.2.1 m hbo.1.2.1
        have hrW : r < wr.heap.size := hbo.2.1.2.1 r hbo.2.1.1
        have hts := take_snocK hlt
        have e1 : addAll W M (l.take (k + 1)) = (addK W M (addAll W M (l.take k)) (l.getD k zK).1 (l.getD k zK).2).1 := by rw [hts, addAll_snoc]
        have hok2 : OkL W M (addAll W M (l.take (k + 1))) := addAll_ok W M _
        have hle2 : (addAll W M (l.take (k + 1))).length ≤ k + 1 := by
          have := addAll_len W M (l.take (k + 1))
          rw [List.length_take] at this
          omega
        rw [e1] at hok2 hle2
        generalize (l.getD k zK).2 = c at *
        generalize (l.getD k zK).1 = key at *
        generalize addAll W M (l.take k) = LL at *
        have SLK := hid (hsk.below hbw); have HCR := hid (hce.below hbw)
        have HAC := hid (addC_any D p m W M LL (.slice K key.length kc) (.agg #[.int .i64 c.n, .slice A1 c.s.length c1, .slice A2 c.lo.length c2, .slice A3 c.hi.length c3]) key c wr.drew (hbo.1.qu ⟨1, rfl⟩) hok h1W hW hM (by omega) (((hsk.below hbw).more hsr).qu' ⟨1, rfl⟩) (((hce.below hbw).more hsr).below (Below.refl _ _).drew))
        have HAR := hid (addR_any R r W M LL (.slice K key.length kc) (.agg #[.int .i64 c.n, .slice A1 c.s.length c1, .slice A2 c.lo.length c2, .slice A3 c.hi.length c3]) key c wr.drew (hbo.2.1.qu ⟨1, rfl⟩) hok hW hM (by omega) (((hsk.below hbw).more hsr).qu' ⟨1, rfl⟩) (CellE.of_read ((hce.below hbw).below (Below.refl _ _).drew) (fun i hi => ⟨hbo.2.2.2.2.1 i hi, by omega⟩)))
        have HBO0 := hid hbo; have HOKL := hid hok; have HOK2 := hid hok2; have HLE2 := hid hle2; have E1 := hid e1; have HBW := hid hbw
        clear hbo hok hok2 hle2 e1 hsk hce hbw hts
        go_upto_region 10 with (fail)
        go_region_held3 (fun w' => w'.cell? ⟨b, off + k * 5, none⟩ = some (.slice K key.length kc) ∧ w'.cell? ⟨b, off + k * 5 + 1, none⟩ = some (.int .i64 c.n) ∧ w'.cell? ⟨b, off + k * 5 + 1 + 1, none⟩ = some (.slice A1 c.s.length c1) ∧ w'.cell? ⟨b, off + k * 5 + 1 + 2, none⟩ = some (.slice A2 c.lo.length c2) ∧ w'.cell? ⟨b, off + k * 5 + 1 + 3, none⟩ = some (.slice A3 c.hi.length c3)) (go_keep) ((first | ((with_reducible refine HAC.out.mono ?_); rintro e w5 ⟨D5, rfl, hc5, hg5, hu5⟩; have hb5 : Below w.heap.size wr w5 := ((Below.refl wr.heap.size wr).drew.mono hsr).trans (hu5.below hmB hmW); have hz5 := hb5.size; have q0 := cellK hb5 (by omega) q0; have q1 := cellK hb5 (by omega) q1; have q2 := cellK hb5 (by omega) q2; have q3 := cellK hb5 (by omega) q3; have q4 := cellK hb5 (by omega) q4; have HR2 := hid (afterC HBO0.out hc5 hg5 hu5); have HAR2 := hid (addR_any R r W M LL (.slice K key.length kc) (.agg #[.int .i64 c.n, .slice A1 c.s.length c1, .slice A2 c.lo.length c2, .slice A3 c.hi.length c3]) key c w5 HR2.out.1 HOKL.out hW hM (by omega) ((SLK.out.below hb5).more (Nat.le_trans hsr hz5)) (CellE.of_read (HCR.out.below hb5) HR2.out.2.2)); have HW5 := hid hb5; clear hc5 hg5 hu5 hb5) | ((with_reducible refine HAR2.out.mono ?_); rintro e w6 ⟨R6, rfl, hr6, hg6, hu6⟩; have hb6 : Below w.heap.size w5 w6 := hu6.below hrB (Nat.lt_of_lt_of_le hrW hz5); have hz6 := hb6.size; have q0 := cellK hb6 (by omega) q0; have q1 := cellK hb6 (by omega) q1; have q2 := cellK hb6 (by omega) q2; have q3 := cellK hb6 (by omega) q3; have q4 := cellK hb6 (by omega) q4; have HBO := hid (afterCR HR2.out hr6 hg6 hu6); have HWX := hid (HW5.out.trans hb6); clear hr6 hg6 hu6 hb6)))
        all_goals
          have HBX := hid (HBW.out.trans HWX.out)
          go_wp2
          go_roundw
          case rel =>
            obtain ⟨D6, R6, hb6⟩ := HBO.out
            exact ⟨k + 1, D6, R6, by omega, by omega, by go_num, by rw [E1.out]; exact hb6, by rw [E1.out]; exact HOK2.out, by rw [E1.out]; exact HLE2.out, HBX.out⟩
          case measure => simp [intOf]; omega
      · obtain rfl : k = 60 := by omega
        have HBO := hid hbo; have HBW := hid hbw
        clear hbo hbw hok
        go_wp2
        go_ret3
        exact ⟨p, m, r, D, R, rfl, HBO.out, HBW.out⟩
    · obtain rfl : k = l.length := by omega
      have e2 : l.take 60 = l.take l.length := by rw [List.take_length, List.take_of_length_le hk6]
      have HBO := hid (show BothC wr w.heap.size D R p m r W M (addAll W M (l.take 60)) by rw [e2]; exact hbo); have HBW := hid hbw
      clear hbo hbw hok e2
      go_wp2
      go_ret3
      exact ⟨p, m, r, D, R, rfl, HBO.out, HBW.out⟩
end Go.Proofs.Ytclhnnidbhchnaa
/- The walk of CuboidPlays. -/
namespace Go.Proofs.Ytclhnnidbhchnaa
open Go.ChangeShapes Go.WideShapes Go.ChangeAt Go.RowKit Go.Maps
set_option linter.unusedVariables false
set_option linter.unusedSimpArgs false

theorem rowsC_of_rd {w : World} {B : Nat} {v : Value} {l : List (List Int)} (h : rdSlice 1 (rdSlice 1 rdInt) w B [v] l) : RowsI w B v l := by
  obtain ⟨A, c, e, h1, h2, h3⟩ := h
  injection e with e _
  subst e
  refine ⟨A, c, rfl, h1, h2, fun i hi => ?_⟩
  obtain ⟨b, off, e1, hb, hx⟩ := h3 (by omega)
  obtain ⟨es, q1, q2, q3⟩ := hx i l[i] (List.getElem?_eq_getElem hi)
  obtain ⟨u, rfl, hs⟩ := ints_sl q3
  refine ⟨b, off, u, e1, hb, by simpa using q2 0 u rfl, ?_⟩
  rw [show l.getD i [] = l[i] by simp [List.getD_eq_getElem?_getD, hi]]
  exact hs
theorem opens_rowsC : Opens Try.prog 33 1 (rdSlice 1 (rdSlice 1 rdInt)) := opens_slice (e := 23) (good_slice good_int) Try.underlying33 opens_intsI (by kernel_rfl) (by omega)
theorem newC_no (a b : Int) (w : World) (h : ¬ (1 ≤ a ∧ a ≤ 3 ∧ 1 ≤ b ∧ b ≤ 2)) : Calls Try.prog 21 #[.int .i64 a, .int .i64 b] w (Stays (.pointer none) w) := by
  have hc : (a < 1) ∨ (¬ a < 1 ∧ 3 < a) ∨ (¬ a < 1 ∧ ¬ 3 < a ∧ b < 1) ∨ (¬ a < 1 ∧ ¬ 3 < a ∧ ¬ b < 1 ∧ 2 < b) := by omega
  clear h
  rcases hc with h1 | ⟨h1, h2⟩ | ⟨h1, h2, h3⟩ | ⟨h1, h2, h3, h4⟩
  all_goals
    go_enter Try.func21, Try.ntmps21
    go_wp2
    go_ret
    exact ⟨rfl, Qu.refl _⟩
theorem getC_all (D : Nat → Prop) (p m W M : Nat) (L : List KC) (v : Value) (k : List Int) (w : World) (hc : CubW w D p m W M L) (hs : OkL W M L) (hv : Sl w w.heap.size v (ivals k)) (h1 : 1 ≤ W) (h3 : W ≤ 3) (hM : M ≤ 2) :
    Calls Try.prog 25 #[.pointer (some ⟨p, 0, none⟩), v] w (GetCP (getC L k) (getK L k).isSome w) := by
  cases hk : okB W k
  · have hn : getK L k = none := getK_none.2 (fun x hx e => by
      have := hs.key x hx
      rw [e] at this
      unfold okB at hk
      rw [decide_eq_false_iff_not] at hk
      exact hk this)
    have hg : getC L k = nilC := by unfold getC; rw [hn]; rfl
    rw [hn, hg]
    exact getC_no D p m W M L v k w hc hv hk
  · exact getC_yes D p m W M L v k w hc hs hv h1 h3 hM hk
def PlRel (l : List (List Int)) (w1 : World) (i : Value) (wr : World) : Prop := ∃ k : Nat, k ≤ l.length ∧ k ≤ 20 ∧ i = .int .i64 k ∧ Below w1.heap.size w1 wr
set_option maxRecDepth 100000 in
set_option maxHeartbeats 6400000 in
theorem walk_CuboidPlays (w : World) (a : Int) (ha : -9223372036854775808 ≤ a ∧ a ≤ 9223372036854775807) (b : Int) (hb : -9223372036854775808 ≤ b ∧ b ≤ 9223372036854775807) (v2 : Value) (l2 : List DeedX) (s2 : rdSlice 5 rdDeed w w.heap.size [v2] l2) (v3 : Value) (l3 : List (List Int)) (s3 : rdSlice 1 (rdSlice 1 rdInt) w w.heap.size [v3] l3) :
    Calls Try.prog 6 #[.int .i64 a, .int .i64 b, v2, v3] w fun e w' => e = .returned (.bool true) ∧ Below w.heap.size w w' := by
  have hd := deeds_of_rd s2
  have hr := rowsC_of_rd s3
  have HBT := hid (both_any a b v2 (l2.map DeedX.kc) w ha hb hd)
  obtain ⟨A2, c2, rfl, -, -, -⟩ := hd
  have hr' := hr
  obtain ⟨A3, c3, rfl, -, hc3, -⟩ := hr
  unfold maxLen at hc3
  have HRW := hid hr'
  obtain ⟨h1W, hW, -⟩ := wOf_in a
  obtain ⟨h1M, hM, -⟩ := mOf_in b
  have hok := addAll_ok (wOf a) (mOf b) ((l2.map DeedX.kc).take 60)
  have hlen : (addAll (wOf a) (mOf b) ((l2.map DeedX.kc).take 60)).length ≤ 60 := by
    have := addAll_len (wOf a) (mOf b) ((l2.map DeedX.kc).take 60)
    rw [List.length_take] at this
    omega
  generalize addAll (wOf a) (mOf b) ((l2.map DeedX.kc).take 60) = L at *
  generalize wOf a = W at *
  generalize mOf b = M at *
  generalize (l2.map DeedX.kc).length = n2 at *
  have HOK := hid hok
  clear hok hr' s2 s3
  go_enter Try.func6, Try.ntmps6
  go_wp2_with fail
  refine HBT.out.mono ?_
  rintro e w1 ⟨p, m, r, D, R, rfl, hbo, hb1⟩
  have hz1 := hb1.size
  have HBO := hid hbo; have HB1 := hid hb1
  clear hbo hb1
  go_wp2
  go_loopw [12] (fun i wr => PlRel l3 w1 i wr) (fun i _ => l3.length - (intOf i).toNat)
  case atStart => exact ⟨0, by omega, by omega, rfl, Below.refl _ _⟩
  case round =>
    obtain ⟨k, hk, hk2, rfl, hbr⟩ := hrel
    have hsr := hbr.size
    have hbw := HB1.out.trans (hbr.mono hz1)
    have hc := HBO.out.1.below hbr
    have hrr := HBO.out.2.1.below hbr
    by_cases hend : k < l3.length ∧ k < 20
    · obtain ⟨hlt, h20⟩ := hend
      obtain ⟨A, c, e, -, -, hrow⟩ := HRW.out
      injection e with e1 _ e3
      subst e1; subst e3
      obtain ⟨bq, off, u, rfl, hbq, hcu, hsu⟩ := hrow k hlt
      have hcw := cellK hbw hbq hcu
      generalize l3.getD k [] = key at *
      obtain ⟨Ku, ku, rfl, -, -⟩ := hsu.formI
      have hs1 : Sl wr wr.heap.size (.slice Ku key.length ku) (ivals key) := (hsu.below hbw).more (by omega)
      have HG := hid (getC_all D p m W M L (.slice Ku key.length ku) key wr hc HOK.out hs1 h1W hW hM)
      have HGR := hid (fun W' (h : Below wr.heap.size wr W') => getR_any R r W M L (.slice Ku key.length ku) key W' (hrr.below h) ((hs1.below h).more h.size))
      unfold GetRP at HGR
      generalize (getK L key).isSome = bs at *
      generalize getC L key = cc at *
      have HBR := hid hbr
      clear hrow hcu hsu hs1 hc hrr hbr
      go_wp2_with fail
      refine HG.out.mono ?_
      rintro e w2 ⟨xv, rfl, ho2, hb2⟩
      have hz2 := hb2.size
      obtain ⟨X1, d1, X2, d2, X3, d3, rfl⟩ := (CellE.of_own ho2).lit
      obtain ⟨W2, hW2⟩ : ∃ W', W' = w2.alloc (.cells #[.int .i64 cc.n, .slice X1 cc.s.length d1, .slice X2 cc.lo.length d2, .slice X3 cc.hi.length d3] 25) := ⟨_, rfl⟩
      have hbW2 : Below w2.heap.size w2 W2 := by rw [hW2]; exact bl1 _ _
      have hzW2 : W2.heap.size = w2.heap.size + 1 := by rw [hW2]; simp
      have bx : Blk W2 w2.heap.size (.int .i64 cc.n) (.slice X1 cc.s.length d1) (.slice X2 cc.lo.length d2) (.slice X3 cc.hi.length d3) := by rw [hW2]; exact Blk.new _ _ _ _ _ _
      have hbr2 := hb2.trans (hbW2.mono hz2)
      have hcw := cellK hb2 (by omega) hcw
      have hbq2 : bq < w2.heap.size := by omega
      have HX := hid ((ho2.read.below hbW2).more hbW2.size)
      have HB2 := hid hbr2; have BX := hid bx; have HW2 := hid hW2
      clear ho2 hb2 hbW2 bx hbr2 hW2
      go_wp2_with fail
      rw [← HW2.out]
      refine (HGR.out _ HB2.out).mono ?_
      rintro e w3 ⟨yv, rfl, hce3, hb3⟩
      have hz3 := hb3.size
      obtain ⟨Y1, f1, Y2, f2, Y3, f3, rfl⟩ := hce3.lit
      obtain ⟨W3, hW3⟩ : ∃ W', W' = w3.alloc (.cells #[.int .i64 cc.n, .slice Y1 cc.s.length f1, .slice Y2 cc.lo.length f2, .slice Y3 cc.hi.length f3] 25) := ⟨_, rfl⟩
      have hbW3 : Below w3.heap.size w3 W3 := by rw [hW3]; exact bl1 _ _
      have hzW3 : W3.heap.size = w3.heap.size + 1 := by rw [hW3]; simp
      obtain ⟨b0, b1, b2, b3, -, -, -, -⟩ : Blk W3 w3.heap.size (.int .i64 cc.n) (.slice Y1 cc.s.length f1) (.slice Y2 cc.lo.length f2) (.slice Y3 cc.hi.length f3) := by rw [hW3]; exact Blk.new _ _ _ _ _ _
      have hb23 := hb3.trans (hbW3.mono hz3)
      obtain ⟨a0, a1, a2, a3, -, -, -, -⟩ := BX.out.below hb23 (by omega)
      have HSC := hid (refSameC_any (.agg #[.int .i64 cc.n, .slice X1 cc.s.length d1, .slice X2 cc.lo.length d2, .slice X3 cc.hi.length d3]) (.agg #[.int .i64 cc.n, .slice Y1 cc.s.length f1, .slice Y2 cc.lo.length f2, .slice Y3 cc.hi.length f3]) cc cc W3 ((HX.out.below hb23).more hb23.size) ((hce3.read.below hbW3).more hbW3.size))
      rw [decide_eq_true rfl] at HSC
      have HB3 := hid (HB2.out.trans (hb23.mono (by omega)))
      have HW3 := hid hW3
      clear hb3 hbW3 hce3 hb23 hW3 hcw
      go_upto_region 9 with (fail)
      rw [← HW3.out]
      go_wp2_with fail
      refine HSC.out.mono ?_
      rintro e w4 ⟨rfl, hb4⟩
      have HB4 := hid (HBR.out.trans ((HB3.out.trans (hb4.mono (by omega))).mono hsr))
      clear hb4
      go_wp2
      go_roundw
      case rel => exact ⟨k + 1, by omega, by omega, by go_num, HB4.out⟩
      case measure => simp [intOf]; omega
    · have HLK := hid (like_any D R p m r W M L wr hc hrr HOK.out h1W hW hM (by omega))
      have HBW := hid hbw
      have hex : (k < l3.length ∧ k = 20) ∨ k = l3.length := by omega
      clear hc hrr hbr hbw hend
      rcases hex with ⟨hlt, rfl⟩ | rfl
      all_goals
        go_wp2_with fail
        refine HLK.out.mono ?_
        rintro e w2 ⟨rfl, hb2⟩
        have HB2 := hid (HBW.out.trans (hb2.mono HBW.out.size))
        clear hb2
        by_cases hin : 1 ≤ a ∧ a ≤ 3 ∧ 1 ≤ b ∧ b ≤ 2
        · obtain ⟨an, rfl⟩ : ∃ n : Nat, a = (n : Int) := ⟨a.toNat, by omega⟩
          obtain ⟨bn, rfl⟩ : ∃ n : Nat, b = (n : Int) := ⟨b.toNat, by omega⟩
          obtain ⟨i1, i2, i3, i4⟩ := hin
          have HNW := hid (newC_yes an bn w2 (by omega) (by omega) (by omega) (by omega))
          go_wp2_with fail
          refine HNW.out.mono ?_
          rintro e w3 ⟨p3, m3, D3, rfl, -, -, hb3⟩
          have HB3 := hid (HB2.out.trans (hb3.mono HB2.out.size))
          clear hb3
          go_wp2_with fail
          refine (lives_any w3).mono ?_
          rintro e w4 ⟨rfl, hb4⟩
          have HB4 := hid (HB3.out.trans (hb4.mono HB3.out.size))
          clear hb4
          go_wp2
          go_ret
          exact ⟨rfl, HB4.out⟩
        · have HNW := hid (newC_no a b w2 hin)
          have hc : (a < 1) ∨ (¬ a < 1 ∧ 3 < a) ∨ (¬ a < 1 ∧ ¬ 3 < a ∧ b < 1) ∨ (¬ a < 1 ∧ ¬ 3 < a ∧ ¬ b < 1 ∧ 2 < b) := by omega
          clear hin
          rcases hc with h1 | ⟨h1, h2⟩ | ⟨h1, h2, h3⟩ | ⟨h1, h2, h3, h4⟩
          all_goals
            go_wp2_with fail
            refine HNW.out.mono ?_
            rintro e w3 ⟨rfl, hq3⟩
            have HB3 := hid (HB2.out.trans (hq3.below w.heap.size))
            clear hq3
            go_wp2_with fail
            refine (lives_any w3).mono ?_
            rintro e w4 ⟨rfl, hb4⟩
            have HB4 := hid (HB3.out.trans (hb4.mono HB3.out.size))
            clear hb4
            go_wp2
            go_ret
            exact ⟨by first | rfl | (rw [show decide (b ≤ 2) = false from decide_eq_false (by omega)]; rfl), HB4.out⟩
end Go.Proofs.Ytclhnnidbhchnaa
/- What a roll's error says, plainly. -/
namespace Go.Proofs.Ytclhnnidbhchnaa
set_option linter.unusedVariables false
set_option linter.unusedSimpArgs false

theorem rollE_zero {W : Nat} {ups : List (List Int)} {L : List KC} (h : rollE W ups L = 0) : ups.length = W ∧ (∀ x ∈ L, upAll ups x.1 = true) ∧ ∀ x ∈ rollP ups L, (sumC (gcells (rollP ups L) x.1)).2 = 0 := by
  unfold rollE at h
  split at h
  · cases h
  · rename_i h1
    split at h
    · cases h
    · rename_i h2
      split at h
      · cases h
      · rename_i h3
        rw [Bool.not_eq_false, List.all_eq_true] at h2 h3
        exact ⟨Decidable.not_not.1 h1, h2, fun x hx => of_decide_eq_true (h3 x hx)⟩
theorem rollE_in (W : Nat) (ups : List (List Int)) (L : List KC) : rollE W ups L = 0 ∨ rollE W ups L = 1 ∨ rollE W ups L = 14 := by
  unfold rollE
  split
  · exact .inr (.inl rfl)
  · split
    · exact .inr (.inl rfl)
    · split
      · exact .inr (.inr rfl)
      · exact .inl rfl
theorem rollL_ok {W M : Nat} {ups : List (List Int)} {L : List KC} (hs : OkL W M L) (h : rollE W ups L = 0) : OkL W M (rollL (rollP ups L)) ∧ (rollL (rollP ups L)).length ≤ L.length := by
  obtain ⟨h1, h2, h3⟩ := rollE_zero h
  refine ⟨rollF_ok (fun _ hx => hx) (rollP_key h1 h2) (rollP_all (q := fun c => MayP c) hs.may) (rollP_all (q := fun c => c.n ≠ 0) hs.full) (rollP_all (q := fun c => c.s.length = M) hs.len) h3, ?_⟩
  have := rollF_len (rollP ups L) (rollP ups L)
  unfold rollL
  simpa [rollP] using this
end Go.Proofs.Ytclhnnidbhchnaa
