/- 3 texts of this claim, in build order. -/
import Derived.Test.YtclhnnidbhchnaaPggpjbalc
import Derived.Test.YtclhnnidbhchnaaPbfcongdp
import Derived.Test.YtclhnnidbhchnaaPhffoljof
import Derived.Test.YtclhnnidbhchnaaPfbfcmllb
/- Cells handed in. -/
namespace Go.Proofs.Ytclhnnidbhchnaa
open Go.ChangeShapes Go.WideShapes Go.ChangeAt Go.RowKit
set_option linter.unusedVariables false
set_option linter.unusedSimpArgs false

abbrev CellX := Int × List Int × List Int × List Int
def CellX.cell (x : CellX) : CellM := ⟨x.1, x.2.1, x.2.2.1, x.2.2.2⟩
def rdCell : Rd CellX := rdPair 1 rdInt (rdPair 1 (rdSlice 1 rdInt) (rdPair 1 (rdSlice 1 rdInt) (rdSlice 1 rdInt)))
theorem opens_intsI : Opens Try.prog 23 1 (rdSlice 1 rdInt) := opens_slice (e := 3) good_int Try.underlying23 (opens_int Try.underlying3 (by kernel_rfl)) (by kernel_rfl) (by omega)
theorem opens_cell : Opens Try.prog 25 4 rdCell := by
  refine opens_struct (k := 4) Try.underlying25 (by kernel_rfl) ?_
  exact opensF_cons (k2 := 3) (by rfl) (opens_int Try.underlying3 (by kernel_rfl)) (opensF_cons (k2 := 2) (by rfl) opens_intsI (opensF_cons (k2 := 1) (by rfl) opens_intsI (opensF_one (by rfl) opens_intsI)))
theorem ints_sl {w : World} {B : Nat} {cs : List Value} {l : List Int} (h : rdSlice 1 rdInt w B cs l) : ∃ v, cs = [v] ∧ Sl w B v (ivals l) := by
  have h' := h
  obtain ⟨A, c, rfl, -, -, -⟩ := h
  exact ⟨_, rfl, rdSlice.sl (Value.int .i64) (fun es x hx => hx.1) h'⟩
theorem cell_of_rd {w : World} {B : Nat} {cs : Array Value} {x : CellX} (h : rdCell w B cs.toList x) : CellR w B (.agg cs) x.cell := by
  obtain ⟨l1, ⟨e1, -⟩, l2, h2, l3, h3, h4⟩ := h
  obtain ⟨v1, e2, s1⟩ := ints_sl h2
  obtain ⟨v2, e3, s2⟩ := ints_sl h3
  obtain ⟨v3, e4, s3⟩ := ints_sl h4
  refine ⟨v1, v2, v3, ?_, s1, s2, s3⟩
  have : cs.toList = [.int .i64 x.1, v1, v2, v3] := by
    rw [← List.take_append_drop 1 cs.toList, e1, ← List.take_append_drop 1 (cs.toList.drop 1), e2, ← List.take_append_drop 1 ((cs.toList.drop 1).drop 1), e3, e4]
    rfl
  rw [show cs = #[.int .i64 x.1, v1, v2, v3] from Array.toList_inj.1 this]
  rfl
theorem MOwnPost.lit {r : CellM × Int} {w : World} {e : Ending} {w' : World} (hp : MOwnPost r w e w') : FLit r.1 r.2 w e w' := flit_of rfl hp
theorem MergePost.lit {r : CellM × Int} {w : World} {e : Ending} {w' : World} (hp : MergePost r w e w') : FLit r.1 r.2 w e w' := by
  obtain ⟨v, rfl, hr, hb⟩ := hp
  have hr' := hr
  obtain ⟨v1, v2, v3, rfl, s1, s2, s3⟩ := hr
  obtain ⟨A1, c1, rfl, -, -⟩ := s1.formI
  obtain ⟨A2, c2, rfl, -, -⟩ := s2.formI
  obtain ⟨A3, c3, rfl, -, -⟩ := s3.formI
  exact ⟨A1, c1, A2, c2, A3, c3, rfl, hr', hb⟩
end Go.Proofs.Ytclhnnidbhchnaa
/- Deeds handed in; what adding them all gives. -/
namespace Go.Proofs.Ytclhnnidbhchnaa
open Go.ChangeShapes Go.WideShapes Go.ChangeAt Go.RowKit
set_option linter.unusedVariables false
set_option linter.unusedSimpArgs false

abbrev DeedX := List Int × CellX
def DeedX.kc (x : DeedX) : KC := (x.1, x.2.cell)
def rdDeed : Rd DeedX := rdPair 1 (rdSlice 1 rdInt) rdCell
theorem good_cellD : Good rdCell := good_pair good_int (good_pair (good_slice good_int) (good_pair (good_slice good_int) (good_slice good_int)))
theorem good_deed : Good rdDeed := good_pair (good_slice good_int) good_cellD
theorem opens_deed : Opens Try.prog 58 5 rdDeed := by
  refine opens_struct (k := 5) Try.underlying58 (by kernel_rfl) ?_
  exact opensF_cons (k2 := 4) (by rfl) opens_intsI (opensF_one (by rfl) opens_cell)
theorem opens_deeds : Opens Try.prog 32 1 (rdSlice 5 rdDeed) := opens_slice (e := 58) good_deed Try.underlying32 opens_deed (by kernel_rfl) (by omega)
/-- Deeds in memory. -/
def DeedsV (w : World) (B : Nat) (v : Value) (l : List KC) : Prop :=
  ∃ A c, v = .slice A l.length c ∧ l.length ≤ c ∧ c ≤ maxLen ∧ ∀ i, i < l.length → ∃ b off K kc A1 c1 A2 c2 A3 c3, A = some ⟨b, off, none⟩ ∧ b < B ∧
    w.cell? ⟨b, off + i * 5, none⟩ = some (.slice K (l.getD i zK).1.length kc) ∧ w.cell? ⟨b, off + i * 5 + 1, none⟩ = some (.int .i64 (l.getD i zK).2.n) ∧ w.cell? ⟨b, off + i * 5 + 1 + 1, none⟩ = some (.slice A1 (l.getD i zK).2.s.length c1) ∧
    w.cell? ⟨b, off + i * 5 + 1 + 2, none⟩ = some (.slice A2 (l.getD i zK).2.lo.length c2) ∧ w.cell? ⟨b, off + i * 5 + 1 + 3, none⟩ = some (.slice A3 (l.getD i zK).2.hi.length c3) ∧
    Sl w B (.slice K (l.getD i zK).1.length kc) (ivals (l.getD i zK).1) ∧
    CellR w B (.agg #[.int .i64 (l.getD i zK).2.n, .slice A1 (l.getD i zK).2.s.length c1, .slice A2 (l.getD i zK).2.lo.length c2, .slice A3 (l.getD i zK).2.hi.length c3]) (l.getD i zK).2
theorem deeds_of_rd {w : World} {B : Nat} {v : Value} {l : List DeedX} (h : rdSlice 5 rdDeed w B [v] l) : DeedsV w B v (l.map DeedX.kc) := by
  obtain ⟨A, c, e, h1, h2, h3⟩ := h
  injection e with e _
  subst e
  refine ⟨A, c, by rw [List.length_map], by rw [List.length_map]; exact h1, h2, fun i hi => ?_⟩
  rw [List.length_map] at hi
  obtain ⟨b, off, e1, hb, hx⟩ := h3 (by omega)
  obtain ⟨es, q1, q2, q3⟩ := hx i l[i] (List.getElem?_eq_getElem hi)
  have e2 : (l.map DeedX.kc).getD i zK = (l[i].1, l[i].2.cell) := by
    rw [List.getD_eq_getElem?_getD, List.getElem?_map, List.getElem?_eq_getElem hi]; rfl
  rw [e2]
  obtain ⟨l1, hk, hc⟩ := q3
  obtain ⟨kv, e3, hs⟩ := ints_sl hk
  have hkf := hs.formI
  have hcell := cell_of_rd (cs := (es.drop 1).toArray) (by simpa using hc)
  have hcell' := hcell
  obtain ⟨v1, v2, v3, e4, s1, s2, s3⟩ := hcell
  injection e4 with e4
  have el : es.drop 1 = [.int .i64 l[i].2.cell.n, v1, v2, v3] := by have := congrArg Array.toList e4; simpa using this
  have ees : es = [kv, .int .i64 l[i].2.cell.n, v1, v2, v3] := by
    rw [← List.take_append_drop 1 es, e3, el]; rfl
  rw [el] at hcell'
  obtain ⟨K, kc, rfl, -, -⟩ := hkf
  obtain ⟨A1, c1, rfl, -, -⟩ := s1.formI
  obtain ⟨A2, c2, rfl, -, -⟩ := s2.formI
  obtain ⟨A3, c3, rfl, -, -⟩ := s3.formI
  exact ⟨b, off, K, kc, A1, c1, A2, c2, A3, c3, e1, hb, q2 0 _ (by rw [ees]; rfl), q2 1 _ (by rw [ees]; rfl), q2 2 _ (by rw [ees]; rfl), q2 3 _ (by rw [ees]; rfl), q2 4 _ (by rw [ees]; rfl), hs, hcell'⟩
theorem DeedsV.below {w w' : World} {B : Nat} {v : Value} {l : List KC} (h : DeedsV w B v l) (hb : Below B w w') : DeedsV w' B v l := by
  obtain ⟨A, c, e, h1, h2, h3⟩ := h
  refine ⟨A, c, e, h1, h2, fun i hi => ?_⟩
  obtain ⟨b, off, K, kc, A1, c1, A2, c2, A3, c3, e1, hlt, q0, q1, q2, q3, q4, hs, hc⟩ := h3 i hi
  exact ⟨b, off, K, kc, A1, c1, A2, c2, A3, c3, e1, hlt, cellK hb hlt q0, cellK hb hlt q1, cellK hb hlt q2, cellK hb hlt q3, cellK hb hlt q4, hs.below hb, hc.below hb⟩
def addAll (W M : Nat) (l : List KC) : List KC := l.foldl (fun L x => (addK W M L x.1 x.2).1) []
theorem addAll_snoc (W M : Nat) (l : List KC) (x : KC) : addAll W M (l ++ [x]) = (addK W M (addAll W M l) x.1 x.2).1 := by unfold addAll; rw [List.foldl_append]; rfl
theorem take_snocK {l : List KC} {k : Nat} (h : k < l.length) : l.take (k + 1) = l.take k ++ [l.getD k zK] := by
  rw [List.take_succ_eq_append_getElem h, List.getD_eq_getElem?_getD, List.getElem?_eq_getElem h]; rfl
end Go.Proofs.Ytclhnnidbhchnaa
/- The law's both. -/
namespace Go.Proofs.Ytclhnnidbhchnaa
open Go.ChangeShapes Go.WideShapes Go.ChangeAt Go.RowKit Go.Maps
set_option linter.unusedVariables false
set_option linter.unusedSimpArgs false

/-- Both cuboids hold the same cells, apart from one another; the program's owns blocks from B on; the reference's all blocks below B too. -/
def BothC (w : World) (B : Nat) (D R : Nat → Prop) (p m r W M : Nat) (L : List KC) : Prop :=
  CubW w D p m W M L ∧ RefC w R r W M L ∧ (∀ k, D k → ¬ R k) ∧ (∀ k, D k → B ≤ k) ∧ (∀ k, k < B → R k) ∧ B ≤ r
theorem BothC.below {w w' : World} {B : Nat} {D R : Nat → Prop} {p m r W M : Nat} {L : List KC} (h : BothC w B D R p m r W M L) (hb : Below w.heap.size w w') : BothC w' B D R p m r W M L :=
  ⟨h.1.below hb, h.2.1.below hb, h.2.2⟩
/-- Behind the program's Add: the reference's is as it was. -/
theorem afterC {w w' : World} {B : Nat} {D R D' : Nat → Prop} {p m r W M : Nat} {L L' : List KC} (h : BothC w B D R p m r W M L) (hc : CubW w' D' p m W M L') (hg : Grow w.drew D D') (hu : Upd m w.drew w') (hB : B ≤ w.heap.size := by omega) :
    RefC w' R r W M L ∧ (CubW w' D' p m W M L' ∧ (∀ k, D' k → ¬ R k) ∧ (∀ k, D' k → B ≤ k) ∧ (∀ k, k < B → R k) ∧ B ≤ r) ∧ ∀ k, k < B → R k ∧ k ≠ r := by
  obtain ⟨h1, h2, h3, h4, h5, h6⟩ := h
  have hl := h2.2.1
  refine ⟨h2.kept (fun k hk => hu.block k (hl k hk) (fun e => by injection e with e; exact h3 m h1.2.1 (e ▸ hk))) hu.size, ⟨hc, fun k hk hr => ?_, fun k hk => ?_, h5, h6⟩, fun k hk => ⟨h5 k hk, by omega⟩⟩
  · rcases hg.2 k hk with h | h
    · exact h3 k h hr
    · have : w.heap.size ≤ k := h
      have := hl k hr; omega
  · rcases hg.2 k hk with h | h
    · exact h4 k h
    · have : w.heap.size ≤ k := h
      omega
theorem afterCR {w w' : World} {B : Nat} {R R' D' : Nat → Prop} {p m r W M : Nat} {L L' : List KC} (h : RefC w R r W M L ∧ (CubW w D' p m W M L' ∧ (∀ k, D' k → ¬ R k) ∧ (∀ k, D' k → B ≤ k) ∧ (∀ k, k < B → R k) ∧ B ≤ r) ∧ ∀ k, k < B → R k ∧ k ≠ r) (hr : RefC w' R' r W M L') (hg : Grow w R R') (hu : Upd r w w') :
    ∃ D R, BothC w' B D R p m r W M L' := by
  obtain ⟨h1, ⟨h2, h3, h4, h5, h6⟩, -⟩ := h
  have hl := h2.2.2.2.1
  refine ⟨D', R', h2.kept (fun k hk => hu.block k (hl k hk) (fun e => by injection e with e; exact h3 k hk (e ▸ h1.1))) hu.size, hr, fun k hk hk' => ?_, h4, fun k hk => hg.1 k (h5 k hk), h6⟩
  rcases hg.2 k hk' with h | h
  · exact h3 k hk h
  · have := hl k hk; omega
theorem afterR {w w' : World} {B : Nat} {D R R' : Nat → Prop} {p m r W M : Nat} {L L' : List KC} (h : BothC w B D R p m r W M L) (hr : RefC w' R' r W M L') (hg : Grow w.drew R R') (hu : Upd r w.drew w') :
    CubW w' D p m W M L ∧ RefC w' R' r W M L' ∧ (∀ k, D k → ¬ R' k) ∧ (∀ k, D k → B ≤ k) ∧ (∀ k, k < B → R' k) ∧ B ≤ r := by
  obtain ⟨h1, h2, h3, h4, h5, h6⟩ := h
  have hl := h1.2.2.2.1
  refine ⟨h1.kept (fun k hk => hu.block k (hl k hk) (fun e => by injection e with e; exact h3 k hk (e ▸ h2.1))) hu.size, hr, fun k hk hk' => ?_, h4, fun k hk => hg.1 k (h5 k hk), h6⟩
  rcases hg.2 k hk' with h | h
  · exact h3 k hk h
  · have : w.heap.size ≤ k := h
    have := hl k hk; omega
theorem afterRC {w w' : World} {B : Nat} {D R' D' : Nat → Prop} {p m r W M : Nat} {L L' : List KC} (h : CubW w D p m W M L ∧ RefC w R' r W M L' ∧ (∀ k, D k → ¬ R' k) ∧ (∀ k, D k → B ≤ k) ∧ (∀ k, k < B → R' k) ∧ B ≤ r) (hc : CubW w' D' p m W M L') (hg : Grow w D D') (hu : Upd m w w') (hB : B ≤ w.heap.size := by omega) :
    ∃ D R, BothC w' B D R p m r W M L' := by
  obtain ⟨h1, h2, h3, h4, h5, h6⟩ := h
  have hl := h2.2.1
  refine ⟨D', R', hc, h2.kept (fun k hk => hu.block k (hl k hk) (fun e => by injection e with e; exact h3 m h1.2.1 (e ▸ hk))) hu.size, fun k hk hr => ?_, fun k hk => ?_, h5, h6⟩
  · rcases hg.2 k hk with h | h
    · exact h3 k h hr
    · have := hl k hr; omega
  · rcases hg.2 k hk with h | h
    · exact h4 k h
    · omega
def wOf (n : Int) : Nat := (pickN n 3).toNat + 1
def mOf (n : Int) : Nat := (pickN n 2).toNat + 1
theorem wOf_in (n : Int) : 1 ≤ wOf n ∧ wOf n ≤ 3 ∧ (1 : Int) + pickN n 3 = (wOf n : Int) := by
  have := pickN_in n 3 (by omega); unfold wOf; omega
theorem mOf_in (n : Int) : 1 ≤ mOf n ∧ mOf n ≤ 2 ∧ (1 : Int) + pickN n 2 = (mOf n : Int) := by
  have := pickN_in n 2 (by omega); unfold mOf; omega
def BothP (W M : Nat) (L : List KC) (w : World) (e : Ending) (w' : World) : Prop :=
  ∃ p m r D R, e = .returned (.tuple #[.pointer (some ⟨p, 0, none⟩), .pointer (some ⟨r, 0, none⟩), .bool true]) ∧ BothC w' w.heap.size D R p m r W M L ∧ Below w.heap.size w w'
def BoRel (l : List KC) (W M p m r : Nat) (w : World) (i : Value) (wr : World) : Prop :=
  ∃ (k : Nat) (D R : Nat → Prop), k ≤ l.length ∧ k ≤ 60 ∧ i = .int .i64 k ∧ BothC wr w.heap.size D R p m r W M (addAll W M (l.take k)) ∧ OkL W M (addAll W M (l.take k)) ∧ (addAll W M (l.take k)).length ≤ k ∧ Below w.heap.size w wr
theorem addAll_ok (W M : Nat) (l : List KC) : OkL W M (addAll W M l) := by
  unfold addAll
  suffices h : ∀ (l L : List KC), OkL W M L → OkL W M (l.foldl (fun L x => (addK W M L x.1 x.2).1) L) from h l [] (OkL.nil_ W M)
  intro l
  induction l with
  | nil => exact fun L h => h
  | cons x l ih => exact fun L h => ih _ (addK_ok h x.1 x.2)
theorem addAll_len (W M : Nat) (l : List KC) : (addAll W M l).length ≤ l.length := by
  unfold addAll
  suffices h : ∀ (l L : List KC), OkL W M L → (l.foldl (fun L x => (addK W M L x.1 x.2).1) L).length ≤ L.length + l.length by
    have := h l [] (OkL.nil_ W M); simpa using this
  intro l
  induction l with
  | nil => exact fun L h => by simp
  | cons x l ih =>
    intro L h
    have h1 := ih _ (addK_ok h x.1 x.2)
    have h2 := addK_len h x.1 x.2
    rw [List.foldl_cons, List.length_cons]
    omega
set_option maxRecDepth 100000 in
set_option maxHeartbeats 6400000 in
theorem both_any (a b : Int) (v : Value) (l : List KC) (w : World) (ha : InI64 a) (hb : InI64 b) (hv : DeedsV w w.heap.size v l) :
    Calls Try.prog 16 #[.int .i64 a, .int .i64 b, v] w (BothP (wOf a) (mOf b) (addAll (wOf a) (mOf b) (l.take 60)) w) := by
  obtain ⟨A, ca, rfl, hla, hca, hel⟩ := hv
  unfold maxLen at hca
  have HP1 := hid (fun W' => pick_any a 3 W' ha (by omega) (by omega))
  have HP2 := hid (fun W' => pick_any b 2 W' hb (by omega) (by omega))
  obtain ⟨h1W, hW, ew⟩ := wOf_in a
  obtain ⟨h1M, hM, em⟩ := mOf_in b
  have hpa := pickN_in a 3 (by omega)
  have hpb := pickN_in b 2 (by omega)
  generalize wOf a = W at *
  generalize mOf b = M at *
  generalize pickN a 3 = pa at *
  generalize pickN b 2 = pb at *
  have HEL := hid hel
  clear hel ha hb
  go_enter Try.func16, Try.ntmps16
  go_wp2_with fail
  refine (HP1.out _).mono ?_
  rintro e w1 ⟨rfl, hq1⟩
  have HB1 := hid (hq1.below w.heap.size)
  clear hq1
  go_wp2_with fail
  refine (HP2.out _).mono ?_
  rintro e w2 ⟨rfl, hq2⟩
  have HB2 := hid (HB1.out.trans (hq2.below w.heap.size))
  have hz2 := HB2.out.size
  clear hq2
  have HNW := hid (newC_yes W M w2 h1W hW h1M hM)
  go_wp2_with fail
  refine HNW.out.mono ?_
  rintro e w3 ⟨p, m, D, rfl, hc3, hd3, hb3⟩
  have hz3 := hb3.size
  obtain ⟨W3, hW3⟩ : ∃ W', W' = w3.alloc (.cells #[.int .i64 W, .int .i64 M, .slice none 0 0] 66) := ⟨_, rfl⟩
  have hbW3 : Below w3.heap.size w3 W3 := by rw [hW3]; exact bl1 _ _
  have hzW3 : W3.heap.size = w3.heap.size + 1 := by rw [hW3]; simp
  have hmB : w.heap.size ≤ m := Nat.le_trans hz2 (hd3 m hc3.2.1)
  have hbo : BothC W3 w.heap.size D (fun k => k < w.heap.size ∨ k = w3.heap.size) p m w3.heap.size W M [] := by
    have hd := hc3.2.2.2.1
    refine ⟨hc3.below hbW3, ⟨.inr rfl, fun k hk => by rcases hk with h | h <;> omega, fun i hi => ?_, by rw [hW3]; simp [go_sem], by rw [hW3]; simp [go_sem], .slice none 0 0, [], by rw [hW3]; simp [go_sem], World.ownsRow_nil _ _ _ _, (fun g hg => by cases hg), RowO.nil_ _ _⟩, fun k hk hk' => ?_, fun k hk => Nat.le_trans hz2 (hd3 k hk), fun k hk => .inl hk, by omega⟩
    · rw [hW3]; simp [go_sem]
    · have h1 := hd k hk
      have h2 := hd3 k hk
      rcases hk' with h | h <;> omega
  have HBO3 := hid hbo
  have HB3 := hid ((HB2.out.trans (hb3.mono hz2)).trans (hbW3.mono (by omega)))
  have HW3 := hid hW3
  clear hc3 hd3 hb3 hbW3 hbo hW3
  generalize hrr : w3.heap.size = r at *
  go_wp2
  rw [← HW3.out]
  have hrB : w.heap.size ≤ r := by omega
  go_loopw [13] (fun i wr => BoRel l W M p m r w i wr) (fun i _ => l.length - (intOf i).toNat)
  case atStart => exact ⟨0, _, _, by omega, by omega, rfl, HBO3.out, OkL.nil_ W M, Nat.le_refl _, HB3.out⟩
  case round =>
    obtain ⟨k, D, R, hk, hk6, rfl, hbo, hok, hlen, hbw⟩ := hrel
    have hsr := hbw.size
    by_cases hlt : k < l.length
    · by_cases h60 : k < 60
      · obtain ⟨b, off, K, kc, A1, c1, A2, c2, A3, c3, rfl, hbl, q0, q1, q2, q3, q4, hsk, hce⟩ := HEL.out k hlt
        have q0 := cellK hbw hbl q0
        have q1 := cellK hbw hbl q1
        have q2 := cellK hbw hbl q2
        have q3 := cellK hbw hbl q3
        have q4 := cellK hbw hbl q4
        have hmW : m < wr.heap.size := hbo.1.2.2.2.1 m hbo.1.2.1
        have hrW : r < wr.heap.size := hbo.2.1.2.1 r hbo.2.1.1
        have hts := take_snocK hlt
        have e1 : addAll W M (l.take (k + 1)) = (addK W M (addAll W M (l.take k)) (l.getD k zK).1 (l.getD k zK).2).1 := by rw [hts, addAll_snoc]
        have hok2 : OkL W M (addAll W M (l.take (k + 1))) := addAll_ok W M _
        have hle2 : (addAll W M (l.take (k + 1))).length ≤ k + 1 := by
          have := addAll_len W M (l.take (k + 1))
          rw [List.length_take] at this
          omega
        rw [e1] at hok2 hle2
        generalize (l.getD k zK).2 = c at *
        generalize (l.getD k zK).1 = key at *
        generalize addAll W M (l.take k) = LL at *
        have SLK := hid (hsk.below hbw); have HCR := hid (hce.below hbw)
        have HAC := hid (addC_any D p m W M LL (.slice K key.length kc) (.agg #[.int .i64 c.n, .slice A1 c.s.length c1, .slice A2 c.lo.length c2, .slice A3 c.hi.length c3]) key c wr.drew (hbo.1.qu ⟨1, rfl⟩) hok h1W hW hM (by omega) (((hsk.below hbw).more hsr).qu' ⟨1, rfl⟩) (((hce.below hbw).more hsr).below (Below.refl _ _).drew))
        have HAR := hid (addR_any R r W M LL (.slice K key.length kc) (.agg #[.int .i64 c.n, .slice A1 c.s.length c1, .slice A2 c.lo.length c2, .slice A3 c.hi.length c3]) key c wr.drew (hbo.2.1.qu ⟨1, rfl⟩) hok hW hM (by omega) (((hsk.below hbw).more hsr).qu' ⟨1, rfl⟩) (CellE.of_read ((hce.below hbw).below (Below.refl _ _).drew) (fun i hi => ⟨hbo.2.2.2.2.1 i hi, by omega⟩)))
        have HBO0 := hid hbo; have HOKL := hid hok; have HOK2 := hid hok2; have HLE2 := hid hle2; have E1 := hid e1; have HBW := hid hbw
        clear hbo hok hok2 hle2 e1 hsk hce hbw hts
        go_upto_region 10 with (fail)
        go_region_held3 (fun w' => w'.cell? ⟨b, off + k * 5, none⟩ = some (.slice K key.length kc) ∧ w'.cell? ⟨b, off + k * 5 + 1, none⟩ = some (.int .i64 c.n) ∧ w'.cell? ⟨b, off + k * 5 + 1 + 1, none⟩ = some (.slice A1 c.s.length c1) ∧ w'.cell? ⟨b, off + k * 5 + 1 + 2, none⟩ = some (.slice A2 c.lo.length c2) ∧ w'.cell? ⟨b, off + k * 5 + 1 + 3, none⟩ = some (.slice A3 c.hi.length c3)) (go_keep) ((first | ((with_reducible refine HAC.out.mono ?_); rintro e w5 ⟨D5, rfl, hc5, hg5, hu5⟩; have hb5 : Below w.heap.size wr w5 := ((Below.refl wr.heap.size wr).drew.mono hsr).trans (hu5.below hmB hmW); have hz5 := hb5.size; have q0 := cellK hb5 (by omega) q0; have q1 := cellK hb5 (by omega) q1; have q2 := cellK hb5 (by omega) q2; have q3 := cellK hb5 (by omega) q3; have q4 := cellK hb5 (by omega) q4; have HR2 := hid (afterC HBO0.out hc5 hg5 hu5); have HAR2 := hid (addR_any R r W M LL (.slice K key.length kc) (.agg #[.int .i64 c.n, .slice A1 c.s.length c1, .slice A2 c.lo.length c2, .slice A3 c.hi.length c3]) key c w5 HR2.out.1 HOKL.out hW hM (by omega) ((SLK.out.below hb5).more (Nat.le_trans hsr hz5)) (CellE.of_read (HCR.out.below hb5) HR2.out.2.2)); have HW5 := hid hb5; clear hc5 hg5 hu5 hb5) | ((with_reducible refine HAR2.out.mono ?_); rintro e w6 ⟨R6, rfl, hr6, hg6, hu6⟩; have hb6 : Below w.heap.size w5 w6 := hu6.below hrB (Nat.lt_of_lt_of_le hrW hz5); have hz6 := hb6.size; have q0 := cellK hb6 (by omega) q0; have q1 := cellK hb6 (by omega) q1; have q2 := cellK hb6 (by omega) q2; have q3 := cellK hb6 (by omega) q3; have q4 := cellK hb6 (by omega) q4; have HBO := hid (afterCR HR2.out hr6 hg6 hu6); have HWX := hid (HW5.out.trans hb6); clear hr6 hg6 hu6 hb6)))
        all_goals
          have HBX := hid (HBW.out.trans HWX.out)
          go_wp2
          go_roundw
          case rel =>
            obtain ⟨D6, R6, hb6⟩ := HBO.out
            exact ⟨k + 1, D6, R6, by omega, by omega, by go_num, by rw [E1.out]; exact hb6, by rw [E1.out]; exact HOK2.out, by rw [E1.out]; exact HLE2.out, HBX.out⟩
          case measure => simp [intOf]; omega
      · obtain rfl : k = 60 := by omega
        have HBO := hid hbo; have HBW := hid hbw
        clear hbo hbw hok
        go_wp2
        go_ret3
        exact ⟨p, m, r, D, R, rfl, HBO.out, HBW.out⟩
    · obtain rfl : k = l.length := by omega
      have e2 : l.take 60 = l.take l.length := by rw [List.take_length, List.take_of_length_le hk6]
      have HBO := hid (show BothC wr w.heap.size D R p m r W M (addAll W M (l.take 60)) by rw [e2]; exact hbo); have HBW := hid hbw
      clear hbo hbw hok e2
      go_wp2
      go_ret3
      exact ⟨p, m, r, D, R, rfl, HBO.out, HBW.out⟩
end Go.Proofs.Ytclhnnidbhchnaa
