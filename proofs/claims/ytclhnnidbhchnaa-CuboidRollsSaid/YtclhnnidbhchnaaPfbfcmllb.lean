/- 3 texts of this claim, in build order. -/
import Derived.Test.YtclhnnidbhchnaaPhffoljof
import Derived.Test.YtclhnnidbhchnaaPlmndpbgl
import Derived.Test.YtclhnnidbhchnaaPkpbafcfk
import Derived.Maps.OwnSet
import Derived.Maps.RangeWalk
import Derived.DeepKeys4
import Derived.Test.YtclhnnidbhchnaaPoebmaoeo
/- The reference's cuboid in memory. -/
namespace Go.Proofs.Ytclhnnidbhchnaa
open Go.ChangeShapes Go.WideShapes Go.ChangeAt Go.RowKit
set_option linter.unusedVariables false
set_option linter.unusedSimpArgs false

/-- A cell whose lists lie in blocks of E. -/
def CellE (w : World) (E : Nat → Prop) (v : Value) (c : CellM) : Prop :=
  ∃ v1 v2 v3, v = .agg #[.int .i64 c.n, v1, v2, v3] ∧ SlE w E v1 (ivals c.s) ∧ SlE w E v2 (ivals c.lo) ∧ SlE w E v3 (ivals c.hi)
theorem CellE.kept {w w' : World} {E : Nat → Prop} {v : Value} {c : CellM} (h : CellE w E v c) (k : Kept E w w') : CellE w' E v c := by
  obtain ⟨v1, v2, v3, e, h1, h2, h3⟩ := h
  exact ⟨v1, v2, v3, e, h1.kept k, h2.kept k, h3.kept k⟩
theorem CellE.mono {w : World} {E E' : Nat → Prop} {v : Value} {c : CellM} (h : CellE w E v c) (k : ∀ i, E i → E' i) : CellE w E' v c := by
  obtain ⟨v1, v2, v3, e, h1, h2, h3⟩ := h
  exact ⟨v1, v2, v3, e, h1.mono k, h2.mono k, h3.mono k⟩
theorem CellE.read {w : World} {E : Nat → Prop} {v : Value} {c : CellM} (h : CellE w E v c) : CellR w w.heap.size v c := by
  obtain ⟨v1, v2, v3, e, h1, h2, h3⟩ := h
  exact ⟨v1, v2, v3, e, h1.sl, h2.sl, h3.sl⟩
theorem SlE.of_sl {w : World} {E : Nat → Prop} {B : Nat} {v : Value} {xs : List Value} (h : Sl w B v xs) (hE : ∀ k, k < B → E k) : SlE w E v xs := by
  obtain ⟨A, c, e, h1, h2, h3⟩ := h
  refine ⟨A, c, e, h1, h2, fun h0 => ?_⟩
  obtain ⟨b, off, e2, hb, hc⟩ := h3 h0
  exact ⟨b, off, e2, hE b hb, hc⟩
theorem CellE.of_read {w : World} {E : Nat → Prop} {B : Nat} {v : Value} {c : CellM} (h : CellR w B v c) (hE : ∀ k, k < B → E k) : CellE w E v c := by
  obtain ⟨v1, v2, v3, e, h1, h2, h3⟩ := h
  exact ⟨v1, v2, v3, e, SlE.of_sl h1 hE, SlE.of_sl h2 hE, SlE.of_sl h3 hE⟩
theorem CellE.of_own {w : World} {H : Nat} {v : Value} {c : CellM} (h : OwnC w H v c) : CellE w (fun k => H ≤ k ∧ k < w.heap.size) v c := by
  obtain ⟨v1, v2, v3, e, h1, h2, h3, -, -⟩ := h
  exact ⟨v1, v2, v3, e, SlE.of_own h1 (fun g hg => h1.lt g hg), SlE.of_own h2 (fun g hg => h2.lt g hg), SlE.of_own h3 (fun g hg => h3.lt g hg)⟩
/-- A key and a cell as they lie in memory. -/
abbrev E5 := Value × Int × Value × Value × Value
def e5 (x : E5) : List Value := [x.1, .int .i64 x.2.1, x.2.2.1, x.2.2.2.1, x.2.2.2.2]
def z5 : E5 := (.slice none 0 0, 0, .slice none 0 0, .slice none 0 0, .slice none 0 0)
def zK : KC := ([], nilC)
def flat5 (es : List E5) : List Value := es.flatMap e5
theorem flat5_len (es : List E5) : (flat5 es).length = es.length * 5 := by
  unfold flat5
  induction es with
  | nil => rfl
  | cons x es ih => rw [List.flatMap_cons, List.length_append, ih]; simp [e5]; omega
theorem flat5_snoc (es : List E5) (x : E5) : flat5 (es ++ [x]) = flat5 es ++ e5 x := by simp [flat5]
theorem flat5_at : ∀ {es : List E5} {k j : Nat}, k < es.length → j < 5 → (flat5 es)[k * 5 + j]? = (e5 (es.getD k z5))[j]? := by
  intro es
  induction es with
  | nil => intro k j hk; simp at hk
  | cons x es ih =>
    intro k j hk hj
    unfold flat5
    rw [List.flatMap_cons]
    cases k with
    | zero => rw [List.getElem?_append_left (by simp [e5]; omega)]; simp
    | succ k =>
      rw [List.getElem?_append_right (by simp [e5]; omega), show (k + 1) * 5 + j - (e5 x).length = k * 5 + j by simp [e5]; omega]
      have := ih (k := k) (j := j) (by simpa using hk) hj
      unfold flat5 at this
      rw [this]
      simp
/-- What the elements of a list of keys and cells read as. -/
def RowO (w : World) (E : Nat → Prop) (es : List E5) (L : List KC) : Prop :=
  es.length = L.length ∧ ∀ k, k < L.length → SlE w E (es.getD k z5).1 (ivals (L.getD k zK).1) ∧ CellE w E (.agg #[.int .i64 (es.getD k z5).2.1, (es.getD k z5).2.2.1, (es.getD k z5).2.2.2.1, (es.getD k z5).2.2.2.2]) (L.getD k zK).2
theorem RowO.kept {w w' : World} {E : Nat → Prop} {es : List E5} {L : List KC} (h : RowO w E es L) (k : Kept E w w') : RowO w' E es L := ⟨h.1, fun i hi => ⟨(h.2 i hi).1.kept k, (h.2 i hi).2.kept k⟩⟩
theorem RowO.mono {w : World} {E E' : Nat → Prop} {es : List E5} {L : List KC} (h : RowO w E es L) (k : ∀ i, E i → E' i) : RowO w E' es L := ⟨h.1, fun i hi => ⟨(h.2 i hi).1.mono k, (h.2 i hi).2.mono k⟩⟩
theorem RowO.nil_ (w : World) (E : Nat → Prop) : RowO w E [] [] := ⟨rfl, fun k hk => by simp at hk⟩
theorem RowO.snoc {w : World} {E : Nat → Prop} {es : List E5} {L : List KC} (h : RowO w E es L) {x : E5} {c : KC} (h1 : SlE w E x.1 (ivals c.1)) (h2 : CellE w E (.agg #[.int .i64 x.2.1, x.2.2.1, x.2.2.2.1, x.2.2.2.2]) c.2) : RowO w E (es ++ [x]) (L ++ [c]) := by
  obtain ⟨hl, hk⟩ := h
  refine ⟨by simp [hl], fun k hk' => ?_⟩
  rw [List.length_append, List.length_singleton] at hk'
  rcases Nat.lt_or_ge k L.length with h' | h'
  · have e1 : (es ++ [x]).getD k z5 = es.getD k z5 := by simp only [List.getD_eq_getElem?_getD]; rw [List.getElem?_append_left (by omega)]
    have e2 : (L ++ [c]).getD k zK = L.getD k zK := by simp only [List.getD_eq_getElem?_getD]; rw [List.getElem?_append_left (by omega)]
    rw [e1, e2]; exact hk k h'
  · obtain rfl : k = L.length := by omega
    have e1 : (es ++ [x]).getD L.length z5 = x := by simp only [List.getD_eq_getElem?_getD]; rw [← hl, List.getElem?_append_right (by omega)]; simp
    have e2 : (L ++ [c]).getD L.length zK = c := by simp only [List.getD_eq_getElem?_getD]; rw [List.getElem?_append_right (by omega)]; simp
    rw [e1, e2]; exact ⟨h1, h2⟩
/-- The reference's cuboid at r: it owns the blocks R. -/
def RefC (w : World) (R : Nat → Prop) (r : Nat) (W M : Int) (L : List KC) : Prop :=
  R r ∧ (∀ k, R k → k < w.heap.size) ∧ (∀ i, i < 3 → w.frozen? ⟨r, i, none⟩ = false) ∧ w.cell? ⟨r, 0, none⟩ = some (.int .i64 W) ∧ w.cell? ⟨r, 1, none⟩ = some (.int .i64 M) ∧
  ∃ (v : Value) (es : List E5), w.cell? ⟨r, 2, none⟩ = some v ∧ w.ownsRow 0 105 5 v L.length (flat5 es) ∧ (∀ g, v.ownBlock = some g → R g ∧ g ≠ r) ∧ RowO w (fun k => R k ∧ k ≠ r) es L
theorem RefC.kept {w w' : World} {R : Nat → Prop} {r : Nat} {W M : Int} {L : List KC} (h : RefC w R r W M L) (k : Kept R w w') (hs : w.heap.size ≤ w'.heap.size) : RefC w' R r W M L := by
  obtain ⟨h1, h2, h3, h4, h5, v, es, h6, h7, h8, h9⟩ := h
  exact ⟨h1, fun i hi => Nat.lt_of_lt_of_le (h2 i hi) hs, fun i hi => k.frozen h1 (h3 i hi), k.cell h1 h4, k.cell h1 h5, v, es, k.cell h1 h6, own_kept h7 (fun g hg => k g (h8 g hg).1), h8, h9.kept (fun i hi => k i hi.1)⟩
theorem RefC.below {w w' : World} {R : Nat → Prop} {r : Nat} {W M : Int} {L : List KC} (h : RefC w R r W M L) (hb : Below w.heap.size w w') : RefC w' R r W M L :=
  h.kept (fun k hk => hb.block k (h.2.1 k hk)) hb.size
theorem RefC.qu {w w' : World} {R : Nat → Prop} {r : Nat} {W M : Int} {L : List KC} (h : RefC w R r W M L) (hq : Qu w w') : RefC w' R r W M L := h.below (hq.below _)
/-- The parts of an element. -/
theorem RefC.elem {w : World} {v : Value} {es : List E5} {L : List KC} {base : Nat} {E : Nat → Prop} (hown : w.ownsRow base 105 5 v L.length (flat5 es)) (hrow : RowO w E es L) {k : Nat} (hk : k < L.length) :
    ∃ g cap K kc A1 c1 A2 c2 A3 c3, v = .slice (some ⟨g, 0, none⟩) L.length cap ∧ base ≤ g ∧ g < w.heap.size ∧ L.length ≤ cap ∧ cap ≤ maxLen ∧
      es.getD k z5 = (.slice K (L.getD k zK).1.length kc, (L.getD k zK).2.n, .slice A1 (L.getD k zK).2.s.length c1, .slice A2 (L.getD k zK).2.lo.length c2, .slice A3 (L.getD k zK).2.hi.length c3) ∧
      w.cell? ⟨g, k * 5, none⟩ = some (.slice K (L.getD k zK).1.length kc) ∧ w.cell? ⟨g, k * 5 + 1, none⟩ = some (.int .i64 (L.getD k zK).2.n) ∧ w.cell? ⟨g, k * 5 + 1 + 1, none⟩ = some (.slice A1 (L.getD k zK).2.s.length c1) ∧
      w.cell? ⟨g, k * 5 + 1 + 2, none⟩ = some (.slice A2 (L.getD k zK).2.lo.length c2) ∧ w.cell? ⟨g, k * 5 + 1 + 3, none⟩ = some (.slice A3 (L.getD k zK).2.hi.length c3) ∧
      SlE w E (.slice K (L.getD k zK).1.length kc) (ivals (L.getD k zK).1) ∧ CellE w E (.agg #[.int .i64 (L.getD k zK).2.n, .slice A1 (L.getD k zK).2.s.length c1, .slice A2 (L.getD k zK).2.lo.length c2, .slice A3 (L.getD k zK).2.hi.length c3]) (L.getD k zK).2 := by
  obtain ⟨hl, hr⟩ := hrow
  obtain ⟨s1, s2⟩ := hr k hk
  have hown' := hown
  obtain ⟨h1, h2⟩ := hown
  rcases h2 with ⟨rfl, e⟩ | ⟨g, cap, cur, rfl, hbg, hg, hnc, hcm, hcs, htk⟩
  · omega
  · have q : ∀ j, j < 5 → w.cell? ⟨g, k * 5 + j, none⟩ = (e5 (es.getD k z5))[j]? := fun j hj => by
      rw [← flat5_at (by omega) hj]
      exact hown'.cellAt _ (by omega)
    have hkf := s1.sl.formI
    have hce := s2
    generalize es.getD k z5 = x at *
    obtain ⟨x0, x1, x2, x3, x4⟩ := x
    generalize L.getD k zK = c at *
    obtain ⟨K, kc, rfl, -, -⟩ := hkf
    obtain ⟨v1, v2, v3, e, t1, t2, t3⟩ := hce
    obtain ⟨A1, c1, f1, -, -⟩ := t1.sl.formI
    obtain ⟨A2, c2, f2, -, -⟩ := t2.sl.formI
    obtain ⟨A3, c3, f3, -, -⟩ := t3.sl.formI
    injection e with e
    have g0 := congrArg (fun a : Array Value => a[0]?) e
    have g1 := congrArg (fun a : Array Value => a[1]?) e
    have g2 := congrArg (fun a : Array Value => a[2]?) e
    have g3 := congrArg (fun a : Array Value => a[3]?) e
    simp at g0 g1 g2 g3
    subst g0 g1 g2 g3 f1 f2 f3
    exact ⟨g, cap, K, kc, A1, c1, A2, c2, A3, c3, rfl, hbg, (hown'.lt g rfl).2, hnc, hcm, rfl, q 0 (by omega), q 1 (by omega), q 2 (by omega), q 3 (by omega), q 4 (by omega), s1, s2⟩
end Go.Proofs.Ytclhnnidbhchnaa
/- The program's cuboid in memory: the map of its cells. -/
namespace Go.Proofs.Ytclhnnidbhchnaa
open Go.ChangeShapes Go.WideShapes Go.ChangeAt Go.RowKit Go.Maps
set_option linter.unusedVariables false
set_option linter.unusedSimpArgs false

/-- A key of the program: three codes. -/
def keyV (a b c : Int) : Value := .agg #[.int .i64 a, .int .i64 b, .int .i64 c]
def keyT (k : List Int) : Value := keyV (k.getD 0 0) (k.getD 1 0) (k.getD 2 0)
theorem key_law : Keyed Try.prog 99 := Keyed.of_law (deep_law_laid laidOut (m := 3) (by omega) (of_decide_eq_true (by kernel_rfl)) (by kernel_rfl) (by rw [Try.underlying99]))
def keyL (a b c : Int) : Lit := .string (keyBytes [.int .i64 a, .int .i64 b, .int .i64 c])
theorem wf64 {a : Int} (h : -9223372036854775808 ≤ a ∧ a ≤ 9223372036854775807) : (Lit.int .i64 a).wf = true := WalkArith.wf_i64 h
theorem keyLits_arr (a b c : Value) (d : Nat) : Try.prog.keyLits (d + 1) 99 [a, b, c] = ((Try.prog.keyLits d 3 [a]).bind fun x => (Try.prog.keyLits d 3 [b]).bind fun y => (Try.prog.keyLits d 3 [c]).bind fun z => some (x ++ (y ++ z))) := by
  have hc : Try.prog.cellsOf 99 = 3 := by kernel_rfl
  have hci : Try.prog.cellsOf 3 = 1 := by kernel_rfl
  conv => lhs; unfold Program.keyLits
  rw [Try.underlying99]
  simp only
  rw [if_pos (by rw [hc]; rfl), hci]
  have hr : List.range 3 = [0, 1, 2] := by decide
  rw [hr]
  simp only [List.mapM_cons, List.mapM_nil]
  simp
  cases Try.prog.keyLits d 3 [a] <;> cases Try.prog.keyLits d 3 [b] <;> cases Try.prog.keyLits d 3 [c] <;> simp
theorem keyLits_int (v : Value) (d : Nat) : Try.prog.keyLits (d + 1) 3 [v] = match v with | .int q' n => if q' = .i64 ∧ (Lit.int .i64 n).wf = true then some [.int .i64 n] else none | _ => none := by
  unfold Program.keyLits
  rw [Try.underlying3]
  cases v <;> rfl
theorem key_of {a b c : Int} (ha : -9223372036854775808 ≤ a ∧ a ≤ 9223372036854775807) (hb : -9223372036854775808 ≤ b ∧ b ≤ 9223372036854775807) (hc : -9223372036854775808 ≤ c ∧ c ≤ 9223372036854775807) : keyOf Try.prog 99 (keyV a b c) = some (keyL a b c) := by
  have hk : Try.prog.keyType 99 = true := by kernel_rfl
  have hcc : Try.prog.cellsOf 99 = 3 := by kernel_rfl
  have hf : (keyV a b c).formed Try.prog 99 = true := by simp [Value.formed, keyV, Try.underlying99, hcc]
  obtain ⟨n, hn⟩ : ∃ n, Try.prog.types.size + 1 = n + 1 + 1 := ⟨Try.prog.types.size - 1, by
    have : 0 < Try.prog.types.size := of_decide_eq_true (by kernel_rfl)
    omega⟩
  unfold keyOf
  rw [Try.underlying99]
  simp only [hk, hf, hn]
  have e0 : (keyV a b c).cells.toList = [.int .i64 a, .int .i64 b, .int .i64 c] := rfl
  rw [e0, keyLits_arr, keyLits_int, keyLits_int, keyLits_int]
  simp [wf64 ha, wf64 hb, wf64 hc, keyL]
set_option maxRecDepth 100000 in
/-- What is read as a key is one. -/
theorem key_inv {v : Value} {kl : Lit} (h : keyOf Try.prog 99 v = some kl) : ∃ a b c : Int, v = keyV a b c := by
  have hcc : Try.prog.cellsOf 99 = 3 := by kernel_rfl
  obtain ⟨n, hn⟩ : ∃ n, Try.prog.types.size + 1 = n + 1 + 1 := ⟨Try.prog.types.size - 1, by
    have : 0 < Try.prog.types.size := of_decide_eq_true (by kernel_rfl)
    omega⟩
  unfold keyOf at h
  rw [Try.underlying99] at h
  simp only at h
  rw [hn] at h
  by_cases hf : (Try.prog.keyType 99 && v.formed Try.prog 99) = true
  · rw [if_pos hf] at h
    rw [Bool.and_eq_true] at hf
    have hfo := hf.2
    cases v with
    | agg cs =>
      simp only [Value.formed, Try.underlying99, hcc] at hfo
      have hsz : cs.size = 3 := by simpa using hfo
      obtain ⟨x, y, z, rfl⟩ : ∃ x y z, cs = #[x, y, z] := by
        obtain ⟨l⟩ := cs
        match l, hsz with
        | [x, y, z], _ => exact ⟨x, y, z, rfl⟩
      have e0 : (Value.agg #[x, y, z]).cells.toList = [x, y, z] := rfl
      rw [e0, keyLits_arr, keyLits_int, keyLits_int, keyLits_int] at h
      cases x with
      | int qx a => cases y with
        | int qy b => cases z with
          | int qz c =>
            simp only at h
            by_cases h1 : qx = .i64 ∧ (Lit.int .i64 a).wf = true
            · by_cases h2 : qy = .i64 ∧ (Lit.int .i64 b).wf = true
              · by_cases h3 : qz = .i64 ∧ (Lit.int .i64 c).wf = true
                · exact ⟨a, b, c, by rw [h1.1, h2.1, h3.1]; rfl⟩
                · simp [h1, h2, h3] at h
              · simp [h1, h2] at h
            · simp [h1] at h
          | _ => simp at h
        | _ => simp at h
      | _ => simp at h
    | _ => simp [Value.formed, Try.underlying99] at hfo
  · rw [if_neg hf] at h
    cases h
end Go.Proofs.Ytclhnnidbhchnaa
/- The reference's cuboid: Less, Is. -/
namespace Go.Proofs.Ytclhnnidbhchnaa
open Go.ChangeShapes Go.WideShapes Go.ChangeAt Go.RowKit
set_option linter.unusedVariables false
set_option linter.unusedSimpArgs false

def LexRel (a b : List Int) (w : World) (i : Value) (wr : World) : Prop := ∃ k : Nat, k ≤ a.length ∧ k ≤ b.length ∧ i = .int .i64 k ∧ a.take k = b.take k ∧ Qu w wr
set_option maxRecDepth 100000 in
set_option maxHeartbeats 1600000 in
theorem lessR_any (v x : Value) (a b : List Int) (w : World) (B : Nat) (hv : Sl w B v (ivals a)) (hx : Sl w B x (ivals b)) :
    Calls Try.prog 70 #[v, x] w (Stays (.bool (lexB a b)) w) := by
  obtain ⟨A1, c1, rfl, hc1, hm1⟩ := hv.formI
  obtain ⟨A2, c2, rfl, hc2, hm2⟩ := hx.formI
  unfold maxLen at hm1 hm2
  have S1 := hid hv; have S2 := hid hx; clear hv hx
  go_enter Try.func70, Try.ntmps70
  go_wp2
  go_loopw [5] (fun i wr => LexRel a b w i wr) (fun i _ => a.length - (intOf i).toNat)
  case atStart => exact ⟨0, by omega, by omega, rfl, rfl, Qu.refl _⟩
  case round =>
    obtain ⟨k, hk1, hk2, rfl, ht, hq⟩ := hrel
    by_cases h1 : k < a.length
    · by_cases h2 : k < b.length
      · obtain ⟨b1, o1, rfl, hb1, hx1⟩ := S1.out.int h1
        obtain ⟨b2, o2, rfl, hb2, hx2⟩ := S2.out.int h2
        have g1 : wr.cell? ⟨b1, o1 + k, none⟩ = _ := (hq.cell _).trans hx1
        have g2 : wr.cell? ⟨b2, o2 + k, none⟩ = _ := (hq.cell _).trans hx2
        have HP := hid (fun h => lexB_part h1 h2 ht h)
        have HE := hid (fun h => take_succ_same h1 h2 ht h)
        clear hx1 hx2 ht
        generalize a.getD k 0 = p at *
        generalize b.getD k 0 = q at *
        by_cases hpq : p = q
        · have t1 : (p != q) = false := by simp [hpq]
          have HT := hid (HE.out hpq)
          clear hpq
          go_wp2
          go_quiet (fail)
          go_wp2
          go_roundw
          case rel => exact ⟨k + 1, by omega, by omega, by go_num, HT.out, hq.drewN _⟩
          case measure => simp [intOf]; omega
        · have t1 : (p != q) = true := by simpa using hpq
          have HT := hid (HP.out hpq)
          clear hpq
          go_wp2
          go_quiet (fail)
          go_wp2
          go_quiet (fail)
          go_wp2
          go_ret
          exact ⟨ret_bool HT.out.symm, (hq.drewN _).drewN _⟩
      · have HT := hid (lexB_end hk1 hk2 ht (.inr (by omega)))
        clear ht
        have hb : decide (k < b.length) = false := by rw [decide_eq_false_iff_not]; exact h2
        have hb' : decide (k < a.length) = true := by rw [decide_eq_true_eq]; exact h1
        go_wp2
        go_ret
        exact ⟨ret_bool HT.out.symm, hq⟩
    · have HT := hid (lexB_end hk1 hk2 ht (.inl (by omega)))
      clear ht
      have hb' : decide (k < a.length) = false := by rw [decide_eq_false_iff_not]; exact h1
      go_wp2
      go_ret
      exact ⟨ret_bool HT.out.symm, hq⟩
end Go.Proofs.Ytclhnnidbhchnaa
