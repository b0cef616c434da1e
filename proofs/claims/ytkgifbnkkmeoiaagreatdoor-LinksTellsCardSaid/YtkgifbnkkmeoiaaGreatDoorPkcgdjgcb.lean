/- 2 texts of this claim, in build order. -/
import Derived.Test.YtkgifbnkkmeoiaaGreatDoorPkdfgmfbn
import Derived.Test.YtkgifbnkkmeoiaaGreatDoorPnadfnpkm
import Derived.Test.YtkgifbnkkmeoiaaGreatDoorPogmeecij
import Derived.Test.YtkgifbnkkmeoiaaGreatDoorPbfeaachd
import Derived.Test.YtkgifbnkkmeoiaaGreatDoorPnbddnjge
/- Messages that are read of bytes, plain: what the program takes is what the document says. -/
namespace Go.Proofs.YtkgifbnkkmeoiaaGreatDoor
open Go.ChangeShapes Go.WideShapes Go.ChangeAt Go.RowKit
set_option linter.unusedVariables false
set_option linter.unusedSimpArgs false

theorem rText_ok0 (l : List UInt8) (a : Nat) (e most : Int) (h : (rText l a e most).2.2 = 0) : e = 0 := by
  unfold rText at h
  split at h
  · rename_i h1; exact absurd h h1
  · rename_i h1
    exact (rInt_range l a e 0 most (by simpa using h1)).1
theorem valsR_plain (l : List UInt8) : ∀ (k a : Nat) (e : Int), (valsR l k a e).2.2 = 0 → (∀ n ∈ (valsR l k a e).1, valB n = true) ∧ e = 0 := by
  intro k
  induction k with
  | zero => intro a e h; exact ⟨fun n hn => by simp [valsR] at hn, h⟩
  | succ k ih =>
    intro a e h
    obtain ⟨h1, h2⟩ := ih _ _ (show (valsR l k _ _).2.2 = 0 from h)
    obtain ⟨h3, h4, h5⟩ := rInt_range _ _ _ _ _ h2
    refine ⟨fun n hn => ?_, h3⟩
    rcases List.mem_cons.1 hn with rfl | hn
    · unfold valB
      rw [decide_eq_true h4, decide_eq_true h5]; rfl
    · exact h1 n hn
theorem valsR_len (l : List UInt8) : ∀ (k a : Nat) (e : Int), (valsR l k a e).1.length = k := by
  intro k
  induction k with
  | zero => intro a e; rfl
  | succ k ih => intro a e; show (_ :: _).length = _; rw [List.length_cons, ih]
theorem pathS_plain (l : List UInt8) (a : Nat) (e : Int) (h : (pathS l a e).2.2 = 0) : mayB (pathS l a e).1 = true ∧ e = 0 := by
  unfold pathS at h ⊢
  simp only at h ⊢
  rcases pathR_cases ⟨(rText l a e 38).1.toArray⟩ with ⟨h1, h2⟩ | h1
  · rw [if_pos h1] at h
    exact ⟨h2, rText_ok0 l a e 38 h⟩
  · exfalso
    rw [if_neg (by rw [h1]; decide)] at h
    unfold bad at h
    split at h
    · cases h
    · rename_i h2; exact h2 h
theorem pathsR_plain (l : List UInt8) : ∀ (k a : Nat) (e : Int), (pathsR l k a e).2.2 = 0 → (∀ p ∈ (pathsR l k a e).1, mayB p = true) ∧ e = 0 := by
  intro k
  induction k with
  | zero => intro a e h; exact ⟨fun n hn => by simp [pathsR] at hn, h⟩
  | succ k ih =>
    intro a e h
    obtain ⟨h1, h2⟩ := ih _ _ (show (pathsR l k _ _).2.2 = 0 from h)
    obtain ⟨h3, h4⟩ := pathS_plain _ _ _ h2
    refine ⟨fun n hn => ?_, h4⟩
    rcases List.mem_cons.1 hn with rfl | hn
    · exact h3
    · exact h1 n hn
theorem pathsR_len (l : List UInt8) : ∀ (k a : Nat) (e : Int), (pathsR l k a e).1.length = k := by
  intro k
  induction k with
  | zero => intro a e; rfl
  | succ k ih => intro a e; show (_ :: _).length = _; rw [List.length_cons, ih]
theorem factR_plain (l : List UInt8) (a : Nat) (e : Int) (h : (factR l a e).2.2 = 0) : plainFt (factR l a e).1 = true ∧ e = 0 := by
  unfold factR at h ⊢
  simp only at h ⊢
  obtain ⟨h1, h2⟩ := valsR_plain _ _ _ _ h
  obtain ⟨h3, h4, h5⟩ := rInt_range _ _ _ _ _ h2
  obtain ⟨h6, h7⟩ := pathsR_plain _ _ _ _ h3
  obtain ⟨h8, h9, h10⟩ := rInt_range _ _ _ _ _ h7
  refine ⟨?_, h8⟩
  unfold plainFt
  simp only
  rw [any_not, any_not, List.all_eq_true.2 h6, List.all_eq_true.2 h1, decide_eq_true (by rw [pathsR_len]; omega), decide_eq_true (by rw [valsR_len]; omega)]; rfl
theorem factsR_plain (l : List UInt8) : ∀ (k a : Nat) (e : Int), (factsR l k a e).2.2 = 0 → (∀ p ∈ (factsR l k a e).1, plainFt p = true) ∧ e = 0 := by
  intro k
  induction k with
  | zero => intro a e h; exact ⟨fun n hn => by simp [factsR] at hn, h⟩
  | succ k ih =>
    intro a e h
    obtain ⟨h1, h2⟩ := ih _ _ (show (factsR l k _ _).2.2 = 0 from h)
    obtain ⟨h3, h4⟩ := factR_plain _ _ _ h2
    refine ⟨fun n hn => ?_, h4⟩
    rcases List.mem_cons.1 hn with rfl | hn
    · exact h3
    · exact h1 n hn
theorem factsR_len (l : List UInt8) : ∀ (k a : Nat) (e : Int), (factsR l k a e).1.length = k := by
  intro k
  induction k with
  | zero => intro a e; rfl
  | succ k ih => intro a e; show (_ :: _).length = _; rw [List.length_cons, ih]
theorem readB_plain (l : List UInt8) (a : Nat) (e : Int) (h : (readB l a e).2.2 = 0) : putE (readB l a e).1 = 0 ∧ e = 0 := by
  unfold readB at h ⊢
  simp only at h ⊢
  rw [if_pos h]
  obtain ⟨h1, h2⟩ := factsR_plain _ _ _ _ h
  obtain ⟨h3, h4, h5⟩ := rInt_range _ _ _ _ _ h2
  refine ⟨?_, h3⟩
  unfold putE
  rw [if_neg (by rw [factsR_len]; omega), if_pos (List.all_eq_true.2 h1)]
theorem cmdR_plain (l : List UInt8) (a : Nat) (e : Int) (h : (cmdR l a e).2.2 = 0) : errC (cmdR l a e).1 = 0 ∧ e = 0 := by
  unfold cmdR at h ⊢
  simp only at h ⊢
  rw [if_pos h]
  obtain ⟨h1, h2⟩ := readB_plain _ _ _ h
  obtain ⟨h3, h4, h5⟩ := rInt_range _ _ _ _ _ h2
  obtain ⟨h6, h7, h8⟩ := rInt_range _ _ _ _ _ h3
  obtain ⟨h9, h10, h11⟩ := rInt_range _ _ _ _ _ h6
  refine ⟨?_, h9⟩
  unfold errC numB
  simp only
  rw [if_neg (by omega), decide_eq_true ⟨h7, h8⟩, decide_eq_true ⟨h4, h5⟩]
  exact h1
theorem entR_plain (l : List UInt8) (a : Nat) (e : Int) (h : (entR l a e).2.2 = 0) : errN (entR l a e).1 = 0 ∧ e = 0 := by
  unfold entR at h ⊢
  simp only at h ⊢
  rw [if_pos h]
  obtain ⟨h1, h2⟩ := cmdR_plain _ _ _ h
  obtain ⟨h3, h4, h5⟩ := rInt_range _ _ _ _ _ h2
  obtain ⟨h6, h7, h8⟩ := rInt_range _ _ _ _ _ h3
  refine ⟨?_, h6⟩
  unfold errN numB
  simp only
  rw [decide_eq_true ⟨h7, h8⟩, decide_eq_true ⟨h4, h5⟩]
  exact h1
def entsR (l : List UInt8) : Nat → Nat → Int → List EntX × Nat × Int
  | 0, a, e => ([], a, e)
  | k + 1, a, e => ((entR l a e).1 :: (entsR l k (entR l a e).2.1 (entR l a e).2.2).1, (entsR l k (entR l a e).2.1 (entR l a e).2.2).2)
theorem entsR_plain (l : List UInt8) : ∀ (k a : Nat) (e : Int), (entsR l k a e).2.2 = 0 → (∀ p ∈ (entsR l k a e).1, errN p = 0) ∧ e = 0 := by
  intro k
  induction k with
  | zero => intro a e h; exact ⟨fun n hn => by simp [entsR] at hn, h⟩
  | succ k ih =>
    intro a e h
    obtain ⟨h1, h2⟩ := ih _ _ (show (entsR l k _ _).2.2 = 0 from h)
    obtain ⟨h3, h4⟩ := entR_plain _ _ _ h2
    refine ⟨fun n hn => ?_, h4⟩
    rcases List.mem_cons.1 hn with rfl | hn
    · exact h3
    · exact h1 n hn
theorem entsR_len (l : List UInt8) : ∀ (k a : Nat) (e : Int), (entsR l k a e).1.length = k := by
  intro k
  induction k with
  | zero => intro a e; rfl
  | succ k ih => intro a e; show (_ :: _).length = _; rw [List.length_cons, ih]
/-- What stands behind a message's sender and receiver. -/
def msgTail (l : List UInt8) (kind src dst : Int) (a : Nat) (e : Int) : MsgX × Nat × Int :=
  let r1 := rInt l a e 0 1099511627776
  let r2 := rInt l r1.2.1 r1.2.2 0 1099511627776
  let r3 := rInt l r2.2.1 r2.2.2 0 1099511627776
  let r4 := rInt l r3.2.1 r3.2.2 0 1099511627776
  let r5 := rInt l r4.2.1 r4.2.2 0 1099511627776
  let r6 := rInt l r5.2.1 r5.2.2 0 1
  let r7 := rInt l r6.2.1 r6.2.2 0 1099511627776
  let r8 := rInt l r7.2.1 r7.2.2 0 1099511627776
  let r9 := rInt l r8.2.1 r8.2.2 0 6
  let es := entsR l r9.1.toNat r9.2.1 r9.2.2
  let d := rText l es.2.1 es.2.2 160
  (⟨kind, src, dst, r1.1, r2.1, r3.1, r4.1, r5.1, r6.1 == 1, r7.1, r8.1, es.1, d.1⟩, d.2)
theorem rText_le (l : List UInt8) (a : Nat) (e : Int) : (rText l a e 160).1.length ≤ 160 := rText_len l a e 160
/-- A tail that is read whole. -/
theorem tail_ok {l : List UInt8} {kind src dst : Int} {a : Nat} {e : Int} (h : (msgTail l kind src dst a e).2.2 = 0) :
    e = 0 ∧ ((1 ≤ kind ∧ kind ≤ 8) → (1 ≤ src ∧ src ≤ 7) → (1 ≤ dst ∧ dst ≤ 7) → src ≠ dst → MayM (msgTail l kind src dst a e).1) := by
  unfold msgTail at h ⊢
  simp only at h ⊢
  have h0 := rText_ok0 _ _ _ _ h
  obtain ⟨hE, h9⟩ := entsR_plain _ _ _ _ h0
  obtain ⟨h8, g9, k9⟩ := rInt_range _ _ _ _ _ h9
  obtain ⟨h7, g8, k8⟩ := rInt_range _ _ _ _ _ h8
  obtain ⟨h6, g7, k7⟩ := rInt_range _ _ _ _ _ h7
  obtain ⟨h5, g6, k6⟩ := rInt_range _ _ _ _ _ h6
  obtain ⟨h4, g5, k5⟩ := rInt_range _ _ _ _ _ h5
  obtain ⟨h3, g4, k4⟩ := rInt_range _ _ _ _ _ h4
  obtain ⟨h2, g3, k3⟩ := rInt_range _ _ _ _ _ h3
  obtain ⟨h1, g2, k2⟩ := rInt_range _ _ _ _ _ h2
  obtain ⟨he, g1, k1⟩ := rInt_range _ _ _ _ _ h1
  refine ⟨he, fun hk hs hd hn => ?_⟩
  have hh : headM (msgTail l kind src dst a e).1 := ⟨hk, hs, hd, hn, by unfold msgTail; simp only; rw [entsR_len]; omega, rText_le _ _ _⟩
  refine ⟨hh, nums_of7 hh ?_, ?_⟩
  · intro j hj
    match j, hj with
    | 0, _ => exact decide_eq_true ⟨g1, k1⟩
    | 1, _ => exact decide_eq_true ⟨g2, k2⟩
    | 2, _ => exact decide_eq_true ⟨g3, k3⟩
    | 3, _ => exact decide_eq_true ⟨g4, k4⟩
    | 4, _ => exact decide_eq_true ⟨g5, k5⟩
    | 5, _ => exact decide_eq_true ⟨g7, k7⟩
    | 6, _ => exact decide_eq_true ⟨g8, k8⟩
  · intro j hj
    exact hE _ (List.getElem_mem hj)
def msg0 : MsgX := ⟨0, 0, 0, 0, 0, 0, 0, 0, false, 0, 0, [], []⟩
/-- The body of a message: its sender and receiver are lo to hi. -/
def msgBody (lo hi kind : Int) (l : List UInt8) : MsgX × Nat × Int :=
  let r1 := rInt l 0 0 lo hi
  let r2 := rInt l r1.2.1 r1.2.2 lo hi
  msgTail l kind r1.1 r2.1 r2.2.1 r2.2.2
open Classical in
/-- What the program answers. -/
noncomputable def getMP (l : List UInt8) : MsgX × Int :=
  if (frameG l).2.2 ≠ 0 then (msg0, (frameG l).2.2) else if (frameG l).2.1 < l.length ∨ ¬ (1 ≤ ((frameG l).1.1 : Int) ∧ ((frameG l).1.1 : Int) ≤ 8) then (msg0, 2) else
  let m := msgBody 1 7 (frameG l).1.1 (frameG l).1.2
  if rEnd (frameG l).1.2 m.2.1 m.2.2 ≠ 0 ∨ m.1.src = m.1.dst then (msg0, 2) else (m.1, 0)
open Classical in
/-- What the document says. -/
noncomputable def getMR (l : List UInt8) : MsgX × Int :=
  if (frameG l).2.2 ≠ 0 then (msg0, (frameG l).2.2) else if (frameG l).2.1 < l.length then (msg0, 2) else
  let m := msgBody 0 1099511627776 (frameG l).1.1 (frameG l).1.2
  if rEnd (frameG l).1.2 m.2.1 m.2.2 ≠ 0 ∨ ¬ MayM m.1 then (msg0, 2) else (m.1, 0)
theorem rEnd_zero {l : List UInt8} {a : Nat} {e : Int} (h : rEnd l a e = 0) : e = 0 := by
  unfold rEnd at h
  split at h
  · rename_i h1; exact absurd h h1
  · rename_i h1; simpa using h1
/-- A number between two others is read by both. -/
theorem rInt_narrow {l : List UInt8} {a : Nat} {e lo hi lo' hi' : Int} (h : (rInt l a e lo hi).2.2 = 0) (h1 : lo' ≤ (rInt l a e lo hi).1) (h2 : (rInt l a e lo hi).1 ≤ hi') : rInt l a e lo' hi' = rInt l a e lo hi := by
  unfold rInt at h h1 h2 ⊢
  split at h
  · rename_i g; exact absurd h g
  · rename_i g
    rw [if_neg g] at h1 h2 ⊢
    rw [if_neg g]
    split at h
    · rename_i g2; exact absurd h g2
    · rename_i g2
      rw [if_neg g2] at h1 h2 ⊢
      rw [if_neg g2]
      split at h
      · cases h
      · rename_i g3
        rw [if_neg g3] at h1 h2 ⊢
        rw [if_neg (by simp only at h1 h2; omega)]
theorem tail_fields (l : List UInt8) (kind src dst : Int) (a : Nat) (e : Int) : (msgTail l kind src dst a e).1.kind = kind ∧ (msgTail l kind src dst a e).1.src = src ∧ (msgTail l kind src dst a e).1.dst = dst := ⟨rfl, rfl, rfl⟩
theorem getM_same (l : List UInt8) : getMP l = getMR l := by
  unfold getMP getMR
  by_cases h1 : (frameG l).2.2 ≠ 0
  · rw [if_pos h1, if_pos h1]
  rw [if_neg h1, if_neg h1]
  by_cases h2 : (frameG l).2.1 < l.length
  · rw [if_pos (.inl h2), if_pos h2]
  rw [if_neg h2]
  generalize ((frameG l).1.1 : Int) = kind
  generalize (frameG l).1.2 = b
  simp only
  by_cases h3 : 1 ≤ kind ∧ kind ≤ 8
  · rw [if_neg (fun h => h.elim h2 (fun h => h h3))]
    by_cases hP : rEnd b (msgBody 1 7 kind b).2.1 (msgBody 1 7 kind b).2.2 ≠ 0 ∨ (msgBody 1 7 kind b).1.src = (msgBody 1 7 kind b).1.dst
    · rw [if_pos hP]
      rw [if_pos]
      apply Classical.byContradiction
      intro hn
      have hr : rEnd b (msgBody 0 1099511627776 kind b).2.1 (msgBody 0 1099511627776 kind b).2.2 = 0 := Classical.byContradiction fun h => hn (.inl h)
      have hm : MayM (msgBody 0 1099511627776 kind b).1 := Classical.byContradiction fun h => hn (.inr h)
      obtain ⟨⟨-, hs, hd, hsd, -⟩, -⟩ := hm
      have e2 := (tail_ok (rEnd_zero hr)).1
      obtain ⟨e1, -, -⟩ := rInt_range _ _ _ _ _ e2
      have n1 := rInt_narrow (lo' := 1) (hi' := 7) e1 hs.1 hs.2
      have n2 := rInt_narrow (lo' := 1) (hi' := 7) e2 hd.1 hd.2
      have eq : msgBody 1 7 kind b = msgBody 0 1099511627776 kind b := by
        unfold msgBody
        simp only
        rw [n1, n2]
      rw [eq] at hP
      exact hP.elim (fun h => h hr) (fun h => hsd h)
    · rw [if_neg hP]
      have hr : rEnd b (msgBody 1 7 kind b).2.1 (msgBody 1 7 kind b).2.2 = 0 := Classical.byContradiction fun h => hP (.inl h)
      have hsd : (msgBody 1 7 kind b).1.src ≠ (msgBody 1 7 kind b).1.dst := fun h => hP (.inr h)
      obtain ⟨e2, hmay⟩ := tail_ok (rEnd_zero hr)
      obtain ⟨e1, g2, k2⟩ := rInt_range _ _ _ _ _ e2
      obtain ⟨-, g1, k1⟩ := rInt_range _ _ _ _ _ e1
      have n1 := rInt_narrow (lo' := 0) (hi' := 1099511627776) e1 (by omega) (by omega)
      have n2 := rInt_narrow (lo' := 0) (hi' := 1099511627776) e2 (by omega) (by omega)
      have eq : msgBody 0 1099511627776 kind b = msgBody 1 7 kind b := by
        unfold msgBody
        simp only
        rw [n1, n2]
      rw [eq, if_neg]
      rintro (h | h)
      · exact h hr
      · exact h (hmay h3 ⟨g1, k1⟩ ⟨g2, k2⟩ hsd)
  · rw [if_pos (.inr h3), if_pos]
    exact .inr (fun h => h3 h.1.1)
end Go.Proofs.YtkgifbnkkmeoiaaGreatDoor
/- Rows of one's own, of lists of texts of one's own (blocks told apart by their types): they stay while a reader moves. -/
namespace Go.Proofs.YtkgifbnkkmeoiaaGreatDoor
open Go.ChangeShapes Go.WideShapes Go.ChangeAt Go.RowKit
set_option linter.unusedVariables false
set_option linter.unusedSimpArgs false

theorem KeepT.of_upd {e : TypeId} {base p : Nat} {w w' : World} (h : Upd p w w') (hp : p < base) : KeepT e base w w' := fun g cur hb hg => h.block g (Array.getElem?_eq_some_iff.1 hg).1 (fun e => by injection e with e; omega)
theorem KeepT.trans {e : TypeId} {base : Nat} {a b c : World} (h : KeepT e base a b) (k : KeepT e base b c) : KeepT e base a c := fun g cur hb hg => (k g cur hb ((h g cur hb hg).trans hg)).trans (h g cur hb hg)
theorem KeepT.less {e : TypeId} {base base' : Nat} {w w' : World} (h : KeepT e base w w') (hb : base ≤ base') : KeepT e base' w w' := fun g cur hg => h g cur (by omega)
def RowT (w : World) (base : Nat) (out : Value) (M : List (List ByteArray)) : Prop :=
  ∃ vs : List Value, ∃ hl : vs.length = M.length, w.ownsRow base 129 1 out M.length vs ∧
    ∀ j (h : j < M.length), w.ownsRow base 9 1 (vs[j]'(by omega)) M[j].length (svals M[j])
theorem RowT.nil_ (w : World) (base : Nat) : RowT w base (.slice none 0 0) [] := ⟨[], rfl, World.ownsRow_nil _ _ _ _, fun j hj => by simp at hj⟩
theorem RowT.less {w : World} {base base' : Nat} {out : Value} {M : List (List ByteArray)} (h : RowT w base out M) (hb : base' ≤ base) : RowT w base' out M := by
  obtain ⟨vs, h1, h2, h3⟩ := h
  exact ⟨vs, h1, own_lessQ h2 hb, fun j hj => own_lessQ (h3 j hj) hb⟩
theorem RowT.keepT {w w' : World} {base : Nat} {out : Value} {M : List (List ByteArray)} (h : RowT w base out M) (k : ∀ e, KeepT e base w w') : RowT w' base out M := by
  obtain ⟨vs, h1, h2, h3⟩ := h
  exact ⟨vs, h1, own_keepT h2 (k _), fun j hj => own_keepT (h3 j hj) (k _)⟩
theorem RowT.app_n {wa w4 : World} {base n : Nat} {out v' u : Value} {M : List (List ByteArray)} {x : List ByteArray} {vs : List Value} (hn : n = M.length) (h1 : vs.length = M.length) (h2 : wa.ownsRow base 129 1 out n vs)
    (h3 : ∀ j (h : j < M.length), wa.ownsRow base 9 1 (vs[j]'(by omega)) M[j].length (svals M[j]))
    (hi : wa.ownsRow base 9 1 u x.length (svals x))
    (ho : w4.ownsRow base 129 1 v' (n + 1) (vs ++ [u])) (hg : wa.grownBy w4 out.ownBlock) : RowT w4 base v' (M ++ [x]) := by
  subst hn
  have kk : KeepT 9 base wa w4 := KeepT.of_grown hg h2 (by decide)
  refine ⟨vs ++ [u], by simp [h1], by rw [List.length_append]; exact ho, fun j hj => ?_⟩
  rcases Nat.lt_or_ge j M.length with hlt | hge
  · have e1 : (vs ++ [u])[j]'(by simp; omega) = vs[j]'(by omega) := List.getElem_append_left (by omega)
    have e2 : (M ++ [x])[j] = M[j] := List.getElem_append_left hlt
    rw [e1, e2]
    exact own_keepT (h3 j hlt) kk
  · obtain rfl : j = M.length := by rw [List.length_append] at hj; simp at hj; omega
    have e1 : (vs ++ [u])[M.length]'(by simp; omega) = u := by rw [List.getElem_append_right (by omega)]; simp [h1]
    have e2 : (M ++ [x])[M.length] = x := by rw [List.getElem_append_right (by omega)]; simp
    rw [e1, e2]
    exact own_keepT hi kk
theorem RowT.toL {w : World} {base : Nat} {out : Value} {M : List (List ByteArray)} (h : RowT w base out M) : RowL w base out M := by
  obtain ⟨vs, h1, h2, h3⟩ := h
  refine ⟨vs, h1, h2, fun j hj => ?_⟩
  have e1 : vs.getD j undef = vs[j]'(by omega) := by rw [List.getD_eq_getElem?_getD, List.getElem?_eq_getElem (by omega)]; rfl
  have e2 : M.getD j [] = M[j] := by rw [List.getD_eq_getElem?_getD, List.getElem?_eq_getElem hj]; rfl
  rw [e1, e2]
  refine ⟨h3 j hj, fun g hg e => ?_⟩
  have a := (h3 j hj).2
  have b := h2.2
  rcases a with ⟨e1, _⟩ | ⟨g1, cap1, cur1, e1, _, hg1, _⟩
  · rw [e1] at hg; cases hg
  · rcases b with ⟨e2, _⟩ | ⟨g2, cap2, cur2, e2, _, hg2, _⟩
    · rw [e2] at e; cases e
    · rw [e1] at hg; rw [e2] at e
      simp only [Value.ownBlock, Option.some.injEq] at hg e
      subst hg; subst e
      rw [hg1] at hg2
      injection hg2 with hg2
      injection hg2 with _ h _
      exact absurd h (by decide)
end Go.Proofs.YtkgifbnkkmeoiaaGreatDoor
