/- The order of texts, and of lists of texts, plainly. -/
import Derived.Test.YtompjcadhodapabDoorQMath
namespace Go.Proofs.YtompjcadhodapabDoor
open Go.ChangeShapes Go.WideShapes Go.ChangeAt Go.RowKit
set_option linter.unusedVariables false
set_option linter.unusedSimpArgs false

theorem bless_irr (l : List UInt8) : Op.bytesLess l l = false := by
  induction l with
  | nil => rfl
  | cons c l ih => unfold Op.bytesLess; simp [ih]
theorem bless_cons (a b : UInt8) (l r : List UInt8) : Op.bytesLess (a :: l) (b :: r) = true ↔ a < b ∨ (a = b ∧ Op.bytesLess l r = true) := by
  rw [Op.bytesLess, Bool.or_eq_true, Bool.and_eq_true, decide_eq_true_iff, beq_iff_eq]
theorem bless_asym : ∀ l r : List UInt8, Op.bytesLess l r = true → Op.bytesLess r l = false := by
  intro l
  induction l with
  | nil => intro r h; cases r with
    | nil => cases h
    | cons b r => rfl
  | cons a l ih =>
    intro r h
    cases r with
    | nil => cases h
    | cons b r =>
      rw [Bool.eq_false_iff]
      intro h2
      rw [bless_cons] at h h2
      rcases h with h | ⟨rfl, h⟩
      · rcases h2 with h2 | ⟨rfl, h2⟩
        · exact absurd (UInt8.lt_trans h h2) (UInt8.lt_irrefl _)
        · exact UInt8.lt_irrefl _ h
      · rcases h2 with h2 | ⟨-, h2⟩
        · exact UInt8.lt_irrefl _ h2
        · rw [ih r h] at h2; cases h2
theorem bless_trans : ∀ l m r : List UInt8, Op.bytesLess l m = true → Op.bytesLess m r = true → Op.bytesLess l r = true := by
  intro l
  induction l with
  | nil =>
    intro m r h1 h2
    cases r with
    | nil => cases m <;> cases h2
    | cons c r => rfl
  | cons a l ih =>
    intro m r h1 h2
    cases m with
    | nil => cases h1
    | cons b m =>
      cases r with
      | nil => cases h2
      | cons c r =>
        rw [bless_cons] at h1 h2 ⊢
        rcases h1 with h1 | ⟨rfl, h1⟩
        · rcases h2 with h2 | ⟨rfl, h2⟩
          · exact .inl (UInt8.lt_trans h1 h2)
          · exact .inl h1
        · rcases h2 with h2 | ⟨rfl, h2⟩
          · exact .inl h2
          · exact .inr ⟨rfl, ih m r h1 h2⟩
theorem bless_total : ∀ l r : List UInt8, Op.bytesLess l r = false → Op.bytesLess r l = false → l = r := by
  intro l
  induction l with
  | nil => intro r h1 h2; cases r with
    | nil => rfl
    | cons b r => cases h1
  | cons a l ih =>
    intro r h1 h2
    cases r with
    | nil => cases h2
    | cons b r =>
      rw [Bool.eq_false_iff] at h1 h2
      rw [ne_eq, bless_cons] at h1 h2
      have hab : a = b := by
        have h3 : ¬ a < b := fun h => h1 (.inl h)
        have h4 : ¬ b < a := fun h => h2 (.inl h)
        rw [UInt8.lt_iff_toNat_lt] at h3 h4
        exact UInt8.toNat_inj.1 (by omega)
      subst hab
      rw [ih r (Bool.eq_false_iff.2 (fun h => h1 (.inr ⟨rfl, h⟩))) (Bool.eq_false_iff.2 (fun h => h2 (.inr ⟨rfl, h⟩)))]
/-- A text is ahead of another one. -/
def lessB (x y : ByteArray) : Bool := Op.bytesLess x.toList y.toList
theorem toList_inj {x y : ByteArray} (h : x.toList = y.toList) : x = y := by
  rw [ByteArray.toList_eq, ByteArray.toList_eq] at h
  apply ByteArray.ext
  exact Array.toList_inj.1 h
theorem lessB_irr (x : ByteArray) : lessB x x = false := bless_irr _
theorem lessB_asym {x y : ByteArray} (h : lessB x y = true) : lessB y x = false := bless_asym _ _ h
theorem lessB_trans {x y z : ByteArray} (h : lessB x y = true) (k : lessB y z = true) : lessB x z = true := bless_trans _ _ _ h k
theorem lessB_total {x y : ByteArray} (h : lessB x y = false) (k : lessB y x = false) : x = y := toList_inj (bless_total _ _ h k)
/-- Lists of texts, compared. -/
def cmpS : List ByteArray → List ByteArray → Int
  | [], [] => 0
  | [], _ :: _ => -1
  | _ :: _, [] => 1
  | x :: p, y :: q => if lessB x y then -1 else if lessB y x then 1 else cmpS p q
theorem cmpS_range (p q : List ByteArray) : cmpS p q = -1 ∨ cmpS p q = 0 ∨ cmpS p q = 1 := by
  induction p generalizing q with
  | nil => cases q <;> simp [cmpS]
  | cons x p ih =>
    cases q with
    | nil => simp [cmpS]
    | cons y q =>
      unfold cmpS
      split
      · simp
      · split
        · simp
        · exact ih q
theorem cmpS_cons (x y : ByteArray) (p q : List ByteArray) : cmpS (x :: p) (y :: q) = if lessB x y then -1 else if lessB y x then 1 else cmpS p q := rfl
theorem cmpS_neg (p q : List ByteArray) : cmpS p q = - cmpS q p := by
  induction p generalizing q with
  | nil => cases q <;> simp [cmpS]
  | cons x p ih =>
    cases q with
    | nil => simp [cmpS]
    | cons y q =>
      rw [cmpS_cons, cmpS_cons]
      cases h : lessB x y
      · cases k : lessB y x
        · simpa using ih q
        · simp
      · rw [lessB_asym h]; simp
theorem cmpS_zero (p q : List ByteArray) : cmpS p q = 0 ↔ p = q := by
  induction p generalizing q with
  | nil => cases q <;> simp [cmpS]
  | cons x p ih =>
    cases q with
    | nil => simp [cmpS]
    | cons y q =>
      rw [cmpS_cons]
      cases h : lessB x y
      · cases k : lessB y x
        · have := lessB_total h k
          subst this
          simpa using ih q
        · simp only [Bool.false_eq_true, if_false, if_true]
          constructor
          · intro e; omega
          · intro e; injection e with e _; subst e; rw [lessB_irr] at k; cases k
      · simp only [if_true]
        constructor
        · intro e; omega
        · intro e; injection e with e _; subst e; rw [lessB_irr] at h; cases h
/-- At most, at the head: the head is ahead, or the same and the rest is at most. -/
theorem cmpS_le_cons (x y : ByteArray) (p q : List ByteArray) : cmpS (x :: p) (y :: q) ≤ 0 ↔ lessB x y = true ∨ (x = y ∧ cmpS p q ≤ 0) := by
  rw [cmpS_cons]
  cases h : lessB x y
  · cases k : lessB y x
    · have := lessB_total h k
      subst this
      simp
    · simp only [Bool.false_eq_true, if_false, if_true, false_or]
      constructor
      · intro e; omega
      · rintro ⟨rfl, -⟩; rw [lessB_irr] at k; cases k
  · simp
theorem cmpS_trans : ∀ p q r : List ByteArray, cmpS p q ≤ 0 → cmpS q r ≤ 0 → cmpS p r ≤ 0 := by
  intro p
  induction p with
  | nil => intro q r _ _; cases r <;> simp [cmpS]
  | cons x p ih =>
    intro q r h1 h2
    cases q with
    | nil => simp [cmpS] at h1
    | cons y q =>
      cases r with
      | nil => simp [cmpS] at h2
      | cons z r =>
        rw [cmpS_le_cons] at h1 h2 ⊢
        rcases h1 with h1 | ⟨rfl, h1⟩
        · rcases h2 with h2 | ⟨rfl, h2⟩
          · exact .inl (lessB_trans h1 h2)
          · exact .inl h1
        · rcases h2 with h2 | ⟨rfl, h2⟩
          · exact .inl h2
          · exact .inr ⟨rfl, ih q r h1 h2⟩
theorem under_cons (x t : ByteArray) (p top : List ByteArray) : underB (x :: p) (t :: top) = true ↔ x = t ∧ underB p top = true := by
  unfold underB
  simp only [Bool.and_eq_true, decide_eq_true_iff, List.length_cons, List.take_succ_cons, List.cons.injEq]
  constructor
  · rintro ⟨a, b, c⟩; exact ⟨b, by omega, c⟩
  · rintro ⟨a, b, c⟩; exact ⟨by omega, a, c⟩
theorem under_short (t : ByteArray) (top : List ByteArray) : underB [] (t :: top) = false := by
  unfold underB; simp
theorem under_nil (p : List ByteArray) : underB p [] = true := by unfold underB; simp
/-- What is between two that stand under a path stands under it. -/
theorem under_between : ∀ top p q r : List ByteArray, underB p top = true → underB r top = true → cmpS p q ≤ 0 → cmpS q r ≤ 0 → underB q top = true := by
  intro top
  induction top with
  | nil => intro p q r _ _ _ _; exact under_nil q
  | cons t top ih =>
    intro p q r h1 h2 h3 h4
    cases p with
    | nil => rw [under_short] at h1; cases h1
    | cons x p =>
      cases r with
      | nil => rw [under_short] at h2; cases h2
      | cons z r =>
        rw [under_cons] at h1 h2
        obtain ⟨rfl, h1⟩ := h1
        obtain ⟨rfl, h2⟩ := h2
        cases q with
        | nil => simp [cmpS] at h3
        | cons y q =>
          rw [cmpS_le_cons] at h3 h4
          rcases h3 with h3 | ⟨rfl, h3⟩
          · rcases h4 with h4 | ⟨rfl, h4⟩
            · rw [lessB_asym h3] at h4; cases h4
            · rw [lessB_irr] at h3; cases h3
          · rcases h4 with h4 | ⟨-, h4⟩
            · rw [lessB_irr] at h4; cases h4
            · rw [under_cons]; exact ⟨rfl, ih p q r h1 h2 h3 h4⟩
end Go.Proofs.YtompjcadhodapabDoor
