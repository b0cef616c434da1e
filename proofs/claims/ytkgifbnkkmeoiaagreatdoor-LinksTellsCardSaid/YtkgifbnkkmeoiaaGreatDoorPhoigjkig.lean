/- 2 texts of this claim, in build order. -/
import Derived.Test.YtkgifbnkkmeoiaaGreatDoorPlnplcbck
import Derived.Lib.Split
/- A path's text: the program's and the reference's. -/
namespace Go.Proofs.YtkgifbnkkmeoiaaGreatDoor
open Go.ChangeShapes Go.WideShapes Go.ChangeAt Go.RowKit
set_option linter.unusedVariables false
set_option linter.unusedSimpArgs false

def slash : ByteArray := ⟨#[47]⟩
def textL (p : List ByteArray) : List UInt8 := Lib.join (p.map (·.data.toList)) [47]
def textB (p : List ByteArray) : ByteArray := if p = [] then ⟨#[42]⟩ else ⟨(textL p).toArray⟩
/-- What Text tells: the text, and the error. -/
def textR (p : List ByteArray) : ByteArray × Int := if mayB p then (textB p, 0) else (⟨#[]⟩, 10)
def accT (p : List ByteArray) : Nat → ByteArray
  | 0 => ⟨#[]⟩
  | k + 1 => (if 0 < k then accT p k ++ slash else accT p k) ++ p.getD k ⟨#[]⟩
theorem mayB_size {p : List ByteArray} (h : mayB p = true) : p.length ≤ 3 ∧ ∀ s ∈ p, s.size ≤ 12 := by
  unfold mayB at h
  rw [Bool.and_eq_true] at h
  refine ⟨of_decide_eq_true h.1, fun s hs => ?_⟩
  have := List.all_eq_true.1 h.2 s hs
  unfold nameB at this
  exact (of_decide_eq_true this).2.1
theorem joinTail_len (r : List (List UInt8)) (h : ∀ x ∈ r, x.length ≤ 12) : (Lib.joinTail [47] r).length ≤ 13 * r.length := by
  induction r with
  | nil => simp [Lib.joinTail]
  | cons x r ih =>
    have h1 := h x List.mem_cons_self
    have h2 := ih (fun y hy => h y (List.mem_cons_of_mem _ hy))
    simp only [Lib.joinTail, List.map_cons, List.flatten_cons, List.length_append, List.length_cons, List.length_nil] at h2 ⊢
    omega
theorem textL_len {p : List ByteArray} (h : mayB p = true) : (textL p).length ≤ 38 := by
  obtain ⟨h1, h2⟩ := mayB_size h
  unfold textL
  cases p with
  | nil => simp [Lib.join_nil]
  | cons x r =>
    rw [List.map_cons, Lib.join_cons, List.length_append]
    have a := h2 x List.mem_cons_self
    have b := joinTail_len (r.map (·.data.toList)) (fun y hy => by
      obtain ⟨s, hs, rfl⟩ := List.mem_map.1 hy
      have := h2 s (List.mem_cons_of_mem _ hs)
      rw [Array.length_toList]
      exact this)
    rw [List.length_map] at b
    have : x.data.toList.length = x.size := by rw [Array.length_toList]; rfl
    simp only [List.length_cons] at h1
    omega
theorem textB_size {p : List ByteArray} (h : mayB p = true) : (textB p).size ≤ 38 := by
  unfold textB
  split
  · decide
  · show (textL p).toArray.size ≤ 38
    rw [List.size_toArray]
    exact textL_len h
theorem join_snoc (xs : List (List UInt8)) (x sep : List UInt8) (h : xs ≠ []) : Lib.join (xs ++ [x]) sep = Lib.join xs sep ++ sep ++ x := by
  cases xs with
  | nil => exact absurd rfl h
  | cons a r => rw [List.cons_append, Lib.join_cons, Lib.join_cons]; simp [Lib.joinTail]
theorem accT_eq (p : List ByteArray) (k : Nat) (hk : k ≤ p.length) : accT p k = ⟨(textL (p.take k)).toArray⟩ := by
  induction k with
  | zero => rfl
  | succ k ih =>
    have hlt : k < p.length := by omega
    unfold accT
    rw [ih (by omega), List.getD_eq_getElem?_getD, List.getElem?_eq_getElem hlt, Option.getD_some, List.take_succ_eq_append_getElem hlt]
    by_cases h0 : 0 < k
    · rw [if_pos h0]
      unfold textL
      rw [List.map_append, List.map_cons, List.map_nil, join_snoc _ _ _ (by intro h; have := congrArg List.length h; rw [List.length_map, List.length_take, List.length_nil] at this; omega)]
      apply ByteArray.ext
      simp [slash]
    · rw [if_neg h0]
      obtain rfl : k = 0 := by omega
      apply ByteArray.ext
      simp [textL, Lib.join_nil, Lib.join_one]
theorem accT_size {p : List ByteArray} (h : mayB p = true) (k : Nat) (hk : k ≤ p.length) : (accT p k).size ≤ 38 := by
  rw [accT_eq p k hk]
  have h2 : mayB (p.take k) = true := by
    unfold mayB at h ⊢
    rw [Bool.and_eq_true] at h ⊢
    have a := of_decide_eq_true h.1
    refine ⟨decide_eq_true (by rw [List.length_take]; omega), List.all_eq_true.2 fun s hs => List.all_eq_true.1 h.2 s (List.mem_of_mem_take hs)⟩
  show (textL (p.take k)).toArray.size ≤ 38
  rw [List.size_toArray]
  exact textL_len h2
def GivesT (r : ByteArray × Int) (w : World) (e : Ending) (w' : World) : Prop := e = .returned (.tuple #[.string r.1, .int .i64 r.2]) ∧ Below w.heap.size w w'
set_option maxHeartbeats 800000 in
theorem text_any (v : Value) (p : List ByteArray) (w : World) (hv : Sl w w.heap.size v (svals p)) (hs : StrOk p) (hl : p.length ≤ 9223372036854775807) :
    Calls Tryz.prog 83 #[v] w (GivesT (textR p) w) := by
  have HM := hid (mayN_any v p w hv hs hl)
  have HV := hid (fun W (hb : Below w.heap.size w W) => hv.below hb)
  obtain ⟨A, c, rfl, hc1, hc2, hA⟩ := hv
  simp only [svals_len] at hc1 hA HM HV ⊢
  unfold maxLen at hc2
  clear hA
  cases hm : mayB p
  · have HR := hid (show textR p = (⟨#[]⟩, 10) by unfold textR; rw [hm]; rfl)
    rw [hm] at HM
    clear hm HV
    go_enter Tryz.func83, Tryz.ntmps83
    go_wp2_with fail
    refine HM.out.mono ?_
    rintro e w1 ⟨rfl, hb⟩
    go_wp2
    go_ret2
    exact ⟨by rw [HR.out]; rfl, hb⟩
  · have hsz := textL_len hm
    have hlen3 := (mayB_size hm).1
    have hR : textR p = (textB p, 0) := by unfold textR; rw [hm]; rfl
    rw [hm] at HM
    clear hm
    by_cases h0 : p.length = 0
    · have HR := hid (show textR p = (⟨#[42]⟩, 0) by rw [hR]; unfold textB; rw [if_pos (List.eq_nil_of_length_eq_zero h0)])
      rw [h0] at HM ⊢
      clear hR HV hsz h0 hlen3
      go_enter Tryz.func83, Tryz.ntmps83
      go_wp2_with fail
      refine HM.out.mono ?_
      rintro e w1 ⟨rfl, hb⟩
      go_wp2
      go_ret2
      exact ⟨by rw [HR.out]; rfl, hb⟩
    · have HR := hid (show textR p = (⟨(textL p).toArray⟩, 0) by rw [hR]; unfold textB; rw [if_neg (by rintro rfl; exact h0 rfl)])
      have t1 : ((p.length : Int) == 0) = false := by rw [beq_eq_false_iff_ne]; omega
      have HSZ := hid hsz
      have H0 := hid h0
      clear hR hsz h0
      go_enter Tryz.func83, Tryz.ntmps83
      go_wp2_with fail
      refine HM.out.mono ?_
      rintro e w1 ⟨rfl, hb⟩
      have HB := hid hb
      obtain ⟨A', c', e, -, -, hA'⟩ := HV.out _ hb
      simp only [Value.slice.injEq, svals_len] at e hA'
      obtain ⟨rfl, -, rfl⟩ := e
      obtain ⟨b, off, rfl, hbl, hcell⟩ := hA' (by have := H0.out; omega)
      have HJ := hid (strings_Join b off c p ⟨#[47]⟩ w1 (fun j x hx => hcell j (.string x) (by simp [svals, hx])) (by have := hb.size; omega) (by omega) hc1 (Nat.le_trans (show _ ≤ 38 from HSZ.out) (by decide)))
      clear hb hA' hcell
      go_wp2_with fail
      refine HJ.out.mono ?_
      rintro e w2 ⟨rfl, hb2⟩
      have HB2 := hid (HB.out.trans (hb2.mono HB.out.size)); clear hb2
      go_wp2
      go_ret2
      exact ⟨by rw [HR.out]; rfl, HB2.out⟩
end Go.Proofs.YtkgifbnkkmeoiaaGreatDoor
/- A text is cut at its slashes: what a path's text reads as, plainly. -/
namespace Go.Proofs.YtkgifbnkkmeoiaaGreatDoor
open Go.ChangeShapes Go.WideShapes Go.ChangeAt Go.RowKit
set_option linter.unusedVariables false
set_option linter.unusedSimpArgs false

/-- All pieces between slashes. -/
def cutL : List UInt8 → List (List UInt8)
  | [] => [[]]
  | c :: l => if c = 47 then [] :: cutL l else match cutL l with
    | [] => [[c]]
    | x :: r => (c :: x) :: r
theorem cutL_ne (l : List UInt8) : cutL l ≠ [] := by
  cases l with
  | nil => simp [cutL]
  | cons c l =>
    unfold cutL
    split
    · simp
    · split <;> simp
theorem cutL_slash (l : List UInt8) : cutL (47 :: l) = [] :: cutL l := by rw [cutL, if_pos rfl]
theorem cutL_other {c : UInt8} (hc : c ≠ 47) {l x : List UInt8} {r : List (List UInt8)} (h : cutL l = x :: r) : cutL (c :: l) = (c :: x) :: r := by
  rw [cutL, if_neg hc, h]
theorem cutL_len (l : List UInt8) : (cutL l).length ≤ l.length + 1 := by
  induction l with
  | nil => simp [cutL]
  | cons c l ih =>
    by_cases hc : c = 47
    · subst hc; rw [cutL_slash, List.length_cons, List.length_cons]; omega
    · obtain ⟨x, r, h⟩ : ∃ x r, cutL l = x :: r := by
        cases h : cutL l with
        | nil => exact absurd h (cutL_ne l)
        | cons x r => exact ⟨x, r, rfl⟩
      rw [cutL_other hc h]
      rw [h] at ih
      simp only [List.length_cons] at ih ⊢; omega
theorem pre_one (b : UInt8) (l : List UInt8) : ([47] : List UInt8).isPrefixOf (b :: l) = (47 == b) := by
  simp [List.isPrefixOf]
theorem cutL_index (l : List UInt8) : (Lib.index l [47] = -1 ∧ cutL l = [l]) ∨ ∃ i : Nat, Lib.index l [47] = i ∧ cutL l = l.take i :: cutL (l.drop (i + 1)) := by
  induction l with
  | nil => left; exact ⟨rfl, rfl⟩
  | cons c l ih =>
    have hi : Lib.index (c :: l) [47] = if ([47] : List UInt8).isPrefixOf (c :: l) then 0 else if Lib.index l [47] == -1 then -1 else Lib.index l [47] + 1 := rfl
    rw [pre_one] at hi
    by_cases hc : c = 47
    · subst hc
      right
      refine ⟨0, by rw [hi]; rfl, ?_⟩
      rw [cutL_slash]; rfl
    · have h1 : (47 == c) = false := by rw [beq_eq_false_iff_ne]; exact fun e => hc e.symm
      rw [h1] at hi
      simp only [Bool.false_eq_true, if_false] at hi
      rcases ih with ⟨h2, h3⟩ | ⟨i, h2, h3⟩
      · left
        rw [h2] at hi
        exact ⟨hi, cutL_other hc h3⟩
      · right
        rw [h2, if_neg (by rw [beq_iff_eq]; omega)] at hi
        exact ⟨i + 1, by rw [hi]; omega, cutL_other hc h3⟩
theorem splitK_cut (k : Nat) : ∀ l : List UInt8, ((cutL l).length ≤ k + 1 ∧ Lib.splitK [47] 0 k l = cutL l) ∨ (k + 1 < (cutL l).length ∧ (Lib.splitK [47] 0 k l).length = k + 1) := by
  induction k with
  | zero =>
    intro l
    rcases cutL_index l with ⟨h1, h2⟩ | ⟨i, h1, h2⟩
    · left; rw [h2]; exact ⟨by simp, rfl⟩
    · right
      rw [h2]
      have : (cutL (l.drop (i + 1))).length ≠ 0 := fun h => cutL_ne _ (List.length_eq_zero_iff.1 h)
      exact ⟨by rw [List.length_cons]; omega, rfl⟩
  | succ k ih =>
    intro l
    have hs : Lib.splitK [47] 0 (k + 1) l = if Lib.index l [47] == -1 then [l] else l.take ((Lib.index l [47]).toNat + 0) :: Lib.splitK [47] 0 k (l.drop ((Lib.index l [47]).toNat + 1)) := rfl
    rcases cutL_index l with ⟨h1, h2⟩ | ⟨i, h1, h2⟩
    · left
      rw [h1] at hs
      rw [h2]
      exact ⟨by simp, by rw [hs]; rfl⟩
    · rw [h1, if_neg (by rw [beq_iff_eq]; omega)] at hs
      have hn : ((i : Int)).toNat = i := by omega
      rw [hn, Nat.add_zero] at hs
      rw [hs, h2]
      rcases ih (l.drop (i + 1)) with ⟨a, b⟩ | ⟨a, b⟩
      · left; exact ⟨by rw [List.length_cons]; omega, by rw [b]; rfl⟩
      · right; exact ⟨by rw [List.length_cons]; omega, by rw [List.length_cons, b]⟩
/-- The pieces, as texts. -/
def piecesB (s : ByteArray) : List ByteArray := (cutL s.data.toList).map (fun x => ⟨x.toArray⟩)
/-- What Path tells: the path, and the error. -/
def pathR (s : ByteArray) : List ByteArray × Int := if s = ⟨#[42]⟩ then ([], 0) else if mayB (piecesB s) then (piecesB s, 0) else ([], 10)
theorem map_back (l : List ByteArray) : (l.map (·.data.toList)).map (fun x => (⟨x.toArray⟩ : ByteArray)) = l := by
  rw [List.map_map]
  conv => rhs; rw [← List.map_id l]
  apply List.map_congr_left
  intro x _
  simp
theorem splitB_eq (k : Nat) (s : ByteArray) : Lib.splitB slash 0 k s = (Lib.splitK [47] 0 k s.data.toList).map (fun x => ⟨x.toArray⟩) := by
  rw [← map_back (Lib.splitB slash 0 k s), Lib.splitB_data]
  rfl
/-- SplitN at 4: the pieces, or 4 pieces: no path. -/
theorem split4 (s : ByteArray) : Lib.splitB slash 0 (min 4 (s.size + 1) - 1) s = piecesB s ∨ (mayB (piecesB s) = false ∧ mayB (Lib.splitB slash 0 (min 4 (s.size + 1) - 1) s) = false) := by
  have hl : (cutL s.data.toList).length ≤ s.size + 1 := by have := cutL_len s.data.toList; rw [Array.length_toList] at this; exact this
  have hb : ∀ l : List ByteArray, 3 < l.length → mayB l = false := fun l h => by
    unfold mayB
    rw [decide_eq_false (by omega), Bool.false_and]
  rcases splitK_cut (min 4 (s.size + 1) - 1) s.data.toList with ⟨a, b⟩ | ⟨a, b⟩
  · left; rw [splitB_eq, b]; rfl
  · right
    have h3 : 3 ≤ s.size := by omega
    have h4 : min 4 (s.size + 1) - 1 = 3 := by omega
    rw [h4] at a b ⊢
    exact ⟨hb _ (by unfold piecesB; rw [List.length_map]; omega), hb _ (by rw [splitB_eq, List.length_map]; omega)⟩
theorem splitK_size (k : Nat) : ∀ l : List UInt8, ∀ x ∈ Lib.splitK [47] 0 k l, x.length ≤ l.length := by
  induction k with
  | zero => intro l x hx; simp [Lib.splitK] at hx; subst hx; exact Nat.le_refl _
  | succ k ih =>
    intro l x hx
    unfold Lib.splitK at hx
    split at hx
    · simp at hx; subst hx; exact Nat.le_refl _
    · rcases List.mem_cons.1 hx with rfl | hx
      · rw [List.length_take]; omega
      · have := ih _ x hx
        rw [List.length_drop] at this; omega
theorem splitB_size (k : Nat) (s : ByteArray) : ∀ x ∈ Lib.splitB slash 0 k s, x.size ≤ s.size := by
  rw [splitB_eq]
  intro x hx
  obtain ⟨y, hy, rfl⟩ := List.mem_map.1 hx
  have := splitK_size k _ y hy
  rw [Array.length_toList] at this
  show y.toArray.size ≤ s.data.size
  rw [List.size_toArray]; exact this
/-! ### There and back -/
theorem cutL_name (x : List UInt8) (hx : ∀ c ∈ x, c ≠ 47) : cutL x = [x] := by
  induction x with
  | nil => rfl
  | cons c x ih => exact cutL_other (hx c List.mem_cons_self) (ih (fun d hd => hx d (List.mem_cons_of_mem _ hd)))
theorem cutL_app (x l : List UInt8) (hx : ∀ c ∈ x, c ≠ 47) : cutL (x ++ 47 :: l) = x :: cutL l := by
  induction x with
  | nil => exact cutL_slash l
  | cons c x ih => rw [List.cons_append]; exact cutL_other (hx c List.mem_cons_self) (ih (fun d hd => hx d (List.mem_cons_of_mem _ hd)))
theorem join_two (x y : List UInt8) (r : List (List UInt8)) : Lib.join (x :: y :: r) [47] = x ++ 47 :: Lib.join (y :: r) [47] := by
  rw [Lib.join_cons, Lib.join_cons]
  simp [Lib.joinTail]
theorem cutL_join (xs : List (List UInt8)) (h : xs ≠ []) (hx : ∀ x ∈ xs, ∀ c ∈ x, c ≠ 47) : cutL (Lib.join xs [47]) = xs := by
  induction xs with
  | nil => exact absurd rfl h
  | cons x r ih =>
    cases r with
    | nil => rw [Lib.join_one]; exact cutL_name x (hx x List.mem_cons_self)
    | cons y r =>
      rw [join_two, cutL_app _ _ (hx x List.mem_cons_self), ih (by simp) (fun z hz => hx z (List.mem_cons_of_mem _ hz))]
theorem join_cutL (l : List UInt8) : Lib.join (cutL l) [47] = l := by
  induction l with
  | nil => rfl
  | cons c l ih =>
    obtain ⟨x, r, h⟩ : ∃ x r, cutL l = x :: r := by
      cases h : cutL l with
      | nil => exact absurd h (cutL_ne l)
      | cons x r => exact ⟨x, r, rfl⟩
    by_cases hc : c = 47
    · subst hc
      rw [cutL_slash, h, join_two, ← h, ih]; rfl
    · rw [cutL_other hc h]
      rw [h] at ih
      cases r with
      | nil => rw [Lib.join_one] at ih ⊢; rw [ih]
      | cons y r => rw [join_two] at ih ⊢; rw [List.cons_append, ih]
theorem name_bytes {s : ByteArray} (h : nameB s = true) : (∀ c ∈ s.data.toList, okN c.toNat) ∧ 1 ≤ s.size := by
  unfold nameB at h
  obtain ⟨h1, -, h3⟩ := of_decide_eq_true h
  refine ⟨fun c hc => ?_, h1⟩
  obtain ⟨i, hi, rfl⟩ := List.mem_iff_getElem.1 hc
  rw [Array.length_toList] at hi
  exact h3 i hi
theorem okN_slash {c : UInt8} (h : okN c.toNat) : c ≠ 47 ∧ c ≠ 42 := by
  constructor <;> (rintro rfl; revert h; decide)
theorem mayB_names {p : List ByteArray} (h : mayB p = true) : ∀ s ∈ p, nameB s = true := by
  unfold mayB at h
  rw [Bool.and_eq_true] at h
  exact fun s hs => List.all_eq_true.1 h.2 s hs
theorem pathR_text {p : List ByteArray} (h : mayB p = true) : pathR (textB p) = (p, 0) := by
  have hn := mayB_names h
  by_cases hp : p = []
  · subst hp; rfl
  · have hne : textB p ≠ ⟨#[42]⟩ := by
      unfold textB
      rw [if_neg hp]
      intro e
      have e2 : textL p = [42] := by
        have := congrArg (fun b : ByteArray => b.data.toList) e
        simpa using this
      cases p with
      | nil => exact hp rfl
      | cons x r =>
        have hx := name_bytes (hn x List.mem_cons_self)
        unfold textL at e2
        rw [List.map_cons, Lib.join_cons] at e2
        cases hd : x.data.toList with
        | nil => have : x.size = 0 := by have := congrArg List.length hd; rw [Array.length_toList] at this; exact this
                 omega
        | cons c t =>
          have := hx.1 c (by rw [hd]; exact List.mem_cons_self)
          rw [hd, List.cons_append] at e2
          injection e2 with e3 _
          exact (okN_slash this).2 e3
    have hpc : piecesB (textB p) = p := by
      unfold piecesB textB
      rw [if_neg hp]
      have : (⟨(textL p).toArray⟩ : ByteArray).data.toList = textL p := by simp
      rw [this]
      unfold textL
      rw [cutL_join _ (by simpa using hp) (fun x hx c hc => by
        obtain ⟨s, hs, rfl⟩ := List.mem_map.1 hx
        exact (okN_slash ((name_bytes (hn s hs)).1 c hc)).1), map_back]
    unfold pathR
    rw [if_neg hne, hpc, if_pos h]
theorem textR_path {s : ByteArray} {p : List ByteArray} (h : pathR s = (p, 0)) : textR p = (s, 0) := by
  unfold pathR at h
  split at h
  · next e => injection h with h _; subst h; subst e; rfl
  · next e =>
    split at h
    · next hm =>
      injection h with h _
      subst h
      unfold textR
      rw [if_pos hm]
      have hne : piecesB s ≠ [] := by unfold piecesB; simpa using cutL_ne _
      have : textB (piecesB s) = s := by
        unfold textB
        rw [if_neg hne]
        unfold textL piecesB
        rw [List.map_map]
        have : (cutL s.data.toList).map ((fun b : ByteArray => b.data.toList) ∘ fun x => ⟨x.toArray⟩) = cutL s.data.toList := by
          conv => rhs; rw [← List.map_id (cutL s.data.toList)]
          apply List.map_congr_left
          intro x _
          simp
        rw [this, join_cutL]
      rw [this]
    · injection h with _ h; cases h
theorem pathR_cases (s : ByteArray) : ((pathR s).2 = 0 ∧ mayB (pathR s).1 = true) ∨ pathR s = ([], 10) := by
  unfold pathR
  split
  · left; exact ⟨rfl, rfl⟩
  · split
    · next h => left; exact ⟨rfl, h⟩
    · right; rfl
end Go.Proofs.YtkgifbnkkmeoiaaGreatDoor
