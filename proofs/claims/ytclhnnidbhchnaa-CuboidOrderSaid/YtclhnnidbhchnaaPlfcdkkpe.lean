/- 2 texts of this claim, in build order. -/
import Derived.Test.YtclhnnidbhchnaaPolcgdoap
import Derived.Test.YtclhnnidbhchnaaPagkfnhci
import Derived.Test.YtclhnnidbhchnaaPddgcngnk
import Derived.Test.YtclhnnidbhchnaaPpaamefkd
import Derived.Test.YtclhnnidbhchnaaPfldhkpba
import Derived.Laws.OwnMore
/- The laws' helpers of layer 10: one, pick. -/
namespace Go.Proofs.Ytclhnnidbhchnaa
open Go.ChangeShapes Go.WideShapes Go.ChangeAt Go.RowKit Go.Maps
set_option linter.unusedVariables false
set_option linter.unusedSimpArgs false

def pickN (c n : Int) : Int := (if c < 0 then -(c + 1) else c) % n
theorem pickN_in (c n : Int) (hn : 0 < n) : 0 ≤ pickN c n ∧ pickN c n < n := ⟨Int.emod_nonneg _ (by omega), Int.emod_lt_of_pos _ hn⟩
theorem pick_any (c n : Int) (w : World) (hc : InI64 c) (hn : 0 < n) (hn2 : n ≤ 9223372036854775807) : Calls Try.prog 23 #[.int .i64 c, .int .i64 n] w (Stays (.int .i64 (pickN c n)) w) := by
  obtain ⟨hc1, hc2⟩ := hc
  have hp : pickN c n = (if c < 0 then -(c + 1) else c) % n := rfl
  by_cases h0 : c < 0
  · rw [if_pos h0] at hp
    rw [hp]; clear hp
    have h1 := Int.tmod_eq_emod_of_nonneg (a := -(c + 1)) (b := n) (by omega)
    have h2 := Int.emod_nonneg (-(c + 1)) (show n ≠ 0 by omega)
    have h3 := Int.emod_lt_of_pos (-(c + 1)) hn
    go_enter Try.func23, Try.ntmps23
    go_wp2
    go_ret
    exact ⟨rfl, Qu.refl _⟩
  · rw [if_neg h0] at hp
    rw [hp]; clear hp
    have h1 := Int.tmod_eq_emod_of_nonneg (a := c) (b := n) (by omega)
    have h2 := Int.emod_nonneg c (show n ≠ 0 by omega)
    have h3 := Int.emod_lt_of_pos c hn
    go_enter Try.func23, Try.ntmps23
    go_wp2
    go_ret
    exact ⟨rfl, Qu.refl _⟩
def oneC (n : Int) : CellM := ⟨1, [n], [n], [n]⟩
theorem own_lit1 (w : World) (n : Int) {base N : Nat} (hN : w.heap.size = N) (hb : base ≤ N) : (w.alloc (.cells #[.int .i64 n] 3)).ownsRow base 3 1 (.slice (some ⟨N, 0, none⟩) 1 1) 1 (ivals [n]) := by
  subst hN
  exact World.ownsRow_lit w #[.int .i64 n] 1 hb (by simp [maxLen]) rfl
theorem own_after {w : World} {base n : Nat} {v : Value} {xs : List Value} (h : w.ownsRow base 3 1 v n xs) (o : Obj) : (w.alloc o).ownsRow base 3 1 v n xs := h.alloc o
set_option maxRecDepth 100000 in
theorem one_any (n : Int) (w : World) : Calls Try.prog 24 #[.int .i64 n] w (OwnPost (oneC n) w) := by
  go_enter Try.func24, Try.ntmps24
  go_wp2
  refine bodyPost_ret (v := .agg #[.int .i64 1, .slice (some ⟨w.heap.size + 1, 0, none⟩) 1 1, .slice (some ⟨w.heap.size + 1 + 1, 0, none⟩) 1 1, .slice (some ⟨w.heap.size + 1 + 1 + 1, 0, none⟩) 1 1]) (by simp [results, Try.results24, go_sem]; done) rfl ⟨_, rfl, ⟨_, _, _, rfl, ?_, ?_, ?_, ?_, ?_⟩, (by repeat' first | with_reducible exact Below.refl _ _ | assumption | (with_reducible refine Below.alloc ?_ ?_ _) | (with_reducible refine Below.setCell ?_ ?_ _) | (with_reducible refine Below.drew ?_) | (with_reducible refine below_drewN ?_ _) | (with_reducible refine Below.trans ?_ (Below.mono ‹_› ?_)) | omega | (with_reducible refine le_alloc ?_) | (with_reducible refine le_setCell ?_) | (with_reducible refine le_drew ?_) | (with_reducible refine le_drewN ?_) | (with_reducible refine Nat.le_trans ?_ (Below.size ‹_›)) | (simp <;> omega))⟩
  · exact own_after (own_after (own_lit1 _ n (by simp) (by omega)) _) _
  · exact own_after (own_lit1 _ n (by simp) (by omega)) _
  · exact own_lit1 _ n (by simp) (by omega)
  · intro g hg; simp [Value.ownBlock] at hg ⊢; omega
  · intro g hg; simp [Value.ownBlock] at hg ⊢; omega
end Go.Proofs.Ytclhnnidbhchnaa
/- Cells of one that are added in whatever order, plainly. -/
namespace Go.Proofs.Ytclhnnidbhchnaa
open Go.ChangeShapes Go.WideShapes Go.ChangeAt Go.RowKit
set_option linter.unusedVariables false
set_option linter.unusedSimpArgs false

/-- The cell of some values. -/
def valC (vs : List Int) : CellM := ⟨(vs.length : Int), [vs.sum], [minL vs], [maxL vs]⟩
theorem valC_one (v : Int) : valC [v] = oneC v := by simp [valC, oneC, minL, maxL]
theorem sum_in {vs : List Int} (h : ∀ v ∈ vs, 0 ≤ v ∧ v < 1125899906842624) : 0 ≤ vs.sum ∧ vs.sum ≤ 1125899906842624 * vs.length := by
  induction vs with
  | nil => simp
  | cons v vs ih =>
    have h1 := h v List.mem_cons_self
    have h2 := ih (fun x hx => h x (List.mem_cons_of_mem _ hx))
    rw [List.sum_cons, List.length_cons]
    omega
theorem valC_may {vs : List Int} (hne : vs ≠ []) (h : ∀ v ∈ vs, 0 ≤ v ∧ v < 1125899906842624) (hl : vs.length ≤ 40) : MayP (valC vs) := by
  have hlen : 0 < vs.length := List.length_pos_iff.2 hne
  obtain ⟨a1, a2⟩ := minL_spec hne
  obtain ⟨b1, b2⟩ := maxL_spec hne
  have s := sum_in h
  have k1 := h _ a1
  have k2 := h _ b1
  have k3 := a2 _ b1
  refine ⟨⟨by simp [valC], by simp [valC], by simp [valC]⟩, .inr ⟨⟨by show (1 : Int) ≤ (vs.length : Int); omega, by show (vs.length : Int) ≤ CNT; unfold CNT; omega⟩, fun i hi => ?_⟩⟩
  have hi : i = 0 := by simp [valC] at hi; omega
  subst hi
  unfold CellM.col colP VAL SUM
  simp only [valC, List.getD_cons_zero]
  refine ⟨k3, by omega, by omega, by omega, fun hone => ?_⟩
  have h1 : vs.length = 1 := by omega
  obtain ⟨v, rfl⟩ := List.length_eq_one_iff.1 h1
  simp [minL, maxL]
theorem merge_val {vs : List Int} {v : Int} (hne : vs ≠ []) (h : ∀ x ∈ vs ++ [v], 0 ≤ x ∧ x < 1125899906842624) (hl : vs.length + 1 ≤ 40) : mergeC (valC vs) (oneC v) = (valC (vs ++ [v]), 0) := by
  have m1 := valC_may hne (fun x hx => h x (List.mem_append_left _ hx)) (by omega)
  have m2 : MayP (oneC v) := by rw [← valC_one]; exact valC_may (by simp) (fun x hx => h x (List.mem_append_right _ hx)) (by simp)
  have hs : sumOf (valC vs) (oneC v) = valC (vs ++ [v]) := by
    unfold sumOf valC oneC
    rw [minL_append hne (by simp), maxL_append hne (by simp)]
    simp [minL, maxL]
  have m3 : MayP (valC (vs ++ [v])) := valC_may (by simp) h (by rw [List.length_append, List.length_singleton]; exact hl)
  have hlen : 0 < vs.length := List.length_pos_iff.2 hne
  unfold mergeC
  rw [if_neg (by rw [mayC_iff.2 m1, mayC_iff.2 m2]; simp [valC, oneC]), if_neg (by show ¬ ((vs.length : Int) = 0); omega), if_neg (by show ¬ ((1 : Int) = 0); omega), hs, if_pos (mayC_iff.2 m3)]
/-- Keys and values. -/
abbrev KV := List Int × Int
def kvs (X : List KV) : List KC := X.map fun x => (x.1, oneC x.2)
def valsK (X : List KV) (k : List Int) : List Int := (X.filter fun x => decide (x.1 = k)).map Prod.snd
def OkX (X : List KV) : Prop := X.length ≤ 40 ∧ ∀ x ∈ X, okK 1 x.1 ∧ 0 ≤ x.2 ∧ x.2 < 1125899906842624
theorem kvs_snoc (X : List KV) (x : KV) : kvs (X ++ [x]) = kvs X ++ [(x.1, oneC x.2)] := by simp [kvs]
theorem valsK_snoc (X : List KV) (x : KV) (k : List Int) : valsK (X ++ [x]) k = if x.1 = k then valsK X k ++ [x.2] else valsK X k := by
  unfold valsK
  rw [List.filter_append, List.map_append]
  by_cases h : x.1 = k
  · simp [h]
  · simp [h]
theorem valsK_in {X : List KV} (h : OkX X) (k : List Int) : ∀ v ∈ valsK X k, 0 ≤ v ∧ v < 1125899906842624 := fun v hv => by
  obtain ⟨x, hx, rfl⟩ := List.mem_map.1 hv
  exact (h.2 x (List.mem_filter.1 hx).1).2
theorem valsK_len (X : List KV) (k : List Int) : (valsK X k).length ≤ X.length := by
  unfold valsK
  rw [List.length_map]
  exact List.length_filter_le _ _
/-- A step of adding. -/
theorem add_kv {X : List KV} {x : KV} (h : OkX (X ++ [x])) (hg : ∀ k, getK (addAll 1 1 (kvs X)) k = if valsK X k = [] then none else some (valC (valsK X k))) :
    (addK 1 1 (addAll 1 1 (kvs X)) x.1 (oneC x.2)).2 = 0 ∧ ∀ k, getK (addAll 1 1 (kvs (X ++ [x]))) k = if valsK (X ++ [x]) k = [] then none else some (valC (valsK (X ++ [x]) k)) := by
  have hx := h.2 x (by simp)
  have hl : X.length + 1 ≤ 40 := by have := h.1; rwa [List.length_append, List.length_singleton] at this
  have hX : OkX X := ⟨by omega, fun y hy => h.2 y (List.mem_append_left _ hy)⟩
  have hs : SortK (addAll 1 1 (kvs X)) := by
    unfold addAll
    suffices q : ∀ (l L : List KC), OkL 1 1 L → OkL 1 1 (l.foldl (fun L x => (addK 1 1 L x.1 x.2).1) L) from (q _ [] (OkL.nil_ 1 1)).sort
    intro l
    induction l with
    | nil => exact fun L h => h
    | cons x l ih => exact fun L h => ih _ (addK_ok h x.1 x.2)
  have m2 : MayP (oneC x.2) := by rw [← valC_one]; exact valC_may (by simp) (fun v hv => by simp at hv; subst hv; exact hx.2) (by simp)
  have hok : ¬ (okB 1 x.1 = false ∨ mayC (oneC x.2) = false ∨ (oneC x.2).n = 0 ∨ (oneC x.2).s.length ≠ 1) := by
    rw [show okB 1 x.1 = true from decide_eq_true hx.1, mayC_iff.2 m2]
    simp [oneC]
  have key : addK 1 1 (addAll 1 1 (kvs X)) x.1 (oneC x.2) = (setK x.1 (valC (valsK X x.1 ++ [x.2])) (addAll 1 1 (kvs X)), 0) := by
    unfold addK
    rw [if_neg hok, hg]
    by_cases hv : valsK X x.1 = []
    · rw [if_pos hv, hv, List.nil_append, valC_one]
    · rw [if_neg hv]
      have hm := merge_val (v := x.2) hv (fun v hv' => by
        rcases List.mem_append.1 hv' with h1 | h1
        · exact valsK_in hX _ v h1
        · simp at h1; subst h1; exact hx.2) (by have := valsK_len X x.1; omega)
      simp only [hm, if_pos]
  refine ⟨by rw [key], fun k => ?_⟩
  rw [kvs_snoc, addAll_snoc]
  simp only
  rw [key, getK_set hs, valsK_snoc]
  by_cases e : x.1 = k
  · subst e
    rw [if_pos rfl, if_pos rfl, if_neg (by simp)]
  · rw [if_neg e, if_neg e, hg]
theorem add_kvs {X : List KV} (h : OkX X) : ∀ k, getK (addAll 1 1 (kvs X)) k = if valsK X k = [] then none else some (valC (valsK X k)) := by
  obtain ⟨n, hn⟩ : ∃ n, X.length = n := ⟨_, rfl⟩
  induction n generalizing X with
  | zero =>
    have : X = [] := List.length_eq_zero_iff.1 hn
    subst this
    intro k
    simp [kvs, addAll, valsK, getK_nil]
  | succ n ih =>
    have hne : X ≠ [] := by rintro rfl; simp at hn
    obtain ⟨Y, y, rfl⟩ : ∃ Y y, X = Y ++ [y] := ⟨X.dropLast, X.getLast hne, (List.dropLast_concat_getLast hne).symm⟩
    have hY : OkX Y := ⟨by have := h.1; rw [List.length_append, List.length_singleton] at this; omega, fun x hx => h.2 x (List.mem_append_left _ hx)⟩
    exact (add_kv h (ih hY (by rw [List.length_append, List.length_singleton] at hn; omega))).2
theorem add_code {X : List KV} {x : KV} (h : OkX (X ++ [x])) : (addK 1 1 (addAll 1 1 (kvs X)) x.1 (oneC x.2)).2 = 0 := by
  have hY : OkX X := ⟨by have := h.1; rw [List.length_append, List.length_singleton] at this; omega, fun x hx => h.2 x (List.mem_append_left _ hx)⟩
  exact (add_kv h (add_kvs hY)).1
theorem addAll_sort (W M : Nat) (l : List KC) : SortK (addAll W M l) := by
  unfold addAll
  suffices q : ∀ (l L : List KC), OkL W M L → OkL W M (l.foldl (fun L x => (addK W M L x.1 x.2).1) L) from (q _ [] (OkL.nil_ W M)).sort
  intro l
  induction l with
  | nil => exact fun L h => h
  | cons x l ih => exact fun L h => ih _ (addK_ok h x.1 x.2)
/-- From the front and from the back: the same. -/
theorem add_back {X : List KV} (h : OkX X) : addAll 1 1 (kvs X.reverse) = addAll 1 1 (kvs X) := by
  have hr : OkX X.reverse := ⟨by rw [List.length_reverse]; exact h.1, fun x hx => h.2 x (List.mem_reverse.1 hx)⟩
  refine sortK_ext (addAll_sort _ _ _) (addAll_sort _ _ _) (fun k => ?_)
  have e : valsK X.reverse k = (valsK X k).reverse := by
    unfold valsK
    rw [List.filter_reverse, List.map_reverse]
  have hp : (valsK X k).reverse.Perm (valsK X k) := List.reverse_perm _
  rw [add_kvs h, add_kvs hr, e]
  by_cases hv : valsK X k = []
  · rw [hv]; simp
  · rw [if_neg hv, if_neg (by simpa using hv)]
    unfold valC
    rw [List.length_reverse, minL_perm hp, maxL_perm hp, List.sum_reverse]
end Go.Proofs.Ytclhnnidbhchnaa
