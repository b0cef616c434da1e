/- What a query needs, in plain words: cut there, paths are answered alike. -/
import Derived.Test.YtafmdpnfigkbfabQry4
namespace Go.Proofs.Ytafmdpnfigkbfab
set_option linter.unusedVariables false

theorem setMax_ge (l : List Int) (f : FilterX) (i : Nat) : l.getD i 0 ≤ (setMax l f).getD i 0 := by
  unfold setMax
  by_cases h : f.1.toNat = i
  · subst h
    by_cases hi : f.1.toNat < l.length
    · rw [List.getD_eq_getElem?_getD (l := l.set _ _), List.getElem?_set_self hi]; simp; omega
    · rw [List.set_eq_of_length_le (by omega)]; exact Int.le_refl _
  · rw [List.getD_eq_getElem?_getD (l := l.set _ _), List.getElem?_set_ne h, ← List.getD_eq_getElem?_getD]; exact Int.le_refl _
theorem foldMax_ge (fs : List FilterX) (l : List Int) (i : Nat) : l.getD i 0 ≤ (fs.foldl setMax l).getD i 0 := by
  induction fs generalizing l with
  | nil => exact Int.le_refl _
  | cons f fs ih => exact Int.le_trans (setMax_ge l f i) (ih _)
theorem foldMax_filter (fs : List FilterX) (l : List Int) (f : FilterX) (hf : f ∈ fs) (hi : f.1.toNat < l.length) : f.2.1 ≤ (fs.foldl setMax l).getD f.1.toNat 0 := by
  induction fs generalizing l with
  | nil => cases hf
  | cons g fs ih =>
    rcases List.mem_cons.1 hf with rfl | hf
    · refine Int.le_trans ?_ (foldMax_ge fs _ _)
      unfold setMax
      rw [List.getD_eq_getElem?_getD (l := l.set _ _), List.getElem?_set_self hi]; simp; omega
    · exact ih _ hf (by rw [setMax_len]; exact hi)
def shortN (ps : List (List ByteArray)) (need : List Int) (k : Nat) : List (List ByteArray) := (List.range k).map fun i => upS (ps.getD i []) (need.getD i 0)
theorem shortN_succ (ps : List (List ByteArray)) (need : List Int) (k : Nat) : shortN ps need (k + 1) = shortN ps need k ++ [upS (ps.getD k []) (need.getD k 0)] := by unfold shortN; rw [List.range_succ, List.map_append]; rfl
theorem shortN_len (ps : List (List ByteArray)) (need : List Int) (k : Nat) : (shortN ps need k).length = k := by simp [shortN]
theorem shortN_at (ps : List (List ByteArray)) (need : List Int) (k i : Nat) (h : i < k) : (shortN ps need k).getD i [] = upS (ps.getD i []) (need.getD i 0) := by
  unfold shortN
  rw [List.getD_eq_getElem?_getD, List.getElem?_map, List.getElem?_range h]; rfl
theorem need_key {s : SchemaX} {q : QueryX} {ps : List (List ByteArray)} (h : mayQ s q = 0) : keyQ q (shortN ps (needQ q) ps.length) = keyQ q ps := by
  unfold keyQ
  refine List.map_congr_left (fun i hi => ?_)
  rw [shortN_len]
  split
  · rename_i hlt
    rw [shortN_at _ _ _ _ hlt]
    have := foldMax_ge q.2 q.1 i
    unfold upS needQ
    rw [List.take_take]
    congr 1
    omega
  · rfl
theorem need_under {p m : List ByteArray} {n : Int} (h : (m.length : Int) ≤ n) : underB (upS p n) m = underB p m := by
  unfold underB upS
  rw [List.take_take, Nat.min_eq_left (by omega)]
  congr 1
  rw [decide_eq_decide, List.length_take]
  omega
theorem need_passes {s : SchemaX} {q : QueryX} {ps : List (List ByteArray)} (h : mayQ s q = 0) (hl : ps.length = s.1.length) : passesB q (shortN ps (needQ q) ps.length) = passesB q ps := by
  obtain ⟨-, h2, h3, h4⟩ := mayQ_yes h
  have hdm := need_dim h
  have hql := corner_len h3
  have hgo : ∀ f ∈ q.2, passF (shortN ps (needQ q) ps.length) f = passF ps f := by
    intro f hf
    obtain ⟨d1, d2⟩ := hdm f hf
    have hok := List.all_eq_true.1 h4 _ hf
    unfold okF at hok
    rw [Bool.and_eq_true] at hok
    have hml : ∀ m ∈ f.2.2, (m.length : Int) = f.2.1 := fun m hm => by
      have := hok.2
      simp only [Bool.not_eq_true', List.any_eq_false, decide_eq_true_eq] at this
      have := this m hm
      omega
    have hnf := foldMax_filter q.2 q.1 f hf (by omega)
    unfold passF
    rw [shortN_len, shortN_at _ _ _ _ (by omega)]
    congr 1
    rw [Bool.eq_iff_iff, List.any_eq_true, List.any_eq_true]
    constructor
    · rintro ⟨m, hm, hu⟩
      exact ⟨m, hm, by rwa [need_under (by rw [hml m hm]; exact hnf)] at hu⟩
    · rintro ⟨m, hm, hu⟩
      exact ⟨m, hm, by rw [need_under (by rw [hml m hm]; exact hnf)]; exact hu⟩
  unfold passesB
  rw [Bool.eq_iff_iff, List.all_eq_true, List.all_eq_true]
  exact ⟨fun h f hf => by rw [← hgo f hf]; exact h f hf, fun h f hf => by rw [hgo f hf]; exact h f hf⟩
end Go.Proofs.Ytafmdpnfigkbfab
