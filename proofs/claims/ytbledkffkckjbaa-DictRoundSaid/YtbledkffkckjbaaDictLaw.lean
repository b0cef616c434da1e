/- The dictionary: what the program holds and what the reference holds tell the same. -/
import Derived.Test.YtbledkffkckjbaaDict6
import Derived.Test.YtbledkffkckjbaaDictRef3
namespace Go.Proofs.Ytbledkffkckjbaa
open Go.ChangeShapes Go.WideShapes Go.ChangeAt Go.RowKit Go.Maps
set_option linter.unusedVariables false

structure DOk (ns : List DNode) : Prop where
  inv : DInv ns
  len : ns.length ≤ 40
  name : ∀ x ∈ ns, NameOk x.2
theorem dok_nil : DOk [] := ⟨dinv_nil, by simp, by simp⟩
theorem DOk.small {ns : List DNode} (h : DOk ns) : ∀ x ∈ ns, x.1 ≤ 1000000 ∧ x.2.size ≤ 12 := by
  intro x hx
  obtain ⟨i, hi, rfl⟩ := List.mem_iff_getElem.1 hx
  have := h.inv.up i _ (List.getElem?_eq_getElem hi)
  have := h.len
  exact ⟨by omega, (h.name _ hx).2.1⟩
theorem putAll_names (ns : List DNode) (u : Nat) (r : List ByteArray) (hr : ∀ s ∈ r, NameOk s) (h : ∀ x ∈ ns, NameOk x.2) : ∀ x ∈ (putAll ns u r).1, NameOk x.2 := by
  induction r generalizing ns u with
  | nil => exact h
  | cons s r ih =>
    refine ih _ _ (fun t ht => hr t (List.mem_cons_of_mem _ ht)) (fun x hx => ?_)
    rcases List.mem_append.1 hx with hx | hx
    · exact h x hx
    · rw [List.mem_singleton] at hx; subst hx; exact hr s List.mem_cons_self
theorem may_names {p : List ByteArray} (h : mayB p = true) : ∀ s ∈ p, NameOk s := by
  unfold mayB at h
  rw [Bool.and_eq_true, List.all_eq_true] at h
  intro s hs
  have := h.2 s hs
  unfold nameB at this
  rwa [decide_eq_true_eq] at this
theorem link_add {ns : List DNode} (h : DOk ns) (L : Int) (p : List ByteArray) : addR (paths ns) L p = (paths (addDR ns L p).1, (addDR ns L p).2.1, (addDR ns L p).2.2) ∧ DOk (addDR ns L p).1 := by
  obtain ⟨a1, a2, a3, a4, a5⟩ := addD_says h.inv p
  unfold addR addDR
  rw [paths_len, a4]
  by_cases hno : mayB p = false ∨ (p.length : Int) ≠ L
  · rw [if_pos hno, if_pos hno]; exact ⟨rfl, h⟩
  · rw [if_neg hno, if_neg hno]
    by_cases h40 : 40 < ns.length + (p.length - (known ns 0 p).1.length)
    · rw [if_pos h40, if_pos h40]; exact ⟨rfl, h⟩
    · rw [if_neg h40, if_neg h40]
      refine ⟨?_, a1, by simp only [a5]; omega, ?_⟩
      · rw [← a2, a3]
      · have hm : mayB p = true := by
          cases hm : mayB p with
          | true => rfl
          | false => exact absurd (.inl hm) hno
        exact putAll_names ns _ _ (fun s hs => may_names hm s (List.mem_of_mem_drop hs)) h.name
theorem pathR_zero (pl : List (List ByteArray)) : pathR pl 0 = [] := by unfold pathR; rw [if_pos (by omega)]
theorem link_pathN {ns : List DNode} (k : Nat) (hk : k ≤ ns.length) : pathR (paths ns) (k : Int) = pathOf ns k := by
  unfold pathR
  by_cases h0 : k = 0
  · subst h0; rw [if_pos (by omega), pathOf_zero]
  · rw [if_neg (by rw [paths_len]; omega), List.getD_eq_getElem?_getD, show (k : Int).toNat - 1 = k - 1 by omega, paths_get (by omega), show k - 1 + 1 = k by omega]; rfl
theorem link_path (ns : List DNode) (c : Int) : pathR (paths ns) c = (pathDR ns c).1 ∧ (if c < 0 ∨ ((paths ns).length : Int) < c then (33 : Int) else 0) = (pathDR ns c).2 := by
  unfold pathDR
  rw [paths_len]
  by_cases hc : c < 0 ∨ (ns.length : Int) < c
  · rw [if_pos hc, if_pos hc]
    refine ⟨?_, rfl⟩
    unfold pathR; rw [if_pos (by rw [paths_len]; omega)]
  · rw [if_neg hc, if_neg hc]
    obtain ⟨k, rfl⟩ := Int.eq_ofNat_of_zero_le (show 0 ≤ c by omega)
    exact ⟨by rw [Int.toNat_natCast]; exact link_pathN k (by omega), rfl⟩
theorem link_up {ns : List DNode} (h : DInv ns) (c level : Int) : upR (paths ns) c level = upDR ns c level := by
  unfold upR upDR
  rw [paths_len]
  by_cases hc : c < 0 ∨ (ns.length : Int) < c
  · rw [if_pos hc, if_pos hc]
  · rw [if_neg hc, if_neg hc]
    obtain ⟨k, rfl⟩ := Int.eq_ofNat_of_zero_le (show 0 ≤ c by omega)
    rw [link_pathN k (by omega), Int.toNat_natCast]
    by_cases hl : level < 0 ∨ ((pathOf ns k).length : Int) < level
    · rw [if_pos hl, if_pos hl]
    · rw [if_neg hl, if_neg hl]
      obtain ⟨m, rfl⟩ := Int.eq_ofNat_of_zero_le (show 0 ≤ level by omega)
      rw [Int.toNat_natCast]
      have := upsD_find h ((pathOf ns k).length - m) k (by omega) (by omega)
      rw [show (pathOf ns k).length - ((pathOf ns k).length - m) = m by omega] at this
      rw [this]
theorem link_code {ns : List DNode} (h : DInv ns) (p : List ByteArray) : codeR (paths ns) p = codeDR ns p := by
  unfold codeR codeDR
  by_cases hm : mayB p = false
  · rw [if_pos hm, if_pos hm]
  · rw [if_neg hm, if_neg hm, find_walk h]
    by_cases hp : p = []
    · subst hp; rw [if_pos rfl]; rfl
    · rw [if_neg hp]
      cases hw : walkD ns 0 p with
      | none => simp [optD]
      | some u =>
        have hu := (walk_iff h p u).1 hw
        have : u ≠ 0 := by
          rintro rfl; exact hp (by rw [← hu.2, pathOf_zero])
        simp [optD, this]
theorem link_item {ns : List DNode} (h : DInv ns) (i : Nat) (hi : i < ns.length) : itemR (paths ns) (pathOf ns (i + 1)) = itemD ns[i] := by
  have hx : ns[i]? = some ns[i] := List.getElem?_eq_getElem hi
  have hu := h.up i _ hx
  rw [pathOf_succ h hx]
  unfold itemR itemD
  have e1 : (pathOf ns ns[i].1 ++ [ns[i].2]).take ((pathOf ns ns[i].1 ++ [ns[i].2]).length - 1) = pathOf ns ns[i].1 := by simp
  have e2 : (pathOf ns ns[i].1 ++ [ns[i].2]).getD ((pathOf ns ns[i].1 ++ [ns[i].2]).length - 1) ByteArray.empty = ns[i].2 := by simp
  rw [e1, e2, find_path h _ (by omega)]
theorem link_put {ns : List DNode} (h : DInv ns) : putR (paths ns) = putDR ns := by
  unfold putR putDR
  rw [paths_len]
  congr 1
  have e : ns.flatMap itemD = (List.range ns.length).flatMap (fun i => itemR (paths ns) (pathOf ns (i + 1))) := by
    rw [List.flatMap_def, List.flatMap_def]
    congr 1
    refine List.ext_getElem (by simp) (fun i h1 h2 => ?_)
    simp only [List.getElem_map, List.getElem_range]
    exact (link_item h i (by simpa using h1)).symm
  rw [e]
  unfold paths
  rw [List.flatMap_map]
theorem path_names {ns : List DNode} (h : DOk ns) (c : Nat) (hc : c ≤ ns.length) : ∀ s ∈ pathOf ns c, NameOk s := by
  induction c using Nat.strongRecOn with
  | _ c ih =>
    by_cases h0 : c = 0
    · subst h0; simp [pathOf_zero]
    · obtain ⟨e, x, rfl, hx⟩ := get_of_le h0 hc
      have hu := h.inv.up e x hx
      rw [pathOf_succ h.inv hx]
      intro s hs
      rcases List.mem_append.1 hs with hs | hs
      · exact ih x.1 (by omega) (by omega) s hs
      · rw [List.mem_singleton] at hs; subst hs; exact h.name x (List.mem_of_getElem? hx)
theorem plok {ns : List DNode} (h : DOk ns) : PlOk (paths ns) := by
  intro p hp
  unfold paths at hp
  rw [List.mem_map] at hp
  obtain ⟨i, hi, rfl⟩ := hp
  rw [List.mem_range] at hi
  refine ⟨?_, fun s hs => (path_names h (i + 1) (by omega) s hs).2.1⟩
  rw [pathOf_succ h.inv (List.getElem?_eq_getElem hi)]
  simp
end Go.Proofs.Ytbledkffkckjbaa
